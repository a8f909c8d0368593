/- Lemmas for the proof of topCouncil.proved. -/
import Derived.Test.YtmjbgbmegbkmhaaGreatTCo8
namespace Go.Proofs.YtmjbgbmegbkmhaaGreat
set_option linter.all false
open Go.RowKit
set_option maxRecDepth 100000
set_option maxHeartbeats 1000000
theorem z0i {s:Sea} {i:Int} (h1:0≤s.late∧s.late≤1000000) (h2:s.gone=true→s.late=0∧s.waits.length=0) (h3:∀o∈s.waits,o.by_=i∧zev o=0):zp7 s i=true:=by
 unfold zp7 zm0
 simp only[Bool.and_eq_true,Bool.not_eq_true',Bool.or_eq_false_iff,Bool.not_eq_false',within_iff,List.any_eq_false]
 refine⟨⟨h1,?_⟩,fun o ho => ?_⟩
 ·cases hg:s.gone with
  | false=>rfl
  | true =>
   obtain⟨a,b⟩:=h2 hg
   simp[a,b]
 ·obtain⟨a,b⟩:=h3 o ho
  unfold zjx
  simp[a,b]
def SubS (s t:Sea):Prop:=t.late=s.late∧t.gone=s.gone∧t.waits.length≤s.waits.length∧∀o∈t.waits,o∈s.waits
theorem SubS.refl (s:Sea):SubS s s:=⟨rfl,rfl,Nat.le_refl _,fun _ h=>h⟩
theorem SubS.trans {a b c:Sea} (h:SubS a b) (k:SubS b c):SubS a c:=⟨k.1.trans h.1,k.2.1.trans h.2.1,Nat.le_trans k.2.2.1 h.2.2.1,fun o ho=>h.2.2.2 o (k.2.2.2 o ho)⟩
theorem zsq (most:Int):∀(l:List Sea) (out:List Ord) (k:Nat),SubS (l.getD k default) ((tkS most out l).2.getD k default)
 | [],_,_=>SubS.refl _
 | s::r,out,k=>by
  unfold tkS
  split
  ·cases k with
   | zero=>exact⟨rfl,rfl,by simp,fun o ho=>List.mem_of_mem_drop ho⟩
   | succ k=>exact zsq most r _ k
  ·cases k with
   | zero=>exact SubS.refl _
   | succ k=>exact zsq most r _ k
theorem z2a (most:Int):∀(n:Nat) (x:List Ord × List Sea) (k:Nat),SubS (x.2.getD k default) ((itS most n x).2.getD k default)
 | 0,_,_=>SubS.refl _
 | n+1,x,k=>by rw[itS];exact(zsq most x.2 x.1 k).trans (z2a most n _ k)
theorem ycd (l:List Sea) (k:Nat) (hk:k<l.length):(l.map zbo).getD k default=zbo (l.getD k default):=by
 simp[hk]
theorem zr1 (most:Int) (l:List Sea) (k:Nat) (hk:k<l.length):SubS (zbo (l.getD k default)) ((zcx most l).2.getD k default):=by
 have:=z2a most 50 ([],l.map zbo) k
 rw[show (([],l.map zbo):List Ord × List Sea).2=l.map zbo from rfl,ycd l k hk]at this
 exact this
theorem zt5 {most:Int} {l:List Sea} (h:za4 l=0):za4 (zcx most l).2=0:=by
 obtain⟨h1,h2,h3,h4⟩:=zcb h
 have hl:=(zo9 most l).1
 have CS:=zr1 most l
 generalize zcx most l=V at *
 unfold za4
 rw[if_neg (by omega),if_neg,if_pos]
 ·rw[List.all_eq_true]
  intro i hi
  have hi:=List.mem_range.1 hi
  have hi':i<l.length:=by omega
  obtain⟨a,b,c,d⟩:=CS i hi'
  obtain⟨r1,r2,r3⟩:=zsw (h4 i hi')
  refine z0i ?_ ?_ ?_
  ·rw[a];unfold zbo;simp only
   split
   ·decide
   ·split
    ·exact r1
    ·omega
  ·intro hg
   rw[b]at hg
   obtain⟨q1,q2⟩:=r2 hg
   have hg':(l.getD i default).gone=true:=hg
   have hw:(zbo (l.getD i default)).waits.length=0:=q2
   refine⟨?_,by omega⟩
   rw[a];unfold zbo;simp only
   rw[if_neg (by omega),if_pos hg'];exact q1
  ·intro o ho
   exact r3 o (d o ho)
 ·rw[List.any_eq_true]
  rintro⟨s,hs,hx⟩
  rw[decide_eq_true_iff]at hx
  obtain⟨i,hi,rfl⟩:=List.getElem_of_mem hs
  have hi':i<l.length:=by omega
  obtain⟨a,b,c,d⟩:=CS i hi'
  have hc:V.2.getD i default=V.2[i]:=zae _ _ hi
  rw[hc]at c
  have h5:(zbo (l.getD i default)).waits.length≤50:=h3 (l.getD i default) (za0 l i hi')
  omega
theorem zy3 (most:Int) (l:List Sea) (k:Nat) (hk:k<l.length):((zcx most l).2.getD k default).gone=(l.getD k default).gone:=(zr1 most l k hk).2.1
theorem zmb (n k j:Nat) (hn:n<4294967296) (hk:k<32) (hj:j<32):zbj (clr n k) j=(zbj n j && !decide (j=k)):=by
 rw[←z38 n k hn hk,zep,zep,Nat.testBit_and,show 4294967295-2 ^ k=2 ^ 32-(2 ^ k+1)from by omega,Nat.testBit_two_pow_sub_succ (by have:=(zs9 k hk).2;omega),Nat.testBit_two_pow,decide_eq_true hj,Bool.true_and]
 congr 2
 rw[decide_eq_decide];omega
structure VInv (m : Nat) (g : List Nat) : Prop where
 p:0<m
 l:m≤65535
 n:g.length=16
 e:∀s∈g,s<4294967296
 b:∀k j,k<16→j<32→zbj (g.getD k 0) j=true→zbj m k=true∧zbj m j=true∧j≠k
theorem znf {g:List Nat} (h:∀s∈g,s<4294967296) (k:Nat):g.getD k 0<4294967296:=by
 rcases Nat.lt_or_ge k g.length with hk|hk
 ·rw[List.getD_eq_getElem?_getD,List.getElem?_eq_getElem hk];exact h _ (List.getElem_mem _)
 ·rw[List.getD_eq_getElem?_getD,List.getElem?_eq_none hk];decide
theorem z9v {m:Nat} {g:List Nat} (h:za5 m g=0) (hg:∀s∈g,s<4294967296):VInv m g:=by
 obtain⟨h1,h2,h3,h4⟩:=zi2 m g h
 refine⟨h1.1,h1.2,h2,hg,fun k j hk hj hb => ?_⟩
 have hs:=znf hg k
 have hn:=not_congr (z33 m k (g.getD k 0) (by omega) hs (by omega))
 rw[h3 k hk]at hn
 have hx:=hn.1 (by decide)
 have hr:yed m k (g.getD k 0) j=false:=by
  rcases hq:yed m k (g.getD k 0) j with _|_
  ·rfl
  ·exact absurd ⟨j,hj,hq⟩ hx
 unfold yed at hr
 rw[hb]at hr
 simp only[Bool.true_and,Bool.or_eq_false_iff,Bool.not_eq_false',decide_eq_false_iff_not]at hr
 exact⟨hr.1.1,hr.1.2,hr.2⟩
theorem ybw {m:Nat} {g:List Nat} (h:VInv m g) (ht:znw m g=none):za5 m g=0:=by
 unfold za5
 rw[if_neg (by have:=h.p;have:=h.l;omega),if_neg (fun x=>x h.n),if_neg,if_neg]
 ·rw[ht];decide
 ·rw[List.any_eq_true]
  rintro⟨k,hk,hb⟩
  have hk:=List.mem_range.1 hk
  obtain⟨j,hj,hr⟩:=(z33 m k (g.getD k 0) (by have:=h.l;omega) (znf h.e k) (by omega)).1 hb
  unfold yed at hr
  rw[Bool.and_eq_true]at hr
  obtain⟨a,b,c⟩:=h.b k j hk hj hr.1
  rw[a,b]at hr
  simp[c]at hr
theorem yf2 {s:Nat} (h:s≠0) (hs:s<4294967296):∃j,j<32∧zbj s j=true:=by
 obtain⟨j,hj⟩:=Nat.exists_testBit_of_ne_zero h
 refine⟨j,?_,by rw[zep];exact hj⟩
 rcases Nat.lt_or_ge j 32 with h|h
 ·exact h
 ·rw[Nat.testBit_lt_two_pow (Nat.lt_of_lt_of_le hs (show 2 ^ 32≤2 ^ j from Nat.pow_le_pow_right (by decide) h))]at hj
  exact absurd hj (by decide)
theorem ydq {s j:Nat} (h:zbj s j=true):0<s:=by
 rcases Nat.eq_zero_or_pos s with rfl|h1
 ·unfold zbj at h;simp at h
 ·exact h1
theorem ykc (g:List Nat) (k i:Nat):(lv g k).getD i 0=if i=k then 0 else clr (g.getD i 0) k:=by
 unfold lv
 rw[List.getD_eq_getElem?_getD,List.getElem?_map,List.getElem?_set]
 by_cases h:k=i
 ·rw[if_pos h,if_pos h.symm]
  split<;>simp[zo8]
 ·rw[if_neg h,if_neg (fun x=>h x.symm),List.getD_eq_getElem?_getD]
  cases g[i]? <;> simp[zo8]
theorem z9w {m:Nat} {g:List Nat} {k:Nat} (h:VInv m g) (ht:znw m g=some k):VInv (clr m k) (lv g k):=by
 obtain⟨hk,_,h0⟩:=zh0 m g k ht
 have hk16:k<16:=by have:=h.n;omega
 have hm:m<4294967296:=by have:=h.l;omega
 have hgk:g.getD k 0=g[k]:=by rw[List.getD_eq_getElem?_getD,List.getElem?_eq_getElem hk];rfl
 obtain⟨j,hj,hb⟩:=yf2 (s:=g.getD k 0) (by rw[hgk];exact h0) (znf h.e k)
 obtain⟨b1,b2,b3⟩:=h.b k j hk16 hj hb
 refine⟨?_,Nat.le_trans (znl _ _) h.l,by rw[zv2];exact h.n,fun s hs => ?_,fun i q hi hq hb => ?_⟩
 ·refine ydq (j:=j) ?_
  rw[zmb m k j hm (by omega) hj,b2,decide_eq_false b3];rfl
 ·unfold lv at hs
  obtain⟨t,ht,rfl⟩:=List.mem_map.1 hs
  refine Nat.lt_of_le_of_lt (znl _ _) ?_
  rcases List.mem_or_eq_of_mem_set ht with e|e
  ·exact h.e t e
  ·rw[e];decide
 ·rw[ykc]at hb
  split at hb
  ·unfold zbj at hb;simp at hb
  ·rename_i hik
   rw[zmb _ k q (znf h.e i) (by omega) hq,Bool.and_eq_true]at hb
   obtain⟨c1,c2⟩:=hb
   have c2:¬q=k:=by simpa using c2
   obtain⟨d1,d2,d3⟩:=h.b i q hi hq c1
   rw[zmb m k i hm (by omega) (by omega),zmb m k q hm (by omega) hq,d1,d2,decide_eq_false hik,decide_eq_false c2]
   exact⟨rfl,rfl,d3⟩
theorem zuh:∀(n m:Nat) (g:List Nat),VInv m g→nz g≤n→VInv (zmj n m g).1 (zmj n m g).2∧znw (zmj n m g).1 (zmj n m g).2=none∧∀j,j<32→zbj (zmj n m g).1 j=true→zbj m j=true
 | 0,m,g,h,hn=>by
  refine⟨h,?_,fun j _ hj=>hj⟩
  show znw m g=none
  cases ht:znw m g with
  | none=>rfl
  | some k =>
   obtain⟨hk,_,h0⟩:=zh0 m g k ht
   have:=z57 g k hk h0
   omega
 | n+1,m,g,h,hn=>by
  rw[zmj]
  cases ht:znw m g with
  | none=>exact⟨h,ht,fun j _ hj=>hj⟩
  | some k =>
   obtain⟨hk,_,h0⟩:=zh0 m g k ht
   have hz:=z57 g k hk h0
   have hk16:k<16:=by have:=h.n;omega
   obtain⟨a,b,c⟩:=zuh n (clr m k) (lv g k) (z9w h ht) (by omega)
   refine⟨a,b,fun j hj hb => ?_⟩
   have:=c j hj hb
   rw[zmb m k j (by have:=h.l;omega) (by omega) hj,Bool.and_eq_true]at this
   exact this.1
theorem ybk {n k j:Nat} (hn:n<4294967296) (hk:k<32) (hb:zbj n k=false) (h:zbj (n+2 ^ k) j=true):zbj n j=true∨j=k:=by
 rw[←(z1e n k hn hk hb).1,zep,Nat.testBit_or,Nat.testBit_two_pow,Bool.or_eq_true,decide_eq_true_iff]at h
 rw[zep]
 rcases h with h|h
 ·exact .inl h
 ·exact .inr h.symm
theorem z4p {m:Nat} {g:List Nat} {a b:Nat} (h:VInv m g) (ha:a<16) (hb:b<32) (hma:zbj m a=true) (hmb:zbj m b=true) (hne:b≠a) (h0:zbj (g.getD a 0) b=false):VInv m (g.set a (g.getD a 0+2 ^ b)):=by
 refine⟨h.p,h.l,by rw[List.length_set];exact h.n,fun s hs => ?_,fun k j hk hj hb' => ?_⟩
 ·rcases List.mem_or_eq_of_mem_set hs with e|e
  ·exact h.e s e
  ·rw[e];exact(z1e _ b (znf h.e a) hb h0).2
 ·rw[List.getD_eq_getElem?_getD,List.getElem?_set]at hb'
  by_cases hka:a=k
  ·rw[if_pos hka,if_pos (by rw[h.n];exact ha)]at hb'
   subst hka
   rcases ybk (znf h.e a) hb h0 hb' with x|x
   ·exact h.b a j hk hj x
   ·subst x;exact⟨hma,hmb,hne⟩
  ·rw[if_neg hka,←List.getD_eq_getElem?_getD]at hb'
   exact h.b k j hk hj hb'
theorem z2p {m:Nat} {a:Int} (hm:m≤65535) (h:zhx m a=true):∃k:Nat,k<16∧a=(k:Int)∧zbj m k=true:=by
 by_cases h1:0≤a∧a<16
 ·refine⟨a.toNat,by omega,by omega,?_⟩
  rw[←ztr m a.toNat (by omega),show ((a.toNat:Nat):Int)=a by omega];exact h
 ·rw[ztq m a (by omega) h1]at h
  exact absurd h (by decide)
theorem zy6 {m:Nat} {g:List Nat} {b a:Int} (hg:∀s∈g,s<4294967296) (h:(zch m g b a).2.2=0):za5 (zch m g b a).1.1 (zch m g b a).1.2=0∧(zch m g b a).1.1<4294967296∧(∀s∈(zch m g b a).1.2,s<4294967296)∧(zch m g b a).1.2.length=16∧∀j,j<32→zbj (zch m g b a).1.1 j=true→zbj m j=true:=by
 unfold zch at h ⊢
 split at h
 ·rename_i x;exact absurd h x
 rename_i h1
 have h1:za5 m g=0:=by simpa using h1
 rw[if_neg (fun x=>x h1)]
 have I:=z9v h1 hg
 split at h
 ·exact absurd h (by decide)
 rename_i h2
 rw[if_neg h2]
 have h2:(zhx m b&&zhx m a)=true:=by simpa using h2
 rw[Bool.and_eq_true]at h2
 obtain⟨kb,hkb,rfl,hb⟩:=z2p I.l h2.1
 obtain⟨ka,hka,rfl,ha⟩:=z2p I.l h2.2
 split at h
 ·exact absurd h (by decide)
 rename_i h3
 rw[if_neg h3]
 split at h
 ·exact absurd h (by decide)
 rename_i h4
 rw[if_neg h4]
 rw[Int.toNat_natCast,Int.toNat_natCast]at *
 have J:=z4p (a:=ka) (b:=kb) I hka (by omega) ha hb (by omega) (by simpa using h4)
 have hz:=yfx (g.set ka (g.getD ka 0+2 ^ kb))
 rw[J.n]at hz
 obtain⟨a1,a2,a3⟩:=zuh 16 m _ J hz
 exact⟨ybw a1 a2,Nat.lt_of_le_of_lt a1.l (by decide),a1.e,a1.n,a3⟩
theorem zov {WR:Cel→List Int} {h:Hst} (hE:zsd WR h=0):zpx WR h.sty=0∧za4 h.seats=0∧za5 h.m h.ag=0∧(1≤h.most∧h.most≤100)∧h.seats.length=h.sty.start.bases.length∧h.m/2 ^ h.seats.length=0∧∀i,i<h.seats.length→zgx h i=true:=by
 have hE0:=hE
 unfold zsd at hE
 split at hE
 ·rename_i x;exact absurd hE x
 rename_i h1
 split at hE
 ·rename_i x;exact absurd hE x
 split at hE
 ·rename_i x;exact absurd hE x
 rename_i h3
 split at hE
 ·omega
 split at hE
 ·omega
 rename_i h5
 have hx:h.seats.length=h.sty.start.bases.length∧h.m/2 ^ h.seats.length=0:=by
  rw[not_or,Decidable.not_not,Decidable.not_not]at h5;exact h5
 obtain⟨a,b,c⟩:=zto hE0
 exact⟨by simpa using h1,a,by simpa using h3,b,hx.1,hx.2,c⟩
theorem zou {WR:Cel→List Int} {h:Hst} (a:zpx WR h.sty=0) (b:za4 h.seats=0) (c:za5 h.m h.ag=0) (d:1≤h.most∧h.most≤100) (e:h.seats.length=h.sty.start.bases.length) (f:h.m/2 ^ h.seats.length=0) (g:∀i,i<h.seats.length→zgx h i=true):zsd WR h=0:=by
 unfold zsd
 rw[if_neg (fun x=>x a),if_neg (fun x=>x b),if_neg (fun x=>x c),if_neg (fun x=>x d),if_neg (by rw[not_or,Decidable.not_not,Decidable.not_not];exact⟨e,f⟩),if_pos]
 rw[List.all_eq_true]
 exact fun i hi=>g i (List.mem_range.1 hi)
theorem zm8 {WR:Cel→List Int} {s:Sty} {l:List Ord} (h:zf1 WR s l=0):zpx WR s=0∧s.turns.length≤199∧zbs l (zfz WR s.turns s.start)=0∧zg2 WR s l=⟨s.start,s.turns ++ [l]⟩∧zpx WR (zg2 WR s l)=0:=by
 have hs:zg2 WR s l=⟨s.start,s.turns ++ [l]⟩:=if_pos h
 unfold zf1 at h
 split at h
 ·rename_i x;exact absurd h x
 rename_i h1
 have h1:zpx WR s=0:=by simpa using h1
 split at h
 ·omega
 rename_i h2
 rw[show zhh WR s.turns s.start=zfz WR s.turns s.start from if_pos h1]at h
 refine⟨h1,by omega,h,hs,?_⟩
 rw[hs]
 obtain⟨k1,k2,k3⟩:=zgn h1
 show zd0 WR (s.turns ++ [l]) s.start=0
 unfold zd0
 rw[if_neg (by rw[List.length_append];simp;omega),if_neg (fun hn=>hn k2.e),zh8,if_neg (fun x=>x k3),zgy,if_neg (fun x=>x h)]
 rfl
structure HOk (WR : Cel → List Int) (h : Hst) : Prop where
 e:zsd WR h=0
 l:HstL h
theorem yda {a b k:Nat} (h:a≤b) (hb:b/2 ^ k=0):a/2 ^ k=0:=by
 have:=Nat.div_le_div_right (c:=2 ^ k) h
 exact Nat.le_zero.1 (Nat.le_trans this (Nat.le_of_eq hb))
theorem zlx (m m':Nat) (l:List Sea) (j:Nat) (hj:j<l.length):∀k,k≤l.length→((zb8 m m' l k).getD j default).gone=if j<k∧zro m m' j=true then true else (l.getD j default).gone
 | 0,_=>by rw[if_neg (by omega)];rfl
 | k+1,hk=>by
  have ih:=zlx m m' l j hj k (by omega)
  have hlen:=zda m m' l k
  unfold zb8
  split
  ·rename_i hg
   unfold zg7
   rw[List.getD_eq_getElem?_getD,List.getElem?_set,Int.toNat_natCast]
   by_cases h:k=j
   ·rw[if_pos h,if_pos (by omega),if_pos ⟨by omega,h▸hg⟩];rfl
   ·rw[if_neg h,←List.getD_eq_getElem?_getD,ih]
    by_cases h2:zro m m' j=true
    ·by_cases h3:j<k
     ·rw[if_pos ⟨h3,h2⟩,if_pos ⟨by omega,h2⟩]
     ·rw[if_neg (fun x=>h3 x.1),if_neg (fun x=>h3 (by omega))]
    ·rw[if_neg (fun x=>h2 x.2),if_neg (fun x=>h2 x.2)]
  ·rename_i hg
   rw[ih]
   by_cases h2:zro m m' j=true
   ·by_cases h3:j<k
    ·rw[if_pos ⟨h3,h2⟩,if_pos ⟨by omega,h2⟩]
    ·have:j≠k:=fun x=>hg (x▸h2)
     rw[if_neg (fun x=>h3 x.1),if_neg (fun x=>h3 (by omega))]
   ·rw[if_neg (fun x=>h2 x.2),if_neg (fun x=>h2 x.2)]
theorem z5a {l:List Sea} {o:Ord} (h:zqa l o=0):za4 (zu3 l o)=0∧(zu3 l o).length=l.length∧∀j,((zu3 l o).getD j default).gone=(l.getD j default).gone:=by
 have hl:(zu3 l o).length=l.length:=by unfold zu3;rw[List.length_set]
 have hg:∀j,((zu3 l o).getD j default).gone=(l.getD j default).gone:=fun j=>by
  unfold zu3
  rw[List.getD_eq_getElem?_getD,List.getElem?_set]
  by_cases hj:o.by_.toNat=j
  ·rw[if_pos hj]
   split
   ·subst hj;rfl
   ·rename_i hn;rw[List.getD_eq_getElem?_getD,List.getElem?_eq_none (by omega)]
  ·rw[if_neg hj,←List.getD_eq_getElem?_getD]
 refine⟨?_,hl,hg⟩
 unfold zqa at h
 split at h
 ·rename_i x;exact absurd h x
 rename_i h1
 have h1:za4 l=0:=by simpa using h1
 split at h
 ·rename_i x;exact absurd h x
 rename_i h2
 have h2:zev o=0:=by simpa using h2
 split at h
 ·omega
 rename_i h3
 split at h
 ·omega
 rename_i h4
 split at h
 ·omega
 rename_i h5
 obtain⟨s1,s2,s3,s4⟩:=zcb h1
 have hb:=(zfg h2).1
 have hi:o.by_.toNat<l.length:=by omega
 have hw:(l.getD o.by_.toNat default).waits.length≤50:=s3 _ (za0 l _ hi)
 unfold za4
 rw[hl,if_neg (by omega),if_neg,if_pos]
 ·rw[List.all_eq_true]
  intro i hi2
  have hi2:=List.mem_range.1 hi2
  unfold zu3
  rw[List.getD_eq_getElem?_getD,List.getElem?_set]
  by_cases hj:o.by_.toNat=i
  ·rw[if_pos hj,if_pos (by omega)]
   obtain⟨r1,r2,r3⟩:=zsw (s4 _ hi)
   refine z0i r1 (fun hg => ?_) (fun x hx => ?_)
   ·exact absurd hg h4
   ·rcases List.mem_append.1 hx with hx|hx
    ·have:=r3 x hx;rw[hj]at this;exact this
    ·rw[List.mem_singleton.1 hx];exact⟨by omega,h2⟩
  ·rw[if_neg hj,←List.getD_eq_getElem?_getD];exact s4 i hi2
 ·rw[List.any_eq_true]
  rintro⟨s,hs,hx⟩
  rw[decide_eq_true_iff]at hx
  unfold zu3 at hs
  rcases List.mem_or_eq_of_mem_set hs with e|e
  ·have:=s3 s e;omega
  ·subst e
   simp only[List.length_append,List.length_cons,List.length_nil]at hx
   omega
theorem HOk.step {WR:Cel→List Int} {h:Hst} (c:Clq) (H:HOk WR h):HOk WR (doV WR h c).1∧(doV WR h c).1.sty.start=h.sty.start:=by
 obtain⟨hE,hl⟩:=H
 obtain⟨e1,e2,e3,e4,e5,e6,e7⟩:=zov hE
 have L:=ykt (WR:=WR) c hl hE
 unfold doV at L ⊢
 split
 ·rename_i hk
  rw[if_pos hk]at L
  split
  ·rename_i h1
   rw[if_pos h1]at L
   obtain⟨s1,s2,s3⟩:=z5a h1
   refine⟨⟨zou e1 s1 e3 e4 (by rw[s2];exact e5) (by rw[s2];exact e6) (fun i hi => ?_),L.s,L.l,L.a,hl.m,L.g,hl.e⟩,rfl⟩
   have:=e7 i (by rw[←s2];exact hi)
   unfold zgx at this ⊢
   simp only
   rw[s3];exact this
  ·exact⟨⟨hE,hl⟩,rfl⟩
 rename_i hk1
 rw[if_neg hk1]at L
 split
 ·rename_i hk
  rw[if_pos hk]at L
  split
  ·rename_i h1
   rw[if_pos h1]at L
   have hm:zf1 WR h.sty (zck h)=0:=by
    unfold zh5 at h1
    split at h1
    ·exact h1
    ·rename_i x;simpa using x
   have eH:zj4 WR h = { h with seats:=(zcx h.most h.seats).2,sty:=zg2 WR h.sty (zck h) }:=by unfold zj4;rw[if_neg (fun x=>x hm)]
   obtain⟨m1,m2,m3,m4,m5⟩:=zm8 hm
   have hcl:=(zo9 h.most h.seats).1
   rw[eH]at L ⊢
   have hcr:=zt5 (most:=h.most) e2
   have hcg:=zy3 h.most h.seats
   generalize zcx h.most h.seats=V at *
   refine⟨⟨zou m5 hcr e3 e4 ?_ ?_ (fun i hi => ?_),L.s,L.l,L.a,hl.m,L.g,hl.e⟩,?_⟩
   ·show V.2.length=(zg2 WR h.sty (zck h)).start.bases.length
    rw[m4,hcl];exact e5
   ·show h.m/2 ^ V.2.length=0
    rw[hcl];exact e6
   ·have hi:i<h.seats.length:=by rw[←hcl];exact hi
    have:=e7 i hi
    unfold zgx at this ⊢
    simp only
    rw[hcg i hi];exact this
   ·show (zg2 WR h.sty (zck h)).start=_
    rw[m4]
  ·exact⟨⟨hE,hl⟩,rfl⟩
 rename_i hk2
 rw[if_neg hk2]at L
 split
 ·rename_i hk
  rw[if_pos hk]at L
  split
  ·rename_i h1
   rw[if_pos h1]at L
   have h1':(zch h.m h.ag c.by_ c.at_).2.2=0:=h1
   obtain⟨v1,v2,v3,v4,v5⟩:=zy6 hl.e h1'
   have hle:=zw9 h.m h.ag c.by_ c.at_
   unfold zt8 at L ⊢
   rw[if_neg (fun x=>x h1)]at L ⊢
   generalize zch h.m h.ag c.by_ c.at_=V at *
   have hln:=zda h.m V.1.1 h.seats h.seats.length
   refine⟨⟨zou e1 (zem e2 _ (Nat.le_refl _)) v1 e4 ?_ ?_ (fun i hi => ?_),L.s,L.l,L.a,v2,L.g,v3⟩,rfl⟩
   ·show (zb8 h.m V.1.1 h.seats h.seats.length).length=_
    rw[hln];exact e5
   ·show V.1.1/2 ^ (zb8 h.m V.1.1 h.seats h.seats.length).length=0
    rw[hln];exact yda hle e6
   ·have hi:i<h.seats.length:=by rw[←hln];exact hi
    have h8:=(zcb e2).2.1
    have hx:=e7 i hi
    unfold zgx at hx ⊢
    have hx:=of_decide_eq_true hx
    rw[decide_eq_true_iff]
    show ((zb8 h.m V.1.1 h.seats h.seats.length).getD i default).gone = !zbj V.1.1 i
    rw[zlx h.m V.1.1 h.seats i hi _ (Nat.le_refl _)]
    have v5:=v5 i (by omega)
    unfold zro
    rw[hx]
    cases hb:zbj h.m i<;>cases hb':zbj V.1.1 i
    ·simp
    ·rw[hb,hb']at v5;exact absurd (v5 rfl) (by decide)
    ·simp[hi]
    ·simp
  ·exact⟨⟨hE,hl⟩,rfl⟩
 ·exact⟨⟨hE,hl⟩,rfl⟩
theorem HOk.b {WR:Cel→List Int} {h:Hst} (H:HOk WR h):HstB h:=by
 obtain⟨e1,e2,e3,e4,e5,e6,e7⟩:=zov H.e
 obtain⟨s1,s2,s3,s4⟩:=zcb e2
 obtain⟨k1,k2,k3⟩:=zgn e1
 have kl:=zh7 _ k3
 have hr:=k2
 obtain⟨v1,v2,-⟩:=zi2 _ _ e3
 obtain⟨l1,l2,l3,l4,l5⟩:=hr.l
 have hp:=hr.places
 have:=hr.ml
 have:=hr.sl
 have:=hr.nb
 have:=hr.nt
 exact⟨by omega,by omega,by omega,by omega,by omega,fun l hl=>by have:=kl l hl;omega,by omega,fun s hs=>by have:=s3 s hs;omega,by omega,by omega⟩
def z1d (c:List Int):Ord:=⟨c.getD 0 default,c.getD 1 default,c.getD 2 default,⟨c.getD 3 default,c.getD 4 default⟩,c.getD 5 default⟩
def zg5 (ns:List Int) (k:Nat):List Ord:=(List.range k).map fun i=>z1d (zic ns 6 i)
theorem zm6 (ns:List Int) (k:Nat):(zg5 ns k).length=k:=by simp[zg5]
def zeb (s:ByteArray):List Ord × Int :=
 if (zcs s).2≠0 then ([],(zcs s).2)
 else if (gaR (zcs s).1).2≠0 then ([],(gaR (zcs s).1).2)
 else if (gaR (zcs s).1).1.length % 6≠0 then ([],4)
 else if zc7 (zg5 (gaR (zcs s).1).1 ((gaR (zcs s).1).1.length/6))≠0 then ([],zc7 (zg5 (gaR (zcs s).1).1 ((gaR (zcs s).1).1.length/6)))
 else (zg5 (gaR (zcs s).1).1 ((gaR (zcs s).1).1.length/6),0)
theorem ydi (xs:List Int) (m:Nat) (hm:1≤m):Spec Tryz.prog 37 [.c (.sl 1 (xs.map zac)),I .i64 m] [] (.clo (.func 83) [] [.fel 1 [[.sl 1 (xs.map zac)]] 0 0,.fel 1 [[.v (.int .i64 m)]] 0 0]) []:=by
 refine spB Tryz.func37 9 [.tmp 4] Tryz.results37 ?_
 try refine xst ?_
 refine cI (fun h1 => ?_) fun h1 => ?_
 ·omega
 ·try refine xst ?_
  exact xrz rfl
theorem six {c:List Int} (h:c.length=6):∃a0 a1 a2 a3 a4 a5,c = [a0,a1,a2,a3,a4,a5]:=by
 match c,h with
 | [a0,a1,a2,a3,a4,a5],_=>exact⟨a0,a1,a2,a3,a4,a5,rfl⟩
theorem yfj (s:ByteArray) (hs:s.size≤140737488351232):Spec Tryz.prog 10 [S s] [] (.tup [.c (.sl 6 ((zeb s).1.map zdv)),I .i64 (zeb s).2]) []:=by
 obtain⟨r,hr⟩:∃r,r=zeb s:=⟨_,rfl⟩
 rw[←hr]
 have hsz:=zyf s
 have hO:=ydd s hs
 unfold zeb at hr
 generalize zcs s=o at *
 obtain⟨t,eo⟩:=o
 have hG:=z67 t (by simp at hsz;omega)
 have hgl:=z27 t
 simp only at hr hO
 generalize gaR t=g at *
 obtain⟨ns,eg⟩:=g
 simp only at hr hG hgl
 refine spB Tryz.func10 61 [.tmp 2,.tmp 3] Tryz.results10 ?_
 try refine xst ?_
 refine caP (hO) ?_
 try refine xst ?_
 refine cI (fun h1 => ?_) fun h1 => ?_
 ·rw[if_pos h1]at hr;subst hr
  try refine xst ?_
  exact xrz rfl
 ·rw[if_neg (fun hn=>hn h1)]at hr
  try refine xst ?_
  refine caP (hG) ?_
  try refine xst ?_
  refine cI (fun h2 => ?_) fun h2 => ?_
  ·rw[if_pos h2]at hr;subst hr
   try refine xst ?_
   exact xrz rfl
  ·rw[if_neg (fun hn=>hn h2)]at hr
   try refine xst ?_
   refine cI (fun h3 => ?_) fun h3 => ?_
   ·rw[if_pos (by omega)]at hr;subst hr
    try refine xst ?_
    exact xrz rfl
   ·rw[if_neg (by omega)]at hr
    have hq:ns.length=ns.length/6*6:=by omega
    try refine xst ?_
    refine caP (ydi ns 6 (by decide)) ?_
    try refine xst ?_
    refine ya7 (by kernel_rfl) rfl (zy4 ns 6 (ns.length/6) (by decide) (by decide) hq (by omega)) [(6,.ptr 0 0 0)] 1 2 (fun pre => [(0,.blk 53 [.own 1]),(1,.row 48 6 ((pre.map z1d).map zdv))]) ((To.nilC 0 0 48 6 53 _ rfl rfl).trans (To.mk [0,1] rfl rfl (by decide) ?_ ?_)) (by decide) (by decide) (by decide) (fun pre=>by exact z1q rfl) (by kernel_rfl) (by decide) (by decide) (fun pre x hpl hpr hx => ?_) ?_
    ·simp(etaStruct := .none)only[push_cast,zab,seval,List.set_cons_zero,List.map_nil]
    ·simp(etaStruct := .none)only[push_cast,zab,seval]
    ·skip
     obtain⟨a0,a1,a2,a3,a4,a5,rfl⟩:=six hx
     simp only[List.length_map,List.length_range]at hpl
     iterate 2(try simp(etaStruct := .none)only[push_cast,zab,seval,z5n,zac,List.map_cons,List.map_nil];try refine xsu ?_)
     (try(refine⟨by kernel_rfl,?_⟩))
     iterate 2(try simp(etaStruct := .none)only[push_cast,zab,seval,z5n,zac,List.map_cons,List.map_nil];try refine xsu ?_)
     refine To.mk [0,90] rfl rfl (by decide) ?_ ?_
     ·(iterate 2((try simp(etaStruct := .none)only[push_cast,zab,seval,z5n,List.map_append,List.map_cons,List.map_nil,zdv,z1d,List.getD_cons_zero,List.getD_cons_succ]);(try(refine xsu ?_;try exact xtI))))
     ·(iterate 2((try simp(etaStruct := .none)only[push_cast,zab,seval,z5n,zac,List.map_cons,List.map_nil]);(try(refine xsu ?_;try exact xtI))))
    simp only[show ((List.range (ns.length/6)).map (zic ns 6)).map z1d=zg5 ns (ns.length/6)from by unfold zg5;rw[List.map_map];rfl]
    try refine xst ?_
    refine zcd (zvr (zg5 ns (ns.length/6)) (by rw[zm6];omega)) (WkL.refl _) rfl ?_
    try refine xst ?_
    refine cI (fun h4 => ?_) fun h4 => ?_
    ·rw[if_pos h4]at hr;subst hr;clear hq
     try refine xst ?_
     exact xrz rfl
    ·rw[if_neg (fun hn=>hn h4)]at hr;subst hr;clear hq
     try refine xst ?_
     exact xrz rfl
theorem z01 (s:ByteArray):(zeb s).1.length≤1000:=by
 unfold zeb
 have:=z27 (zcs s).1
 repeat' split
 all_goals simp[zm6]
 omega
abbrev bsL (l:List UInt8):ByteArray:=⟨l.toArray⟩
theorem zhw (l:List UInt8) (a b:Nat):(bsL l).extract a b=bsL ((l.take b).drop a):=by
 apply ByteArray.ext
 rw[ByteArray.data_extract]
 show l.toArray.extract a b=((l.take b).drop a).toArray
 rw[List.extract_toArray,List.extract_eq_drop_take,List.drop_take]
theorem ydl (l k:List UInt8):bsL l++bsL k=bsL (l++k):=by
 apply ByteArray.ext
 rw[ByteArray.data_append]
 show l.toArray++k.toArray=(l++k).toArray
 rw[List.append_toArray]
theorem z4u (n:Nat) (h:n<128):(UInt8.ofNat n).toNat=n:=za8 _ (by omega)
theorem zm5:∀(f n:Nat),n<128 ^ (f+1)→vals (zb1 f n)=n
 | 0,n,h=>by
  have h:n<128:=by simpa using h
  simp only[zb1,vals,List.foldr_cons,List.foldr_nil,z4u n h];omega
 | f+1,n,h=>by
  rw[zb1]
  split
  ·rename_i hn
   simp only[vals,List.foldr_cons,List.foldr_nil,z4u n hn];omega
  ·have ih:=zm5 f (n/128) (by rw[Nat.pow_succ]at h;omega)
   have e:(UInt8.ofNat (128+n % 128)).toNat=128+n % 128:=za8 _ (by omega)
   show (UInt8.ofNat (128+n % 128)).toNat % 128+128*vals (zb1 f (n/128))=n
   rw[e,ih];omega
theorem zqt:∀(f n:Nat) (r:List UInt8),n<128 ^ (f+1)→(zb1 f n++r).findIdx? (fun b=>b<128)=some ((zb1 f n).length-1)
 | 0,n,r,h=>by
  have h:n<128:=by simpa using h
  have e:(decide (UInt8.ofNat n<128))=true:=by rw[decide_eq_true_iff,UInt8.lt_iff_toNat_lt,z4u n h];exact h
  simp[zb1,List.findIdx?_cons,e]
 | f+1,n,r,h=>by
  rw[zb1]
  split
  ·rename_i hn
   have e:(decide (UInt8.ofNat n<128))=true:=by rw[decide_eq_true_iff,UInt8.lt_iff_toNat_lt,z4u n hn];exact hn
   simp[List.findIdx?_cons,e]
  ·have ih:=zqt f (n/128) r (by rw[Nat.pow_succ]at h;omega)
   have e:(UInt8.ofNat (128+n % 128)).toNat=128+n % 128:=za8 _ (by omega)
   have e2:(decide (UInt8.ofNat (128+n % 128)<128))=false:=by
    rw[decide_eq_false_iff_not,UInt8.lt_iff_toNat_lt,e]
    show ¬128+n % 128<128
    omega
   have hl:=zid f (n/128)
   rw[List.cons_append,List.findIdx?_cons,e2,ih]
   simp only[Bool.false_eq_true,if_false,Option.map_some,List.length_cons]
   congr 1;omega
theorem zrp (n:Nat) (r:List UInt8) (h:n<18446744073709551616):zgs (bsL (zg1 n++r))=(n,bsL r,0):=by
 have hp:n<128 ^ (9+1):=Nat.lt_of_lt_of_le h (by decide)
 have hh:=zqt 9 n r hp
 have hv:=zm5 9 n hp
 have hl:=zid 9 n
 have ht:(zb1 9 n++r).take (zb1 9 n).length=zb1 9 n:=List.take_left
 have hd:(zb1 9 n++r).drop (zb1 9 n).length=r:=List.drop_left
 have e1:(zb1 9 n).length-1+1=(zb1 9 n).length:=by omega
 show zgs (bsL (zb1 9 n++r))=_
 have hT:zmm (bsL (zb1 9 n++r)) (zb1 9 n).length=n:=by
  unfold zmm
  show vals ((zb1 9 n++r).take _) % _=n
  rw[ht,hv,Nat.mod_eq_of_lt h]
 rw[zwl (i:=(zb1 9 n).length-1) hh,e1,hT,if_pos]
 ·congr 2
  rw[show (bsL (zb1 9 n++r)).size=(zb1 9 n++r).length from by show (zb1 9 n++r).toArray.size=_;simp,zhw,List.take_length,hd]
 ·refine⟨by omega,?_⟩
  rw[zhw,ht,List.drop_zero];rfl
theorem z4q (n:Int):z4r (zge n)=n:=by
 unfold z4r zge
 split<;>split<;>omega
theorem zwp:∀(xs out:List Int),(∀x∈xs,I64 x)→gaF xs.length (bsL (xs.flatMap paN)) out=(out++xs,0)
 | [],out,_=>by
  rw[List.length_nil,gaF,show bsL (List.flatMap paN [])=⟨#[]⟩from rfl,if_pos rfl,List.append_nil]
 | x::xs,out,h=>by
  have g:=zrp (zge x) (xs.flatMap paN) (zws x (h x (by simp)))
  have ih:=zwp xs (out ++ [x]) (fun y hy=>h y (by simp[hy]))
  rw[List.length_cons,gaF,List.flatMap_cons]
  show (if (zgs (bsL (zg1 (zge x)++xs.flatMap paN))).2.2=0 then _ else _)=_
  rw[show paN x=zg1 (zge x)from rfl,g,if_pos rfl]
  simp only
  rw[z4q,ih,List.append_assoc,List.singleton_append]
theorem z69 (xs:List Int) (hl:xs.length≤1000) (h:∀x∈xs,I64 x):gaR (bsL (paK xs xs.length))=(xs,0):=by
 have g:=zrp xs.length ((xs.take xs.length).flatMap paN) (by omega)
 unfold gaR
 rw[show paK xs xs.length=zg1 xs.length++(xs.take xs.length).flatMap paN from rfl,g,if_pos rfl]
 simp only
 rw[if_pos hl,List.take_length,zwp xs [] h,List.nil_append]
theorem z1h (l:List UInt8):zcs (zhg (bsL l))=(bsL l,0):=by
 have hs:=zmz (bsL l)
 have hx:(zhg (bsL l)).extract 0 ((zhg (bsL l)).size-4)=bsL l:=by
  rw[hs,Nat.add_sub_cancel]
  have e:zhg (bsL l)=bsL (l++zk8 (z7n 0 l)):=ydl _ _
  have e2:(bsL l).size=l.length:=by show l.toArray.size=_;simp
  rw[e,e2,zhw,List.take_left,List.drop_zero]
 unfold zcs
 rw[if_neg (by omega),hx,if_pos rfl]
theorem ztc {l:List Ord} (i:Nat) (h:i<l.length):z1d (zic (zcz l) 6 i)=l.getD i default:=by
 have hp:zic (zcz l) 6 i=zye (l.getD i default):=by
  apply List.ext_getElem?
  intro j
  have hlen:(zic (zcz l) 6 i).length=6:=by
   have:=ze6 l
   unfold zic
   rw[List.length_take,List.length_drop];omega
  by_cases hj:j<6
  ·rw[←zvo l i j h hj]
   unfold zic
   rw[List.getElem?_take,if_pos hj,List.getElem?_drop]
   congr 1;omega
  ·rw[List.getElem?_eq_none (by omega),List.getElem?_eq_none (by simp[zye];omega)]
 rw[hp];rfl
theorem zx8 {α : Type} [Inhabited α] (l:List α):(List.range l.length).map (fun i=>l.getD i default)=l:=by
 apply List.ext_getElem
 ·simp
 ·intro i h1 h2
  simp at h1
  simp[h1]
theorem zqv (l:List Ord):zg5 (zcz l) l.length=l:=by
 have h:zg5 (zcz l) l.length=(List.range l.length).map (fun i=>l.getD i default) :=
  List.map_congr_left fun i hi=>ztc i (List.mem_range.1 hi)
 rw[h,zx8]
theorem zx7 (l:List Ord) (h:zc7 l=0):zeb (zci l)=(l,0):=by
 obtain⟨h100,hok⟩:=zff h
 have hn:=ze6 l
 have hg:=z69 (zcz l) (by omega) (zvp hok)
 rw[hn]at hg
 have ho:zcs (zci l)=(bsL (paK (zcz l) (6*l.length)),0):=z1h _
 unfold zeb
 rw[ho]
 simp only
 rw[hg]
 simp only
 rw[hn,Nat.mul_mod_right,Nat.mul_div_cancel_left _ (by decide),zqv,h]
 rfl
def zdb (WR:Cel→List Int):List ByteArray→Wld→Wld
 | [],w=>w
 | s::r,w=>if (zeb s).2≠0∨zbs (zeb s).1 w≠0 then w else zdb WR r (ze2 WR w (zeb s).1)
def zdc (WR:Cel→List Int):List ByteArray→Wld→Nat
 | [],_=>0
 | s::r,w=>if (zeb s).2≠0∨zbs (zeb s).1 w≠0 then 0 else zdc WR r (ze2 WR w (zeb s).1)+1
theorem zng (WR:Cel→List Int):∀(l:List ByteArray) (w:Wld),zdc WR l w≤l.length
 | [],_=>Nat.le_refl _
 | s::r,w=>by
  unfold zdc
  split
  ·exact Nat.zero_le _
  ·have:=zng WR r (ze2 WR w (zeb s).1);simp;omega
theorem z7i (l:List ByteArray) (k:Nat) (h:k<l.length):l.drop k=l.getD k default::l.drop (k+1):=by
 rw[zae _ _ h];exact List.drop_eq_getElem_cons h
theorem zwr (w:Wld) (l:List ByteArray) (WR:Cel→List Int) (hWR:∀a,zas w.f [a] (WR a)) (hw:Right w) (hll:l.length≤200) (hs:∀s∈l,s.size≤140737488351232):Spec Tryz.prog 20 [zcy w,.c (.sl 1 (l.map yd4))] [] (.tup [zcy (zdb WR l w),I .i64 (zdc WR l w),I .i64 0]) []:=by
 have V:=zkw w [] WR hWR hw.l (fun _ h=>by simp at h)
 have v0:zd0 WR [] w=0:=by unfold zd0;rw[if_neg (by simp),if_neg (fun hn=>hn hw.e)];rfl
 rw[v0,show zhh WR [] w=w from if_pos v0]at V
 refine spB Tryz.func20 61 [.cell 4 28,.tmp 5,.tmp 6] Tryz.results20 ?_
 try refine xst ?_
 refine cI (fun h1 => ?_) fun h1 => ?_
 ·omega
 ·try refine xst ?_
  refine zdt (V) (by exact⟨Wk.refl _,Wk.nil _,trivial⟩) ?_
  try refine xst ?_
  refine cI (fun h2 => ?_) fun h2 => ?_
  ·simp at h2
  ·try refine xst ?_
   refine zax (fun x:Nat × Wld=>⟨[(31,I .i64 x.1),(30,I .i64 l.length),(29,.c (.sl 1 (l.map yd4))),(4,.ptr 1 0 0),(2,.ptr 0 0 0),(1,.c (.sl 1 (l.map yd4)))],[(0,.blk 28 (znt x.2)),(1,.blk 28 yei)],2⟩) (fun x:Nat × Wld=>x.1≤l.length∧Right x.2∧x.2.f=w.f∧zdb WR l w=zdb WR (l.drop x.1) x.2∧zdc WR l w=x.1+zdc WR (l.drop x.1) x.2) (fun x:Nat × Wld=>l.length-x.1) ((0,w)) (⟨Nat.zero_le _,hw,rfl,rfl,by simp⟩) (To.mk [0,1] rfl rfl (by decide) ?_ ?_) ?_
   ·simp(etaStruct := .none)only[push_cast,zab,seval]
   ·simp(etaStruct := .none)only[push_cast,zab,seval]
   rintro⟨k,y⟩ ⟨hk,hR,hf,hW,hK⟩
   simp only at hk hR hf hW hK
   try refine xst ?_
   refine cI (fun h3 => ?_) fun h3 => ?_
   ·have hlt:k<l.length:=by omega
    rw[z7i l k hlt]at hW hK
    have hsz:=hs (l.getD k default) (za0 _ _ hlt)
    generalize hsk:l.getD k default=s at *
    have RD:=yfj s hsz
    have hrl:=z01 s
    have hWk:∀a,zas y.f [a] (WR a):=by intro a;rw[hf];exact hWR a
    have TT:=zsk y (zeb s).1 WR hWk hR.l (by omega)
    rw[zdb]at hW
    rw[zdc]at hK
    try refine xz3 (gd hlt) hsk zh3 ?_
    refine caP (RD) ?_
    try refine xz3 (gd hlt) hsk zh3 ?_
    refine cI (fun h4 => ?_) fun h4 => ?_
    ·rw[if_pos (.inl h4)]at hW hK
     rw[hW,hK]
     clear hW hK hf hWk
     try refine xz3 (gd hlt) hsk zh3 ?_
     exact xrz rfl
    ·try refine xz3 (gd hlt) hsk zh3 ?_
     refine caP (TT) ?_
     try refine xz3 (gd hlt) hsk zh3 ?_
     refine cI (fun h5 => ?_) fun h5 => ?_
     ·rw[if_pos (.inr h5)]at hW hK
      rw[hW,hK]
      clear hW hK hf hWk
      try refine xz3 (gd hlt) hsk zh3 ?_
      exact xrz rfl
     ·have e0:zbs (zeb s).1 y=0:=by simpa using h5
      have hTW:zpq WR y (zeb s).1=ze2 WR y (zeb s).1:=if_pos e0
      have hRT:=zgo hR hWk (zeb s).1 (zkc e0).2
      rw[if_neg (fun hn=>hn.elim (fun hh=>hh h4) fun hh=>hh e0)]at hW hK
      try refine xz3 (gd hlt) hsk zh3 ?_
      refine⟨(k+1,zpq WR y (zeb s).1),⟨by simp only;omega,by rw[hTW];exact hRT,by rw[hTW,znv];exact hf,by rw[hTW];exact hW,by rw[hTW,hK];simp only;omega⟩,by simp only;omega,To.mk [0,1] rfl rfl (by decide) ?_ ?_⟩
      ·(try(refine xz3 (gd hlt) hsk zh3 ?_;try exact xtI))
      ·(try(refine xz3 (gd hlt) hsk zh3 ?_;try exact xtI))
   ·obtain rfl:k=l.length:=by omega
    rw[List.drop_length]at hW hK
    rw[show zdb WR l w=y from hW,show zdc WR l w=l.length from hK]
    clear hW hK hf
    try refine xst ?_
    exact xrz rfl
theorem ziy {l:List Ord} {w:Wld} (h:zbs l w=0):zc7 l=0:=by
 unfold zbs at h
 split at h
 ·rename_i x;exact absurd h x
 ·rename_i x
  exact(ze4 (by simpa using x)).1
theorem zji (WR:Cel→List Int):∀(ts:List (List Ord)) (w:Wld),zgy WR ts w=0→zdb WR (ts.map zci) w=zfz WR ts w∧zdc WR (ts.map zci) w=ts.length
 | [],_,_=>⟨rfl,rfl⟩
 | o::r,w,h=>by
  rw[zgy]at h
  split at h
  ·rename_i x;exact absurd h x
  ·rename_i x
   have h0:zbs o w=0:=Decidable.not_not.1 x
   obtain⟨a,b⟩:=zji WR r _ h
   have hr:=zx7 o (ziy h0)
   have hc:¬((zeb (zci o)).2≠0∨zbs (zeb (zci o)).1 w≠0):=by
    rw[hr];simp[h0]
   rw[List.map_cons,zdb,zdc,if_neg hc,if_neg hc,hr]
   exact⟨a,by rw[show ze2 WR w (o,(0:Int)).1=ze2 WR w o from rfl,b,List.length_cons]⟩
structure Told (WR : Cel → List Int) (w : Wld) (s : Hst × List ByteArray) : Prop where
 o:HOk WR s.1
 w:s.1.sty.start=w
 t:s.2=s.1.sty.turns.map zci
theorem yau {WR:Cel→List Int} {h:Hst} (h0:zh5 WR h=0):zf1 WR h.sty (zck h)=0∧zc7 (zck h)=0∧zn3 WR h=zci (zck h)∧(zj4 WR h).sty=⟨h.sty.start,h.sty.turns ++ [zck h]⟩:=by
 have hm:zf1 WR h.sty (zck h)=0:=by
  unfold zh5 at h0
  split at h0
  ·exact h0
  ·rename_i x;simpa using x
 obtain⟨m1,m2,m3,m4,m5⟩:=zm8 hm
 have ho:=ziy m3
 refine⟨hm,ho,?_,?_⟩
 ·unfold zn3
  rw[if_neg (fun x=>x hm)]
  unfold zd9
  rw[if_neg (fun x=>x ho)]
 ·unfold zj4
  rw[if_neg (fun x=>x hm)]
  exact m4
theorem zw1 {WR:Cel→List Int} {h:Hst} {c:Clq} (h0:(doV WR h c).2.2=0):(c.kind=2∧zh5 WR h=0∧(doV WR h c).2.1=zci (zck h)∧(doV WR h c).1.sty.turns=h.sty.turns ++ [zck h])∨(c.kind≠2∧(doV WR h c).1.sty=h.sty):=by
 unfold doV at h0 ⊢
 split
 ·rename_i k
  rw[if_pos k]at h0
  refine .inr ⟨by omega,?_⟩
  split<;>rfl
 ·rename_i k1
  rw[if_neg k1]at h0
  split
  ·rename_i k
   rw[if_pos k]at h0
   by_cases hs:zh5 WR h=0
   ·rw[if_pos hs]
    obtain⟨a,b,c,d⟩:=yau hs
    exact .inl ⟨k,hs,c,by rw[d]⟩
   ·rw[if_neg hs]at h0;exact absurd h0 hs
  ·rename_i k2
   refine .inr ⟨k2,?_⟩
   split
   ·split
    ·unfold zt8;split<;>rfl
    ·rfl
   ·rfl
theorem Told.step {WR:Cel→List Int} {w:Wld} {s:Hst × List ByteArray} (T:Told WR w s) (c:Clq):Told WR w (if (doV WR s.1 c).2.2≠0 then s else ((doV WR s.1 c).1,if c.kind=2 then s.2 ++ [(doV WR s.1 c).2.1]else s.2)):=by
 split
 ·exact T
 ·rename_i x
  have h0:(doV WR s.1 c).2.2=0:=Decidable.not_not.1 x
  obtain⟨a,b⟩:=T.o.step c
  refine⟨a,b.trans T.w,?_⟩
  simp only
  rcases zw1 h0 with ⟨k,_,e1,e2⟩|⟨k,e⟩
  ·rw[if_pos k,e1,e2,List.map_append,T.t];rfl
  ·rw[if_neg k,e,T.t]
theorem ykq {b:Nat} {P:Nat→Prop} (hb:1≤b∧b≤8) (h:P 1∧P 2∧P 3∧P 4∧P 5∧P 6∧P 7∧P 8):P b:=by
 have h8:b=1∨b=2∨b=3∨b=4∨b=5∨b=6∨b=7∨b=8:=by omega
 obtain⟨p1,p2,p3,p4,p5,p6,p7,p8⟩:=h
 rcases h8 with rfl|rfl|rfl|rfl|rfl|rfl|rfl|rfl<;>assumption
theorem z1s {b:Nat} (hb:1≤b∧b≤8):za4 (List.replicate b ⟨[],0,false⟩)=0∧za5 (2 ^ b-1) (List.replicate 16 0)=0∧(2 ^ b-1)/2 ^ b=0∧2 ^ b-1<4294967296∧∀i,i<b→zbj (2 ^ b-1) i=true:=by
 refine ykq (P:=fun b=>za4 (List.replicate b ⟨[],0,false⟩)=0∧za5 (2 ^ b-1) (List.replicate 16 0)=0∧(2 ^ b-1)/2 ^ b=0∧2 ^ b-1<4294967296∧∀i,i<b→zbj (2 ^ b-1) i=true) hb ?_
 refine⟨?_,?_,?_,?_,?_,?_,?_,?_⟩<;>refine⟨by kernel_rfl,by kernel_rfl,by decide,by decide,by decide⟩
theorem yby {w:Wld} {n:Int} {WR:Cel→List Int} (hE:zzf w n=0):HOk WR (zyg w n)∧(zyg w n).sty=⟨w,[]⟩:=by
 have eH:zyg w n=⟨⟨w,[]⟩,List.replicate w.bases.length ⟨[],0,false⟩,2 ^ w.bases.length-1,List.replicate 16 0,n⟩:=if_pos hE
 unfold zzf at hE
 split at hE
 ·rename_i x;exact absurd hE x
 rename_i h1
 have hw:=zdg (Decidable.not_not.1 h1)
 split at hE
 ·omega
 rename_i h2
 have hn:=hw.nb
 have hb:1≤w.bases.length∧w.bases.length≤8:=by omega
 obtain⟨n1,n2,n3,n4,n5⟩:=z1s hb
 refine⟨⟨?_,?_⟩,by rw[eH]⟩
 ·rw[eH]
  refine zou ?_ n1 n2 (by simp only;omega) (by simp) (by rw[List.length_replicate];exact n3) ?_
  ·show zd0 WR [] w=0
   unfold zd0;rw[if_neg (by simp),if_neg (fun hn=>hn hw.e)];rfl
  ·intro i hi
   have hi:i<w.bases.length:=by simpa using hi
   unfold zgx
   simp only
   rw[List.getD_eq_getElem?_getD,List.getElem?_replicate,if_pos hi,n5 i hi];rfl
 ·have S:=yf1 w n hw.l (by omega)
  refine⟨S.s,S.l,S.a,?_,S.g,?_⟩
  ·rw[eH];exact n4
  ·rw[eH]
   intro s hs
   rw[(List.mem_replicate.1 hs).2];decide
theorem heard {WR:Cel→List Int} {w:Wld} (hWR:∀a,zas w.f [a] (WR a)) {s:Hst × List ByteArray} (T:Told WR w s) {l:Lnk} (R:LnkR l) (hs:l.sent=s.2):zdb WR l.got w=zfz WR (s.1.sty.turns.take l.got.length) w∧zdc WR l.got w=l.got.length∧atE WR s.1.sty l.got.length=0∧atW WR s.1.sty l.got.length=zfz WR (s.1.sty.turns.take l.got.length) w∧Right (zfz WR (s.1.sty.turns.take l.got.length) w)∧Right w∧l.got.length≤200∧∀x∈l.got,x.size≤10000:=by
 obtain⟨e1,-⟩:=zov T.o.e
 have e1':zd0 WR s.1.sty.turns s.1.sty.start=0:=e1
 rw[T.w]at e1'
 obtain⟨k1,k2,k3⟩:=zgn e1'
 have hg:=R.g
 have hlen:l.sent.length=s.1.sty.turns.length:=by rw[hs,T.t,List.length_map]
 have hgot:l.got=(s.1.sty.turns.take l.got.length).map zci:=by
  rw[List.map_take,←T.t,←hs];exact R.p
 have kt:=z0p l.got.length k3
 have hl:(s.1.sty.turns.take l.got.length).length=l.got.length:=by rw[List.length_take];omega
 obtain⟨f1,f2⟩:=zji WR _ w kt
 rw[←hgot]at f1 f2
 have hE:atE WR s.1.sty l.got.length=0:=by
  unfold atE
  rw[if_neg (fun x=>x e1),if_neg (by omega)]
 refine⟨f1,by rw[f2,hl],hE,?_,zh9 _ k2 hWR kt,k2,by omega,fun x hx => ?_⟩
 ·unfold atW
  rw[if_pos hE,Int.toNat_natCast,T.w]
 ·rw[hgot]at hx
  obtain⟨o,ho,rfl⟩:=List.mem_map.1 hx
  exact zhb o (zh7 _ k3 o (List.mem_of_mem_take ho))
end Go.Proofs.YtmjbgbmegbkmhaaGreat
namespace Go.Proofs.YtmjbgbmegbkmhaaGreat
set_option linter.all false
open Go.RowKit
set_option maxRecDepth 100000
set_option maxHeartbeats 2000000
def smallW:Wld:=⟨⟨3,1,[0,0,3]⟩,[⟨0,0⟩],[20],[0,0,9],[⟨1,0,1,⟨1,0⟩,10,0⟩],2,0⟩
theorem z0b:Spec Tryz.prog 29 [] [] (zcy smallW) []:=by
 refine spB Tryz.func29 11 [.cell 0 28] Tryz.results29 ?_
 try refine xst ?_
 exact xrz rfl
def zi9:Ord:=⟨0,3,1,⟨2,0⟩,0⟩
def yjt:Clq:=⟨1,zi9,0,0⟩
def z47:Clq:=⟨2,default,0,0⟩
def zu0:Hst:=⟨⟨smallW,[]⟩,[⟨[],0,false⟩],1,List.replicate 16 0,5⟩
def zxx:Hst:=⟨⟨smallW,[]⟩,[⟨[zi9],0,false⟩],1,List.replicate 16 0,5⟩
def toldW:Wld:=⟨⟨3,1,[0,0,3]⟩,[⟨0,0⟩],[20],[0,0,8],[⟨1,0,1,⟨1,0⟩,10,1⟩],2,1⟩
theorem zuz:zal smallW=0:=by kernel_rfl
theorem zp2:zzf smallW 5=0:=by kernel_rfl
theorem z0c:zyg smallW 5=zu0:=by kernel_rfl
theorem yfa (WR:Cel→List Int):doV WR zu0 yjt=(zxx,⟨#[]⟩,0):=by kernel_rfl
theorem ye9:zck zxx = [zi9]:=by kernel_rfl
theorem z8l (WR:Cel→List Int):zbs [zi9] smallW=0:=by kernel_rfl
theorem yev (WR:Cel→List Int):ze2 WR smallW [zi9]=toldW:=by kernel_rfl
theorem z45:zfw smallW:=(zdg zuz).l
theorem z0d (WR:Cel→List Int):HOk WR zu0:=by
 have:=(yby (WR:=WR) zp2).1
 rwa [z0c]at this
theorem zky:toldW.troops.length=1:=rfl
theorem zkz:toldW.troops.map zaw = [[pI 1,pI 0,pI 1,pI 1,pI 0,pI 10,pI 1]]:=rfl
theorem ztl:Spec Tryz.prog 8 [] [] (B true) []:=by
 obtain⟨WR,hWR⟩:=yeg smallW.f
 have N:=ygt smallW 5 WR hWR z45
 rw[z0c,zp2]at N
 have H0:=z0d WR
 have D1:=ygv zu0 yjt WR hWR H0.l H0.b H0.e
 have H1:=(H0.step yjt).1
 rw[yfa]at D1 H1
 have D2:=ygv zxx z47 WR hWR H1.l H1.b H1.e
 have e2:(doV WR zxx z47).2.2=0:=by kernel_rfl
 have t2:(doV WR zxx z47).2.1=zci [zi9]:=by
  rcases zw1 e2 with ⟨_,_,a,_⟩|⟨a,_⟩
  ·rw[a,ye9]
  ·exact absurd rfl a
 have ho:=ziy (z8l WR)
 have FW:=zwr smallW [zci [zi9]] WR hWR (zdg zuz) (by decide) (fun s hs=>by
  rw[List.mem_singleton.1 hs]
  have:=zhb [zi9] (by decide)
  omega)
 obtain⟨f1,f2⟩:=zji WR [[zi9]] smallW (by unfold zgy;rw[if_neg (fun x=>x (z8l WR))];rfl)
 rw[show ([[zi9]]:List (List Ord)).map zci = [zci [zi9]]from rfl]at f1 f2
 rw[f1,f2,show zfz WR [[zi9]] smallW=toldW from yev WR]at FW
 generalize doV WR zxx z47=V at *
 obtain⟨h',t,e⟩:=V
 simp only at e2 t2
 subst e2 t2
 clear f1 f2 ho H0 H1
 generalize zci [zi9]=T at *
 refine spB Tryz.func8 72 [.tmp 0] Tryz.results8 ?_
 (iterate 2((try simp(etaStruct := .none)only[push_cast,seval,zky,zkz,List.getD_cons_zero]);(try(refine xsu ?_;try exact xtI))))
 refine caP (z0b) ?_
 (iterate 2((try simp(etaStruct := .none)only[push_cast,seval,zky,zkz,List.getD_cons_zero]);(try(refine xsu ?_;try exact xtI))))
 refine caP (N) ?_
 (iterate 2((try simp(etaStruct := .none)only[push_cast,seval,zky,zkz,List.getD_cons_zero]);(try(refine xsu ?_;try exact xtI))))
 refine caP (D1) ?_
 (iterate 2((try simp(etaStruct := .none)only[push_cast,seval,zky,zkz,List.getD_cons_zero]);(try(refine xsu ?_;try exact xtI))))
 refine caP (D2) ?_
 (iterate 2((try simp(etaStruct := .none)only[push_cast,seval,zky,zkz,List.getD_cons_zero]);(try(refine xsu ?_;try exact xtI))))
 refine caP (z0b) ?_
 (iterate 2((try simp(etaStruct := .none)only[push_cast,seval,zky,zkz,List.getD_cons_zero]);(try(refine xsu ?_;try exact xtI))))
 refine zfv [2] (Spec.hand 0 FW (Nat.zero_le _) rfl (by exact WkL.refl _) rfl) (WkL.refl _) rfl (by decide) (by simp[zbn]) ?_
 (iterate 2((try simp(etaStruct := .none)only[push_cast,seval,zky,zkz,List.getD_cons_zero]);(try(refine xsu ?_;try exact xtI))))
 exact xrz rfl
end Go.Proofs.YtmjbgbmegbkmhaaGreat
namespace Go.Proofs.YtmjbgbmegbkmhaaGreat
set_option linter.all false
open Go.RowKit
set_option maxRecDepth 100000
set_option maxHeartbeats 1000000
def vwP (v:Vw):List PV := [pI v.p,pI v.b,pI v.v]
theorem zhc (v:Vw):vwP v = [pI v.p,pI v.b,pI v.v]:=rfl
abbrev vwA (v:Vw):AV := .agg [I .i64 v.p,I .i64 v.b,I .i64 v.v]
def zsa (x:Stp):List PV := [pI x.kind,pI x.who,pI x.ballot,pI x.value]
theorem zuu (x:Stp):zsa x = [pI x.kind,pI x.who,pI x.ballot,pI x.value]:=rfl
abbrev yhx (x:Stp):AV := .agg [I .i64 x.kind,I .i64 x.who,I .i64 x.ballot,I .i64 x.value]
def rnU (k:Nat) (r:Rn):List PV := [pI k,.v (.int .u32 r.prom),.undef,pB r.asked,pI r.value,.v (.int .u32 r.acc)]
abbrev z9u (c:Cn):Chunk := .row 210 3 (c.vows.map vwP)
abbrev zkm (r:Rn):List (List PV):=r.heard.map vwP
abbrev zze (t:Nat→Bool) (f:Nat→Rn) (op:Option (Nat × Nat)):Chunk := .nst 154 6 2 210 3 ((zbg t).map fun k=>rnU k (f k)) ((zbg t).map fun k=>zkm (f k)) op
abbrev z0h (a b:AV):Chunk := .blk 149 [a,b]
theorem z02 (k n:Int) (p1 p2 p3 p4 p5:PV) (hk:0≤k∧k≤100) (hn:0≤n∧n≤100):Spec Tryz.prog 139 [.agg [I .i64 k,.c p1,.c p2,.c p3,.c p4,.c p5],I .i64 n] [] (I .i64 (k-n)) []:=by
 refine spB Tryz.func139 9 [.tmp 4] Tryz.results139 ?_
 try refine xst ?_
 exact xrz rfl
theorem z87 (i j:Nat) (h:i+j≤1000):IntKind.i64.wrap ((IntKind.u64.wrap ((i:Int)+j)).fdiv (2 ^ min 1 IntKind.u64.bits))=(((i+j)/2:Nat):Int):=by
 have e:IntKind.u64.wrap ((i:Int)+j)=((i+j:Nat):Int):=by rw[IntKind.wrap_u64];omega
 rw[e,zwv (i+j) 1 _ (by decide),IntKind.wrap_i64];omega
theorem yhh (idx:List Nat) (rows:List (List PV)) (hr:rows.length=idx.length) (hrow:∀j,j<idx.length→∃p1 p2 p3 p4 p5,rows.getD j [] = [pI (idx.getD j default:Nat),p1,p2,p3,p4,p5]) (b p:Nat) (hb:b≤50) (h51:idx.length≤51) (hle:∀j,j<idx.length→idx.getD j default≤50)
 (lo:∀j,j<p→idx.getD j default<b) (hi:∀j,p≤j→j<idx.length→b≤idx.getD j default) (hp:p<idx.length) :
 Spec Tryz.prog 138 [.own 0,I .i64 b,.clo (.func 139) [] []] [.row 154 6 rows] (.tup [I .i64 p,B (decide (idx.getD p default=b))]) [.row 154 6 rows]:=by
 refine spB Tryz.func138 49 [.tmp 6,.tmp 7] Tryz.results138 ?_
 try refine xz1 hr ?_
 refine zax (fun x:Nat × Nat=>⟨[(10,I .i64 x.2),(9,I .i64 x.1),(8,I .i64 idx.length),(2,.clo (.func 139) [] []),(1,I .i64 b),(0,.own 0)],[(0,.row 154 6 rows)],1⟩) (fun x:Nat × Nat=>x.1≤p∧p≤x.2∧x.2≤idx.length) (fun x:Nat × Nat=>x.2-x.1) ((0,idx.length)) (⟨Nat.zero_le _,Nat.le_of_lt hp,Nat.le_refl _⟩) (To.mk [0] rfl rfl (by decide) ?_ ?_) ?_
 ·simp(etaStruct := .none)only[push_cast,zab,seval]
 ·simp(etaStruct := .none)only[push_cast,zab,seval]
 rintro⟨i,j⟩ ⟨q1,q2,q3⟩
 simp only at q1 q2 q3
 try refine xz1 hr ?_
 refine cI (fun h1 => ?_) fun h1 => ?_
 ·have hu:=z87 i j (by omega)
  obtain⟨m,hm⟩:∃m,m=(i+j)/2:=⟨_,rfl⟩
  have hml:m<idx.length:=by omega
  obtain⟨p1,p2,p3,p4,p5,hg⟩:=hrow m hml
  have hmr:m<rows.length:=by omega
  have h50:=hle m hml
  try refine xz4 hr hu hm.symm hg ?_
  refine caP (z02 (idx.getD m default:Nat) b p1 p2 p3 p4 p5 (by omega) (by omega)) ?_
  try refine xz4 hr hu hm.symm hg ?_
  refine cI (fun h2 => ?_) fun h2 => ?_
  ·have hpm:m<p:=by
    rcases Nat.lt_or_ge m p with h|h
    ·exact h
    ·have:=hi m h hml;omega
   try refine xz4 hr hu hm.symm hg ?_
   refine⟨(m+1,j),⟨by simp only;omega,q2,q3⟩,by simp only;omega,To.mk [0] rfl rfl (by decide) ?_ ?_⟩
   ·(try(refine xz4 hr hu hm.symm hg ?_;try exact xtI))
   ·(try(refine xz4 hr hu hm.symm hg ?_;try exact xtI))
  ·have hpm:p≤m:=by
    rcases Nat.lt_or_ge m p with h|h
    ·have:=lo m h;omega
    ·exact h
   try refine xz4 hr hu hm.symm hg ?_
   refine⟨(i,m),⟨q1,by simp only;omega,by simp only;omega⟩,by simp only;omega,To.mk [0] rfl rfl (by decide) ?_ ?_⟩
   ·(try(refine xz4 hr hu hm.symm hg ?_;try exact xtI))
   ·(try(refine xz4 hr hu hm.symm hg ?_;try exact xtI))
 ·obtain rfl:i=p:=by omega
  obtain⟨p1,p2,p3,p4,p5,hg⟩:=hrow i hp
  have hmr:i<rows.length:=by omega
  have h50:=hle i hp
  try refine xz2 hr hg ?_
  refine gcP (fun hcc=>z02 (idx.getD i default:Nat) b p1 p2 p3 p4 p5 (by omega) (by omega)) ?_
  try refine xz2 hr hg ?_
  have hd:(decide ((i:Int)<idx.length)&&decide (((idx.getD i default:Nat):Int)-(b:Int)=0))=decide (idx.getD i default=b):=by
   rw[decide_eq_true (by omega),Bool.true_and,decide_eq_decide];omega
  refine zby [0] rfl rfl (by decide) ⟨?_,trivial⟩ trivial ?_<;>simp(etaStruct := .none)only[push_cast,zab,seval]
  exact Wk.of (by rw[hd])
theorem yhi (idx:List Nat) (rows:List (List PV)) (hr:rows.length=idx.length) (hrow:∀j,j<idx.length→∃p1 p2 p3 p4 p5,rows.getD j [] = [pI (idx.getD j default:Nat),p1,p2,p3,p4,p5]) (b p:Nat) (hb:b≤50) (h51:idx.length≤51) (hle:∀j,j<idx.length→idx.getD j default≤50)
 (lo:∀j,j<p→idx.getD j default<b) (hi:∀j,p≤j→j<idx.length→b≤idx.getD j default) (hp:p=idx.length) :
 Spec Tryz.prog 138 [.own 0,I .i64 b,.clo (.func 139) [] []] [.row 154 6 rows] (.tup [I .i64 p,B false]) [.row 154 6 rows]:=by
 refine spB Tryz.func138 49 [.tmp 6,.tmp 7] Tryz.results138 ?_
 try refine xz1 hr ?_
 refine zax (fun x:Nat × Nat=>⟨[(10,I .i64 x.2),(9,I .i64 x.1),(8,I .i64 idx.length),(2,.clo (.func 139) [] []),(1,I .i64 b),(0,.own 0)],[(0,.row 154 6 rows)],1⟩) (fun x:Nat × Nat=>x.1≤p∧p≤x.2∧x.2≤idx.length) (fun x:Nat × Nat=>x.2-x.1) ((0,idx.length)) (⟨Nat.zero_le _,Nat.le_of_eq hp,Nat.le_refl _⟩) (To.mk [0] rfl rfl (by decide) ?_ ?_) ?_
 ·simp(etaStruct := .none)only[push_cast,zab,seval]
 ·simp(etaStruct := .none)only[push_cast,zab,seval]
 rintro⟨i,j⟩ ⟨q1,q2,q3⟩
 simp only at q1 q2 q3
 try refine xz1 hr ?_
 refine cI (fun h1 => ?_) fun h1 => ?_
 ·have hu:=z87 i j (by omega)
  obtain⟨m,hm⟩:∃m,m=(i+j)/2:=⟨_,rfl⟩
  have hml:m<idx.length:=by omega
  obtain⟨p1,p2,p3,p4,p5,hg⟩:=hrow m hml
  have hmr:m<rows.length:=by omega
  have h50:=hle m hml
  try refine xz4 hr hu hm.symm hg ?_
  refine caP (z02 (idx.getD m default:Nat) b p1 p2 p3 p4 p5 (by omega) (by omega)) ?_
  try refine xz4 hr hu hm.symm hg ?_
  refine cI (fun h2 => ?_) fun h2 => ?_
  ·have hpm:m<p:=by
    rcases Nat.lt_or_ge m p with h|h
    ·exact h
    ·have:=hi m h hml;omega
   try refine xz4 hr hu hm.symm hg ?_
   refine⟨(m+1,j),⟨by simp only;omega,q2,q3⟩,by simp only;omega,To.mk [0] rfl rfl (by decide) ?_ ?_⟩
   ·(try(refine xz4 hr hu hm.symm hg ?_;try exact xtI))
   ·(try(refine xz4 hr hu hm.symm hg ?_;try exact xtI))
  ·have hpm:p≤m:=by
    rcases Nat.lt_or_ge m p with h|h
    ·have:=lo m h;omega
    ·exact h
   try refine xz4 hr hu hm.symm hg ?_
   refine⟨(i,m),⟨q1,by simp only;omega,by simp only;omega⟩,by simp only;omega,To.mk [0] rfl rfl (by decide) ?_ ?_⟩
   ·(try(refine xz4 hr hu hm.symm hg ?_;try exact xtI))
   ·(try(refine xz4 hr hu hm.symm hg ?_;try exact xtI))
 ·obtain rfl:i=p:=by omega
  have hlf:decide ((i:Int)<(idx.length:Int))=false:=decide_eq_false (by omega)
  try refine xz2 hr hlf ?_
  refine zwo ?_ ?_
  ·first|rfl|exact decide_eq_false (by omega)
  try refine xz2 hr hlf ?_
  refine zby [0] rfl rfl (by decide) ⟨?_,trivial⟩ trivial ?_<;>simp(etaStruct := .none)only[push_cast,zab,seval,hlf]
theorem ya1 (t:Nat→Bool) (f:Nat→Rn) (q:Nat→PV) (j:Nat) (hj:j<(zbg t).length):(((zbg t).map fun k=>rnU k (f k)).mapIdx fun i x=>x.set 2 (q i)).getD j [] = [pI ((zbg t).getD j default:Nat),.v (.int .u32 (f ((zbg t).getD j default)).prom),q j,pB (f ((zbg t).getD j default)).asked,pI (f ((zbg t).getD j default)).value,.v (.int .u32 (f ((zbg t).getD j default)).acc)]:=by
 rw[List.getD_eq_getElem?_getD,List.getElem?_mapIdx,List.getElem?_map,List.getElem?_eq_getElem hj,List.getD_eq_getElem?_getD,List.getElem?_eq_getElem hj]
 rfl
theorem z8y (t:Nat→Bool) (f:Nat→Rn) (b:Nat) (hb:b≤50):Spec Tryz.prog 138 [.own 0,I .i64 b,.clo (.func 139) [] []] [zze t f none] (.tup [I .i64 (zgz t b),B (t b)]) [zze t f none]:=by
 refine Spec.rawN _ _ fun q => ?_
 have hlen:(((zbg t).map fun k=>rnU k (f k)).mapIdx fun i x=>x.set 2 (q i)).length=(zbg t).length:=by simp
 have hrow:∀j,j<(zbg t).length→∃p1 p2 p3 p4 p5,(((zbg t).map fun k=>rnU k (f k)).mapIdx fun i x=>x.set 2 (q i)).getD j [] = [pI ((zbg t).getD j default:Nat),p1,p2,p3,p4,p5]:=fun j hj=>⟨_,_,_,_,_,ya1 t f q j hj⟩
 have h50:∀j,j<(zbg t).length→(zbg t).getD j default≤50:=fun j hj=>(z2j t _ (za0 _ _ hj)).1
 have hp:=z04 t b hb
 have hat:=ygp t b hb
 rcases Nat.lt_or_ge (zgz t b) (zbg t).length with h|h
 ·have:=yhh (zbg t) _ hlen hrow b (zgz t b) hb (zl0 t) h50 (fun j hj=>zri t b j hb hj) (fun j hj hl=>zrj t b j hb hj hl) h
  have e:decide ((zbg t).getD (zgz t b) default=b)=t b:=by
   cases ht:t b with
   | true=>exact decide_eq_true (hat.2 ht).2
   | false=>exact decide_eq_false fun hx=>by rw[hat.1 ⟨h,hx⟩]at ht;exact absurd ht (by decide)
  rwa [e]at this
 ·have:=yhi (zbg t) _ hlen hrow b (zgz t b) hb (zl0 t) h50 (fun j hj=>zri t b j hb hj) (fun j hj hl=>zrj t b j hb hj hl) (by omega)
  have e:t b=false:=by
   cases ht:t b with
   | true=>have:=(hat.2 ht).1;omega
   | false=>rfl
  rwa [e]
theorem zn9 (t:Nat→Bool) (b:Nat):zgz (zfd t b) b=zgz t b:=by
 unfold zgz
 congr 1
 exact zgt _ fun x hx=>by
  have:=List.mem_range.1 hx
  unfold zfd;rw[decide_eq_false (by omega),Bool.or_false]
theorem z0t (V:List (List PV)) (t:Nat→Bool) (f:Nat→Rn) (b:Nat) (hb:b≤50) (ht:t b=true):Spec Tryz.prog 95 [.ptr 0 0 0,I .i64 b] [z0h (.own 1) (.own 2),.row 210 3 V,zze t f none] (.ptr 3 (zgz t b) 0) [z0h (.own 1) (.own 3),.row 210 3 V,.dead,zze t f (some (zgz t b,4)),.row 210 3 (zkm (f b))]:=by
 have R:=z8y t f b hb
 rw[ht]at R
 have hg:=zl1 t b hb ht
 have hpl:zgz t b<(zbg t).length:=(List.getElem?_eq_some_iff.1 hg).1
 generalize zgz t b=p at *
 have hy:((zbg t).map fun k=>zkm (f k)).getD p []=zkm (f b):=by rw[List.getD_eq_getElem?_getD,List.getElem?_map,hg];rfl
 refine spB Tryz.func95 40 [.tmp 4] Tryz.results95 ?_
 try refine xst ?_
 refine caM [2] (R) ?_
 try refine xst ?_
 refine yde (To.moveN 0 1 2 154 6 2 210 3 149 [.own 1,.own 2] _ _ rfl rfl rfl) (fun h1 => ?_) (fun h1 => ?_)
 ·(try replace h1:=xhh h1)
  exact absurd h1 (by decide)
 ·(try replace h1:=xhh h1)
  iterate 2(try simp(etaStruct := .none)only[push_cast,zab,seval,List.set_cons_zero,List.set_cons_succ,List.length_map];try refine xsu ?_)
  refine zf0 (To.open 3 p 154 6 2 210 3 ((zbg t).map fun k=>rnU k (f k)) ((zbg t).map fun k=>zkm (f k)) rfl (by rw[List.length_map];exact hpl)) ?_
  simp(etaStruct := .none)only[push_cast,zab,seval,hy]
  refine zby [0,1,2,3,4] rfl rfl (by decide) ⟨?_,?_,?_,?_,?_,trivial⟩ trivial ?_<;>simp(etaStruct := .none)only[push_cast,zab,seval,hy]
theorem z0u (V:List (List PV)) (t:Nat→Bool) (f:Nat→Rn) (b:Nat) (hb:b≤50) (ht:t b=false) (hf:f b=default):Spec Tryz.prog 95 [.ptr 0 0 0,I .i64 b] [z0h (.own 1) (.own 2),.row 210 3 V,zze t f none] (.ptr 3 (zgz t b) 0) [z0h (.own 1) (.own 3),.row 210 3 V,.dead,zze (zfd t b) f (some (zgz t b,4)),.row 210 3 (zkm (f b))]:=by
 have R:=z8y t f b hb
 rw[ht]at R
 have hi:=ycp t b hb ht
 have hg:=zl1 (zfd t b) b hb (by unfold zfd;rw[decide_eq_true rfl,Bool.or_true])
 rw[zn9]at hg
 have hpl:zgz t b<(zbg (zfd t b)).length:=(List.getElem?_eq_some_iff.1 hg).1
 have hp:=z04 t b hb
 have hl:=zl0 t
 generalize zgz t b=p at *
 have hy:((zbg (zfd t b)).map fun k=>zkm (f k)).getD p []=zkm (f b):=by rw[List.getD_eq_getElem?_getD,List.getElem?_map,hg];rfl
 have INS:=yff (zit Tryz.func140 (by kernel_rfl) rfl) ((zbg t).map fun k=>rnU k (f k)) ((zbg t).map fun k=>zkm (f k)) p (by rw[List.length_map];exact hp) (by rw[List.length_map];omega) [pI b,.v (.int .u32 0),.v (.slice none 0 0),pB false,pI 0,.v (.int .u32 0)] (rnU b (f b)) rfl rfl rfl (fun j hj=>by
  rw[hf]
  rcases j with _|_|_|_|_|_|j
  ·rfl
  ·rfl
  ·exact absurd rfl hj
  ·rfl
  ·rfl
  ·rfl
  ·rfl)
 have eX:(((zbg t).map fun k=>rnU k (f k)).take p++rnU b (f b)::((zbg t).map fun k=>rnU k (f k)).drop p)=(zbg (zfd t b)).map fun k=>rnU k (f k):=by
  rw[hi,List.map_append,List.map_cons,List.map_take,List.map_drop]
 have eY:(((zbg t).map fun k=>zkm (f k)).take p ++ []::((zbg t).map fun k=>zkm (f k)).drop p)=(zbg (zfd t b)).map fun k=>zkm (f k):=by
  rw[hi,List.map_append,List.map_cons,List.map_take,List.map_drop,hf];rfl
 rw[eX,eY]at INS
 refine spB Tryz.func95 40 [.tmp 4] Tryz.results95 ?_
 try refine xst ?_
 refine caM [2] (R) ?_
 try refine xst ?_
 refine cI (fun h1 => ?_) fun h1 => ?_
 ·iterate 2(try simp(etaStruct := .none)only[push_cast,zab,seval,List.set_cons_zero,List.set_cons_succ,List.length_map];try refine xsu ?_)
  refine caM [2,3] (INS) ?_
  iterate 2(try simp(etaStruct := .none)only[push_cast,zab,seval,List.set_cons_zero,List.set_cons_succ,List.length_map];try refine xsu ?_)
  refine zf0 (To.open 4 p 154 6 2 210 3 ((zbg (zfd t b)).map fun k=>rnU k (f k)) ((zbg (zfd t b)).map fun k=>zkm (f k)) rfl (by rw[List.length_map];exact hpl)) ?_
  simp(etaStruct := .none)only[push_cast,zab,seval,hy]
  refine zby [0,1,2,4,5] rfl rfl (by decide) ⟨?_,?_,?_,?_,?_,trivial⟩ trivial ?_<;>simp(etaStruct := .none)only[push_cast,zab,seval,hy]
 ·exact absurd h1 (by decide)
theorem zp9 (n:Int):Spec Tryz.prog 141 [I .i64 n] [] (B (decide (1≤n)&&decide (n≤1000000))) []:=by
 refine spB Tryz.func141 9 [.tmp 2] Tryz.results141 ?_
 try refine xst ?_
 exact xrz rfl
theorem yam (v:Vw) (n:Int) (hn:1≤n∧n≤1000000):Spec Tryz.prog 96 [vwA v,I .i64 n] [] (.tup [vwA (if v.p<n then ⟨n,v.b,v.v⟩else v),B (decide (v.p<n))]) []:=by
 have S:=zp9 n
 rw[decide_eq_true hn.1,decide_eq_true hn.2,Bool.true_and]at S
 refine spB Tryz.func96 19 [.cell 4 210,.tmp 5] Tryz.results96 ?_
 try refine xst ?_
 refine caP (S) ?_
 try refine xst ?_
 refine cI (fun h1 => ?_) fun h1 => ?_
 ·rw[if_neg (by omega),decide_eq_false (by omega)]
  try refine xst ?_
  exact xrz rfl
 ·rw[if_pos (by omega),decide_eq_true (by omega)]
  try refine xst ?_
  exact xrz rfl
theorem yfb (v:Vw) (n x:Int) (hn:1≤n∧n≤1000000):Spec Tryz.prog 99 [vwA v,I .i64 n,I .i64 x] [] (.tup [vwA (if v.p≤n then ⟨n,n,x⟩else v),B (decide (v.p≤n))]) []:=by
 have S:=zp9 n
 rw[decide_eq_true hn.1,decide_eq_true hn.2,Bool.true_and]at S
 refine spB Tryz.func99 22 [.cell 6 210,.tmp 7] Tryz.results99 ?_
 try refine xst ?_
 refine caP (S) ?_
 try refine xst ?_
 refine cI (fun h1 => ?_) fun h1 => ?_
 ·rw[if_neg (by omega),decide_eq_false (by omega)]
  try refine xst ?_
  exact xrz rfl
 ·rw[if_pos (by omega),decide_eq_true (by omega)]
  try refine xst ?_
  exact xrz rfl
theorem zr6:∀(l:List Vw) (m v:Vw),zd5 (l ++ [v]) m=if (zd5 l m).b<v.b then v else zd5 l m
 | [],m,v=>rfl
 | a::l,m,v=>by rw[List.cons_append,zd5,zr6 l,zd5]
theorem z0k (l:List Vw) (x:Int) (hl:l.length≤1000000):Spec Tryz.prog 98 [.c (.sl 3 (l.map vwP)),I .i64 x] [] (I .i64 (zez l x)) []:=by
 obtain⟨C,hC⟩:∃C,C=zez l x:=⟨_,rfl⟩
 rw[←hC]
 refine spB Tryz.func98 34 [.tmp 4] Tryz.results98 ?_
 try refine xst ?_
 refine cI (fun h1 => ?_) fun h1 => ?_
 ·have e:l = []:=List.eq_nil_of_length_eq_zero (by omega)
  have e2:C=x:=by rw[hC,e];rfl
  rw[e2]
  try refine xst ?_
  exact xrz rfl
 ·have h0:0<l.length:=by omega
  have e2:C=if (zd5 l (l.getD 0 default)).b=0 then x else (zd5 l (l.getD 0 default)).v:=by
   rw[hC]
   cases l with
   | nil=>simp at h0
   | cons a r=>rfl
  try refine xz2 (gd h0) zhc ?_
  refine zax (fun k:Nat=>⟨[(17,I .i64 k),(16,I .i64 l.length),(15,.c (.sl 3 (l.map vwP))),(5,.ptr 0 0 0),(1,I .i64 x)],[(0,.blk 210 [I .i64 (zd5 (l.take k) (l.getD 0 default)).p,I .i64 (zd5 (l.take k) (l.getD 0 default)).b,I .i64 (zd5 (l.take k) (l.getD 0 default)).v])],1⟩) (fun k:Nat=>k≤l.length) (fun k:Nat=>l.length-k) (0) (Nat.zero_le _) (To.mk [0] rfl rfl (by decide) ?_ ?_) ?_
  ·simp(etaStruct := .none)only[push_cast,zab,seval,List.take_zero,zd5]
  ·simp(etaStruct := .none)only[push_cast,zab,seval]
  rintro k hk
  try refine xz2 (gd h0) zhc ?_
  refine cI (fun h2 => ?_) fun h2 => ?_
  ·have hlt:k<l.length:=by omega
   have sn:=zao l k hlt
   have bs:=zr6 (l.take k) (l.getD 0 default) (l.getD k default)
   rw[←sn]at bs
   generalize zd5 (l.take k) (l.getD 0 default)=m at *
   try refine xz4 (gd h0) zhc (gd hlt) zhc ?_
   refine cI (fun h3 => ?_) fun h3 => ?_
   ·rw[if_pos h3]at bs
    try refine xz4 (gd h0) zhc (gd hlt) zhc ?_
    refine⟨k+1,by omega,by omega,To.mk [0] rfl rfl (by decide) ?_ ?_⟩
    ·(try(refine xz1 bs ?_;try exact xtI))
    ·(try(refine xz4 (gd h0) zhc (gd hlt) zhc ?_;try exact xtI))
   ·rw[if_neg (by omega)]at bs
    try refine xz4 (gd h0) zhc (gd hlt) zhc ?_
    refine⟨k+1,by omega,by omega,To.mk [0] rfl rfl (by decide) ?_ ?_⟩
    ·(try(refine xz1 bs ?_;try exact xtI))
    ·(try(refine xz4 (gd h0) zhc (gd hlt) zhc ?_;try exact xtI))
  ·obtain rfl:k=l.length:=by omega
   rw[List.take_length]
   try refine xz2 (gd h0) zhc ?_
   refine cI (fun h4 => ?_) fun h4 => ?_
   ·rw[if_pos h4]at e2
    rw[e2]
    try refine xz2 (gd h0) zhc ?_
    exact xrz rfl
   ·rw[if_neg h4]at e2
    rw[e2]
    try refine xz2 (gd h0) zhc ?_
    exact xrz rfl
theorem yas (V:List (List PV)) (q:PV) (s:Nat) (hs:s<4294967296) (hV:V.length≤1000000):Spec Tryz.prog 97 [.fel 2 [[.sl 3 V,q]] 0 0,I .u32 s] [] (B (decide (V.length<2*pcK s 32))) []:=by
 have hc:=zqp s 32
 refine spB Tryz.func97 15 [.tmp 4] Tryz.results97 ?_
 (iterate 2((try simp(etaStruct := .none)only[push_cast,seval]);(try(refine xsu ?_;try exact xtI))))
 refine zaz [some 5,some 6,some 7,some 8,some 9,some 10,some 11,some 12,some 13,some 14,some 4] rfl ?_
 intro Oq lq Rq hlq hdq hRq
 subst hlq
 iterate 1(refine zar fun rq hrq => ?_;(iterate 2((try simp(etaStruct := .none)only[push_cast,seval,hdq,id]);(try(refine xsu ?_;try exact xtI))));subst hrq)
 refine zar fun rq hrq => ?_
 (iterate 2((try simp(etaStruct := .none)only[push_cast,seval,hdq,id]);(try(refine xsu ?_;try exact xtI))))
 refine caP (ydf s hs) ?_
 (iterate 2((try simp(etaStruct := .none)only[push_cast,seval,hdq,id]);(try(refine xsu ?_;try exact xtI))))
 subst hrq
 iterate 9(refine zar fun rq hrq => ?_;(iterate 2((try simp(etaStruct := .none)only[push_cast,seval,hdq,id]);(try(refine xsu ?_;try exact xtI))));subst hrq)
 refine zht ?_
 subst hRq
 clear hdq Oq
 refine zhs (by kernel_rfl) ?_
 (iterate 2((try simp(etaStruct := .none)only[push_cast,seval]);(try(refine xsu ?_;try exact xtI))))
 have hd:decide ((V.length:Int)<2*((pcK s 32:Nat):Int))=decide (V.length<2*pcK s 32):=decide_eq_decide.2 (by omega)
 exact zb0 rfl trivial (Wk.of (by rw[←hd];rfl))
theorem yae {c:Cn} {x:Stp} (hk:x.kind=1) (h:(zce c x.who.toNat).p<x.ballot):zet c x=⟨c.vows.set x.who.toNat ⟨x.ballot,(zce c x.who.toNat).b,(zce c x.who.toNat).v⟩,zlf c.all x.ballot.toNat { c.all x.ballot.toNat with prom:=(c.all x.ballot.toNat).prom ||| 2 ^ x.who.toNat,heard:=(c.all x.ballot.toNat).heard ++ [zce c x.who.toNat] },zfd c.told x.ballot.toNat⟩:=by
 unfold zet
 simp only
 rw[if_pos ⟨hk,h⟩];rfl
theorem yad {c:Cn} {x:Stp} (hk:x.kind=2) (ha:(c.all x.ballot.toNat).asked=false) (h:c.vows.length<2*pcK (c.all x.ballot.toNat).prom 32):zet c x=⟨c.vows,zlf c.all x.ballot.toNat { c.all x.ballot.toNat with asked:=true,value:=zez (c.all x.ballot.toNat).heard x.value },zfd c.told x.ballot.toNat⟩:=by
 unfold zet
 simp only
 rw[if_neg (by omega),if_pos ⟨hk,ha,h⟩];rfl
theorem yac {c:Cn} {x:Stp} (hk:x.kind=3) (ha:(c.all x.ballot.toNat).asked=true) (h:(zce c x.who.toNat).p≤x.ballot):zet c x=⟨c.vows.set x.who.toNat ⟨x.ballot,x.ballot,(c.all x.ballot.toNat).value⟩,zlf c.all x.ballot.toNat { c.all x.ballot.toNat with acc:=(c.all x.ballot.toNat).acc ||| 2 ^ x.who.toNat },zfd c.told x.ballot.toNat⟩:=by
 unfold zet
 simp only
 rw[if_neg (by omega),if_neg (by omega),if_pos ⟨hk,ha,h⟩];rfl
theorem zn1 {c:Cn} {x:Stp} (h1:¬(x.kind=1∧(zce c x.who.toNat).p<x.ballot)) (h2:¬(x.kind=2∧(c.all x.ballot.toNat).asked=false∧c.vows.length<2*pcK (c.all x.ballot.toNat).prom 32)) (h3:¬(x.kind=3∧(c.all x.ballot.toNat).asked=true∧(zce c x.who.toNat).p≤x.ballot)):zet c x=⟨c.vows,c.all,zfd c.told x.ballot.toNat⟩:=by
 unfold zet
 simp only
 rw[if_neg h1,if_neg h2,if_neg h3];rfl
theorem ya3 (V:List (List PV)) (t:Nat→Bool) (f:Nat→Rn) (b:Nat) (hb:b≤50) (hf:t b=false→f b=default):Spec Tryz.prog 95 [.ptr 0 0 0,I .i64 b] [z0h (.own 1) (.own 2),.row 210 3 V,zze t f none] (.ptr 3 (zgz t b) 0) [z0h (.own 1) (.own 3),.row 210 3 V,.dead,zze (zfd t b) f (some (zgz t b,4)),.row 210 3 (zkm (f b))]:=by
 cases ht:t b with
 | true =>
  have:=z0t V t f b hb ht
  rwa [z76 t b ht]
 | false=>exact z0u V t f b hb ht (hf ht)
structure CnL (c : Cn) : Prop where
 n:c.vows.length≤15
 z:∀k,c.told k=false→c.all k=default
 p:∀k,(c.all k).prom<4294967296
 a:∀k,(c.all k).acc<4294967296
 h:∀k,(c.all k).heard.length≤1000
theorem yaf (c:Cn) (x:Stp) (L:CnL c) (hx:zk2 c.vows.length x):Spec Tryz.prog 56 [.ptr 0 0 0,yhx x] [z0h (.own 1) (.own 2),z9u c,zze c.told c.all none] (.tup []) [z0h (.own 1) (.own 3),z9u (zet c x),.dead,zze (zet c x).told (zet c x).all none]:=by
 obtain⟨⟨k1,k3⟩,⟨w0,wn⟩,b1,b50⟩:=hx
 obtain⟨kind,who,ballot,value⟩:=x
 simp only at k1 k3 w0 wn b1 b50
 obtain⟨b,rfl⟩:∃b:Nat,ballot=b:=Int.eq_ofNat_of_zero_le (by omega)
 obtain⟨i,rfl⟩:∃i:Nat,who=i:=Int.eq_ofNat_of_zero_le w0
 have hil:i<c.vows.length:=by omega
 have hl15:=L.n
 obtain⟨c',hc'⟩:∃c',c'=zet c ⟨kind,i,b,value⟩:=⟨_,rfl⟩
 rw[←hc']
 have R:=ya3 (c.vows.map vwP) c.told c.all b (by omega) (L.z b)
 have hg:=zl1 (zfd c.told b) b (by omega) (by unfold zfd;rw[decide_eq_true rfl,Bool.or_true])
 rw[zn9]at hg
 obtain⟨p,hp⟩:∃p,p=zgz c.told b:=⟨_,rfl⟩
 rw[←hp]at R hg
 have hpl:p<(zbg (zfd c.told b)).length:=(List.getElem?_eq_some_iff.1 hg).1
 have hgx:((zbg (zfd c.told b)).map fun k=>rnU k (c.all k)).getD p [] = [pI b,.v (.int .u32 (c.all b).prom),.undef,pB (c.all b).asked,pI (c.all b).value,.v (.int .u32 (c.all b).acc)]:=by rw[List.getD_eq_getElem?_getD,List.getElem?_map,hg];rfl
 have hP:=L.p b
 have hA:=L.a b
 have hH:=L.h b
 have hsh:=zzu i (by omega)
 have hpw:2 ^ i<4294967296:=Nat.lt_of_le_of_lt (zs9 i (by omega)).2 (by decide)
 have e2:((2 ^ i:Nat):Int)=(2:Int) ^ i:=by simp
 have hor:=yib (c.all b).prom (2 ^ i) hP hpw
 have hor2:=yib (c.all b).acc (2 ^ i) hA hpw
 rw[e2]at hor hor2
 have hap:zkm (c.all b) ++ [[pI (zce c i).p,pI (zce c i).b,pI (zce c i).v]]=List.map vwP ((c.all b).heard ++ [zce c i]):=by rw[List.map_append];rfl
 have PR:=yam (zce c i) b (by omega)
 have AC:=yfb (zce c i) b (c.all b).value (by omega)
 have CH:=z0k (c.all b).heard value (by omega)
 have MO:=yas (c.vows.map vwP) .undef (c.all b).prom hP (by rw[List.length_map];omega)
 rw[List.length_map]at MO
 have hgv:(c.vows.map vwP).getD i [] = [pI (zce c i).p,pI (zce c i).b,pI (zce c i).v]:=zaa vwP c.vows i hil
 have hxl:((zbg (zfd c.told b)).map fun k=>rnU k (c.all k)).length=(zbg (zfd c.told b)).length:=List.length_map _
 obtain⟨X,hX⟩:∃X,X=(zbg (zfd c.told b)).map fun k=>rnU k (c.all k):=⟨_,rfl⟩
 obtain⟨Y,hY⟩:∃Y,Y=(zbg (zfd c.told b)).map fun k=>zkm (c.all k):=⟨_,rfl⟩
 rw[←hX]at hgx hxl
 have R':Spec Tryz.prog 95 [.ptr 0 0 0,I .i64 b] [z0h (.own 1) (.own 2),.row 210 3 (c.vows.map vwP),zze c.told c.all none] (.ptr 3 p 0) [z0h (.own 1) (.own 3),.row 210 3 (c.vows.map vwP),.dead,.nst 154 6 2 210 3 X Y (some (p,4)),.row 210 3 (zkm (c.all b))]:=by rw[hX,hY];exact R
 clear R
 have htb:zfd c.told b b=true:=by unfold zfd;rw[decide_eq_true rfl,Bool.or_true]
 have SX:∀r:Rn,X.set p (rnU b r)=(zbg (zfd c.told b)).map fun k=>rnU k (zlf c.all b r k):=fun r=>by
  have:=z2i (zfd c.told b) b (by omega) htb (fun k=>rnU k (c.all k)) (fun k=>rnU k (zlf c.all b r k)) (fun k hk=>by rw[zc6 _ _ hk])
  rw[zec,zn9,←hp,←hX]at this
  exact this.symm
 have SY:∀r:Rn,Y.set p (zkm r)=(zbg (zfd c.told b)).map fun k=>zkm (zlf c.all b r k):=fun r=>by
  have:=z2i (zfd c.told b) b (by omega) htb (fun k=>zkm (c.all k)) (fun k=>zkm (zlf c.all b r k)) (fun k hk=>by rw[zc6 _ _ hk])
  rw[zec,zn9,←hp,←hY]at this
  exact this.symm
 have pself:zlf c.all b (c.all b)=c.all:=by
  funext k
  by_cases hk:k=b
  ·rw[hk,zec]
  ·rw[zc6 _ _ hk]
 have SY0:=SY (c.all b)
 rw[pself]at SY0
 have hgs:∀v,(X.set p v).getD p []=v:=fun v=>by rw[List.getD_eq_getElem?_getD,List.getElem?_set_self (by omega)];rfl
 have t16:Nat.blt 1 6=true:=rfl
 have t26:Nat.blt 2 6=true:=rfl
 have t36:Nat.blt 3 6=true:=rfl
 have t46:Nat.blt 4 6=true:=rfl
 have t56:Nat.blt 5 6=true:=rfl
 refine spB Tryz.func56 123 [] Tryz.results56 ?_
 (iterate 2((try simp(etaStruct := .none)only[push_cast,seval,hgx,hgv,hxl,t16,t26,t36,t46,t56]);(try(refine xsu ?_;try exact xtI))))
 refine caM [0,1,2] (R') ?_
 (iterate 2((try simp(etaStruct := .none)only[push_cast,seval,hgx,hgv,hxl,t16,t26,t36,t46,t56]);(try(refine xsu ?_;try exact xtI))))
 refine zaz [some 14,some 15,some 16,some 17,some 18,some 19,some 20,some 21,some 5] rfl ?_
 intro Oq lq Rq hlq hdq hRq
 subst hlq
 iterate 9(refine zar fun rq hrq => ?_;(iterate 2((try simp(etaStruct := .none)only[push_cast,seval,hdq,id,hgx,hgv,hxl,t16,t26,t36,t46,t56]);(try(refine xsu ?_;try exact xtI))));subst hrq)
 refine zht ?_
 subst hRq
 clear hdq Oq
 refine zhs (by kernel_rfl) ?_
 (iterate 2((try simp(etaStruct := .none)only[push_cast,seval,hgx,hgv,hxl,t16,t26,t36,t46,t56]);(try(refine xsu ?_;try exact xtI))))
 refine cI (fun h1 => ?_) fun h1 => ?_
 ·(iterate 2((try simp(etaStruct := .none)only[push_cast,seval,hgx,hgv,hxl,t16,t26,t36,t46,t56]);(try(refine xsu ?_;try exact xtI))))
  refine zaz [some 27,some 28,some 29,some 30,some 31,some 32,some 26,some 33,some 34,some 6,none,some 7] rfl ?_
  intro Oq lq Rq hlq hdq hRq
  subst hlq
  iterate 5(refine zar fun rq hrq => ?_;(iterate 2((try simp(etaStruct := .none)only[push_cast,seval,hdq,id,hgx,hgv,hxl,t16,t26,t36,t46,t56]);(try(refine xsu ?_;try exact xtI))));subst hrq)
  refine zar fun rq hrq => ?_
  (iterate 2((try simp(etaStruct := .none)only[push_cast,seval,hdq,id,hgx,hgv,hxl,t16,t26,t36,t46,t56]);(try(refine xsu ?_;try exact xtI))))
  refine caP (PR) ?_
  (iterate 2((try simp(etaStruct := .none)only[push_cast,seval,hdq,id,hgx,hgv,hxl,t16,t26,t36,t46,t56]);(try(refine xsu ?_;try exact xtI))))
  subst hrq
  iterate 6(refine zar fun rq hrq => ?_;(iterate 2((try simp(etaStruct := .none)only[push_cast,seval,hdq,id,hgx,hgv,hxl,t16,t26,t36,t46,t56]);(try(refine xsu ?_;try exact xtI))));subst hrq)
  refine zht ?_
  subst hRq
  clear hdq Oq
  refine zhs (by kernel_rfl) ?_
  (iterate 2((try simp(etaStruct := .none)only[push_cast,seval,hgx,hgv,hxl,t16,t26,t36,t46,t56]);(try(refine xsu ?_;try exact xtI))))
  refine cI (fun h2 => ?_) fun h2 => ?_
  ·rw[if_pos h2]
   (iterate 2((try simp(etaStruct := .none)only[push_cast,seval,hgx,hgv,hxl,t16,t26,t36,t46,t56]);(try(refine xsu ?_;try exact xtI))))
   refine zaz [some 36,some 37,some 38,some 39,some 40,some 41,some 42,some 43,some 44,some 45,none] rfl ?_
   intro Oq lq Rq hlq hdq hRq
   subst hlq
   iterate 11(refine zar fun rq hrq => ?_;(iterate 2((try simp(etaStruct := .none)only[push_cast,seval,hdq,id,hgx,hgv,hxl,t16,t26,t36,t46,t56]);(try(refine xsu ?_;try exact xtI))));subst hrq)
   refine zht ?_
   subst hRq
   clear hdq Oq
   refine zhs (by kernel_rfl) ?_
   (iterate 2((try simp(etaStruct := .none)only[push_cast,seval,hgx,hgv,hxl,t16,t26,t36,t46,t56]);(try(refine xsu ?_;try exact xtI))))
   refine zaz [some 46,some 47,some 48,some 49,some 50,some 51,some 52,some 53,some 54,some 55,some 56,some 57,none] rfl ?_
   intro Oq lq Rq hlq hdq hRq
   subst hlq
   iterate 13(refine zar fun rq hrq => ?_;(iterate 2((try simp(etaStruct := .none)only[push_cast,seval,hdq,id,hgx,hgv,hxl,t16,t26,t36,t46,t56]);(try(refine xsu ?_;try exact xtI))));subst hrq)
   refine zht ?_
   subst hRq
   clear hdq Oq
   refine zhs (by kernel_rfl) ?_
   (iterate 2((try simp(etaStruct := .none)only[push_cast,seval,hgx,hgv,hxl,t16,t26,t36,t46,t56]);(try(refine xsu ?_;try exact xtI))))
   have hc1:=hc'.trans (yae (c:=c) (x:=⟨kind,i,b,value⟩) h1 h2)
   rw[hc1]
   refine zf0 (To.close 4 p 170 154 6 2 210 3 _ _ _ rfl rfl) (zby [0,1,2,4] rfl rfl (by decide) ⟨?_,?_,?_,?_,trivial⟩ trivial ?_)<;>simp(etaStruct := .none)only[push_cast,zab,seval,hsh,List.set_set,hgs]
   ·show (c.vows.map vwP).set i (vwP ⟨b,(zce c i).b,(zce c i).v⟩)=_
    rw[List.map_set]
   ·rw[hor,hap]
    exact⟨SX { c.all b with prom:=(c.all b).prom ||| 2 ^ i,heard:=(c.all b).heard ++ [zce c i] },SY { c.all b with prom:=(c.all b).prom ||| 2 ^ i,heard:=(c.all b).heard ++ [zce c i] }⟩
  ·rw[if_neg (by omega)]
   (iterate 2((try simp(etaStruct := .none)only[push_cast,seval,hgx,hgv,hxl,t16,t26,t36,t46,t56]);(try(refine xsu ?_;try exact xtI))))
   have hc1:=hc'.trans (zn1 (c:=c) (x:=⟨kind,i,b,value⟩) (by simp only[Int.toNat_natCast];omega) (by simp only[Int.toNat_natCast];omega) (by simp only[Int.toNat_natCast];omega))
   rw[hc1]
   refine zf0 (To.close 4 p 5 154 6 2 210 3 _ _ _ rfl rfl) (zby [0,1,2,4] rfl rfl (by decide) ⟨?_,?_,?_,?_,trivial⟩ trivial ?_)<;>simp(etaStruct := .none)only[push_cast,zab,seval,hsh,List.set_set,hgs]
   exact⟨hX,SY0⟩
 ·(iterate 2((try simp(etaStruct := .none)only[push_cast,seval,hgx,hgv,hxl,t16,t26,t36,t46,t56]);(try(refine xsu ?_;try exact xtI))))
  refine cI (fun h3 => ?_) fun h3 => ?_
  ·(iterate 2((try simp(etaStruct := .none)only[push_cast,seval,hgx,hgv,hxl,t16,t26,t36,t46,t56]);(try(refine xsu ?_;try exact xtI))))
   refine zjz (fun hcc=>MO) (WkL.refl _) rfl (by intro hc;(try simp(etaStruct := .none)only[push_cast,zab,seval]);(try simp_all)) ?_
   (iterate 2((try simp(etaStruct := .none)only[push_cast,seval,hgx,hgv,hxl,t16,t26,t36,t46,t56]);(try(refine xsu ?_;try exact xtI))))
   refine cI (fun h4 => ?_) fun h4 => ?_
   ·(iterate 2((try simp(etaStruct := .none)only[push_cast,seval,hgx,hgv,hxl,t16,t26,t36,t46,t56]);(try(refine xsu ?_;try exact xtI))))
    refine zaz [some 76,some 77,some 78,some 79,some 80,some 81,some 82,some 83,some 84,some 85,some 86,none,some 87,some 88,none] rfl ?_
    intro Oq lq Rq hlq hdq hRq
    subst hlq
    iterate 8(refine zar fun rq hrq => ?_;(iterate 2((try simp(etaStruct := .none)only[push_cast,seval,hdq,id,hgx,hgv,hxl,t16,t26,t36,t46,t56]);(try(refine xsu ?_;try exact xtI))));subst hrq)
    refine zar fun rq hrq => ?_
    (iterate 2((try simp(etaStruct := .none)only[push_cast,seval,hdq,id,hgx,hgv,hxl,t16,t26,t36,t46,t56]);(try(refine xsu ?_;try exact xtI))))
    refine zcd (CH) (WkL.refl _) rfl ?_
    (iterate 2((try simp(etaStruct := .none)only[push_cast,seval,hdq,id,hgx,hgv,hxl,t16,t26,t36,t46,t56]);(try(refine xsu ?_;try exact xtI))))
    subst hrq
    iterate 6(refine zar fun rq hrq => ?_;(iterate 2((try simp(etaStruct := .none)only[push_cast,seval,hdq,id,hgx,hgv,hxl,t16,t26,t36,t46,t56]);(try(refine xsu ?_;try exact xtI))));subst hrq)
    refine zht ?_
    subst hRq
    clear hdq Oq
    refine zhs (by kernel_rfl) ?_
    (iterate 2((try simp(etaStruct := .none)only[push_cast,seval,hgx,hgv,hxl,t16,t26,t36,t46,t56]);(try(refine xsu ?_;try exact xtI))))
    have hc1:=hc'.trans (yad (c:=c) (x:=⟨kind,i,b,value⟩) h3 h4.1 h4.2)
    rw[hc1]
    refine zf0 (To.close 4 p 5 154 6 2 210 3 _ _ _ rfl rfl) (zby [0,1,2,4] rfl rfl (by decide) ⟨?_,?_,?_,?_,trivial⟩ trivial ?_)<;>simp(etaStruct := .none)only[push_cast,zab,seval,hsh,List.set_set,hgs]
    exact⟨SX { c.all b with asked:=true,value:=zez (c.all b).heard value },SY { c.all b with asked:=true,value:=zez (c.all b).heard value }⟩
   ·(iterate 2((try simp(etaStruct := .none)only[push_cast,seval,hgx,hgv,hxl,t16,t26,t36,t46,t56]);(try(refine xsu ?_;try exact xtI))))
    have hc1:=hc'.trans (zn1 (c:=c) (x:=⟨kind,i,b,value⟩) (by simp only[Int.toNat_natCast];omega) (by simp only[Int.toNat_natCast];rintro⟨-,a1,a2⟩;rw[a1]at h4;exact h4.elim (fun h=>absurd h (by decide)) fun h=>h a2) (by simp only[Int.toNat_natCast];omega))
    rw[hc1]
    refine zf0 (To.close 4 p 5 154 6 2 210 3 _ _ _ rfl rfl) (zby [0,1,2,4] rfl rfl (by decide) ⟨?_,?_,?_,?_,trivial⟩ trivial ?_)<;>simp(etaStruct := .none)only[push_cast,zab,seval,hsh,List.set_set,hgs]
    exact⟨hX,SY0⟩
  ·(iterate 2((try simp(etaStruct := .none)only[push_cast,seval,hgx,hgv,hxl,t16,t26,t36,t46,t56]);(try(refine xsu ?_;try exact xtI))))
   refine cI (fun h5 => ?_) fun h5 => ?_
   ·(iterate 2((try simp(etaStruct := .none)only[push_cast,seval,hgx,hgv,hxl,t16,t26,t36,t46,t56]);(try(refine xsu ?_;try exact xtI))))
    refine cI (fun h6 => ?_) fun h6 => ?_
    ·(iterate 2((try simp(etaStruct := .none)only[push_cast,seval,hgx,hgv,hxl,t16,t26,t36,t46,t56]);(try(refine xsu ?_;try exact xtI))))
     have hc1:=hc'.trans (zn1 (c:=c) (x:=⟨kind,i,b,value⟩) (by simp only[Int.toNat_natCast];omega) (by simp only[Int.toNat_natCast];omega) (by simp only[Int.toNat_natCast];rintro⟨-,a1,-⟩;rw[h6]at a1;exact absurd a1 (by decide)))
     rw[hc1]
     refine zf0 (To.close 4 p 5 154 6 2 210 3 _ _ _ rfl rfl) (zby [0,1,2,4] rfl rfl (by decide) ⟨?_,?_,?_,?_,trivial⟩ trivial ?_)<;>simp(etaStruct := .none)only[push_cast,zab,seval,hsh,List.set_set,hgs]
     exact⟨hX,SY0⟩
    ·(iterate 2((try simp(etaStruct := .none)only[push_cast,seval,hgx,hgv,hxl,t16,t26,t36,t46,t56]);(try(refine xsu ?_;try exact xtI))))
     refine zaz [some 97,some 98,some 99,some 100,some 101,some 102,some 103,some 104,some 105,some 106,some 96,some 107,some 108,some 8,none,some 9] rfl ?_
     intro Oq lq Rq hlq hdq hRq
     subst hlq
     iterate 9(refine zar fun rq hrq => ?_;(iterate 2((try simp(etaStruct := .none)only[push_cast,seval,hdq,id,hgx,hgv,hxl,t16,t26,t36,t46,t56]);(try(refine xsu ?_;try exact xtI))));subst hrq)
     refine zar fun rq hrq => ?_
     (iterate 2((try simp(etaStruct := .none)only[push_cast,seval,hdq,id,hgx,hgv,hxl,t16,t26,t36,t46,t56]);(try(refine xsu ?_;try exact xtI))))
     refine caP (AC) ?_
     (iterate 2((try simp(etaStruct := .none)only[push_cast,seval,hdq,id,hgx,hgv,hxl,t16,t26,t36,t46,t56]);(try(refine xsu ?_;try exact xtI))))
     subst hrq
     iterate 6(refine zar fun rq hrq => ?_;(iterate 2((try simp(etaStruct := .none)only[push_cast,seval,hdq,id,hgx,hgv,hxl,t16,t26,t36,t46,t56]);(try(refine xsu ?_;try exact xtI))));subst hrq)
     refine zht ?_
     subst hRq
     clear hdq Oq
     refine zhs (by kernel_rfl) ?_
     (iterate 2((try simp(etaStruct := .none)only[push_cast,seval,hgx,hgv,hxl,t16,t26,t36,t46,t56]);(try(refine xsu ?_;try exact xtI))))
     refine cI (fun h7 => ?_) fun h7 => ?_
     ·rw[if_pos h7]
      (iterate 2((try simp(etaStruct := .none)only[push_cast,seval,hgx,hgv,hxl,t16,t26,t36,t46,t56]);(try(refine xsu ?_;try exact xtI))))
      refine zaz [some 110,some 111,some 112,some 113,some 114,some 115,some 116,some 117,some 118,some 119,none] rfl ?_
      intro Oq lq Rq hlq hdq hRq
      subst hlq
      iterate 11(refine zar fun rq hrq => ?_;(iterate 2((try simp(etaStruct := .none)only[push_cast,seval,hdq,id,hgx,hgv,hxl,t16,t26,t36,t46,t56]);(try(refine xsu ?_;try exact xtI))));subst hrq)
      refine zht ?_
      subst hRq
      clear hdq Oq
      refine zhs (by kernel_rfl) ?_
      (iterate 2((try simp(etaStruct := .none)only[push_cast,seval,hgx,hgv,hxl,t16,t26,t36,t46,t56]);(try(refine xsu ?_;try exact xtI))))
      have hc1:=hc'.trans (yac (c:=c) (x:=⟨kind,i,b,value⟩) h5 h6 h7)
      rw[hc1]
      refine zf0 (To.close 4 p 5 154 6 2 210 3 _ _ _ rfl rfl) (zby [0,1,2,4] rfl rfl (by decide) ⟨?_,?_,?_,?_,trivial⟩ trivial ?_)<;>simp(etaStruct := .none)only[push_cast,zab,seval,hsh,List.set_set,hgs]
      ·show (c.vows.map vwP).set i (vwP ⟨b,b,(c.all b).value⟩)=_
       rw[List.map_set]
      ·exact⟨by rw[hor2];exact SX { c.all b with acc:=(c.all b).acc ||| 2 ^ i },SY { c.all b with acc:=(c.all b).acc ||| 2 ^ i }⟩
     ·rw[if_neg (by omega)]
      (iterate 2((try simp(etaStruct := .none)only[push_cast,seval,hgx,hgv,hxl,t16,t26,t36,t46,t56]);(try(refine xsu ?_;try exact xtI))))
      have hc1:=hc'.trans (zn1 (c:=c) (x:=⟨kind,i,b,value⟩) (by simp only[Int.toNat_natCast];omega) (by simp only[Int.toNat_natCast];omega) (by simp only[Int.toNat_natCast];omega))
      rw[hc1]
      refine zf0 (To.close 4 p 5 154 6 2 210 3 _ _ _ rfl rfl) (zby [0,1,2,4] rfl rfl (by decide) ⟨?_,?_,?_,?_,trivial⟩ trivial ?_)<;>simp(etaStruct := .none)only[push_cast,zab,seval,hsh,List.set_set,hgs]
      exact⟨hX,SY0⟩
   ·omega
def z34 (n:Int) (x:Stp):Bool:=decide (x.kind<1)||decide (3<x.kind)||decide (x.who<0)||decide (n≤x.who)||decide (x.ballot<1)||decide (50<x.ballot)
theorem badS_iff {n:Nat} {x:Stp} : z34 n x=false↔zk2 n x:=by
 unfold z34 zk2
 simp only[Bool.or_eq_false_iff,decide_eq_false_iff_not]
 omega
theorem yey (F:FuncId) (a b:List AV) (l:List Stp) (p:Stp→Bool) (hl:l.length≤9223372036854775807) (hp:∀n∈l,Spec Tryz.prog F (a ++ [yhx n]++b) [] (B (p n)) []) (ha:∀h,cvL [] h a=a) (hb:∀h,cvL [] h b=b) :
 Spec Tryz.prog 94 [.c (.sl 4 (l.map zsa)),.clo (.func F) a b] [] (I .i64 (zj8 p l)) []:=by
 refine spB Tryz.func94 19 [.tmp 4] Tryz.results94 ?_
 simp(etaStruct := .none)only[push_cast,zab,seval]
 refine zax (fun k:Nat=>⟨[(8,I .i64 k),(7,I .i64 l.length),(0,.c (.sl 4 (l.map zsa))),(1,.clo (.func F) a b)],[],0⟩) (fun k=>k≤l.length∧∀j (hj:j<l.length),j<k→p l[j]=false) (fun k=>l.length-k) 0 ⟨Nat.zero_le _,fun j _ h=>by omega⟩ (To.mk [] rfl rfl List.nodup_nil trivial ?_) ?_
 ·simp(etaStruct := .none)only[push_cast,zab,seval,ha,hb]
 ·rintro k ⟨hk,hn⟩
  simp(etaStruct := .none)only[push_cast,zab,seval]
  refine zay (fun h => ?_) (fun h => ?_)
  ·have hlt:k<l.length:=by simpa using h
   simp(etaStruct := .none)only[push_cast,zab,seval,zb4 _ _ _ hlt,zsa]
   repeat with_reducible refine obA ?_
   refine zdt (hp _ (List.getElem_mem hlt)) (by simp only[zde,ha,hb,cvL,cv];exact WkL.refl _) ?_
   simp(etaStruct := .none)only[push_cast,zab,seval]
   refine zay (fun h => ?_) (fun h => ?_)
   ·simp(etaStruct := .none)only[push_cast,zab,seval]
    exact zb0 rfl trivial (Wk.of (by rw[zd3 p l k hlt h hn];rfl))
   ·simp(etaStruct := .none)only[push_cast,zab,seval]
    refine⟨k+1,⟨by omega,fun j hj hjk => ?_⟩,by omega,To.mk [] rfl rfl List.nodup_nil trivial ?_⟩
    ·by_cases e:j=k
     ·subst e;exact h
     ·exact hn j hj (by omega)
    ·simp(etaStruct := .none)only[push_cast,zab,seval,ha,hb]
     simp(disch:=omega)only[zak,za6,tdv,tmd]
  ·have hge:k=l.length:=by simp at h;omega
   subst hge
   simp(etaStruct := .none)only[push_cast,zab,seval]
   exact zb0 rfl trivial (Wk.of (by rw[zcw p l (fun j hj=>hn j hj hj)];rfl))
theorem zz4 (F:FuncId) (a b:List AV) (l:List Stp) (p:Stp→Bool) (hl:l.length≤9223372036854775807) (hp:∀n∈l,Spec Tryz.prog F (a ++ [yhx n]++b) [] (B (p n)) []) (ha:∀h,cvL [] h a=a) (hb:∀h,cvL [] h b=b) :
 Spec Tryz.prog 54 [.c (.sl 4 (l.map zsa)),.clo (.func F) a b] [] (B (l.any p)) []:=by
 refine spB Tryz.func54 9 [.tmp 4] Tryz.results54 ?_
 simp(etaStruct := .none)only[push_cast,zab,seval]
 refine zdt (yey F a b l p hl hp ha hb) (by simp only[ha,hb,cvL,cv];exact WkL.refl _) ?_
 simp(etaStruct := .none)only[push_cast,zab,seval]
 exact zb0 rfl trivial (Wk.of (by rw[zfm];rfl))
theorem z8r (n:Int) (x:Stp):Spec Tryz.prog 55 ([] ++ [yhx x] ++ [.fel 1 [[pI n]] 0 0]) [] (B (z34 n x)) []:=by
 refine spB Tryz.func55 33 [.tmp 3] Tryz.results55 ?_
 try refine xst ?_
 (first|(refine zau rfl (Wk.of ?_);(try simp(etaStruct := .none)only[push_cast,zab,seval]);first|done|(simp[z34, *];done)|(simp_all[z34];done))|(refine zau rfl ?_;(try simp(etaStruct := .none)only[push_cast,zab,seval]);(try simp[z34, *]);(try exact wkc)))
abbrev yeb:AV := .agg [.c (.v (.slice none 0 0)),.c (.v (.slice none 0 0))]
def rnP (k:Nat) (r:Rn):List PV := [pI k,.v (.int .u32 r.prom),.sl 3 (zkm r),pB r.asked,pI r.value,.v (.int .u32 r.acc)]
abbrev ykv (c:Cn):AV := .agg [.c (.sl 3 (c.vows.map vwP)),.c (.sl 6 ((zbg c.told).map fun k=>rnP k (c.all k)))]
theorem yan (n:Int) (l:List Stp) (h:¬(1≤n∧n≤15)):Spec Tryz.prog 16 [I .i64 n,.c (.sl 4 (l.map zsa))] [] (.tup [yeb,I .i64 1]) []:=by
 refine spB Tryz.func16 39 [.cell 4 72,.tmp 5] Tryz.results16 ?_
 try refine xst ?_
 refine cI (fun h1 => ?_) fun h1 => ?_
 ·try refine xst ?_
  exact xrz rfl
 ·omega
theorem yao (n:Int) (l:List Stp) (h:1≤n∧n≤15) (h5:500<l.length):Spec Tryz.prog 16 [I .i64 n,.c (.sl 4 (l.map zsa))] [] (.tup [yeb,I .i64 2]) []:=by
 refine spB Tryz.func16 39 [.cell 4 72,.tmp 5] Tryz.results16 ?_
 try refine xst ?_
 refine cI (fun h1 => ?_) fun h1 => ?_
 ·omega
 ·try refine xst ?_
  refine cI (fun h2 => ?_) fun h2 => ?_
  ·try refine xst ?_
   exact xrz rfl
  ·omega
theorem yap (n:Int) (l:List Stp) (h:1≤n∧n≤15) (h5:l.length≤500) (hb:l.any (z34 n)=true):Spec Tryz.prog 16 [I .i64 n,.c (.sl 4 (l.map zsa))] [] (.tup [yeb,I .i64 1]) []:=by
 have C:=zz4 55 [] [.fel 1 [[pI n]] 0 0] l (z34 n) (by omega) (fun x _=>z8r n x) (fun _=>rfl) (fun _=>rfl)
 rw[hb]at C
 refine spB Tryz.func16 39 [.cell 4 72,.tmp 5] Tryz.results16 ?_
 try refine xst ?_
 refine cI (fun h1 => ?_) fun h1 => ?_
 ·omega
 ·try refine xst ?_
  refine cI (fun h2 => ?_) fun h2 => ?_
  ·omega
  ·try refine xst ?_
   refine zcd (C) (WkL.refl _) rfl ?_
   try refine xst ?_
   refine cI (fun h3 => ?_) fun h3 => ?_
   ·try refine xst ?_
    exact xrz rfl
   ·exact absurd h3 (by decide)
theorem z8c (n:Nat) (h:n≤15):CnL (zc3 n):=⟨by simp[zc3];exact h,fun _ _=>rfl,fun _=>(by decide:(0:Nat)<4294967296),fun _=>(by decide:(0:Nat)<4294967296),fun _=>Nat.zero_le _⟩
theorem yfo {a i:Nat} (ha:a<4294967296) (hi:i<32):a ||| 2 ^ i<4294967296:=Nat.or_lt_two_pow (n:=32) ha (Nat.pow_lt_pow_right (by decide) hi)
theorem zuw (c:Cn) (x:Stp):(zet c x).vows.length=c.vows.length:=by
 unfold zet
 simp only
 repeat' split
 all_goals simp
theorem z8o {c:Cn} {x:Stp} {m:Nat} (L:CnL c) (hm:∀k,(c.all k).heard.length≤m) (hm9:m<1000) (hx:zk2 c.vows.length x):CnL (zet c x)∧∀k,((zet c x).all k).heard.length≤m+1:=by
 obtain⟨⟨k1,k3⟩,⟨w0,wn⟩,b1,b50⟩:=hx
 have hn:=L.n
 have hw:x.who.toNat<32:=by omega
 have key:∀f:Nat→Rn,(∀k,f k=c.all k∨(k=x.ballot.toNat∧(f k).prom<4294967296∧(f k).acc<4294967296∧(f k).heard.length≤m+1))→∀V:List Vw,V.length=c.vows.length→CnL ⟨V,f,fun k=>c.told k||decide (k=x.ballot.toNat)⟩∧∀k,(f k).heard.length≤m+1:=by
  intro f hf V hV
  have hh:∀k,(f k).heard.length≤m+1:=fun k=>by
   rcases hf k with e|⟨_,_,_,e⟩
   ·rw[e];have:=hm k;omega
   ·exact e
  refine⟨⟨by rw[hV];exact hn,fun k hk => ?_,fun k => ?_,fun k => ?_,fun k=>Nat.le_trans (hh k) (by omega)⟩,hh⟩
  ·simp only[Bool.or_eq_false_iff,decide_eq_false_iff_not]at hk
   rcases hf k with e|⟨e,_⟩
   ·exact e.trans (L.z k hk.1)
   ·exact absurd e hk.2
  ·rcases hf k with e|⟨_,e,_,_⟩
   ·show (f k).prom<_;rw[e];exact L.p k
   ·exact e
  ·rcases hf k with e|⟨_,_,e,_⟩
   ·show (f k).acc<_;rw[e];exact L.a k
   ·exact e
 have hb:=hm x.ballot.toNat
 have put:∀r:Rn,r.prom<4294967296→r.acc<4294967296→r.heard.length≤m+1→∀k,zlf c.all x.ballot.toNat r k=c.all k∨(k=x.ballot.toNat∧(zlf c.all x.ballot.toNat r k).prom<4294967296∧(zlf c.all x.ballot.toNat r k).acc<4294967296∧(zlf c.all x.ballot.toNat r k).heard.length≤m+1):=fun r h1 h2 h3 k=>by
  by_cases hk:k=x.ballot.toNat
  ·right
   subst hk
   rw[zec]
   exact⟨rfl,h1,h2,h3⟩
  ·left;exact zc6 _ _ hk
 unfold zet
 simp only
 split
 ·refine key _ (put _ ?_ ?_ ?_) _ (by simp)
  ·exact yfo (L.p _) hw
  ·exact L.a _
  ·show ((c.all x.ballot.toNat).heard ++ [zce c x.who.toNat]).length≤m+1
   rw[List.length_append];simp;exact hb
 ·split
  ·refine key _ (put _ ?_ ?_ ?_) _ rfl
   ·exact L.p _
   ·exact L.a _
   ·exact Nat.le_succ_of_le hb
  ·split
   ·refine key _ (put _ ?_ ?_ ?_) _ (by simp)
    ·exact L.p _
    ·exact yfo (L.a _) hw
    ·exact Nat.le_succ_of_le hb
   ·exact key _ (fun k => .inl rfl) _ rfl
theorem zz7 (c:Cn):∀l:List Stp,(zc0 c l).vows.length=c.vows.length:=fun l=>by
 unfold zc0
 induction l generalizing c with
 | nil=>rfl
 | cons x r ih=>rw[List.foldl_cons,ih,zuw]
theorem zuv:∀(l:List Stp) {c:Cn} {m:Nat},CnL c→(∀k,(c.all k).heard.length≤m)→m+l.length<1000→(∀x∈l,zk2 c.vows.length x)→CnL (zc0 c l)
 | [],_,_,L,_,_,_=>L
 | x::r,c,m,L,hm,h,hx=>by
  simp only[List.length_cons]at h
  obtain⟨a,b⟩:=z8o L hm (by omega) (hx x (by simp))
  exact zuv r a b (by omega) fun y hy=>by rw[zuw];exact hx y (by simp[hy])
theorem yab {n:Nat} (l:List Stp) (hn:n≤15) (h5:l.length≤500) (hb:∀x∈l,zk2 n x):CnL (zc0 (zc3 n) l) :=
 zuv (m:=0) l (z8c n hn) (fun _=>Nat.le_refl _) (by omega) fun x hx=>by
  have:(zc3 n).vows.length=n:=by simp[zc3]
  rw[this];exact hb x hx
theorem z4s (t:Nat→Bool) (f:Nat→Rn):unN 2 3 ((zbg t).map fun k=>rnU k (f k)) ((zbg t).map fun k=>zkm (f k))=(zbg t).map fun k=>rnP k (f k):=by
 unfold unN
 rw[List.zipWith_map,List.zipWith_self]
 rfl
theorem zux (n:Nat) (l:List Stp) (h:1≤n∧n≤15) (h5:l.length≤500) (hb:∀x∈l,zk2 n x):Spec Tryz.prog 16 [I .i64 n,.c (.sl 4 (l.map zsa))] [] (.tup [ykv (zc0 (zc3 n) l),I .i64 0]) []:=by
 have C:=zz4 55 [] [.fel 1 [[pI n]] 0 0] l (z34 n) (by omega) (fun x _=>z8r n x) (fun _=>rfl) (fun _=>rfl)
 have hany:l.any (z34 n)=false:=List.any_eq_false.2 fun x hx=>by rw[badS_iff.2 (hb x hx)];decide
 rw[hany]at C
 have zs1:zc0 (zc3 n) []=zc3 n:=rfl
 have zs2:(zc3 n).vows.map vwP=List.replicate n [pI 0,pI 0,pI 0]:=by
  unfold zc3
  simp only[List.map_replicate];rfl
 have zs3:zbg (zc3 n).told = []:=by
  unfold zbg zc3
  simp
 refine spB Tryz.func16 39 [.cell 4 72,.tmp 5] Tryz.results16 ?_
 try refine xst ?_
 refine cI (fun h1 => ?_) fun h1 => ?_
 ·omega
 ·try refine xst ?_
  refine cI (fun h2 => ?_) fun h2 => ?_
  ·omega
  ·try refine xst ?_
   refine zcd (C) (WkL.refl _) rfl ?_
   try refine xst ?_
   refine cI (fun h3 => ?_) fun h3 => ?_
   ·exact absurd h3 (by decide)
   ·try refine xst ?_
    refine zax (fun k:Nat=>⟨[(30,I .i64 k),(29,I .i64 l.length),(28,.c (.sl 4 (l.map zsa))),(6,.ptr 1 0 0),(4,.ptr 0 0 0)],[(0,.blk 72 [.c (.v (.slice none 0 0)),.c (.v (.slice none 0 0))]),(1,z0h (.own 2) (.own 3)),(2,z9u (zc0 (zc3 n) (l.take k))),(3,zze (zc0 (zc3 n) (l.take k)).told (zc0 (zc3 n) (l.take k)).all none)],4⟩) (fun k:Nat=>k≤l.length∧CnL (zc0 (zc3 n) (l.take k))∧∀j,((zc0 (zc3 n) (l.take k)).all j).heard.length≤k) (fun k:Nat=>l.length-k) (0) (⟨Nat.zero_le _,z8c n h.2,fun _=>Nat.le_refl _⟩) ((To.nilC 3 1 154 6 149 _ rfl rfl).trans ((To.nst 4 154 6 2 210 3 [] rfl (by decide) (by simp)).trans (To.mk [1,3,2,4] rfl rfl (by decide) ?_ ?_))) ?_
    ·simp(etaStruct := .none)only[push_cast,zab,seval,List.take_zero,List.set_cons_zero,List.set_cons_succ,zs1,zs2,zs3]
    ·simp(etaStruct := .none)only[push_cast,zab,seval]
    rintro k ⟨hk,L,hm⟩
    try refine xst ?_
    refine cI (fun h4 => ?_) fun h4 => ?_
    ·have hlt:k<l.length:=by omega
     have sn:=zsr (zc3 n) (l.take k) (l.getD k default)
     rw[←zao l k hlt]at sn
     have hvl:(zc0 (zc3 n) (l.take k)).vows.length=n:=by rw[zz7];simp[zc3]
     have hx:=hb _ (za0 l k hlt)
     rw[←hvl]at hx
     have ST:=yaf _ _ L hx
     have SL:=z8o L hm (by omega) hx
     rw[←sn]at ST SL
     try refine xz2 (gd hlt) zuu ?_
     refine caM [1,2,3] (ST) ?_
     try refine xz2 (gd hlt) zuu ?_
     refine⟨k+1,⟨by omega,SL.1,SL.2⟩,by omega,To.mk [0,1,2,5] rfl rfl (by decide) ?_ ?_⟩
     ·(try(refine xz2 (gd hlt) zuu ?_;try exact xtI))
     ·(try(refine xz2 (gd hlt) zuu ?_;try exact xtI))
    ·obtain rfl:k=l.length:=by omega
     rw[List.take_length]
     try refine xst ?_
     refine zf0 (To.frzN 3 _ _ _ _ _ _ _ rfl) (zb0 rfl (by repeat' (first|exact trivial|exact rfl|omega|refine⟨?_,?_⟩)) (Wk.tup ⟨Wk.agg ⟨Wk.of ?_,Wk.of ?_,trivial⟩,Wk.refl _,trivial⟩))
     ·rfl
     ·show AV.c (.sl 6 (unN 2 3 _ _))=_
      rw[z4s]
def zfu (c:Cn) (k:Nat):Bool:=(c.all k).asked&&decide (c.vows.length<2*pcK (c.all k).acc 32)
def zee (c:Cn) (l:List Nat):List Int:=(l.filter (zfu c)).map fun k=>(c.all k).value
theorem zr2 (c:Cn) (l:List Nat) (k:Nat):zee c (l ++ [k])=zee c l++if zfu c k then [(c.all k).value]else []:=by
 unfold zee
 rw[List.filter_append,List.map_append]
 congr 1
 rw[List.filter_cons]
 split<;>rfl
theorem zmd (c:Cn) (l:List Nat):(zee c l).length≤l.length:=by
 unfold zee;rw[List.length_map];exact List.length_filter_le _ _
theorem z0j (c:Cn) (L:CnL c):Spec Tryz.prog 18 [ykv c] [] (.c (.sl 1 ((zee c (zbg c.told)).map zac))) []:=by
 have hl:=zl0 c.told
 have hn:=L.n
 refine spB Tryz.func18 32 [.tmp 2] Tryz.results18 ?_
 (iterate 2((try simp(etaStruct := .none)only[push_cast,seval]);(try(refine xsu ?_;try exact xtI))))
 refine zax (fun k:Nat=>⟨[(9,I .i64 k),(8,I .i64 (zbg c.told).length),(7,.c (.sl 6 ((zbg c.told).map fun k=>rnP k (c.all k)))),(3,.own 1),(1,.ptr 0 0 0)],[(0,.blk 72 [.c (.sl 3 (c.vows.map vwP)),.c (.sl 6 ((zbg c.told).map fun k=>rnP k (c.all k)))]),(1,.row 3 1 ((zee c ((zbg c.told).take k)).map zac))],2⟩) (fun k:Nat=>k≤(zbg c.told).length) (fun k:Nat=>(zbg c.told).length-k) (0) (Nat.zero_le _) ((To.nil 3 3 1 rfl).trans (To.mk [0,1] rfl rfl (by decide) ?_ ?_)) ?_
 ·simp(etaStruct := .none)only[push_cast,zab,seval,List.take_zero,zee,List.filter_nil,List.map_nil]
 ·simp(etaStruct := .none)only[push_cast,zab,seval]
 rintro k hk
 (iterate 2((try simp(etaStruct := .none)only[push_cast,seval]);(try(refine xsu ?_;try exact xtI))))
 refine cI (fun h1 => ?_) fun h1 => ?_
 ·have hlt:k<(zbg c.told).length:=by omega
  have hgk:((zbg c.told).map fun k=>rnP k (c.all k)).getD k [] = [pI ((zbg c.told).getD k default:Nat),.v (.int .u32 (c.all ((zbg c.told).getD k default)).prom),.sl 3 (zkm (c.all ((zbg c.told).getD k default))),pB (c.all ((zbg c.told).getD k default)).asked,pI (c.all ((zbg c.told).getD k default)).value,.v (.int .u32 (c.all ((zbg c.told).getD k default)).acc)]:=zaa (fun k=>rnP k (c.all k)) _ _ hlt
  have hkl:k<((zbg c.told).map fun k=>rnP k (c.all k)).length:=by rw[List.length_map];exact hlt
  have sn:=zr2 c ((zbg c.told).take k) ((zbg c.told).getD k default)
  rw[←zao _ k hlt]at sn
  have hcl:=zmd c ((zbg c.told).take k)
  have htl:((zbg c.told).take k).length≤k:=List.length_take_le _ _
  generalize (zbg c.told).getD k default=q at *
  have hA:=L.a q
  have hp32:=zqp (c.all q).acc 32
  (iterate 2((try simp(etaStruct := .none)only[push_cast,seval,hgk,List.length_map]);(try(refine xsu ?_;try exact xtI))))
  refine zaz [some 13,some 14,some 15,some 16,some 17,some 18,some 19,some 20,some 21,some 22,some 23,some 24] rfl ?_
  intro Oq lq Rq hlq hdq hRq
  subst hlq
  iterate 5(refine zar fun rq hrq => ?_;(iterate 2((try simp(etaStruct := .none)only[push_cast,seval,hdq,id,hgk,List.length_map]);(try(refine xsu ?_;try exact xtI))));subst hrq)
  refine zar fun rq hrq => ?_
  (iterate 2((try simp(etaStruct := .none)only[push_cast,seval,hdq,id,hgk,List.length_map]);(try(refine xsu ?_;try exact xtI))))
  refine gcP (fun hcc=>ydf (c.all q).acc hA) ?_
  (iterate 2((try simp(etaStruct := .none)only[push_cast,seval,hdq,id,hgk,List.length_map]);(try(refine xsu ?_;try exact xtI))))
  subst hrq
  iterate 6(refine zar fun rq hrq => ?_;(iterate 2((try simp(etaStruct := .none)only[push_cast,seval,hdq,id,hgk,List.length_map]);(try(refine xsu ?_;try exact xtI))));subst hrq)
  refine zht ?_
  subst hRq
  clear hdq Oq
  refine zhs (by kernel_rfl) ?_
  (iterate 2((try simp(etaStruct := .none)only[push_cast,seval,hgk,List.length_map]);(try(refine xsu ?_;try exact xtI))))
  refine cI (fun h2 => ?_) fun h2 => ?_
  ·have hc:zfu c q=true:=by
    unfold zfu
    simp only[Bool.and_eq_true,decide_eq_true_eq]
    exact⟨h2.1,by omega⟩
   rw[if_pos hc]at sn
   (iterate 2((try simp(etaStruct := .none)only[push_cast,seval,hgk,List.length_map]);(try(refine xsu ?_;try exact xtI))))
   refine⟨k+1,by omega,by omega,To.mk [0,52] rfl rfl (by decide) ?_ ?_⟩
   ·(iterate 2((try simp(etaStruct := .none)only[push_cast,zab,seval,sn,List.map_append,List.map_cons,List.map_nil,zac]);(try(refine xsu ?_;try exact xtI))))
   ·(iterate 2((try simp(etaStruct := .none)only[push_cast,seval,hgk,List.length_map]);(try(refine xsu ?_;try exact xtI))))
  ·have hc:¬zfu c q=true:=by
    unfold zfu
    simp only[Bool.and_eq_true,decide_eq_true_eq]
    rintro⟨a1,a2⟩
    rw[a1]at h2
    first|(rcases h2 with h2|h2<;>first|exact absurd h2 (by decide)|omega)|(simp at h2;omega)
   rw[if_neg hc,List.append_nil]at sn
   (iterate 2((try simp(etaStruct := .none)only[push_cast,seval,hgk,List.length_map]);(try(refine xsu ?_;try exact xtI))))
   refine⟨k+1,by omega,by omega,To.mk [0,1] rfl rfl (by decide) ?_ ?_⟩
   ·(try(refine xz1 sn ?_;try exact xtI))
   ·(iterate 2((try simp(etaStruct := .none)only[push_cast,seval,hgk,List.length_map]);(try(refine xsu ?_;try exact xtI))))
 ·obtain rfl:k=(zbg c.told).length:=by omega
  (iterate 2((try simp(etaStruct := .none)only[push_cast,seval,List.take_length]);(try(refine xsu ?_;try exact xtI))))
  exact xrz rfl
end Go.Proofs.YtmjbgbmegbkmhaaGreat
namespace Go.Proofs.YtmjbgbmegbkmhaaGreat
set_option linter.all false
open Go.RowKit
set_option maxRecDepth 100000
set_option maxHeartbeats 2000000
def z61 (v:Int) (n:Nat):Nat:=if v<0 then 0 else v.toNat % n
theorem ycq {v:Int} {n:Nat} (h:0<n):z61 v n<n:=by
 unfold z61
 split
 ·exact h
 ·exact Nat.mod_lt _ h
theorem zy5 {n:Nat} {c:Cn} (P:Pax n c):∃v0,∀a∈zee c (zbg c.told),a=v0:=by
 unfold zee
 cases hl:(zbg c.told).filter (zfu c)with
 | nil=>exact⟨0,fun a ha=>by simp at ha⟩
 | cons k r =>
  refine⟨(c.all k).value,fun a ha => ?_⟩
  obtain⟨j,hj,rfl⟩:=List.mem_map.1 ha
  have hk:k∈(zbg c.told).filter (zfu c):=by rw[hl];simp
  rw[←hl]at hj
  have q1:=(List.mem_filter.1 hj).2
  have q2:=(List.mem_filter.1 hk).2
  unfold zfu at q1 q2
  rw[Bool.and_eq_true,decide_eq_true_eq,P.len]at q1 q2
  exact ybc P q1.1 q2.1 q1.2 q2.2
theorem zqb (w:Wld) (hl:zfw w):Spec Tryz.prog 15 [zcy w,zcy w] [] (B true) []:=by
 have:=zsx w w hl hl
 rwa [decide_eq_true rfl]at this
theorem zjw {WR:Cel→List Int} : ∀(l:List ByteArray) {w:Wld},(∀a,zas w.f [a] (WR a))→Right w→Right (zdb WR l w)
 | [],_,_,h=>h
 | s::r,w,hWR,h=>by
  unfold zdb
  split
  ·exact h
  ·rename_i hc
   rw[not_or,Decidable.not_not,Decidable.not_not]at hc
   exact zjw r (by intro a;rw[znv];exact hWR a) (zgo h hWR _ (zkc hc.2).2)
theorem zpu (w:Wld) (m:Nat) (xs:List Stp) (ts:List (List Ord)) (WR:Cel→List Int) (hWR:∀a,zas w.f [a] (WR a)) (hl:zfw w) (hw:zal w=0) (hm:1≤m∧m≤15) (hx:xs.length≤500) (hb:∀x∈xs,zk2 m x) (ht:0<ts.length) (htl:ts.length≤9223372036854775807) (hto:∀t∈ts,t.length≤9223372036854775807):Spec Tryz.prog 5 [zcy w,I .i64 m,.c (.sl 4 (xs.map zsa)),.c (.sl 1 (ts.map zcm))] [] (B true) []:=by
 have PL:=zux m xs hm hx hb
 have P:=zqq xs (z5u m) hb
 have L:=yab xs hm.2 hx hb
 generalize zc0 (zc3 m) xs=C at *
 have TC:=zdf w hl
 rw[hw]at TC
 have CH:=z0j C L
 obtain⟨v0,hv0⟩:=zy5 P
 have hVl:=Nat.le_trans (zmd C (zbg C.told)) (zl0 C.told)
 generalize zee C (zbg C.told)=V at *
 have hit:=ycq (v:=v0) ht
 have htr:(ts.map zcm).getD (z61 v0 ts.length) [] = [.sl 6 ((ts.getD (z61 v0 ts.length) default).map zdv)]:=zaa zcm ts _ hit
 have hol:=hto _ (za0 ts _ hit)
 generalize ts.getD (z61 v0 ts.length) default=tr at *
 have OW:=zvl tr hol
 have hR:=zdg hw
 have FO:(zd9 tr).2=0→Spec Tryz.prog 20 [zcy w,.c (.sl 1 ([(zd9 tr).1].map yd4))] [] (.tup [zcy (zdb WR [(zd9 tr).1] w),I .i64 (zdc WR [(zd9 tr).1] w),I .i64 0]) []:=fun h0=>by
  unfold zd9 at h0 ⊢
  split at h0
  ·rename_i x;exact absurd h0 x
  ·rename_i x
   rw[if_neg x]
   refine zwr w [zci tr] WR hWR hR (by simp) fun s hs => ?_
   rw[List.mem_singleton.1 hs]
   have:=zhb tr (zff (Decidable.not_not.1 x)).1
   omega
 generalize zd9 tr=WV at *
 obtain⟨T,we⟩:=WV
 simp only at OW FO
 have hkl:=zng WR [T] w
 have hXR:=zjw [T] hWR hR
 simp only[List.length_cons,List.length_nil]at hkl
 generalize zdc WR [T] w=K at *
 generalize zdb WR [T] w=X at *
 have SW:=zqb X hXR.l
 have hrep:=fun k:Nat=>List.replicate_succ' (n:=k) (a:=zzl X)
 have hre2:∀k j:Nat,j<k→(List.replicate k (zzl X)).getD j []=zzl X:=fun k j hj=>by
  rw[List.getD_eq_getElem?_getD,List.getElem?_replicate,if_pos hj];rfl
 clear hWR P hto
 refine spB Tryz.func5 98 [.tmp 8] Tryz.results5 ?_
 (iterate 2((try simp(etaStruct := .none)only[push_cast,seval]);(try(refine xsu ?_;try exact xtI))))
 refine caP (PL) ?_
 (iterate 2((try simp(etaStruct := .none)only[push_cast,seval]);(try(refine xsu ?_;try exact xtI))))
 refine caP (ztl) ?_
 (iterate 2((try simp(etaStruct := .none)only[push_cast,seval]);(try(refine xsu ?_;try exact xtI))))
 refine gcP (fun hcc=>TC) ?_
 (iterate 2((try simp(etaStruct := .none)only[push_cast,seval]);(try(refine xsu ?_;try exact xtI))))
 refine cI (fun h1 => ?_) fun h1 => ?_
 ·omega
 ·(iterate 2((try simp(etaStruct := .none)only[push_cast,seval]);(try(refine xsu ?_;try exact xtI))))
  refine caP (CH) ?_
  (iterate 2((try simp(etaStruct := .none)only[push_cast,seval]);(try(refine xsu ?_;try exact xtI))))
  refine zax (fun k:Nat=>⟨[(47,I .i64 k),(46,I .i64 V.length),(45,.c (.sl 1 (V.map zac))),(11,.own 1),(4,.ptr 0 0 0),(3,.c (.sl 1 (ts.map zcm)))],[(0,.blk 28 (znt w)),(1,.row 28 9 (List.replicate k (zzl X)))],2⟩) (fun k:Nat=>k≤V.length) (fun k:Nat=>V.length-k) (0) (Nat.zero_le _) ((To.nil 11 28 9 rfl).trans (To.mk [0,2] rfl rfl (by decide) ?_ ?_)) ?_
  ·simp(etaStruct := .none)only[push_cast,zab,seval]
  ·simp(etaStruct := .none)only[push_cast,zab,seval]
  rintro k hk
  (iterate 2((try simp(etaStruct := .none)only[push_cast,seval]);(try(refine xsu ?_;try exact xtI))))
  refine cI (fun h2 => ?_) fun h2 => ?_
  ·have hlt:k<V.length:=by omega
   have hv:=hv0 _ (za0 V k hlt)
   (iterate 2((try simp(etaStruct := .none)only[push_cast,seval,zaa _ _ _ hlt,zac,hv]);(try(refine xsu ?_;try exact xtI))))
   refine cI (fun h3 => ?_) fun h3 => ?_
   ·have e:(0:Int) % (ts.length:Int)=((z61 v0 ts.length:Nat):Int):=by unfold z61;rw[if_pos h3];simp
    (iterate 2((try simp(etaStruct := .none)only[push_cast,seval,zaa _ _ _ hlt,zac,hv,e,Int.toNat_natCast,htr]);(try(refine xsu ?_;try exact xtI))))
    refine caP (OW) ?_
    (iterate 2((try simp(etaStruct := .none)only[push_cast,seval,zaa _ _ _ hlt,zac,hv,e,Int.toNat_natCast,htr]);(try(refine xsu ?_;try exact xtI))))
    refine cI (fun h4 => ?_) fun h4 => ?_
    ·(iterate 2((try simp(etaStruct := .none)only[push_cast,seval,zaa _ _ _ hlt,zac,hv,e,Int.toNat_natCast,htr]);(try(refine xsu ?_;try exact xtI))))
     exact xrz rfl
    ·(iterate 2((try simp(etaStruct := .none)only[push_cast,seval,zaa _ _ _ hlt,zac,hv,e,Int.toNat_natCast,htr]);(try(refine xsu ?_;try exact xtI))))
     refine zfv [2] (Spec.hand 0 (FO h4) (Nat.zero_le _) rfl (by exact WkL.refl _) rfl) (WkL.refl _) rfl (by decide) (by simp[zbn]) ?_
     (iterate 2((try simp(etaStruct := .none)only[push_cast,seval,zaa _ _ _ hlt,zac,hv,e,Int.toNat_natCast,htr]);(try(refine xsu ?_;try exact xtI))))
     refine cI (fun h5 => ?_) fun h5 => ?_
     ·omega
     ·(iterate 2((try simp(etaStruct := .none)only[push_cast,seval,zaa _ _ _ hlt,zac,hv,e,Int.toNat_natCast,htr]);(try(refine xsu ?_;try exact xtI))))
      refine⟨k+1,by omega,by omega,To.mk [0,5] rfl rfl (by decide) ?_ ?_⟩
      ·(try(refine xz1 hrep ?_;try exact xtI))
      ·(iterate 2((try simp(etaStruct := .none)only[push_cast,seval,zaa _ _ _ hlt,zac,hv,e,Int.toNat_natCast,htr]);(try(refine xsu ?_;try exact xtI))))
   ·have e:v0 % (ts.length:Int)=((z61 v0 ts.length:Nat):Int):=by
     unfold z61
     rw[if_neg (by omega)]
     conv=>lhs;rw[show v0=((v0.toNat:Nat):Int)by omega]
     exact(Int.natCast_emod _ _).symm
    (iterate 2((try simp(etaStruct := .none)only[push_cast,seval,zaa _ _ _ hlt,zac,hv,e,Int.toNat_natCast,htr]);(try(refine xsu ?_;try exact xtI))))
    refine caP (OW) ?_
    (iterate 2((try simp(etaStruct := .none)only[push_cast,seval,zaa _ _ _ hlt,zac,hv,e,Int.toNat_natCast,htr]);(try(refine xsu ?_;try exact xtI))))
    refine cI (fun h6 => ?_) fun h6 => ?_
    ·(iterate 2((try simp(etaStruct := .none)only[push_cast,seval,zaa _ _ _ hlt,zac,hv,e,Int.toNat_natCast,htr]);(try(refine xsu ?_;try exact xtI))))
     exact xrz rfl
    ·(iterate 2((try simp(etaStruct := .none)only[push_cast,seval,zaa _ _ _ hlt,zac,hv,e,Int.toNat_natCast,htr]);(try(refine xsu ?_;try exact xtI))))
     refine zfv [2] (Spec.hand 0 (FO h6) (Nat.zero_le _) rfl (by exact WkL.refl _) rfl) (WkL.refl _) rfl (by decide) (by simp[zbn]) ?_
     (iterate 2((try simp(etaStruct := .none)only[push_cast,seval,zaa _ _ _ hlt,zac,hv,e,Int.toNat_natCast,htr]);(try(refine xsu ?_;try exact xtI))))
     refine cI (fun h7 => ?_) fun h7 => ?_
     ·omega
     ·(iterate 2((try simp(etaStruct := .none)only[push_cast,seval,zaa _ _ _ hlt,zac,hv,e,Int.toNat_natCast,htr]);(try(refine xsu ?_;try exact xtI))))
      refine⟨k+1,by omega,by omega,To.mk [0,5] rfl rfl (by decide) ?_ ?_⟩
      ·(try(refine xz1 hrep ?_;try exact xtI))
      ·(iterate 2((try simp(etaStruct := .none)only[push_cast,seval,zaa _ _ _ hlt,zac,hv,e,Int.toNat_natCast,htr]);(try(refine xsu ?_;try exact xtI))))
  ·obtain rfl:k=V.length:=by omega
   (iterate 2((try simp(etaStruct := .none)only[push_cast,seval]);(try(refine xsu ?_;try exact xtI))))
   refine zax (fun k:Nat=>⟨[(87,I .i64 k),(86,I .i64 V.length),(85,.own 0),(11,.own 0)],[(0,.row 28 9 (List.replicate V.length (zzl X)))],1⟩) (fun k:Nat=>k≤V.length) (fun k:Nat=>V.length-k) (0) (Nat.zero_le _) (To.mk [1] rfl rfl (by decide) ?_ ?_) ?_
   ·simp(etaStruct := .none)only[push_cast,zab,seval,List.length_replicate]
   ·simp(etaStruct := .none)only[push_cast,zab,seval,List.length_replicate]
   rintro k hk2
   (iterate 2((try simp(etaStruct := .none)only[push_cast,seval]);(try(refine xsu ?_;try exact xtI))))
   refine cI (fun h8 => ?_) fun h8 => ?_
   ·have hlt:k<V.length:=by omega
    have r1:=hre2 V.length k hlt
    have r2:=hre2 V.length 0 (by omega)
    (iterate 2((try simp(etaStruct := .none)only[push_cast,seval,r1,r2,List.length_replicate]);(try(refine xsu ?_;try exact xtI))))
    refine zaz [some 91,some 92,some 93,some 94,some 95,some 96] rfl ?_
    intro Oq lq Rq hlq hdq hRq
    subst hlq
    iterate 4(refine zar fun rq hrq => ?_;(iterate 2((try simp(etaStruct := .none)only[push_cast,seval,hdq,id,r1,r2,List.length_replicate]);(try(refine xsu ?_;try exact xtI))));subst hrq)
    refine zar fun rq hrq => ?_
    (iterate 2((try simp(etaStruct := .none)only[push_cast,seval,hdq,id,r1,r2,List.length_replicate]);(try(refine xsu ?_;try exact xtI))))
    refine caP (SW) ?_
    (iterate 2((try simp(etaStruct := .none)only[push_cast,seval,hdq,id,r1,r2,List.length_replicate]);(try(refine xsu ?_;try exact xtI))))
    subst hrq
    iterate 1(refine zar fun rq hrq => ?_;(iterate 2((try simp(etaStruct := .none)only[push_cast,seval,hdq,id,r1,r2,List.length_replicate]);(try(refine xsu ?_;try exact xtI))));subst hrq)
    refine zht ?_
    subst hRq
    clear hdq Oq
    refine zhs (by kernel_rfl) ?_
    (iterate 2((try simp(etaStruct := .none)only[push_cast,seval,r1,r2,List.length_replicate]);(try(refine xsu ?_;try exact xtI))))
    refine cI (fun h9 => ?_) fun h9 => ?_
    ·exact absurd h9 (by decide)
    ·(iterate 2((try simp(etaStruct := .none)only[push_cast,seval,r1,r2,List.length_replicate]);(try(refine xsu ?_;try exact xtI))))
     refine⟨k+1,by omega,by omega,To.mk [0] rfl rfl (by decide) ?_ ?_⟩
     ·(iterate 2((try simp(etaStruct := .none)only[push_cast,seval,r1,r2,List.length_replicate]);(try(refine xsu ?_;try exact xtI))))
     ·(iterate 2((try simp(etaStruct := .none)only[push_cast,seval,r1,r2,List.length_replicate]);(try(refine xsu ?_;try exact xtI))))
   ·(iterate 2((try simp(etaStruct := .none)only[push_cast,seval]);(try(refine xsu ?_;try exact xtI))))
    exact xrz rfl
theorem zeh (w:Wld) (m:Int) (xs:List Stp) (ts:List (List Ord)) (hl:zfw w) (e:Int) (A:AV) (PL:∃p q,A = .agg [.c p,.c q]∧Spec Tryz.prog 16 [I .i64 m,.c (.sl 4 (xs.map zsa))] [] (.tup [A,I .i64 e]) []) (h:¬(e=0∧0<ts.length∧zal w=0)):Spec Tryz.prog 5 [zcy w,I .i64 m,.c (.sl 4 (xs.map zsa)),.c (.sl 1 (ts.map zcm))] [] (B true) []:=by
 obtain⟨p,q,rfl,PL⟩:=PL
 have TC:=zdf w hl
 generalize zal w=we at *
 refine spB Tryz.func5 98 [.tmp 8] Tryz.results5 ?_
 (iterate 2((try simp(etaStruct := .none)only[push_cast,seval]);(try(refine xsu ?_;try exact xtI))))
 refine caP (PL) ?_
 (iterate 2((try simp(etaStruct := .none)only[push_cast,seval]);(try(refine xsu ?_;try exact xtI))))
 refine caP (ztl) ?_
 (iterate 2((try simp(etaStruct := .none)only[push_cast,seval]);(try(refine xsu ?_;try exact xtI))))
 refine gcP (fun hcc=>TC) ?_
 (iterate 2((try simp(etaStruct := .none)only[push_cast,seval]);(try(refine xsu ?_;try exact xtI))))
 refine cI (fun h1 => ?_) fun h1 => ?_
 ·(iterate 2((try simp(etaStruct := .none)only[push_cast,seval]);(try(refine xsu ?_;try exact xtI))))
  refine caP (ztl) ?_
  (iterate 2((try simp(etaStruct := .none)only[push_cast,seval]);(try(refine xsu ?_;try exact xtI))))
  exact xrz rfl
 ·omega
end Go.Proofs.YtmjbgbmegbkmhaaGreat
namespace Go.Proofs.YtmjbgbmegbkmhaaGreat
set_option linter.all false
open Go.RowKit Go.ChangeShapes Go.WideShapes Go.ChangeAt
def RelCs (w:World) (ps:List PV) (cs:List Value):Prop:=∀(j:Nat) p u,ps[j]? = some p→cs[j]? = some u→RelP w (· < w.heap.size) p u
theorem RelCs.nil {w:World} : RelCs w [] []:=fun j p u h=>by simp at h
theorem RelCs.cons {w:World} {p:PV} {u:Value} {ps:List PV} {cs:List Value} (h:RelP w (· < w.heap.size) p u) (h':RelCs w ps cs):RelCs w (p::ps) (u::cs):=by
 intro j q v h1 h2
 cases j with
 | zero=>simp at h1 h2;subst h1 h2;exact h
 | succ j=>exact h' j q v (by simpa using h1) (by simpa using h2)
theorem RelCs.append {w:World} : ∀ {ps qs:List PV} {cs ds:List Value},ps.length=cs.length→RelCs w ps cs→RelCs w qs ds→RelCs w (ps++qs) (cs++ds)
 | [],_,[],_,_,_,h=>h
 | [],_,_::_,_,hl,_,_=>by simp at hl
 | _::_,_,[],_,hl,_,_=>by simp at hl
 | p::ps,qs,c::cs,ds,hl,h,h'=>by
  refine RelCs.cons (h 0 p c rfl rfl) (RelCs.append (by simpa using hl) (fun j q v h1 h2=>h (j+1) q v (by simpa using h1) (by simpa using h2)) h')
def OpA (P:Program) (T sz:Nat) (w:World) {α : Type} (pv : α → List PV) (ok : α → Prop):Prop :=
 ∃(β : Type) (enc : β → List Value) (okb : β → Prop) (f : β → α),Opens P T sz w enc okb∧∀y,okb y→ok (f y)∧(pv (f y)).length=sz∧(enc y).length=sz∧RelCs w (pv (f y)) (enc y)
section
variable {P : Program} {T : Nat} {w : World}
theorem OpA.i64 (h:P.underlying T=some (.int .i64)):OpA P T 1 w zac ziv :=
 ⟨_,_,_,id,Opens.i64 h,fun y hy=>⟨hy,rfl,rfl,.cons (zql rfl) .nil⟩⟩
theorem OpA.u64 (h:P.underlying T=some (.int .u64)):OpA P T 1 w zmn (fun n=>n<18446744073709551616) :=
 ⟨_,_,_,id,Opens.u64 h,fun y hy=>⟨hy,rfl,rfl,.cons (zql rfl) .nil⟩⟩
def ylc (n:Nat):List PV := [.v (.int .u32 n)]
theorem OpA.u32 (h:P.underlying T=some (.int .u32)):OpA P T 1 w ylc (fun n=>n<4294967296) :=
 ⟨_,_,_,id,Opens.u32 h,fun y hy=>⟨hy,rfl,rfl,.cons (zql rfl) .nil⟩⟩
theorem OpA.bool (h:P.underlying T=some .bool):OpA P T 1 w zfb (fun _=>True) :=
 ⟨_,_,_,id,Opens.bool h,fun y hy=>⟨hy,rfl,rfl,.cons (zql rfl) .nil⟩⟩
theorem OpA.str (h:P.underlying T=some .string):OpA P T 1 w yd4 (fun s=>s.size≤140737488351232) :=
 ⟨_,_,_,id,Opens.str h,fun y hy=>⟨hy,rfl,rfl,.cons (zql rfl) .nil⟩⟩
theorem OpA.map {sz:Nat} {α β : Type} {pv : α → List PV} {ok : α → Prop} {pv' : β → List PV} {ok' : β → Prop} (h:OpA P T sz w pv ok) (f : α → β) (hf:∀x,pv' (f x)=pv x) (hok:∀x,ok x→ok' (f x)):OpA P T sz w pv' ok':=by
 obtain⟨γ,enc,okb,g,h1,h2⟩:=h
 exact⟨γ,enc,okb,fun y=>f (g y),h1,fun y hy=>by obtain⟨a,b,c,d⟩:=h2 y hy;exact⟨hok _ a,by rw[hf];exact b,c,by rw[hf];exact d⟩⟩
theorem OpA.slice {E sz bts:Nat} {α : Type} {pv : α → List PV} {ok : α → Prop} (hT:P.underlying T=some (.slice E)) (hc:P.cellsOf E=sz) (hsz:0<sz) (hby:P.bytesOf E=bts) (hE:OpA P E sz w pv ok) :
 OpA P T 1 w (fun xs:List α => [.sl sz (xs.map pv)]) (fun xs=>(∀x∈xs,ok x)∧xs.length*bts≤140737488351232∧xs.length≤9223372036854775807):=by
 obtain⟨γ,enc,okb,g,h1,h2⟩:=hE
 refine⟨_,_,_,fun s=>s.xs.map g,Opens.slice hT hc hsz hby h1,fun s hs=>⟨⟨?_,?_,?_⟩,rfl,rfl,?_⟩⟩
 ·intro x hx
  obtain⟨y,hy,rfl⟩:=List.mem_map.1 hx
  exact(h2 y (hs.each y hy).1).1
 ·have:=hs.reach
  have h3:s.xs.length*bts≤s.c*bts:=Nat.mul_le_mul_right _ hs.cap
  simp only[List.length_map];omega
 ·have h3:=hs.cap;have h4:=hs.max;unfold maxLen at h4;simp only[List.length_map];omega
 ·refine .cons ?_ .nil
  have:=yfg (pv:=fun y=>pv (g y)) hs fun y hy ho=>by
   obtain⟨_,a,b,d⟩:=h2 y ho
   exact⟨a,d⟩
  simpa[List.map_map,Function.comp_def]using this
def OpAF (P:Program) (w:World) (fs:List Field) (o sz:Nat) {α : Type} (pv : α → List PV) (ok : α → Prop):Prop :=
 ∃(β : Type) (enc : β → List Value) (okb : β → Prop) (f : β → α),OpensF P w fs o sz enc okb∧∀y,okb y→ok (f y)∧(pv (f y)).length=sz∧(enc y).length=sz∧RelCs w (pv (f y)) (enc y)
theorem OpAF.nil {o:Nat} : OpAF P w [] o 0 (fun _:Unit => []) (fun _=>True) :=
 ⟨_,_,_,id,OpensF.nil,fun y hy=>⟨trivial,rfl,rfl,.nil⟩⟩
theorem OpAF.cons {f:Field} {fs:List Field} {o n sz:Nat} {α β : Type} {pv : α → List PV} {ok : α → Prop} {pv' : β → List PV} {ok' : β → Prop}
 (ho:f.offset=o) (hn:P.cellsOf f.type=n) (h:OpA P f.type n w pv ok) (h':OpAF P w fs (o+n) sz pv' ok') :
 OpAF P w (f::fs) o (n+sz) (fun x : α × β => pv x.1++pv' x.2) (fun x=>ok x.1∧ok' x.2):=by
 obtain⟨γ,enc,okb,g,h1,h2⟩:=h
 obtain⟨γ',enc',okb',g',h1',h2'⟩:=h'
 refine⟨_,_,_,fun y=>(g y.1,g' y.2),OpensF.cons ho hn h1 h1',fun y hy => ?_⟩
 obtain⟨a,b,c,d⟩:=h2 y.1 hy.1
 obtain⟨a',b',c',d'⟩:=h2' y.2 hy.2
 exact⟨⟨a,a'⟩,by simp[b,b'],by simp[c,c'],.append (by rw[b,c]) d d'⟩
theorem OpA.struct {sz:Nat} {fs:Array Field} {α : Type} {pv : α → List PV} {ok : α → Prop} (hT:P.underlying T=some (.struct fs)) (hc:P.cellsOf T=sz) (h:OpAF P w fs.toList 0 sz pv ok):OpA P T sz w pv ok:=by
 obtain⟨γ,enc,okb,g,h1,h2⟩:=h
 exact⟨γ,enc,okb,g,Opens.struct hT hc h1,h2⟩
theorem OpA.arg {sz:Nat} {α : Type} {pv : α → List PV} {ok : α → Prop} (h:OpA P T sz w pv ok) {H:Type} {eH:TypeId × Value→H} {v:Value} {d:DataW H} {p:List MemPlace}
 (hT:DataW.Trod eH P w 0 (fun _=>true) true T v d p) {ts:List TypeId} {ds:List (DataW H)} (hz:(DataW.weightsEach P ts ds).all (· ≤ reachBytes)=true) (j:Nat) (h1:ts[j]? = some T) (h2:ds[j]? = some d):∃x : α,ok x∧(pv x).length=v.cells.toList.length∧RelCs w (pv x) v.cells.toList:=by
 obtain⟨γ,enc,okb,g,k1,k2⟩:=h
 obtain⟨y,hy,ho⟩:=Opens.arg k1 hT hz j h1 h2
 obtain⟨a,b,c,e⟩:=k2 y ho
 exact⟨g y,a,by rw[hy,b,c],by rw[hy];exact e⟩
theorem zs7 {p:PV} {v:Value} (hv:v.cells = #[v]) (hr:RelCs w [p] v.cells.toList):RelA (· < 0) w (· < w.heap.size) (fun _=>none) (.c p) v :=
 z8x (hr 0 p v rfl (by rw[hv];rfl))
theorem zm2 {U:Nat→Prop} {β : Nat→Option Bind} : ∀ {ps:List PV} {cs:List Value},ps.length=cs.length→RelCs w ps cs→RelL U w (· < w.heap.size) β (ps.map .c) cs
 | [],[],_,_=>zvc
 | [],_::_,h,_=>by simp at h
 | _::_,[],h,_=>by simp at h
 | p::ps,c::cs,h,hr=>by
  rw[List.map_cons]
  exact zga (z8x (hr 0 p c rfl rfl)) (zm2 (by simpa using h) fun j q v h1 h2=>hr (j+1) q v (by simpa using h1) (by simpa using h2))
theorem ya6 {ps:List PV} {v:Value} {cs:List Value} (hv:v = .agg cs.toArray) (hl:ps.length=v.cells.toList.length) (hr:RelCs w ps v.cells.toList):RelA (· < 0) w (· < w.heap.size) (fun _=>none) (.agg (ps.map .c)) v:=by
 subst hv
 have e:(Value.agg cs.toArray).cells.toList=cs:=rfl
 rw[e]at hl hr
 refine z5q (zm2 hl hr) fun x hx => ?_
 obtain⟨j,hj,rfl⟩:=List.getElem_of_mem hx
 exact(hr j ps[j] cs[j] (by simp) (by simp)).one
theorem zqw {base e:Nat} {v:Value} (ht:P.underlying T=some (.slice e)) (h:Value.okWide P w .any base T v):v.cells = #[v]:=by obtain⟨a,l,c,rfl⟩:=okWide_slice ht h;rfl
theorem ybu {base:Nat} {k:IntKind} {v:Value} (ht:P.underlying T=some (.int k)) (h:Value.okWide P w .any base T v):v.cells = #[v]:=by obtain⟨n,rfl⟩:=okWide_int ht h;rfl
end
end Go.Proofs.YtmjbgbmegbkmhaaGreat
