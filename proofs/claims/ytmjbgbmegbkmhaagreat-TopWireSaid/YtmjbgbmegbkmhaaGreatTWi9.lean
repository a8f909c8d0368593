/- Lemmas for the proof of topWire.proved. -/
import Derived.Test.YtmjbgbmegbkmhaaGreatTWi8
namespace Go.Proofs.YtmjbgbmegbkmhaaGreat
set_option linter.all false
open Go.RowKit
set_option maxRecDepth 100000
set_option maxHeartbeats 1000000
abbrev bsL (l:List UInt8):ByteArray:=⟨l.toArray⟩
theorem zhw (l:List UInt8) (a b:Nat):(bsL l).extract a b=bsL ((l.take b).drop a):=by
 apply ByteArray.ext
 rw[ByteArray.data_extract]
 show l.toArray.extract a b=((l.take b).drop a).toArray
 rw[List.extract_toArray,List.extract_eq_drop_take,List.drop_take]
theorem ydu (l k:List UInt8):bsL l++bsL k=bsL (l++k):=by
 apply ByteArray.ext
 rw[ByteArray.data_append]
 show l.toArray++k.toArray=(l++k).toArray
 rw[List.append_toArray]
theorem z44 (n:Nat) (h:n<128):(UInt8.ofNat n).toNat=n:=zbf _ (by omega)
theorem zna:∀(f n:Nat),n<128 ^ (f+1)→vals (zcd f n)=n
 | 0,n,h=>by
  have h:n<128:=by simpa using h
  simp only[zcd,vals,List.foldr_cons,List.foldr_nil,z44 n h];omega
 | f+1,n,h=>by
  rw[zcd]
  split
  ·rename_i hn
   simp only[vals,List.foldr_cons,List.foldr_nil,z44 n hn];omega
  ·have ih:=zna f (n/128) (by rw[Nat.pow_succ]at h;omega)
   have e:(UInt8.ofNat (128+n % 128)).toNat=128+n % 128:=zbf _ (by omega)
   show (UInt8.ofNat (128+n % 128)).toNat % 128+128*vals (zcd f (n/128))=n
   rw[e,ih];omega
theorem zq3:∀(f n:Nat) (r:List UInt8),n<128 ^ (f+1)→(zcd f n++r).findIdx? (fun b=>b<128)=some ((zcd f n).length-1)
 | 0,n,r,h=>by
  have h:n<128:=by simpa using h
  have e:(decide (UInt8.ofNat n<128))=true:=by rw[decide_eq_true_iff,UInt8.lt_iff_toNat_lt,z44 n h];exact h
  simp[zcd,List.findIdx?_cons,e]
 | f+1,n,r,h=>by
  rw[zcd]
  split
  ·rename_i hn
   have e:(decide (UInt8.ofNat n<128))=true:=by rw[decide_eq_true_iff,UInt8.lt_iff_toNat_lt,z44 n hn];exact hn
   simp[List.findIdx?_cons,e]
  ·have ih:=zq3 f (n/128) r (by rw[Nat.pow_succ]at h;omega)
   have e:(UInt8.ofNat (128+n % 128)).toNat=128+n % 128:=zbf _ (by omega)
   have e2:(decide (UInt8.ofNat (128+n % 128)<128))=false:=by
    rw[decide_eq_false_iff_not,UInt8.lt_iff_toNat_lt,e]
    show ¬128+n % 128<128
    omega
   have hl:=zig f (n/128)
   rw[List.cons_append,List.findIdx?_cons,e2,ih]
   simp only[Bool.false_eq_true,if_false,Option.map_some,List.length_cons]
   congr 1;omega
theorem zrz (n:Nat) (r:List UInt8) (h:n<18446744073709551616):zgy (bsL (zg7 n++r))=(n,bsL r,0):=by
 have hp:n<128 ^ (9+1):=Nat.lt_of_lt_of_le h (by decide)
 have hh:=zq3 9 n r hp
 have hv:=zna 9 n hp
 have hl:=zig 9 n
 have ht:(zcd 9 n++r).take (zcd 9 n).length=zcd 9 n:=List.take_left
 have hd:(zcd 9 n++r).drop (zcd 9 n).length=r:=List.drop_left
 have e1:(zcd 9 n).length-1+1=(zcd 9 n).length:=by omega
 show zgy (bsL (zcd 9 n++r))=_
 have hT:zmo (bsL (zcd 9 n++r)) (zcd 9 n).length=n:=by
  unfold zmo
  show vals ((zcd 9 n++r).take _) % _=n
  rw[ht,hv,Nat.mod_eq_of_lt h]
 rw[zwp (i:=(zcd 9 n).length-1) hh,e1,hT,if_pos]
 ·congr 2
  rw[show (bsL (zcd 9 n++r)).size=(zcd 9 n++r).length from by show (zcd 9 n++r).toArray.size=_;simp,zhw,List.take_length,hd]
 ·refine⟨by omega,?_⟩
  rw[zhw,ht,List.drop_zero];rfl
theorem z41 (n:Int):z42 (zgl n)=n:=by
 unfold z42 zgl
 split<;>split<;>omega
theorem zws:∀(xs out:List Int),(∀x∈xs,I64 x)→gaF xs.length (bsL (xs.flatMap paN)) out=(out++xs,0)
 | [],out,_=>by
  rw[List.length_nil,gaF,show bsL (List.flatMap paN [])=⟨#[]⟩from rfl,if_pos rfl,List.append_nil]
 | x::xs,out,h=>by
  have g:=zrz (zgl x) (xs.flatMap paN) (zwv x (h x (by simp)))
  have ih:=zws xs (out ++ [x]) (fun y hy=>h y (by simp[hy]))
  rw[List.length_cons,gaF,List.flatMap_cons]
  show (if (zgy (bsL (zg7 (zgl x)++xs.flatMap paN))).2.2=0 then _ else _)=_
  rw[show paN x=zg7 (zgl x)from rfl,g,if_pos rfl]
  simp only
  rw[z41,ih,List.append_assoc,List.singleton_append]
theorem z7j (xs:List Int) (hl:xs.length≤1000) (h:∀x∈xs,I64 x):gaR (bsL (paK xs xs.length))=(xs,0):=by
 have g:=zrz xs.length ((xs.take xs.length).flatMap paN) (by omega)
 unfold gaR
 rw[show paK xs xs.length=zg7 xs.length++(xs.take xs.length).flatMap paN from rfl,g,if_pos rfl]
 simp only
 rw[if_pos hl,List.take_length,zws xs [] h,List.nil_append]
theorem z1k (l:List UInt8):zc9 (zhj (bsL l))=(bsL l,0):=by
 have hs:=zm3 (bsL l)
 have hx:(zhj (bsL l)).extract 0 ((zhj (bsL l)).size-4)=bsL l:=by
  rw[hs,Nat.add_sub_cancel]
  have e:zhj (bsL l)=bsL (l++zlc (z75 0 l)):=ydu _ _
  have e2:(bsL l).size=l.length:=by show l.toArray.size=_;simp
  rw[e,e2,zhw,List.take_left,List.drop_zero]
 unfold zc9
 rw[if_neg (by omega),hx,if_pos rfl]
theorem zth {l:List Ord} (i:Nat) (h:i<l.length):z1g (zif (zdf l) 6 i)=l.getD i default:=by
 have hp:zif (zdf l) 6 i=zyl (l.getD i default):=by
  apply List.ext_getElem?
  intro j
  have hlen:(zif (zdf l) 6 i).length=6:=by
   have:=zff l
   unfold zif
   rw[List.length_take,List.length_drop];omega
  by_cases hj:j<6
  ·rw[←zvs l i j h hj]
   unfold zif
   rw[List.getElem?_take,if_pos hj,List.getElem?_drop]
   congr 1;omega
  ·rw[List.getElem?_eq_none (by omega),List.getElem?_eq_none (by simp[zyl];omega)]
 rw[hp];rfl
theorem zyf {α : Type} [Inhabited α] (l:List α):(List.range l.length).map (fun i=>l.getD i default)=l:=by
 apply List.ext_getElem
 ·simp
 ·intro i h1 h2
  simp at h1
  simp[h1]
theorem zq5 (l:List Ord):zhb (zdf l) l.length=l:=by
 have h:zhb (zdf l) l.length=(List.range l.length).map (fun i=>l.getD i default) :=
  List.map_congr_left fun i hi=>zth i (List.mem_range.1 hi)
 rw[h,zyf]
theorem zye (l:List Ord) (h:zdn l=0):zeo (zc6 l)=(l,0):=by
 obtain⟨h100,hok⟩:=zgu h
 have hn:=zff l
 have hg:=z7j (zdf l) (by omega) (zvt hok)
 rw[hn]at hg
 have ho:zc9 (zc6 l)=(bsL (paK (zdf l) (6*l.length)),0):=z1k _
 unfold zeo
 rw[ho]
 simp only
 rw[hg]
 simp only
 rw[hn,Nat.mul_mod_right,Nat.mul_div_cancel_left _ (by decide),zq5,h]
 rfl
def zf0 (WR:Cel→List Int):List ByteArray→Wld→Wld
 | [],w=>w
 | s::r,w=>if (zeo s).2≠0∨zb4 (zeo s).1 w≠0 then w else zf0 WR r (zfp WR w (zeo s).1)
def zf1 (WR:Cel→List Int):List ByteArray→Wld→Nat
 | [],_=>0
 | s::r,w=>if (zeo s).2≠0∨zb4 (zeo s).1 w≠0 then 0 else zf1 WR r (zfp WR w (zeo s).1)+1
theorem z7s (l:List ByteArray) (k:Nat) (h:k<l.length):l.drop k=l.getD k default::l.drop (k+1):=by
 rw[zag _ _ h];exact List.drop_eq_getElem_cons h
theorem zwu (w:Wld) (l:List ByteArray) (WR:Cel→List Int) (hWR:∀a,zat w.f [a] (WR a)) (hw:Right w) (hll:l.length≤200) (hs:∀s∈l,s.size≤140737488351232):Spec Tryz.prog 20 [zdi w,.c (.sl 1 (l.map zc4))] [] (.tup [zdi (zf0 WR l w),I .i64 (zf1 WR l w),I .i64 0]) []:=by
 have V:=zjv w [] WR hWR hw.l (fun _ h=>by simp at h)
 have v0:zdm WR [] w=0:=by unfold zdm;rw[if_neg (by simp),if_neg (fun hn=>hn hw.e)];rfl
 rw[v0,show zg4 WR [] w=w from if_pos v0]at V
 refine spB Tryz.func20 61 [.cell 4 28,.tmp 5,.tmp 6] Tryz.results20 ?_
 try refine xst ?_
 refine cI (fun h1 => ?_) fun h1 => ?_
 ·omega
 ·try refine xst ?_
  refine zem (V) (by exact⟨Wk.refl _,Wk.nil _,trivial⟩) ?_
  try refine xst ?_
  refine cI (fun h2 => ?_) fun h2 => ?_
  ·simp at h2
  ·try refine xst ?_
   refine za3 (fun x:Nat × Wld=>⟨[(31,I .i64 x.1),(30,I .i64 l.length),(29,.c (.sl 1 (l.map zc4))),(4,.ptr 1 0 0),(2,.ptr 0 0 0),(1,.c (.sl 1 (l.map zc4)))],[(0,.blk 28 (znz x.2)),(1,.blk 28 yet)],2⟩) (fun x:Nat × Wld=>x.1≤l.length∧Right x.2∧x.2.f=w.f∧zf0 WR l w=zf0 WR (l.drop x.1) x.2∧zf1 WR l w=x.1+zf1 WR (l.drop x.1) x.2) (fun x:Nat × Wld=>l.length-x.1) ((0,w)) (⟨Nat.zero_le _,hw,rfl,rfl,by simp⟩) (To.mk [0,1] rfl rfl (by decide) ?_ ?_) ?_
   ·simp(etaStruct := .none)only[push_cast,zab,seval]
   ·simp(etaStruct := .none)only[push_cast,zab,seval]
   rintro⟨k,y⟩ ⟨hk,hR,hf,hW,hK⟩
   simp only at hk hR hf hW hK
   try refine xst ?_
   refine cI (fun h3 => ?_) fun h3 => ?_
   ·have hlt:k<l.length:=by omega
    rw[z7s l k hlt]at hW hK
    have hsz:=hs (l.getD k default) (zbj _ _ hlt)
    generalize hsk:l.getD k default=s at *
    have RD:=yft s hsz
    have hrl:=z04 s
    have hWk:∀a,zat y.f [a] (WR a):=by intro a;rw[hf];exact hWR a
    have TT:=zst y (zeo s).1 WR hWk hR.l (by omega)
    rw[zf0]at hW
    rw[zf1]at hK
    try refine xz3 (gd hlt) hsk zh6 ?_
    refine caP (RD) ?_
    try refine xz3 (gd hlt) hsk zh6 ?_
    refine cI (fun h4 => ?_) fun h4 => ?_
    ·rw[if_pos (.inl h4)]at hW hK
     rw[hW,hK]
     clear hW hK hf hWk
     try refine xz3 (gd hlt) hsk zh6 ?_
     exact xrz rfl
    ·try refine xz3 (gd hlt) hsk zh6 ?_
     refine caP (TT) ?_
     try refine xz3 (gd hlt) hsk zh6 ?_
     refine cI (fun h5 => ?_) fun h5 => ?_
     ·rw[if_pos (.inr h5)]at hW hK
      rw[hW,hK]
      clear hW hK hf hWk
      try refine xz3 (gd hlt) hsk zh6 ?_
      exact xrz rfl
     ·have e0:zb4 (zeo s).1 y=0:=by simpa using h5
      have hTW:zp0 WR y (zeo s).1=zfp WR y (zeo s).1:=if_pos e0
      have hRT:=zi5 hR hWk (zeo s).1 (zn1 e0).2
      rw[if_neg (fun hn=>hn.elim (fun hh=>hh h4) fun hh=>hh e0)]at hW hK
      try refine xz3 (gd hlt) hsk zh6 ?_
      refine⟨(k+1,zp0 WR y (zeo s).1),⟨by simp only;omega,by rw[hTW];exact hRT,by rw[hTW,zss];exact hf,by rw[hTW];exact hW,by rw[hTW,hK];simp only;omega⟩,by simp only;omega,To.mk [0,1] rfl rfl (by decide) ?_ ?_⟩
      ·(try(refine xz3 (gd hlt) hsk zh6 ?_;try exact xtI))
      ·(try(refine xz3 (gd hlt) hsk zh6 ?_;try exact xtI))
   ·obtain rfl:k=l.length:=by omega
    rw[List.drop_length]at hW hK
    rw[show zf0 WR l w=y from hW,show zf1 WR l w=l.length from hK]
    clear hW hK hf
    try refine xst ?_
    exact xrz rfl
theorem zi0 {l:List Ord} {w:Wld} (h:zb4 l w=0):zdn l=0:=by
 unfold zb4 at h
 split at h
 ·rename_i x;exact absurd h x
 ·rename_i x
  exact(zfc (by simpa using x)).1
theorem zjk (WR:Cel→List Int):∀(ts:List (List Ord)) (w:Wld),zg5 WR ts w=0→zf0 WR (ts.map zc6) w=zfo WR ts w∧zf1 WR (ts.map zc6) w=ts.length
 | [],_,_=>⟨rfl,rfl⟩
 | o::r,w,h=>by
  rw[zg5]at h
  split at h
  ·rename_i x;exact absurd h x
  ·rename_i x
   have h0:zb4 o w=0:=Decidable.not_not.1 x
   obtain⟨a,b⟩:=zjk WR r _ h
   have hr:=zye o (zi0 h0)
   have hc:¬((zeo (zc6 o)).2≠0∨zb4 (zeo (zc6 o)).1 w≠0):=by
    rw[hr];simp[h0]
   rw[List.map_cons,zf0,zf1,if_neg hc,if_neg hc,hr]
   exact⟨a,by rw[show zfp WR w (o,(0:Int)).1=zfp WR w o from rfl,b,List.length_cons]⟩
def zfr (WR:Cel→List Int):List Clq→Hst × List ByteArray→Hst × List ByteArray
 | [],s=>s
 | c::r,s=>zfr WR r (if (doV WR s.1 c).2.2≠0 then s else ((doV WR s.1 c).1,if c.kind=2 then s.2 ++ [(doV WR s.1 c).2.1]else s.2))
structure Told (WR : Cel → List Int) (w : Wld) (s : Hst × List ByteArray) : Prop where
 o:HOk WR s.1
 w:s.1.sty.start=w
 t:s.2=s.1.sty.turns.map zc6
theorem ya3 {WR:Cel→List Int} {h:Hst} (h0:zh8 WR h=0):zf8 WR h.sty (zcy h)=0∧zdn (zcy h)=0∧zn8 WR h=zc6 (zcy h)∧(zj5 WR h).sty=⟨h.sty.start,h.sty.turns ++ [zcy h]⟩:=by
 have hm:zf8 WR h.sty (zcy h)=0:=by
  unfold zh8 at h0
  split at h0
  ·exact h0
  ·rename_i x;simpa using x
 obtain⟨m1,m2,m3,m4,m5⟩:=znd hm
 have ho:=zi0 m3
 refine⟨hm,ho,?_,?_⟩
 ·unfold zn8
  rw[if_neg (fun x=>x hm)]
  unfold zh0
  rw[if_neg (fun x=>x ho)]
 ·unfold zj5
  rw[if_neg (fun x=>x hm)]
  exact m4
theorem zw4 {WR:Cel→List Int} {h:Hst} {c:Clq} (h0:(doV WR h c).2.2=0):(c.kind=2∧zh8 WR h=0∧(doV WR h c).2.1=zc6 (zcy h)∧(doV WR h c).1.sty.turns=h.sty.turns ++ [zcy h])∨(c.kind≠2∧(doV WR h c).1.sty=h.sty):=by
 unfold doV at h0 ⊢
 split
 ·rename_i k
  rw[if_pos k]at h0
  refine .inr ⟨by omega,?_⟩
  split<;>rfl
 ·rename_i k1
  rw[if_neg k1]at h0
  split
  ·rename_i k
   rw[if_pos k]at h0
   by_cases hs:zh8 WR h=0
   ·rw[if_pos hs]
    obtain⟨a,b,c,d⟩:=ya3 hs
    exact .inl ⟨k,hs,c,by rw[d]⟩
   ·rw[if_neg hs]at h0;exact absurd h0 hs
  ·rename_i k2
   refine .inr ⟨k2,?_⟩
   split
   ·split
    ·unfold zue;split<;>rfl
    ·rfl
   ·rfl
theorem Told.step {WR:Cel→List Int} {w:Wld} {s:Hst × List ByteArray} (T:Told WR w s) (c:Clq):Told WR w (if (doV WR s.1 c).2.2≠0 then s else ((doV WR s.1 c).1,if c.kind=2 then s.2 ++ [(doV WR s.1 c).2.1]else s.2)):=by
 split
 ·exact T
 ·rename_i x
  have h0:(doV WR s.1 c).2.2=0:=Decidable.not_not.1 x
  obtain⟨a,b⟩:=T.o.step c
  refine⟨a,b.trans T.w,?_⟩
  simp only
  rcases zw4 h0 with ⟨k,_,e1,e2⟩|⟨k,e⟩
  ·rw[if_pos k,e1,e2,List.map_append,T.t];rfl
  ·rw[if_neg k,e,T.t]
theorem Told.play {WR:Cel→List Int} {w:Wld} : ∀(l:List Clq) {s:Hst × List ByteArray},Told WR w s→Told WR w (zfr WR l s)
 | [],_,T=>T
 | c::r,_,T=>by rw[zfr];exact Told.play r (T.step c)
theorem zm7 (WR:Cel→List Int) (c:Clq):∀(l:List Clq) (s:Hst × List ByteArray),zfr WR (l ++ [c]) s=(if (doV WR (zfr WR l s).1 c).2.2≠0 then zfr WR l s else ((doV WR (zfr WR l s).1 c).1,if c.kind=2 then (zfr WR l s).2 ++ [(doV WR (zfr WR l s).1 c).2.1]else (zfr WR l s).2))
 | [],s=>rfl
 | a::r,s=>by rw[List.cons_append,zfr,zm7 WR c r];rfl
theorem yk9 {b:Nat} {P:Nat→Prop} (hb:1≤b∧b≤8) (h:P 1∧P 2∧P 3∧P 4∧P 5∧P 6∧P 7∧P 8):P b:=by
 have h8:b=1∨b=2∨b=3∨b=4∨b=5∨b=6∨b=7∨b=8:=by omega
 obtain⟨p1,p2,p3,p4,p5,p6,p7,p8⟩:=h
 rcases h8 with rfl|rfl|rfl|rfl|rfl|rfl|rfl|rfl<;>assumption
theorem z1x {b:Nat} (hb:1≤b∧b≤8):za9 (List.replicate b ⟨[],0,false⟩)=0∧zba (2 ^ b-1) (List.replicate 16 0)=0∧(2 ^ b-1)/2 ^ b=0∧2 ^ b-1<4294967296∧∀i,i<b→zdb (2 ^ b-1) i=true:=by
 refine yk9 (P:=fun b=>za9 (List.replicate b ⟨[],0,false⟩)=0∧zba (2 ^ b-1) (List.replicate 16 0)=0∧(2 ^ b-1)/2 ^ b=0∧2 ^ b-1<4294967296∧∀i,i<b→zdb (2 ^ b-1) i=true) hb ?_
 refine⟨?_,?_,?_,?_,?_,?_,?_,?_⟩<;>refine⟨by kernel_rfl,by kernel_rfl,by decide,by decide,by decide⟩
theorem z1z {w:Wld} {n:Int} {WR:Cel→List Int} (hE:zrb w n=0):HOk WR (zsj w n)∧(zsj w n).sty=⟨w,[]⟩:=by
 have eH:zsj w n=⟨⟨w,[]⟩,List.replicate w.bases.length ⟨[],0,false⟩,2 ^ w.bases.length-1,List.replicate 16 0,n⟩:=if_pos hE
 unfold zrb at hE
 split at hE
 ·rename_i x;exact absurd hE x
 rename_i h1
 have hw:=zea (Decidable.not_not.1 h1)
 split at hE
 ·omega
 rename_i h2
 have hn:=hw.nb
 have hb:1≤w.bases.length∧w.bases.length≤8:=by omega
 obtain⟨n1,n2,n3,n4,n5⟩:=z1x hb
 refine⟨⟨?_,?_⟩,by rw[eH]⟩
 ·rw[eH]
  refine zo3 ?_ n1 n2 (by simp only;omega) (by simp) (by rw[List.length_replicate];exact n3) ?_
  ·show zdm WR [] w=0
   unfold zdm;rw[if_neg (by simp),if_neg (fun hn=>hn hw.e)];rfl
  ·intro i hi
   have hi:i<w.bases.length:=by simpa using hi
   unfold zg3
   simp only
   rw[List.getD_eq_getElem?_getD,List.getElem?_replicate,if_pos hi,n5 i hi];rfl
 ·have S:=ygb w n hw.l (by omega)
  refine⟨S.s,S.l,S.a,?_,S.g,?_⟩
  ·rw[eH];exact n4
  ·rw[eH]
   intro s hs
   rw[(List.mem_replicate.1 hs).2];decide
theorem z1y {w:Wld} {n:Int} {WR:Cel→List Int} (hE:zrb w n=0):Told WR w (zsj w n,[]):=by
 obtain⟨a,b⟩:=z1z (WR:=WR) hE
 exact⟨a,by rw[b],by rw[b];rfl⟩
theorem z2c {l:Lnk} {x:Evt} (hk:x.kind≠1):(zga l x).1.sent=l.sent:=by
 unfold zga
 rw[if_neg hk]
 repeat' split
 all_goals rfl
theorem yk2 {WR:Cel→List Int} {w:Wld} (hWR:∀a,zat w.f [a] (WR a)) {s:Hst × List ByteArray} (T:Told WR w s) {l:Lnk} (R:LnkR l) (hs:l.sent=s.2):zf0 WR l.got w=zfo WR (s.1.sty.turns.take l.got.length) w∧zf1 WR l.got w=l.got.length∧atE WR s.1.sty l.got.length=0∧atW WR s.1.sty l.got.length=zfo WR (s.1.sty.turns.take l.got.length) w∧Right (zfo WR (s.1.sty.turns.take l.got.length) w)∧Right w∧l.got.length≤200∧∀x∈l.got,x.size≤10000:=by
 obtain⟨e1,-⟩:=zko T.o.e
 have e1':zdm WR s.1.sty.turns s.1.sty.start=0:=e1
 rw[T.w]at e1'
 obtain⟨k1,k2,k3⟩:=zer e1'
 have hg:=R.g
 have hlen:l.sent.length=s.1.sty.turns.length:=by rw[hs,T.t,List.length_map]
 have hgot:l.got=(s.1.sty.turns.take l.got.length).map zc6:=by
  rw[List.map_take,←T.t,←hs];exact R.p
 have kt:=zqq l.got.length k3
 have hl:(s.1.sty.turns.take l.got.length).length=l.got.length:=by rw[List.length_take];omega
 obtain⟨f1,f2⟩:=zjk WR _ w kt
 rw[←hgot]at f1 f2
 have hE:atE WR s.1.sty l.got.length=0:=by
  unfold atE
  rw[if_neg (fun x=>x e1),if_neg (by omega)]
 refine⟨f1,by rw[f2,hl],hE,?_,zic _ k2 hWR kt,k2,by omega,fun x hx => ?_⟩
 ·unfold atW
  rw[if_pos hE,Int.toNat_natCast,T.w]
 ·rw[hgot]at hx
  obtain⟨o,ho,rfl⟩:=List.mem_map.1 hx
  exact zku o (zia _ k3 o (List.mem_of_mem_take ho))
end Go.Proofs.YtmjbgbmegbkmhaaGreat
namespace Go.Proofs.YtmjbgbmegbkmhaaGreat
set_option linter.all false
open Go.RowKit
set_option maxRecDepth 100000
set_option maxHeartbeats 2000000
def smallW:Wld:=⟨⟨3,1,[0,0,3]⟩,[⟨0,0⟩],[20],[0,0,9],[⟨1,0,1,⟨1,0⟩,10,0⟩],2,0⟩
theorem z0k:Spec Tryz.prog 29 [] [] (zdi smallW) []:=by
 refine spB Tryz.func29 11 [.cell 0 28] Tryz.results29 ?_
 try refine xst ?_
 exact xrz rfl
def zjc:Ord:=⟨0,3,1,⟨2,0⟩,0⟩
def yj6:Clq:=⟨1,zjc,0,0⟩
def z5k:Clq:=⟨2,default,0,0⟩
def zu5:Hst:=⟨⟨smallW,[]⟩,[⟨[],0,false⟩],1,List.replicate 16 0,5⟩
def zx2:Hst:=⟨⟨smallW,[]⟩,[⟨[zjc],0,false⟩],1,List.replicate 16 0,5⟩
def toldW:Wld:=⟨⟨3,1,[0,0,3]⟩,[⟨0,0⟩],[20],[0,0,8],[⟨1,0,1,⟨1,0⟩,10,1⟩],2,1⟩
theorem zu4:zaw smallW=0:=by kernel_rfl
theorem zqe:zrb smallW 5=0:=by kernel_rfl
theorem z0l:zsj smallW 5=zu5:=by kernel_rfl
theorem yfl (WR:Cel→List Int):doV WR zu5 yj6=(zx2,⟨#[]⟩,0):=by kernel_rfl
theorem yfk:zcy zx2 = [zjc]:=by kernel_rfl
theorem z88 (WR:Cel→List Int):zb4 [zjc] smallW=0:=by kernel_rfl
theorem ye6 (WR:Cel→List Int):zfp WR smallW [zjc]=toldW:=by kernel_rfl
theorem z5i:zf7 smallW:=(zea zu4).l
theorem z0m (WR:Cel→List Int):HOk WR zu5:=by
 have:=(z1z (WR:=WR) zqe).1
 rwa [z0l]at this
theorem zk2:toldW.troops.length=1:=rfl
theorem zk3:toldW.troops.map za2 = [[pI 1,pI 0,pI 1,pI 1,pI 0,pI 10,pI 1]]:=rfl
theorem ztq:Spec Tryz.prog 8 [] [] (B true) []:=by
 obtain⟨WR,hWR⟩:=yer smallW.f
 have N:=z2u smallW 5 WR hWR z5i
 rw[z0l,zqe]at N
 have H0:=z0m WR
 have D1:=ycy zu5 yj6 WR hWR H0.l H0.b H0.e
 have H1:=(H0.step yj6).1
 rw[yfl]at D1 H1
 have D2:=ycy zx2 z5k WR hWR H1.l H1.b H1.e
 have e2:(doV WR zx2 z5k).2.2=0:=by kernel_rfl
 have t2:(doV WR zx2 z5k).2.1=zc6 [zjc]:=by
  rcases zw4 e2 with ⟨_,_,a,_⟩|⟨a,_⟩
  ·rw[a,yfk]
  ·exact absurd rfl a
 have ho:=zi0 (z88 WR)
 have FW:=zwu smallW [zc6 [zjc]] WR hWR (zea zu4) (by decide) (fun s hs=>by
  rw[List.mem_singleton.1 hs]
  have:=zku [zjc] (by decide)
  omega)
 obtain⟨f1,f2⟩:=zjk WR [[zjc]] smallW (by unfold zg5;rw[if_neg (fun x=>x (z88 WR))];rfl)
 rw[show ([[zjc]]:List (List Ord)).map zc6 = [zc6 [zjc]]from rfl]at f1 f2
 rw[f1,f2,show zfo WR [[zjc]] smallW=toldW from ye6 WR]at FW
 generalize doV WR zx2 z5k=V at *
 obtain⟨h',t,e⟩:=V
 simp only at e2 t2
 subst e2 t2
 clear f1 f2 ho H0 H1
 generalize zc6 [zjc]=T at *
 refine spB Tryz.func8 72 [.tmp 0] Tryz.results8 ?_
 (iterate 2((try simp(etaStruct := .none)only[push_cast,seval,zk2,zk3,List.getD_cons_zero]);(try(refine xsu ?_;try exact xtI))))
 refine caP (z0k) ?_
 (iterate 2((try simp(etaStruct := .none)only[push_cast,seval,zk2,zk3,List.getD_cons_zero]);(try(refine xsu ?_;try exact xtI))))
 refine caP (N) ?_
 (iterate 2((try simp(etaStruct := .none)only[push_cast,seval,zk2,zk3,List.getD_cons_zero]);(try(refine xsu ?_;try exact xtI))))
 refine caP (D1) ?_
 (iterate 2((try simp(etaStruct := .none)only[push_cast,seval,zk2,zk3,List.getD_cons_zero]);(try(refine xsu ?_;try exact xtI))))
 refine caP (D2) ?_
 (iterate 2((try simp(etaStruct := .none)only[push_cast,seval,zk2,zk3,List.getD_cons_zero]);(try(refine xsu ?_;try exact xtI))))
 refine caP (z0k) ?_
 (iterate 2((try simp(etaStruct := .none)only[push_cast,seval,zk2,zk3,List.getD_cons_zero]);(try(refine xsu ?_;try exact xtI))))
 refine zcb [2] (Spec.hand 0 FW (Nat.zero_le _) rfl (by exact WkL.refl _) rfl) (WkL.refl _) rfl (by decide) (by simp[zay]) ?_
 (iterate 2((try simp(etaStruct := .none)only[push_cast,seval,zk2,zk3,List.getD_cons_zero]);(try(refine xsu ?_;try exact xtI))))
 exact xrz rfl
def zpv (c:Clq):List PV := [pI c.kind,pI c.o.by_,pI c.o.kind,pI c.o.who,pI c.o.c.x,pI c.o.c.y,pI c.o.what,pI c.by_,pI c.at_]
end Go.Proofs.YtmjbgbmegbkmhaaGreat
namespace Go.Proofs.YtmjbgbmegbkmhaaGreat
set_option linter.all false
open Go.RowKit
set_option maxRecDepth 100000
set_option maxHeartbeats 1000000
def zan (l:Lnk):AV := .agg [I .i64 l.window,.c (.sl 1 (l.sent.map zc4)),I .i64 l.base,I .i64 l.next,.c (.sl 1 (l.way.map zae)),.c (.sl 1 (l.acks.map zae)),.c (.sl 1 (l.got.map zc4)),.c (.sl 1 (l.held.map zae))]
def zai (x:Evt):AV := .agg [I .i64 x.kind,I .i64 x.at_,B x.keep,S x.text]
def zwz (x:Evt):List PV := [pI x.kind,pI x.at_,pB x.keep,.v (.string x.text)]
structure LnkL (l : Lnk) : Prop where
 s:l.sent.length≤8796093022207
 y:l.way.length≤17592186044415
 a:l.acks.length≤17592186044415
 g:l.got.length≤8796093022207
 h:l.held.length≤17592186044415
theorem zqa (l:List ByteArray) (hl:l.length≤8796093022207):Spec Tryz.prog 112 [.c (.sl 1 (l.map zc4))] [] (.own 0) [.row 9 1 (l.map zc4)]:=by
 refine spB Tryz.func112 8 [.tmp 2] Tryz.results112 ?_
 try refine xst ?_
 intro b hb
 try refine xst ?_
 refine za1 (fun h => ?_) (fun h => ?_)
 ·try refine xst ?_
  have e:=hb h
  refine zoe (To.nil 2 9 1 rfl) (zbc [0] rfl rfl (by decide) ⟨?_,trivial⟩ trivial ?_)
  ·simp(etaStruct := .none)only[push_cast,zab,seval,e]
  ·simp(etaStruct := .none)only[push_cast,zab,seval]
 ·try refine xst ?_
  refine zbc [1] rfl rfl (by decide) ⟨?_,trivial⟩ trivial ?_
  ·simp(etaStruct := .none)only[push_cast,zab,seval]
  ·simp(etaStruct := .none)only[push_cast,zab,seval]
theorem zc3 (l:List ByteArray) (hl:l.length≤8796093022207):Spec Tryz.prog 112 [.c (.sl 1 (l.map zc4))] [] (.c (.sl 1 (l.map zc4))) []:=by
 refine spB Tryz.func112 8 [.tmp 2] Tryz.results112 ?_
 try refine xst ?_
 intro b hb
 try refine xst ?_
 refine za1 (fun h => ?_) (fun h => ?_)
 ·try refine xst ?_
  exact zbr rfl trivial (by rw[hb h];exact Wk.nil _)
 ·try refine xst ?_
  exact zbr rfl trivial (Wk.refl _)
theorem ye9 (l m:List ByteArray) (hl:l.length≤9223372036854775807) (hm:m.length≤9223372036854775807):Spec Tryz.prog 114 [.c (.sl 1 (l.map zc4)),.c (.sl 1 (m.map zc4))] [] (B (decide (l=m))) []:=by
 refine spB Tryz.func114 26 [.tmp 4] Tryz.results114 ?_
 try refine xst ?_
 refine cI (fun h1 => ?_) fun h1 => ?_
 ·have e:l≠m:=by intro e;subst e;simp at h1
  try refine xst ?_
  exact zbr rfl trivial (Wk.of (by rw[decide_eq_false e];rfl))
 ·try refine xst ?_
  refine za3 (fun k:Nat=>⟨[(13,I .i64 k),(12,I .i64 l.length),(1,.c (.sl 1 (m.map zc4))),(0,.c (.sl 1 (l.map zc4)))],[],0⟩) (fun k:Nat=>k≤l.length∧∀j,j<k→l.getD j default=m.getD j default) (fun k:Nat=>l.length-k) (0) (⟨Nat.zero_le _,fun j h=>by omega⟩) (To.mk [] rfl rfl List.nodup_nil trivial ?_) ?_
  ·simp(etaStruct := .none)only[push_cast,zab,seval]
  rintro k ⟨hk,hn⟩
  try refine xst ?_
  refine cI (fun h2 => ?_) fun h2 => ?_
  ·have hlt:k<l.length:=by omega
   have hlt2:k<m.length:=by omega
   iterate 2(try simp(etaStruct := .none)only[push_cast,zab,seval,zaa _ _ _ hlt,zaa _ _ _ hlt2,zc4,decide_not];try refine xsu ?_)
   (try(refine⟨by kernel_rfl,?_⟩))
   iterate 2(try simp(etaStruct := .none)only[push_cast,zab,seval,zaa _ _ _ hlt,zaa _ _ _ hlt2,zc4,decide_not];try refine xsu ?_)
   refine cI (fun h3 => ?_) fun h3 => ?_
   ·have e:l≠m:=by intro e;subst e;simp at h3
    iterate 2(try simp(etaStruct := .none)only[push_cast,zab,seval,zaa _ _ _ hlt,zaa _ _ _ hlt2,zc4,decide_not];try refine xsu ?_)
    exact zbr rfl trivial (Wk.of (by rw[decide_eq_false e];rfl))
   ·iterate 2(try simp(etaStruct := .none)only[push_cast,zab,seval,zaa _ _ _ hlt,zaa _ _ _ hlt2,zc4,decide_not];try refine xsu ?_)
    refine⟨k+1,⟨by omega,fun j hj=>by rcases Nat.lt_or_ge j k with h|h;exact hn j h;rw[show j=k by omega];simpa using h3⟩,by omega,To.mk [] rfl rfl List.nodup_nil trivial ?_⟩
    ·(iterate 2((try simp(etaStruct := .none)only[push_cast,zab,seval,zaa _ _ _ hlt,zaa _ _ _ hlt2,zc4,decide_not]);(try(refine xsu ?_;try exact xtI))))
  ·have e:l=m:=by
    refine List.ext_getElem (by omega) fun i i1 i2 => ?_
    have:=hn i (by omega)
    rwa [zag _ _ i1,zag _ _ i2]at this
   try refine xst ?_
   exact zbr rfl trivial (Wk.of (by rw[decide_eq_true e];rfl))
theorem ycc (n:Int) (h:1≤n∧n≤16):Spec Tryz.prog 64 [I .i64 n] [] (.tup [zan ⟨n,[],0,0,[],[],[],[]⟩,I .i64 0]) []:=by
 refine spB Tryz.func64 13 [.cell 2 88,.tmp 3] Tryz.results64 ?_
 try refine xst ?_
 refine cI (fun h1 => ?_) fun h1 => ?_
 ·omega
 ·try refine xst ?_
  exact xrz rfl
theorem zik (n a b:Int):Spec Tryz.prog 113 [I .i64 n,I .i64 a,I .i64 b] [] (B (zaj n a b)) []:=by
 refine spB Tryz.func113 15 [.tmp 6] Tryz.results113 ?_
 try refine xst ?_
 (first|(refine zaz rfl (Wk.of ?_);(try simp(etaStruct := .none)only[push_cast,zab,seval]);first|done|(simp[zaj, *];done)|(simp_all[zaj];done))|(refine zaz rfl ?_;(try simp(etaStruct := .none)only[push_cast,zab,seval]);(try simp[zaj, *]);(try exact wkc)))
theorem yck (n a b:Int):Spec Tryz.prog 146 ([] ++ [I .i64 n] ++ [.fel 1 [[pI a]] 0 0,.fel 1 [[pI b]] 0 0]) [] (B (!zaj n a b)) []:=by
 refine spB Tryz.func146 10 [.tmp 4] Tryz.results146 ?_
 try refine xst ?_
 refine caP (zik n a b) ?_
 try refine xst ?_
 exact xrz rfl
theorem z65 (l:List Int) (a b:Int):(!l.any fun n => !zaj n a b)=l.all fun n=>zaj n a b:=by
 rw[Bool.eq_iff_iff];simp
theorem z2i (l:List Int) (a b:Int) (hl:l.length≤9223372036854775807):Spec Tryz.prog 115 [.c (.sl 1 (l.map zae)),I .i64 a,I .i64 b] [] (B (l.all fun n=>zaj n a b)) []:=by
 refine spB Tryz.func115 11 [.tmp 6] Tryz.results115 ?_
 try refine xst ?_
 refine zcw (z2o _ [] [.fel 1 [[pI a]] 0 0,.fel 1 [[pI b]] 0 0] l (fun n => !zaj n a b) (by omega) (fun n _=>yck n a b) (fun _=>rfl) (fun _=>rfl)) (WkL.refl _) rfl ?_
 try refine xst ?_
 exact zbr rfl trivial (Wk.of (congrArg B (z65 l a b)))
theorem zew (l:Lnk) (hl:LnkL l):Spec Tryz.prog 65 [zan l] [] (zan l) []:=by
 obtain⟨h1,h2,h3,h4,h5⟩:=hl
 refine spB Tryz.func65 24 [.cell 2 88] Tryz.results65 ?_
 iterate 2(try simp(etaStruct := .none)only[push_cast,zab,seval,zan];try refine xsu ?_)
 refine caP (zc3 l.sent h1) ?_
 iterate 2(try simp(etaStruct := .none)only[push_cast,zab,seval,zan];try refine xsu ?_)
 refine caP (zc3 l.got h4) ?_
 iterate 2(try simp(etaStruct := .none)only[push_cast,zab,seval,zan];try refine xsu ?_)
 (try(refine⟨by kernel_rfl,?_⟩))
 iterate 2(try simp(etaStruct := .none)only[push_cast,zab,seval,zan];try refine xsu ?_)
 refine caP (zbn l.way h2) ?_
 iterate 2(try simp(etaStruct := .none)only[push_cast,zab,seval,zan];try refine xsu ?_)
 refine caP (zbn l.acks h3) ?_
 iterate 2(try simp(etaStruct := .none)only[push_cast,zab,seval,zan];try refine xsu ?_)
 refine caP (zbn l.held h5) ?_
 iterate 2(try simp(etaStruct := .none)only[push_cast,zab,seval,zan];try refine xsu ?_)
 (try(refine⟨by kernel_rfl,?_⟩))
 iterate 2(try simp(etaStruct := .none)only[push_cast,zab,seval,zan];try refine xsu ?_)
 exact xrz rfl
def yek (l:Lnk):Bool :=
 decide (l.got.length≤l.sent.length)&&decide (l.got=l.sent.take l.got.length)&&zaj l.base 0 l.got.length&&decide (l.held.length≤l.sent.length) &&
 zaj l.next ((l.got.length:Int)+l.held.length) (min (l.base+l.window) l.sent.length) &&
 l.way.all (fun n=>zaj n 0 (l.next-1))&&l.acks.all (fun n=>zaj n 0 l.got.length)&&l.held.all (fun n=>zaj n ((l.got.length:Int)+1) (l.next-1))
theorem zni (l:Lnk):zox l=(yek l&&decide (l.held.Pairwise (· < ·))):=rfl
def upT (h:List Int) (k:Nat):Bool:=(List.range k).all fun j=>decide (j=0)||decide (h.getD (j-1) default<h.getD j default)
theorem zej (h:List Int):upT h 1=true:=by simp[upT]
theorem yip (h:List Int) (k:Nat) (hk:1≤k):upT h (k+1)=(upT h k&&decide (h.getD (k-1) default<h.getD k default)):=by
 unfold upT
 rw[List.range_succ,List.all_append]
 simp[show k≠0 by omega]
theorem zz0 (h:List Int):(upT h h.length=true)↔h.Pairwise (· < ·):=by
 rw[List.pairwise_iff_getElem]
 unfold upT
 rw[List.all_eq_true]
 constructor
 ·intro H
  have step:∀j,j+1<h.length→h.getD j default<h.getD (j+1) default:=by
   intro j hj
   have:=H (j+1) (List.mem_range.2 hj)
   simpa using this
  have:∀d i,i+d+1<h.length→h.getD i default<h.getD (i+d+1) default:=by
   intro d
   induction d with
   | zero=>intro i hi;exact step i hi
   | succ d ih =>
    intro i hi
    have h1:=ih i (by omega)
    have h2:=step (i+d+1) (by omega)
    rw[show i+(d+1)+1=i+d+1+1 by omega]
    omega
  intro i j hi hj hij
  have:=this (j-i-1) i (by omega)
  rw[show i+(j-i-1)+1=j by omega,zag _ _ hi,zag _ _ hj]at this
  exact this
 ·intro H j hj
  have hj:=List.mem_range.1 hj
  by_cases h0:j=0
  ·simp[h0]
  ·have:=H (j-1) j (by omega) hj (by omega)
   rw[zag _ _ (by omega),zag _ _ hj]
   simpa using .inr this
theorem z8z (h:List Int) {a b:Nat} (hab:a≤b) (hb:upT h b=true):upT h a=true:=by
 unfold upT at *
 rw[List.all_eq_true]at *
 intro j hj
 exact hb j (List.mem_range.2 (by have:=List.mem_range.1 hj;omega))
theorem z0e (l:Lnk) (hl:l.got.length≤8796093022207) (hcc:decide ((l.got.length:Int)≤l.sent.length)=true):Spec Tryz.prog 114 [.c (.sl 1 (l.got.map zc4)),.c (.sl 1 (List.take (if (l.sent.length:Int)<l.got.length then (l.sent.length:Int)else l.got.length).toNat (l.sent.map zc4)))] [] (B (decide (l.got=l.sent.take l.got.length))) []:=by
 have h:=of_decide_eq_true hcc
 rw[if_neg (by omega),Int.toNat_natCast,←List.map_take]
 exact ye9 l.got (l.sent.take l.got.length) (by omega) (by simp;omega)
structure HidL (p : Prop) : Prop where
 x:p
theorem z9q {α : Type} (p : α → Prop) (b : α) (h:p b):∃e,p e∧HidL (e=b):=⟨b,h,⟨rfl⟩⟩
def z1w (l:Lnk):Int:=if (l.sent.length:Int)<IntKind.i64.wrap (l.base+l.window)then (l.sent.length:Int)else IntKind.i64.wrap (l.base+l.window)
theorem ycb (l:Lnk) (hl:LnkL l) (hw:1≤l.window∧l.window≤16):(decide ((l.got.length:Int)≤l.sent.length)&&decide (l.got=l.sent.take l.got.length)&&zaj l.base 0 l.got.length&&decide ((l.held.length:Int)≤l.sent.length)&&zaj l.next ((l.got.length:Int)+l.held.length) (z1w l) &&
  l.way.all (fun n=>zaj n 0 (IntKind.i64.wrap (l.next-1)))&&l.acks.all (fun n=>zaj n 0 l.got.length)&&l.held.all (fun n=>zaj n ((l.got.length:Int)+1) (IntKind.i64.wrap (l.next-1))))=yek l:=by
 obtain⟨h1,h2,h3,h4,h5⟩:=hl
 unfold yek
 simp only[Int.ofNat_le]
 by_cases hb:zaj l.base 0 l.got.length=true
 ·have hb':=within_iff.1 hb
  have e1:z1w l=min (l.base+l.window) l.sent.length:=by
   unfold z1w
   rw[zaq _ (by omega) (by omega)]
   split<;>omega
  rw[e1]
  by_cases hn:zaj l.next ((l.got.length:Int)+l.held.length) (min (l.base+l.window) l.sent.length)=true
  ·have hn':=within_iff.1 hn
   rw[zaq (l.next-1) (by omega) (by omega)]
  ·rw[Bool.not_eq_true]at hn
   rw[hn]
   simp only[Bool.and_false,Bool.false_and]
 ·rw[Bool.not_eq_true]at hb
  rw[hb]
  simp only[Bool.and_false,Bool.false_and]
theorem ygp (l:Lnk) (hw:1≤l.window∧l.window≤16) (h2:¬(200<l.sent.length∨1000<l.way.length∨1000<l.acks.length)) (b:Bool) (hb:b=yek l) (k:Nat) (hf:(b&&upT l.held k)=false) (hk:k≤l.held.length∨k=1):zyt l=4:=by
 unfold zyt
 rw[if_neg (by omega),if_neg h2,if_neg]
 rw[zni,←hb]
 intro hh
 rw[Bool.and_eq_true,decide_eq_true_eq]at hh
 rw[hh.1,Bool.true_and]at hf
 have hu:=(zz0 l.held).2 hh.2
 by_cases hkl:k≤l.held.length
 ·rw[z8z _ hkl hu]at hf;simp at hf
 ·obtain rfl:k=1:=by omega
  rw[zej]at hf;simp at hf
theorem ygo (l:Lnk) (hw:1≤l.window∧l.window≤16) (h2:¬(200<l.sent.length∨1000<l.way.length∨1000<l.acks.length)) (b:Bool) (hb:b=yek l) (k:Nat) (hf:(b&&upT l.held k)=true) (hk:l.held.length≤k):zyt l=0:=by
 unfold zyt
 rw[if_neg (by omega),if_neg h2,if_pos]
 rw[Bool.and_eq_true]at hf
 rw[zni,←hb,hf.1,Bool.true_and,decide_eq_true_eq]
 exact(zz0 l.held).1 (z8z _ hk hf.2)
theorem zcr (l:Lnk) (hl:LnkL l):Spec Tryz.prog 66 [zan l] [] (I .i64 (zyt l)) []:=by
 obtain⟨h1,h2,h3,h4,h5⟩:=hl
 obtain⟨d1,hd1,H1⟩:=z9q (fun d=>d=decide ((l.got.length:Int)≤l.sent.length)) _ rfl
 obtain⟨d2,hd2,H2⟩:=z9q (fun d=>d=decide ((l.held.length:Int)≤l.sent.length)) _ rfl
 obtain⟨e0,S0,E0⟩:=z9q (fun e=>∀hcc:d1=true,Spec Tryz.prog 114 [.c (.sl 1 (l.got.map zc4)),.c (.sl 1 (List.take (if (l.sent.length:Int)<l.got.length then (l.sent.length:Int)else l.got.length).toNat (l.sent.map zc4)))] [] (B e) []) _ (fun hcc=>z0e l h4 (hd1▸hcc))
 obtain⟨e1,S1,E1⟩:=z9q (fun e=>Spec Tryz.prog 113 [I .i64 l.base,I .i64 0,I .i64 l.got.length] [] (B e) []) _ (zik l.base 0 l.got.length)
 obtain⟨e2,S2,E2⟩:=z9q (fun e=>Spec Tryz.prog 113 [I .i64 l.next,I .i64 ((l.got.length:Int)+l.held.length),I .i64 (z1w l)] [] (B e) []) _ (zik l.next ((l.got.length:Int)+l.held.length) (z1w l))
 obtain⟨e3,S3,E3⟩:=z9q (fun e=>Spec Tryz.prog 115 [.c (.sl 1 (l.way.map zae)),I .i64 0,I .i64 (IntKind.i64.wrap (l.next-1))] [] (B e) []) _ (z2i l.way 0 (IntKind.i64.wrap (l.next-1)) (by omega))
 obtain⟨e4,S4,E4⟩:=z9q (fun e=>Spec Tryz.prog 115 [.c (.sl 1 (l.acks.map zae)),I .i64 0,I .i64 l.got.length] [] (B e) []) _ (z2i l.acks 0 l.got.length (by omega))
 obtain⟨e5,S5,E5⟩:=z9q (fun e=>Spec Tryz.prog 115 [.c (.sl 1 (l.held.map zae)),I .i64 ((l.got.length:Int)+1),I .i64 (IntKind.i64.wrap (l.next-1))] [] (B e) []) _ (z2i l.held ((l.got.length:Int)+1) (IntKind.i64.wrap (l.next-1)) (by omega))
 refine spB Tryz.func66 129 [.tmp 2] Tryz.results66 ?_
 iterate 2(try simp(etaStruct := .none)only[push_cast,zab,seval,zan,←hd1,←hd2,zej,Bool.and_true];try refine xsu ?_)
 refine caP (zik l.window 1 16) ?_
 iterate 2(try simp(etaStruct := .none)only[push_cast,zab,seval,zan,←hd1,←hd2,zej,Bool.and_true];try refine xsu ?_)
 refine cI (fun h1 => ?_) fun h1 => ?_
 ·have e:zyt l=1:=by unfold zyt;rw[if_pos];rw[zul]at h1;omega
  iterate 2(try simp(etaStruct := .none)only[push_cast,zab,seval,zan,←hd1,←hd2,zej,Bool.and_true];try refine xsu ?_)
  exact zbr rfl trivial (Wk.of (by rw[e];rfl))
 ·iterate 2(try simp(etaStruct := .none)only[push_cast,zab,seval,zan,←hd1,←hd2,zej,Bool.and_true];try refine xsu ?_)
  refine cI (fun h2 => ?_) fun h2 => ?_
  ·have e:zyt l=2:=by unfold zyt;rw[if_neg (by rw[within_iff]at h1;omega),if_pos (by omega)]
   iterate 2(try simp(etaStruct := .none)only[push_cast,zab,seval,zan,←hd1,←hd2,zej,Bool.and_true];try refine xsu ?_)
   exact zbr rfl trivial (Wk.of (by rw[e];rfl))
  ·iterate 2(try simp(etaStruct := .none)only[push_cast,zab,seval,zan,←hd1,←hd2,zej,Bool.and_true];try refine xsu ?_)
   (try(refine⟨by kernel_rfl,?_⟩))
   iterate 2(try simp(etaStruct := .none)only[push_cast,zab,seval,zan,←hd1,←hd2,zej,Bool.and_true];try refine xsu ?_)
   refine gcP (fun hcc=>S0 hcc) ?_
   iterate 2(try simp(etaStruct := .none)only[push_cast,zab,seval,zan,←hd1,←hd2,zej,Bool.and_true];try refine xsu ?_)
   refine gcP (fun hcc=>S1) ?_
   iterate 2(try simp(etaStruct := .none)only[push_cast,zab,seval,zan,←hd1,←hd2,zej,Bool.and_true];try refine xsu ?_)
   (try(refine⟨by kernel_rfl,?_⟩))
   iterate 2(try simp(etaStruct := .none)only[push_cast,zab,seval,zan,←hd1,←hd2,zej,Bool.and_true];try refine xsu ?_)
   refine gcP (fun hcc=>S2) ?_
   iterate 2(try simp(etaStruct := .none)only[push_cast,zab,seval,zan,←hd1,←hd2,zej,Bool.and_true];try refine xsu ?_)
   refine gcP (fun hcc=>S3) ?_
   iterate 2(try simp(etaStruct := .none)only[push_cast,zab,seval,zan,←hd1,←hd2,zej,Bool.and_true];try refine xsu ?_)
   refine gcP (fun hcc=>S4) ?_
   iterate 2(try simp(etaStruct := .none)only[push_cast,zab,seval,zan,←hd1,←hd2,zej,Bool.and_true];try refine xsu ?_)
   refine gcP (fun hcc=>S5) ?_
   iterate 2(try simp(etaStruct := .none)only[push_cast,zab,seval,zan,←hd1,←hd2,zej,Bool.and_true];try refine xsu ?_)
   refine za3 (fun k:Nat=>⟨[(6,I .i64 k),(5,B (d1&&e0&&e1&&d2&&e2&&e3&&e4&&e5&&upT l.held k)),(4,I .i64 l.held.length),(1,.ptr 0 0 0)],[(0,.blk 88 [I .i64 l.window,.c (.sl 1 (l.sent.map zc4)),I .i64 l.base,I .i64 l.next,.c (.sl 1 (l.way.map zae)),.c (.sl 1 (l.acks.map zae)),.c (.sl 1 (l.got.map zc4)),.c (.sl 1 (l.held.map zae))])],1⟩) (fun k:Nat=>1≤k∧(k≤l.held.length∨k=1)) (fun k:Nat=>l.held.length+1-k) (1) (⟨by omega,by omega⟩) (To.mk [0] rfl rfl (by decide) ?_ ?_) ?_
   ·simp(etaStruct := .none)only[push_cast,zab,seval]
   ·simp(etaStruct := .none)only[push_cast,zab,seval,zej,Bool.and_true]
   rintro k hk
   iterate 2(try simp(etaStruct := .none)only[push_cast,zab,seval,zan,←hd1,←hd2,zej,Bool.and_true];try refine xsu ?_)
   refine cI (fun h3 => ?_) fun h3 => ?_
   ·have hlt:k<l.held.length:=by omega
    have hlt2:k-1<l.held.length:=by omega
    have hk1:((k:Int)-1).toNat=k-1:=by omega
    have hF:(d1&&e0&&e1&&d2&&e2&&e3&&e4&&e5&&upT l.held k)=true:=by simp only[Bool.and_eq_true];exact h3.1
    have hN:(d1&&e0&&e1&&d2&&e2&&e3&&e4&&e5&&upT l.held (k+1))=decide (l.held.getD (k-1) default<l.held.getD k default):=by rw[yip _ _ hk.1,←Bool.and_assoc,hF,Bool.true_and]
    iterate 2(try simp(etaStruct := .none)only[push_cast,zab,seval,zan,←hd1,←hd2,zej,Bool.and_true,zaa _ _ _ hlt,zaa _ _ _ hlt2,zae,hk1];try refine xsu ?_)
    (try(refine⟨by kernel_rfl,?_⟩))
    iterate 2(try simp(etaStruct := .none)only[push_cast,zab,seval,zan,←hd1,←hd2,zej,Bool.and_true,zaa _ _ _ hlt,zaa _ _ _ hlt2,zae,hk1];try refine xsu ?_)
    refine⟨k+1,⟨by omega,by omega⟩,by omega,To.mk [0] rfl rfl (by decide) ?_ ?_⟩
    ·(iterate 2((try simp(etaStruct := .none)only[push_cast,zab,seval,zan,←hd1,←hd2,zej,Bool.and_true,zaa _ _ _ hlt,zaa _ _ _ hlt2,zae,hk1]);(try(refine xsu ?_;try exact xtI))))
    ·simp(etaStruct := .none)only[push_cast,zab,seval,hN]
   ·have hB:(d1&&e0&&e1&&d2&&e2&&e3&&e4&&e5)=yek l:=by rw[H1.x,E0.x,E1.x,H2.x,E2.x,E3.x,E4.x,E5.x];exact ycb l ⟨by assumption,by assumption,by assumption,h4,h5⟩ (within_iff.1 h1)
    iterate 2(try simp(etaStruct := .none)only[push_cast,zab,seval,zan,←hd1,←hd2,zej,Bool.and_true];try refine xsu ?_)
    refine cI (fun h4 => ?_) fun h4 => ?_
    ·have e:zyt l=4:=ygp l (within_iff.1 h1) (by omega) _ hB k (by simp only[Bool.and_eq_false_iff];exact h4) hk.2
     iterate 2(try simp(etaStruct := .none)only[push_cast,zab,seval,zan,←hd1,←hd2,zej,Bool.and_true];try refine xsu ?_)
     exact zbr rfl trivial (Wk.of (by rw[e];rfl))
    ·have hT:(d1&&e0&&e1&&d2&&e2&&e3&&e4&&e5&&upT l.held k)=true:=by simp only[Bool.and_eq_true];exact h4
     have e:zyt l=0:=ygo l (within_iff.1 h1) (by omega) _ hB k hT (by
      rcases h3 with h3|h3
      ·have hT2:(d1&&e0&&e1&&d2&&e2&&e3&&e4&&e5&&upT l.held k)=false:=by simp only[Bool.and_eq_false_iff];exact h3
       rw[hT]at hT2;cases hT2
      ·omega)
     iterate 2(try simp(etaStruct := .none)only[push_cast,zab,seval,zan,←hd1,←hd2,zej,Bool.and_true];try refine xsu ?_)
     exact zbr rfl trivial (Wk.of (by rw[e];rfl))
theorem zor {l:List Int} {p:Int→Prop} (h:∀n∈l,p n) {j:Nat} (hj:j<l.length):p (l.getD j default):=by
 rw[zag _ _ hj];exact h _ (List.getElem_mem hj)
def zad (l:List Int):Chunk := .row 3 1 (l.map zae)
def zah (l:List ByteArray):Chunk := .row 9 1 (l.map zc4)
def frI (l:List Int):AV := .c (.sl 1 (l.map zae))
def frS (l:List ByteArray):AV := .c (.sl 1 (l.map zc4))
def zac (l:Lnk) (s y a g h:AV):List AV := [I .i64 l.window,s,I .i64 l.base,I .i64 l.next,y,a,g,h]
def zbt (l:Lnk) (s y a g h:AV):AV := .agg (zac l s y a g h)
def zaf (l:Lnk) (s y a g h:AV):Chunk := .blk 88 (zac l s y a g h)
theorem yj9 (l:Lnk) (hl:LnkL l):Spec Tryz.prog 65 [zan l] [] (zbt l (.own 0) (frI l.way) (frI l.acks) (frS l.got) (frI l.held)) [zah l.sent]:=by
 obtain⟨h1,h2,h3,h4,h5⟩:=hl
 refine spB Tryz.func65 24 [.cell 2 88] Tryz.results65 ?_
 iterate 2(try simp(etaStruct := .none)only[push_cast,zab,seval,zan];try refine xsu ?_)
 refine caM [] (zqa l.sent h1) ?_
 iterate 2(try simp(etaStruct := .none)only[push_cast,zab,seval,zan];try refine xsu ?_)
 refine caP (zc3 l.got h4) ?_
 iterate 2(try simp(etaStruct := .none)only[push_cast,zab,seval,zan];try refine xsu ?_)
 (try(refine⟨by kernel_rfl,?_⟩))
 iterate 2(try simp(etaStruct := .none)only[push_cast,zab,seval,zan];try refine xsu ?_)
 refine caP (zbn l.way h2) ?_
 iterate 2(try simp(etaStruct := .none)only[push_cast,zab,seval,zan];try refine xsu ?_)
 refine caP (zbn l.acks h3) ?_
 iterate 2(try simp(etaStruct := .none)only[push_cast,zab,seval,zan];try refine xsu ?_)
 refine caP (zbn l.held h5) ?_
 iterate 2(try simp(etaStruct := .none)only[push_cast,zab,seval,zan];try refine xsu ?_)
 (try(refine⟨by kernel_rfl,?_⟩))
 iterate 2(try simp(etaStruct := .none)only[push_cast,zab,seval,zan];try refine xsu ?_)
 refine zbc [10] rfl rfl (by decide) ⟨⟨rfl,rfl,rfl⟩,trivial⟩ (by repeat' (first|exact trivial|exact rfl|refine⟨?_,?_⟩)) (Wk.refl _)
theorem yfw (l:Lnk) (hl:LnkL l):Spec Tryz.prog 65 [zan l] [] (zbt l (frS l.sent) (.own 0) (frI l.acks) (frS l.got) (frI l.held)) [zad l.way]:=by
 obtain⟨h1,h2,h3,h4,h5⟩:=hl
 refine spB Tryz.func65 24 [.cell 2 88] Tryz.results65 ?_
 iterate 2(try simp(etaStruct := .none)only[push_cast,zab,seval,zan];try refine xsu ?_)
 refine caP (zc3 l.sent h1) ?_
 iterate 2(try simp(etaStruct := .none)only[push_cast,zab,seval,zan];try refine xsu ?_)
 refine caP (zc3 l.got h4) ?_
 iterate 2(try simp(etaStruct := .none)only[push_cast,zab,seval,zan];try refine xsu ?_)
 (try(refine⟨by kernel_rfl,?_⟩))
 iterate 2(try simp(etaStruct := .none)only[push_cast,zab,seval,zan];try refine xsu ?_)
 refine caM [] (zbv l.way h2) ?_
 iterate 2(try simp(etaStruct := .none)only[push_cast,zab,seval,zan];try refine xsu ?_)
 refine caP (zbn l.acks h3) ?_
 iterate 2(try simp(etaStruct := .none)only[push_cast,zab,seval,zan];try refine xsu ?_)
 refine caP (zbn l.held h5) ?_
 iterate 2(try simp(etaStruct := .none)only[push_cast,zab,seval,zan];try refine xsu ?_)
 (try(refine⟨by kernel_rfl,?_⟩))
 iterate 2(try simp(etaStruct := .none)only[push_cast,zab,seval,zan];try refine xsu ?_)
 refine zbc [50] rfl rfl (by decide) ⟨⟨rfl,rfl,rfl⟩,trivial⟩ (by repeat' (first|exact trivial|exact rfl|refine⟨?_,?_⟩)) (Wk.refl _)
theorem own_a (l:Lnk) (hl:LnkL l):Spec Tryz.prog 65 [zan l] [] (zbt l (frS l.sent) (frI l.way) (.own 0) (frS l.got) (frI l.held)) [zad l.acks]:=by
 obtain⟨h1,h2,h3,h4,h5⟩:=hl
 refine spB Tryz.func65 24 [.cell 2 88] Tryz.results65 ?_
 iterate 2(try simp(etaStruct := .none)only[push_cast,zab,seval,zan];try refine xsu ?_)
 refine caP (zc3 l.sent h1) ?_
 iterate 2(try simp(etaStruct := .none)only[push_cast,zab,seval,zan];try refine xsu ?_)
 refine caP (zc3 l.got h4) ?_
 iterate 2(try simp(etaStruct := .none)only[push_cast,zab,seval,zan];try refine xsu ?_)
 (try(refine⟨by kernel_rfl,?_⟩))
 iterate 2(try simp(etaStruct := .none)only[push_cast,zab,seval,zan];try refine xsu ?_)
 refine caP (zbn l.way h2) ?_
 iterate 2(try simp(etaStruct := .none)only[push_cast,zab,seval,zan];try refine xsu ?_)
 refine caM [] (zbv l.acks h3) ?_
 iterate 2(try simp(etaStruct := .none)only[push_cast,zab,seval,zan];try refine xsu ?_)
 refine caP (zbn l.held h5) ?_
 iterate 2(try simp(etaStruct := .none)only[push_cast,zab,seval,zan];try refine xsu ?_)
 (try(refine⟨by kernel_rfl,?_⟩))
 iterate 2(try simp(etaStruct := .none)only[push_cast,zab,seval,zan];try refine xsu ?_)
 refine zbc [62] rfl rfl (by decide) ⟨⟨rfl,rfl,rfl⟩,trivial⟩ (by repeat' (first|exact trivial|exact rfl|refine⟨?_,?_⟩)) (Wk.refl _)
theorem z9l (l:Lnk) (hl:LnkL l):Spec Tryz.prog 65 [zan l] [] (zbt l (frS l.sent) (.own 0) (.own 1) (frS l.got) (frI l.held)) [zad l.way,zad l.acks]:=by
 obtain⟨h1,h2,h3,h4,h5⟩:=hl
 refine spB Tryz.func65 24 [.cell 2 88] Tryz.results65 ?_
 iterate 2(try simp(etaStruct := .none)only[push_cast,zab,seval,zan];try refine xsu ?_)
 refine caP (zc3 l.sent h1) ?_
 iterate 2(try simp(etaStruct := .none)only[push_cast,zab,seval,zan];try refine xsu ?_)
 refine caP (zc3 l.got h4) ?_
 iterate 2(try simp(etaStruct := .none)only[push_cast,zab,seval,zan];try refine xsu ?_)
 (try(refine⟨by kernel_rfl,?_⟩))
 iterate 2(try simp(etaStruct := .none)only[push_cast,zab,seval,zan];try refine xsu ?_)
 refine caM [] (zbv l.way h2) ?_
 iterate 2(try simp(etaStruct := .none)only[push_cast,zab,seval,zan];try refine xsu ?_)
 refine caM [] (zbv l.acks h3) ?_
 iterate 2(try simp(etaStruct := .none)only[push_cast,zab,seval,zan];try refine xsu ?_)
 refine caP (zbn l.held h5) ?_
 iterate 2(try simp(etaStruct := .none)only[push_cast,zab,seval,zan];try refine xsu ?_)
 (try(refine⟨by kernel_rfl,?_⟩))
 iterate 2(try simp(etaStruct := .none)only[push_cast,zab,seval,zan];try refine xsu ?_)
 refine zbc [50,62] rfl rfl (by decide) ⟨⟨rfl,rfl,rfl⟩,⟨rfl,rfl,rfl⟩,trivial⟩ (by repeat' (first|exact trivial|exact rfl|refine⟨?_,?_⟩)) (Wk.refl _)
theorem z1c (l:Lnk) (hl:LnkL l):Spec Tryz.prog 65 [zan l] [] (zbt l (frS l.sent) (.own 0) (.own 1) (.own 2) (frI l.held)) [zad l.way,zad l.acks,zah l.got]:=by
 obtain⟨h1,h2,h3,h4,h5⟩:=hl
 refine spB Tryz.func65 24 [.cell 2 88] Tryz.results65 ?_
 iterate 2(try simp(etaStruct := .none)only[push_cast,zab,seval,zan];try refine xsu ?_)
 refine caP (zc3 l.sent h1) ?_
 iterate 2(try simp(etaStruct := .none)only[push_cast,zab,seval,zan];try refine xsu ?_)
 refine caM [] (zqa l.got h4) ?_
 iterate 2(try simp(etaStruct := .none)only[push_cast,zab,seval,zan];try refine xsu ?_)
 (try(refine⟨by kernel_rfl,?_⟩))
 iterate 2(try simp(etaStruct := .none)only[push_cast,zab,seval,zan];try refine xsu ?_)
 refine caM [] (zbv l.way h2) ?_
 iterate 2(try simp(etaStruct := .none)only[push_cast,zab,seval,zan];try refine xsu ?_)
 refine caM [] (zbv l.acks h3) ?_
 iterate 2(try simp(etaStruct := .none)only[push_cast,zab,seval,zan];try refine xsu ?_)
 refine caP (zbn l.held h5) ?_
 iterate 2(try simp(etaStruct := .none)only[push_cast,zab,seval,zan];try refine xsu ?_)
 (try(refine⟨by kernel_rfl,?_⟩))
 iterate 2(try simp(etaStruct := .none)only[push_cast,zab,seval,zan];try refine xsu ?_)
 refine zbc [50,62,22] rfl rfl (by decide) ⟨⟨rfl,rfl,rfl⟩,⟨rfl,rfl,rfl⟩,⟨rfl,rfl,rfl⟩,trivial⟩ (by repeat' (first|exact trivial|exact rfl|refine⟨?_,?_⟩)) (Wk.refl _)
theorem z1b (l:Lnk) (hl:LnkL l):Spec Tryz.prog 65 [zan l] [] (zbt l (frS l.sent) (.own 0) (.own 1) (frS l.got) (.own 2)) [zad l.way,zad l.acks,zad l.held]:=by
 obtain⟨h1,h2,h3,h4,h5⟩:=hl
 refine spB Tryz.func65 24 [.cell 2 88] Tryz.results65 ?_
 iterate 2(try simp(etaStruct := .none)only[push_cast,zab,seval,zan];try refine xsu ?_)
 refine caP (zc3 l.sent h1) ?_
 iterate 2(try simp(etaStruct := .none)only[push_cast,zab,seval,zan];try refine xsu ?_)
 refine caP (zc3 l.got h4) ?_
 iterate 2(try simp(etaStruct := .none)only[push_cast,zab,seval,zan];try refine xsu ?_)
 (try(refine⟨by kernel_rfl,?_⟩))
 iterate 2(try simp(etaStruct := .none)only[push_cast,zab,seval,zan];try refine xsu ?_)
 refine caM [] (zbv l.way h2) ?_
 iterate 2(try simp(etaStruct := .none)only[push_cast,zab,seval,zan];try refine xsu ?_)
 refine caM [] (zbv l.acks h3) ?_
 iterate 2(try simp(etaStruct := .none)only[push_cast,zab,seval,zan];try refine xsu ?_)
 refine caM [] (zbv l.held h5) ?_
 iterate 2(try simp(etaStruct := .none)only[push_cast,zab,seval,zan];try refine xsu ?_)
 (try(refine⟨by kernel_rfl,?_⟩))
 iterate 2(try simp(etaStruct := .none)only[push_cast,zab,seval,zan];try refine xsu ?_)
 refine zbc [50,62,74] rfl rfl (by decide) ⟨⟨rfl,rfl,rfl⟩,⟨rfl,rfl,rfl⟩,⟨rfl,rfl,rfl⟩,trivial⟩ (by repeat' (first|exact trivial|exact rfl|refine⟨?_,?_⟩)) (Wk.refl _)
end Go.Proofs.YtmjbgbmegbkmhaaGreat
namespace Go.Proofs.YtmjbgbmegbkmhaaGreat
set_option linter.all false
open Go.RowKit Go.Shelf
set_option maxRecDepth 100000
set_option maxHeartbeats 1000000
def zyx:Go.Shelf.Ren:=⟨fun|21=>149|27=>174|28=>175|35=>187|39=>193|n=>n,fun|0=>0|3=>3|4=>4|22=>22|n=>n,fun|n=>n⟩
theorem ygu:Lays2.n21 Tryz.prog zyx:={
 mixed:=by kernel_rfl
 f21:=Tryz.func149.trans (congrArg some (by kernel_rfl))
 f27:=Tryz.func174.trans (congrArg some (by kernel_rfl))
 f28:=Tryz.func175.trans (congrArg some (by kernel_rfl))
 f35:=Tryz.func187.trans (congrArg some (by kernel_rfl))
 f39:=Tryz.func193.trans (congrArg some (by kernel_rfl))
 t0:=Tryz.underlying0
 a0:=Tryz.isAgg0
 z0:=Tryz.sizeOf0
 v0:=Tryz.zeroValue0
 t3:=Tryz.underlying3
 a3:=Tryz.isAgg3
 z3:=Tryz.sizeOf3
 v3:=Tryz.zeroValue3
 t4:=Tryz.underlying4
 a4:=Tryz.isAgg4
 z4:=Tryz.sizeOf4
 v4:=Tryz.zeroValue4
 t22:=Tryz.underlying22
 a22:=Tryz.isAgg22
 z22:=Tryz.sizeOf22
 v22:=Tryz.zeroValue22
 i3:=by kernel_rfl }
def zyy:Go.Shelf.Ren:=⟨fun|23=>147|n=>n,fun|0=>0|3=>3|4=>4|22=>22|n=>n,fun|n=>n⟩
theorem ygv:Lays2.n23 Tryz.prog zyy:={
 mixed:=by kernel_rfl
 f23:=Tryz.func147.trans (congrArg some (by kernel_rfl))
 t0:=Tryz.underlying0
 a0:=Tryz.isAgg0
 z0:=Tryz.sizeOf0
 v0:=Tryz.zeroValue0
 t3:=Tryz.underlying3
 a3:=Tryz.isAgg3
 z3:=Tryz.sizeOf3
 v3:=Tryz.zeroValue3
 t4:=Tryz.underlying4
 a4:=Tryz.isAgg4
 z4:=Tryz.sizeOf4
 v4:=Tryz.zeroValue4
 t22:=Tryz.underlying22
 a22:=Tryz.isAgg22
 z22:=Tryz.sizeOf22
 v22:=Tryz.zeroValue22
 i3:=by kernel_rfl }
def z2h:Go.Shelf.Ren:=⟨fun|25=>148|31=>172|32=>173|37=>186|n=>n,fun|0=>0|3=>3|4=>4|22=>22|40=>225|n=>n,fun|n=>n⟩
theorem yky:Lays2.n25 Tryz.prog z2h:={
 mixed:=by kernel_rfl
 f25:=Tryz.func148.trans (congrArg some (by kernel_rfl))
 f31:=Tryz.func172.trans (congrArg some (by kernel_rfl))
 f32:=Tryz.func173.trans (congrArg some (by kernel_rfl))
 f37:=Tryz.func186.trans (congrArg some (by kernel_rfl))
 t0:=Tryz.underlying0
 a0:=Tryz.isAgg0
 z0:=Tryz.sizeOf0
 v0:=Tryz.zeroValue0
 t3:=Tryz.underlying3
 a3:=Tryz.isAgg3
 z3:=Tryz.sizeOf3
 v3:=Tryz.zeroValue3
 t4:=Tryz.underlying4
 a4:=Tryz.isAgg4
 z4:=Tryz.sizeOf4
 v4:=Tryz.zeroValue4
 t22:=Tryz.underlying22
 a22:=Tryz.isAgg22
 z22:=Tryz.sizeOf22
 v22:=Tryz.zeroValue22
 t40:=Tryz.underlying225
 a40:=Tryz.isAgg225
 z40:=Tryz.sizeOf225
 v40:=Tryz.zeroValue225 }
theorem yk0 (xs:List Int) (i:Nat) (hi:i≤xs.length) (hsm:xs.length≤1000000) (x:Int):Spec Tryz.prog 149 [.own 0,I .i64 i,.own 1] [.row 3 1 (xs.map zae),.row 3 1 [zae x]] (.own 2) [.dead,.dead,.row 3 1 ((xs.take i++x::xs.drop i).map zae)] :=
 z7b ygu (zgn Tryz.func149 (by kernel_rfl) rfl) xs i hi hsm x
theorem z3t (xs:List Int) (i j:Nat) (hij:i≤j) (hj:j≤xs.length) (h0:0<xs.length):Spec Tryz.prog 147 [.own 0,I .i64 i,I .i64 j] [.row 3 1 (xs.map zae)] (.own 1) [.dead,.row 3 1 ((xs.take i++xs.drop j).map zae)] :=
 z71 ygv (zgn Tryz.func147 (by kernel_rfl) rfl) 3 xs i j hij hj h0
theorem ylk (xs:List Int) (x:Int) (hl:xs.length<4611686018427387904) (hs:xs.Pairwise (· ≤ ·)):Spec Tryz.prog 148 [.c (.sl 1 (xs.map zae)),I .i64 x] [] (.tup [I .i64 (xs.countP (· < x):Nat),B (xs.contains x)]) [] :=
 z4d yky (zgn Tryz.func148 (by kernel_rfl) rfl) xs x hl hs
end Go.Proofs.YtmjbgbmegbkmhaaGreat
namespace Go.Proofs.YtmjbgbmegbkmhaaGreat
set_option linter.all false
open Go.RowKit
set_option maxRecDepth 100000
set_option maxHeartbeats 1000000
theorem zus (l:Lnk) (at_:Int) (keep:Bool) (hl:LnkL l) (h:at_<0∨(l.way.length:Int)≤at_):Spec Tryz.prog 117 [.ptr 0 0 4,I .i64 at_,B keep] [zaf l (frS l.sent) (frI l.way) (frI l.acks) (frS l.got) (frI l.held)] (.tup [I .i64 0,B false]) [zaf l (frS l.sent) (frI l.way) (frI l.acks) (frS l.got) (frI l.held)]:=by
 obtain⟨h1,h2,h3,h4,h5⟩:=hl
 refine spB Tryz.func117 37 [.tmp 6,.tmp 7] Tryz.results117 ?_
 iterate 2(try simp(etaStruct := .none)only[push_cast,zab,seval,zaf,zac,frS,frI];try refine xsu ?_)
 refine cI (fun h1 => ?_) fun h1 => ?_
 ·iterate 2(try simp(etaStruct := .none)only[push_cast,zab,seval,zaf,zac,frS,frI];try refine xsu ?_)
  exact zbc [0] rfl rfl (by decide) ⟨⟨rfl,WkL.refl _⟩,trivial⟩ (by repeat' (first|exact trivial|exact rfl|omega|refine⟨?_,?_⟩)) (Wk.refl _)
 ·omega
theorem zut (l:Lnk) (at_:Int) (keep:Bool) (hl:LnkL l) (h:at_<0∨(l.acks.length:Int)≤at_):Spec Tryz.prog 117 [.ptr 0 0 5,I .i64 at_,B keep] [zaf l (frS l.sent) (frI l.way) (frI l.acks) (frS l.got) (frI l.held)] (.tup [I .i64 0,B false]) [zaf l (frS l.sent) (frI l.way) (frI l.acks) (frS l.got) (frI l.held)]:=by
 obtain⟨h1,h2,h3,h4,h5⟩:=hl
 refine spB Tryz.func117 37 [.tmp 6,.tmp 7] Tryz.results117 ?_
 iterate 2(try simp(etaStruct := .none)only[push_cast,zab,seval,zaf,zac,frS,frI];try refine xsu ?_)
 refine cI (fun h1 => ?_) fun h1 => ?_
 ·iterate 2(try simp(etaStruct := .none)only[push_cast,zab,seval,zaf,zac,frS,frI];try refine xsu ?_)
  exact zbc [0] rfl rfl (by decide) ⟨⟨rfl,WkL.refl _⟩,trivial⟩ (by repeat' (first|exact trivial|exact rfl|omega|refine⟨?_,?_⟩)) (Wk.refl _)
 ·omega
theorem z5b (l:Lnk) (at_:Int) (hl:LnkL l) (h:0≤at_∧at_<(l.way.length:Int)):Spec Tryz.prog 117 [.ptr 0 0 4,I .i64 at_,B true] [zaf l (frS l.sent) (frI l.way) (frI l.acks) (frS l.got) (frI l.held)] (.tup [I .i64 (l.way.getD at_.toNat default),B true]) [zaf l (frS l.sent) (frI l.way) (frI l.acks) (frS l.got) (frI l.held)]:=by
 obtain⟨h1,h2,h3,h4,h5⟩:=hl
 have hlt:at_.toNat<l.way.length:=by omega
 obtain⟨i,rfl⟩:∃i:Nat,at_=i:=⟨at_.toNat,by omega⟩
 rw[Int.toNat_natCast]at hlt ⊢
 refine spB Tryz.func117 37 [.tmp 6,.tmp 7] Tryz.results117 ?_
 iterate 2(try simp(etaStruct := .none)only[push_cast,zab,seval,zaf,zac,frS,frI,zad,zah,zaa _ _ _ hlt,zae];try refine xsu ?_)
 refine cI (fun h1 => ?_) fun h1 => ?_
 ·omega
 ·iterate 2(try simp(etaStruct := .none)only[push_cast,zab,seval,zaf,zac,frS,frI,zad,zah,zaa _ _ _ hlt,zae];try refine xsu ?_)
  refine cI (fun h2 => ?_) fun h2 => ?_
  ·simp at h2
  ·iterate 2(try simp(etaStruct := .none)only[push_cast,zab,seval,zaf,zac,frS,frI,zad,zah,zaa _ _ _ hlt,zae];try refine xsu ?_)
   exact zbc [0] rfl rfl (by decide) ⟨⟨rfl,WkL.refl _⟩,trivial⟩ (by repeat' (first|exact trivial|exact rfl|omega|refine⟨?_,?_⟩)) (Wk.refl _)
theorem z5a (l:Lnk) (at_:Int) (hl:LnkL l) (h:0≤at_∧at_<(l.way.length:Int)):Spec Tryz.prog 117 [.ptr 0 0 4,I .i64 at_,B false] [zaf l (frS l.sent) (.own 1) (frI l.acks) (frS l.got) (frI l.held),zad l.way] (.tup [I .i64 (l.way.getD at_.toNat default),B true]) [zaf l (frS l.sent) (.own 2) (frI l.acks) (frS l.got) (frI l.held),.dead,zad (zhy l.way at_.toNat)]:=by
 obtain⟨h1,h2,h3,h4,h5⟩:=hl
 have hlt:at_.toNat<l.way.length:=by omega
 obtain⟨i,rfl⟩:∃i:Nat,at_=i:=⟨at_.toNat,by omega⟩
 rw[Int.toNat_natCast]at hlt ⊢
 refine spB Tryz.func117 37 [.tmp 6,.tmp 7] Tryz.results117 ?_
 iterate 2(try simp(etaStruct := .none)only[push_cast,zab,seval,zaf,zac,frS,frI,zad,zah,zaa _ _ _ hlt,zae];try refine xsu ?_)
 refine cI (fun h1 => ?_) fun h1 => ?_
 ·omega
 ·iterate 2(try simp(etaStruct := .none)only[push_cast,zab,seval,zaf,zac,frS,frI,zad,zah,zaa _ _ _ hlt,zae];try refine xsu ?_)
  refine cI (fun h2 => ?_) fun h2 => ?_
  ·iterate 2(try simp(etaStruct := .none)only[push_cast,zab,seval,zaf,zac,frS,frI,zad,zah,zaa _ _ _ hlt,zae];try refine xsu ?_)
   refine caM [1] (z3t l.way i (i+1) (by omega) (by omega) (by omega)) ?_
   iterate 2(try simp(etaStruct := .none)only[push_cast,zab,seval,zaf,zac,frS,frI,zad,zah,zaa _ _ _ hlt,zae];try refine xsu ?_)
   exact zbc [0,1,2] rfl rfl (by decide) ⟨⟨rfl,WkL.refl _⟩,trivial,⟨rfl,rfl,rfl⟩,trivial⟩ (by repeat' (first|exact trivial|exact rfl|omega|refine⟨?_,?_⟩)) (Wk.refl _)
  ·simp at h2
theorem zk4 (l:Lnk) (at_:Int) (hl:LnkL l) (h:0≤at_∧at_<(l.way.length:Int)):Spec Tryz.prog 117 [.ptr 0 0 4,I .i64 at_,B true] [zaf l (frS l.sent) (.own 1) (.own 2) (frS l.got) (frI l.held),zad l.way,zad l.acks] (.tup [I .i64 (l.way.getD at_.toNat default),B true]) [zaf l (frS l.sent) (.own 1) (.own 2) (frS l.got) (frI l.held),zad l.way,zad l.acks]:=by
 obtain⟨h1,h2,h3,h4,h5⟩:=hl
 have hlt:at_.toNat<l.way.length:=by omega
 obtain⟨i,rfl⟩:∃i:Nat,at_=i:=⟨at_.toNat,by omega⟩
 rw[Int.toNat_natCast]at hlt ⊢
 refine spB Tryz.func117 37 [.tmp 6,.tmp 7] Tryz.results117 ?_
 iterate 2(try simp(etaStruct := .none)only[push_cast,zab,seval,zaf,zac,frS,frI,zad,zah,zaa _ _ _ hlt,zae];try refine xsu ?_)
 refine cI (fun h1 => ?_) fun h1 => ?_
 ·omega
 ·iterate 2(try simp(etaStruct := .none)only[push_cast,zab,seval,zaf,zac,frS,frI,zad,zah,zaa _ _ _ hlt,zae];try refine xsu ?_)
  refine cI (fun h2 => ?_) fun h2 => ?_
  ·simp at h2
  ·iterate 2(try simp(etaStruct := .none)only[push_cast,zab,seval,zaf,zac,frS,frI,zad,zah,zaa _ _ _ hlt,zae];try refine xsu ?_)
   exact zbc [0,1,2] rfl rfl (by decide) ⟨⟨rfl,WkL.refl _⟩,⟨rfl,rfl,rfl⟩,⟨rfl,rfl,rfl⟩,trivial⟩ (by repeat' (first|exact trivial|exact rfl|omega|refine⟨?_,?_⟩)) (Wk.refl _)
theorem zz8 (l:Lnk) (at_:Int) (hl:LnkL l) (h:0≤at_∧at_<(l.way.length:Int)):Spec Tryz.prog 117 [.ptr 0 0 4,I .i64 at_,B false] [zaf l (frS l.sent) (.own 1) (.own 2) (frS l.got) (frI l.held),zad l.way,zad l.acks] (.tup [I .i64 (l.way.getD at_.toNat default),B true]) [zaf l (frS l.sent) (.own 3) (.own 2) (frS l.got) (frI l.held),.dead,zad l.acks,zad (zhy l.way at_.toNat)]:=by
 obtain⟨h1,h2,h3,h4,h5⟩:=hl
 have hlt:at_.toNat<l.way.length:=by omega
 obtain⟨i,rfl⟩:∃i:Nat,at_=i:=⟨at_.toNat,by omega⟩
 rw[Int.toNat_natCast]at hlt ⊢
 refine spB Tryz.func117 37 [.tmp 6,.tmp 7] Tryz.results117 ?_
 iterate 2(try simp(etaStruct := .none)only[push_cast,zab,seval,zaf,zac,frS,frI,zad,zah,zaa _ _ _ hlt,zae];try refine xsu ?_)
 refine cI (fun h1 => ?_) fun h1 => ?_
 ·omega
 ·iterate 2(try simp(etaStruct := .none)only[push_cast,zab,seval,zaf,zac,frS,frI,zad,zah,zaa _ _ _ hlt,zae];try refine xsu ?_)
  refine cI (fun h2 => ?_) fun h2 => ?_
  ·iterate 2(try simp(etaStruct := .none)only[push_cast,zab,seval,zaf,zac,frS,frI,zad,zah,zaa _ _ _ hlt,zae];try refine xsu ?_)
   refine caM [1] (z3t l.way i (i+1) (by omega) (by omega) (by omega)) ?_
   iterate 2(try simp(etaStruct := .none)only[push_cast,zab,seval,zaf,zac,frS,frI,zad,zah,zaa _ _ _ hlt,zae];try refine xsu ?_)
   exact zbc [0,1,2,3] rfl rfl (by decide) ⟨⟨rfl,WkL.refl _⟩,trivial,⟨rfl,rfl,rfl⟩,⟨rfl,rfl,rfl⟩,trivial⟩ (by repeat' (first|exact trivial|exact rfl|omega|refine⟨?_,?_⟩)) (Wk.refl _)
  ·simp at h2
theorem zi2 (l:Lnk) (at_:Int) (hl:LnkL l) (h:0≤at_∧at_<(l.way.length:Int)):Spec Tryz.prog 117 [.ptr 0 0 4,I .i64 at_,B true] [zaf l (frS l.sent) (.own 1) (.own 2) (.own 3) (frI l.held),zad l.way,zad l.acks,zah l.got] (.tup [I .i64 (l.way.getD at_.toNat default),B true]) [zaf l (frS l.sent) (.own 1) (.own 2) (.own 3) (frI l.held),zad l.way,zad l.acks,zah l.got]:=by
 obtain⟨h1,h2,h3,h4,h5⟩:=hl
 have hlt:at_.toNat<l.way.length:=by omega
 obtain⟨i,rfl⟩:∃i:Nat,at_=i:=⟨at_.toNat,by omega⟩
 rw[Int.toNat_natCast]at hlt ⊢
 refine spB Tryz.func117 37 [.tmp 6,.tmp 7] Tryz.results117 ?_
 iterate 2(try simp(etaStruct := .none)only[push_cast,zab,seval,zaf,zac,frS,frI,zad,zah,zaa _ _ _ hlt,zae];try refine xsu ?_)
 refine cI (fun h1 => ?_) fun h1 => ?_
 ·omega
 ·iterate 2(try simp(etaStruct := .none)only[push_cast,zab,seval,zaf,zac,frS,frI,zad,zah,zaa _ _ _ hlt,zae];try refine xsu ?_)
  refine cI (fun h2 => ?_) fun h2 => ?_
  ·simp at h2
  ·iterate 2(try simp(etaStruct := .none)only[push_cast,zab,seval,zaf,zac,frS,frI,zad,zah,zaa _ _ _ hlt,zae];try refine xsu ?_)
   exact zbc [0,1,2,3] rfl rfl (by decide) ⟨⟨rfl,WkL.refl _⟩,⟨rfl,rfl,rfl⟩,⟨rfl,rfl,rfl⟩,⟨rfl,rfl,rfl⟩,trivial⟩ (by repeat' (first|exact trivial|exact rfl|omega|refine⟨?_,?_⟩)) (Wk.refl _)
theorem zxt (l:Lnk) (at_:Int) (hl:LnkL l) (h:0≤at_∧at_<(l.way.length:Int)):Spec Tryz.prog 117 [.ptr 0 0 4,I .i64 at_,B false] [zaf l (frS l.sent) (.own 1) (.own 2) (.own 3) (frI l.held),zad l.way,zad l.acks,zah l.got] (.tup [I .i64 (l.way.getD at_.toNat default),B true]) [zaf l (frS l.sent) (.own 4) (.own 2) (.own 3) (frI l.held),.dead,zad l.acks,zah l.got,zad (zhy l.way at_.toNat)]:=by
 obtain⟨h1,h2,h3,h4,h5⟩:=hl
 have hlt:at_.toNat<l.way.length:=by omega
 obtain⟨i,rfl⟩:∃i:Nat,at_=i:=⟨at_.toNat,by omega⟩
 rw[Int.toNat_natCast]at hlt ⊢
 refine spB Tryz.func117 37 [.tmp 6,.tmp 7] Tryz.results117 ?_
 iterate 2(try simp(etaStruct := .none)only[push_cast,zab,seval,zaf,zac,frS,frI,zad,zah,zaa _ _ _ hlt,zae];try refine xsu ?_)
 refine cI (fun h1 => ?_) fun h1 => ?_
 ·omega
 ·iterate 2(try simp(etaStruct := .none)only[push_cast,zab,seval,zaf,zac,frS,frI,zad,zah,zaa _ _ _ hlt,zae];try refine xsu ?_)
  refine cI (fun h2 => ?_) fun h2 => ?_
  ·iterate 2(try simp(etaStruct := .none)only[push_cast,zab,seval,zaf,zac,frS,frI,zad,zah,zaa _ _ _ hlt,zae];try refine xsu ?_)
   refine caM [1] (z3t l.way i (i+1) (by omega) (by omega) (by omega)) ?_
   iterate 2(try simp(etaStruct := .none)only[push_cast,zab,seval,zaf,zac,frS,frI,zad,zah,zaa _ _ _ hlt,zae];try refine xsu ?_)
   exact zbc [0,1,2,3,4] rfl rfl (by decide) ⟨⟨rfl,WkL.refl _⟩,trivial,⟨rfl,rfl,rfl⟩,⟨rfl,rfl,rfl⟩,⟨rfl,rfl,rfl⟩,trivial⟩ (by repeat' (first|exact trivial|exact rfl|omega|refine⟨?_,?_⟩)) (Wk.refl _)
  ·simp at h2
theorem zi1 (l:Lnk) (at_:Int) (hl:LnkL l) (h:0≤at_∧at_<(l.way.length:Int)):Spec Tryz.prog 117 [.ptr 0 0 4,I .i64 at_,B true] [zaf l (frS l.sent) (.own 1) (.own 2) (frS l.got) (.own 3),zad l.way,zad l.acks,zad l.held] (.tup [I .i64 (l.way.getD at_.toNat default),B true]) [zaf l (frS l.sent) (.own 1) (.own 2) (frS l.got) (.own 3),zad l.way,zad l.acks,zad l.held]:=by
 obtain⟨h1,h2,h3,h4,h5⟩:=hl
 have hlt:at_.toNat<l.way.length:=by omega
 obtain⟨i,rfl⟩:∃i:Nat,at_=i:=⟨at_.toNat,by omega⟩
 rw[Int.toNat_natCast]at hlt ⊢
 refine spB Tryz.func117 37 [.tmp 6,.tmp 7] Tryz.results117 ?_
 iterate 2(try simp(etaStruct := .none)only[push_cast,zab,seval,zaf,zac,frS,frI,zad,zah,zaa _ _ _ hlt,zae];try refine xsu ?_)
 refine cI (fun h1 => ?_) fun h1 => ?_
 ·omega
 ·iterate 2(try simp(etaStruct := .none)only[push_cast,zab,seval,zaf,zac,frS,frI,zad,zah,zaa _ _ _ hlt,zae];try refine xsu ?_)
  refine cI (fun h2 => ?_) fun h2 => ?_
  ·simp at h2
  ·iterate 2(try simp(etaStruct := .none)only[push_cast,zab,seval,zaf,zac,frS,frI,zad,zah,zaa _ _ _ hlt,zae];try refine xsu ?_)
   exact zbc [0,1,2,3] rfl rfl (by decide) ⟨⟨rfl,WkL.refl _⟩,⟨rfl,rfl,rfl⟩,⟨rfl,rfl,rfl⟩,⟨rfl,rfl,rfl⟩,trivial⟩ (by repeat' (first|exact trivial|exact rfl|omega|refine⟨?_,?_⟩)) (Wk.refl _)
theorem zxs (l:Lnk) (at_:Int) (hl:LnkL l) (h:0≤at_∧at_<(l.way.length:Int)):Spec Tryz.prog 117 [.ptr 0 0 4,I .i64 at_,B false] [zaf l (frS l.sent) (.own 1) (.own 2) (frS l.got) (.own 3),zad l.way,zad l.acks,zad l.held] (.tup [I .i64 (l.way.getD at_.toNat default),B true]) [zaf l (frS l.sent) (.own 4) (.own 2) (frS l.got) (.own 3),.dead,zad l.acks,zad l.held,zad (zhy l.way at_.toNat)]:=by
 obtain⟨h1,h2,h3,h4,h5⟩:=hl
 have hlt:at_.toNat<l.way.length:=by omega
 obtain⟨i,rfl⟩:∃i:Nat,at_=i:=⟨at_.toNat,by omega⟩
 rw[Int.toNat_natCast]at hlt ⊢
 refine spB Tryz.func117 37 [.tmp 6,.tmp 7] Tryz.results117 ?_
 iterate 2(try simp(etaStruct := .none)only[push_cast,zab,seval,zaf,zac,frS,frI,zad,zah,zaa _ _ _ hlt,zae];try refine xsu ?_)
 refine cI (fun h1 => ?_) fun h1 => ?_
 ·omega
 ·iterate 2(try simp(etaStruct := .none)only[push_cast,zab,seval,zaf,zac,frS,frI,zad,zah,zaa _ _ _ hlt,zae];try refine xsu ?_)
  refine cI (fun h2 => ?_) fun h2 => ?_
  ·iterate 2(try simp(etaStruct := .none)only[push_cast,zab,seval,zaf,zac,frS,frI,zad,zah,zaa _ _ _ hlt,zae];try refine xsu ?_)
   refine caM [1] (z3t l.way i (i+1) (by omega) (by omega) (by omega)) ?_
   iterate 2(try simp(etaStruct := .none)only[push_cast,zab,seval,zaf,zac,frS,frI,zad,zah,zaa _ _ _ hlt,zae];try refine xsu ?_)
   exact zbc [0,1,2,3,4] rfl rfl (by decide) ⟨⟨rfl,WkL.refl _⟩,trivial,⟨rfl,rfl,rfl⟩,⟨rfl,rfl,rfl⟩,⟨rfl,rfl,rfl⟩,trivial⟩ (by repeat' (first|exact trivial|exact rfl|omega|refine⟨?_,?_⟩)) (Wk.refl _)
  ·simp at h2
theorem z5c (l:Lnk) (at_:Int) (hl:LnkL l) (h:0≤at_∧at_<(l.acks.length:Int)):Spec Tryz.prog 117 [.ptr 0 0 5,I .i64 at_,B true] [zaf l (frS l.sent) (frI l.way) (.own 1) (frS l.got) (frI l.held),zad l.acks] (.tup [I .i64 (l.acks.getD at_.toNat default),B true]) [zaf l (frS l.sent) (frI l.way) (.own 1) (frS l.got) (frI l.held),zad l.acks]:=by
 obtain⟨h1,h2,h3,h4,h5⟩:=hl
 have hlt:at_.toNat<l.acks.length:=by omega
 obtain⟨i,rfl⟩:∃i:Nat,at_=i:=⟨at_.toNat,by omega⟩
 rw[Int.toNat_natCast]at hlt ⊢
 refine spB Tryz.func117 37 [.tmp 6,.tmp 7] Tryz.results117 ?_
 iterate 2(try simp(etaStruct := .none)only[push_cast,zab,seval,zaf,zac,frS,frI,zad,zah,zaa _ _ _ hlt,zae];try refine xsu ?_)
 refine cI (fun h1 => ?_) fun h1 => ?_
 ·omega
 ·iterate 2(try simp(etaStruct := .none)only[push_cast,zab,seval,zaf,zac,frS,frI,zad,zah,zaa _ _ _ hlt,zae];try refine xsu ?_)
  refine cI (fun h2 => ?_) fun h2 => ?_
  ·simp at h2
  ·iterate 2(try simp(etaStruct := .none)only[push_cast,zab,seval,zaf,zac,frS,frI,zad,zah,zaa _ _ _ hlt,zae];try refine xsu ?_)
   exact zbc [0,1] rfl rfl (by decide) ⟨⟨rfl,WkL.refl _⟩,⟨rfl,rfl,rfl⟩,trivial⟩ (by repeat' (first|exact trivial|exact rfl|omega|refine⟨?_,?_⟩)) (Wk.refl _)
theorem zuu (l:Lnk) (at_:Int) (hl:LnkL l) (h:0≤at_∧at_<(l.acks.length:Int)):Spec Tryz.prog 117 [.ptr 0 0 5,I .i64 at_,B false] [zaf l (frS l.sent) (frI l.way) (.own 1) (frS l.got) (frI l.held),zad l.acks] (.tup [I .i64 (l.acks.getD at_.toNat default),B true]) [zaf l (frS l.sent) (frI l.way) (.own 2) (frS l.got) (frI l.held),.dead,zad (zhy l.acks at_.toNat)]:=by
 obtain⟨h1,h2,h3,h4,h5⟩:=hl
 have hlt:at_.toNat<l.acks.length:=by omega
 obtain⟨i,rfl⟩:∃i:Nat,at_=i:=⟨at_.toNat,by omega⟩
 rw[Int.toNat_natCast]at hlt ⊢
 refine spB Tryz.func117 37 [.tmp 6,.tmp 7] Tryz.results117 ?_
 iterate 2(try simp(etaStruct := .none)only[push_cast,zab,seval,zaf,zac,frS,frI,zad,zah,zaa _ _ _ hlt,zae];try refine xsu ?_)
 refine cI (fun h1 => ?_) fun h1 => ?_
 ·omega
 ·iterate 2(try simp(etaStruct := .none)only[push_cast,zab,seval,zaf,zac,frS,frI,zad,zah,zaa _ _ _ hlt,zae];try refine xsu ?_)
  refine cI (fun h2 => ?_) fun h2 => ?_
  ·iterate 2(try simp(etaStruct := .none)only[push_cast,zab,seval,zaf,zac,frS,frI,zad,zah,zaa _ _ _ hlt,zae];try refine xsu ?_)
   refine caM [1] (z3t l.acks i (i+1) (by omega) (by omega) (by omega)) ?_
   iterate 2(try simp(etaStruct := .none)only[push_cast,zab,seval,zaf,zac,frS,frI,zad,zah,zaa _ _ _ hlt,zae];try refine xsu ?_)
   exact zbc [0,1,2] rfl rfl (by decide) ⟨⟨rfl,WkL.refl _⟩,trivial,⟨rfl,rfl,rfl⟩,trivial⟩ (by repeat' (first|exact trivial|exact rfl|omega|refine⟨?_,?_⟩)) (Wk.refl _)
  ·simp at h2
theorem zch (l:Lnk):(if (l.sent.length:Int)<l.base+l.window then (l.sent.length:Int)else l.base+l.window)=za8 l:=by
 unfold za8;split<;>omega
theorem zu8 {l:Lnk} (R:LnkR l):l.next≤za8 l∧l.base≤za8 l∧za8 l≤200∧0≤l.base∧0≤za8 l∧l.base≤200:=by
 have:=R.n;have:=R.b;have:=R.s;have:=R.g;have:=R.w
 unfold za8;omega
theorem za4 {l:Lnk} (R:LnkR l):LnkL l:=by
 have:=R.s;have:=R.y;have:=R.a;have:=R.g;have:=R.h
 exact⟨by omega,by omega,by omega,by omega,by omega⟩
theorem z0q (l:Lnk) (R:LnkR l) (h:1000<(l.way.length:Int)+za8 l-l.base):Spec Tryz.prog 116 [.ptr 0 0 0] [zaf l (frS l.sent) (frI l.way) (frI l.acks) (frS l.got) (frI l.held)] (I .i64 6) [zaf l (frS l.sent) (frI l.way) (frI l.acks) (frS l.got) (frI l.held)]:=by
 obtain⟨b1,b2,b3,b4,b5,b6⟩:=zu8 R
 have hw:=R.w
 have hy:=R.y
 have hs:=R.s
 refine spB Tryz.func116 56 [.tmp 2] Tryz.results116 ?_
 iterate 2(try simp(etaStruct := .none)only[push_cast,zab,seval,zaf,zac,frS,frI,zch];try refine xsu ?_)
 (try(refine⟨by kernel_rfl,?_⟩))
 iterate 2(try simp(etaStruct := .none)only[push_cast,zab,seval,zaf,zac,frS,frI,zch];try refine xsu ?_)
 (try(refine⟨by kernel_rfl,?_⟩))
 iterate 2(try simp(etaStruct := .none)only[push_cast,zab,seval,zaf,zac,frS,frI,zch];try refine xsu ?_)
 refine cI (fun h1 => ?_) fun h1 => ?_
 ·iterate 2(try simp(etaStruct := .none)only[push_cast,zab,seval,zaf,zac,frS,frI,zch];try refine xsu ?_)
  exact zbc [0] rfl rfl (by decide) ⟨⟨rfl,WkL.refl _⟩,trivial⟩ (by repeat' (first|exact trivial|exact rfl|omega|refine⟨?_,?_⟩)) (Wk.refl _)
 ·omega
theorem ya4 (l:Lnk) (R:LnkR l) (h:¬1000<(l.way.length:Int)+za8 l-l.base):Spec Tryz.prog 116 [.ptr 0 0 0] [zaf l (frS l.sent) (.own 1) (frI l.acks) (frS l.got) (frI l.held),zad l.way] (I .i64 0) [zaf { l with next:=za8 l } (frS l.sent) (.own 2) (frI l.acks) (frS l.got) (frI l.held),.dead,zad (l.way++zkg l.base (za8 l-l.base).toNat)]:=by
 obtain⟨b1,b2,b3,b4,b5,b6⟩:=zu8 R
 have hw:=R.w
 have hy:=R.y
 have hs:=R.s
 refine spB Tryz.func116 56 [.tmp 2] Tryz.results116 ?_
 iterate 2(try simp(etaStruct := .none)only[push_cast,zab,seval,zaf,zac,frS,frI,zad,zch];try refine xsu ?_)
 (try(refine⟨by kernel_rfl,?_⟩))
 iterate 2(try simp(etaStruct := .none)only[push_cast,zab,seval,zaf,zac,frS,frI,zad,zch];try refine xsu ?_)
 (try(refine⟨by kernel_rfl,?_⟩))
 iterate 2(try simp(etaStruct := .none)only[push_cast,zab,seval,zaf,zac,frS,frI,zad,zch];try refine xsu ?_)
 refine cI (fun h1 => ?_) fun h1 => ?_
 ·omega
 ·iterate 2(try simp(etaStruct := .none)only[push_cast,zab,seval,zaf,zac,frS,frI,zad,zch];try refine xsu ?_)
  refine za3 (fun k:Nat=>⟨[(4,I .i64 (l.base+k)),(3,I .i64 (za8 l)),(0,.ptr 0 0 0)],[(0,.blk 88 [I .i64 l.window,.c (.sl 1 (l.sent.map zc4)),I .i64 l.base,I .i64 (za8 l),.own 2,.c (.sl 1 (l.acks.map zae)),.c (.sl 1 (l.got.map zc4)),.c (.sl 1 (l.held.map zae))]),(1,.dead),(2,.row 3 1 ((l.way++zkg l.base k).map zae))],3⟩) (fun k:Nat=>(k:Int)≤za8 l-l.base) (fun k:Nat=>(za8 l-l.base).toNat-k) (0) (by omega) ((To.moveC 0 4 1 3 1 88 _ (l.way.map zae) rfl rfl rfl).trans (To.mk [0,1,118] rfl rfl (by decide) ?_ ?_)) ?_
  ·simp(etaStruct := .none)only[push_cast,zab,seval,List.set_cons_zero,List.set_cons_succ,yfp,List.append_nil]
  ·simp(etaStruct := .none)only[push_cast,zab,seval,Int.natCast_zero,Int.add_zero]
  rintro k hk
  iterate 2(try simp(etaStruct := .none)only[push_cast,zab,seval,zaf,zac,frS,frI,zad,zch];try refine xsu ?_)
  refine cI (fun h2 => ?_) fun h2 => ?_
  ·have hsn:(l.way++zkg l.base (k+1)).map zae=(l.way++zkg l.base k).map zae ++ [[pI (l.base+k)]]:=by rw[z0z,←List.append_assoc,List.map_append (l₁ := l.way++zkg l.base k)];rfl
   iterate 2(try simp(etaStruct := .none)only[push_cast,zab,seval,zaf,zac,frS,frI,zad,zch,List.length_append,zoc];try refine xsu ?_)
   refine⟨k+1,by omega,by omega,To.mk [0,1,4] rfl rfl (by decide) ?_ ?_⟩
   ·simp(etaStruct := .none)only[push_cast,zab,seval,hsn]
   ·simp(etaStruct := .none)only[push_cast,zab,seval,Int.add_assoc]
  ·obtain rfl:k=(za8 l-l.base).toNat:=by omega
   iterate 2(try simp(etaStruct := .none)only[push_cast,zab,seval,zaf,zac,frS,frI,zad,zch];try refine xsu ?_)
   exact zbc [0,1,2] rfl rfl (by decide) ⟨⟨rfl,WkL.refl _⟩,trivial,⟨rfl,rfl,rfl⟩,trivial⟩ (by repeat' (first|exact trivial|exact rfl|omega|refine⟨?_,?_⟩)) (Wk.refl _)
theorem yah {h:List Int} (hp:h.Pairwise (· < ·)):h.Pairwise (· ≤ ·):=hp.imp fun h=>Int.le_of_lt h
theorem z3x (l:Lnk) (n:Int) (R:LnkR l) (h0:n≠l.got.length) (h:¬((l.got.length:Int)<n∧n∉l.held)):Spec Tryz.prog 118 [.ptr 0 0 0,I .i64 n] [zaf l (frS l.sent) (.own 1) (.own 2) (frS l.got) (frI l.held),zad l.way,zad l.acks] (.tup []) [zaf l (frS l.sent) (.own 1) (.own 3) (frS l.got) (frI l.held),zad l.way,.dead,zad (l.acks ++ [(l.got.length:Int)])]:=by
 have hs:=R.s
 have hg:=R.g
 have ha:=R.a
 have hh:=R.h
 refine spB Tryz.func118 125 [] Tryz.results118 ?_
 iterate 2(try simp(etaStruct := .none)only[push_cast,zab,seval,zaf,zac,frS,frI,zad];try refine xsu ?_)
 refine caP (ylk l.held n (by omega) (yah R.up)) ?_
 iterate 2(try simp(etaStruct := .none)only[push_cast,zab,seval,zaf,zac,frS,frI,zad];try refine xsu ?_)
 refine cI (fun h1 => ?_) fun h1 => ?_
 ·simp at h1;exact absurd ⟨by omega,h1.2⟩ h
 ·iterate 2(try simp(etaStruct := .none)only[push_cast,zab,seval,zaf,zac,frS,frI,zad];try refine xsu ?_)
  refine cI (fun h2 => ?_) fun h2 => ?_
  ·omega
  ·iterate 2(try simp(etaStruct := .none)only[push_cast,zab,seval,zaf,zac,frS,frI,zad];try refine xsu ?_)
   (try(refine⟨by kernel_rfl,?_⟩))
   iterate 2(try simp(etaStruct := .none)only[push_cast,zab,seval,zaf,zac,frS,frI,zad];try refine xsu ?_)
   exact zbc [0,1,2,47] rfl rfl (by decide) ⟨⟨rfl,WkL.refl _⟩,⟨rfl,rfl,rfl⟩,trivial,⟨rfl,rfl,by rw[List.map_append];rfl⟩,trivial⟩ (by repeat' (first|exact trivial|exact rfl|omega|refine⟨?_,?_⟩)) (Wk.refl _)
theorem z3z (l:Lnk) (n:Int) (R:LnkR l) (h:(l.got.length:Int)<n∧n∉l.held):Spec Tryz.prog 118 [.ptr 0 0 0,I .i64 n] [zaf l (frS l.sent) (.own 1) (.own 2) (frS l.got) (.own 3),zad l.way,zad l.acks,zad l.held] (.tup []) [zaf l (frS l.sent) (.own 1) (.own 5) (frS l.got) (.own 4),zad l.way,.dead,.dead,zad (zj7 n l.held),zad (l.acks ++ [(l.got.length:Int)])]:=by
 have hs:=R.s
 have hg:=R.g
 have ha:=R.a
 have hh:=R.h
 have hc:l.held.countP (· < n)≤l.held.length:=List.countP_le_length
 refine spB Tryz.func118 125 [] Tryz.results118 ?_
 iterate 2(try simp(etaStruct := .none)only[push_cast,zab,seval,zaf,zac,frS,frI,zad];try refine xsu ?_)
 refine zcw (ylk l.held n (by omega) (yah R.up)) (WkL.refl _) rfl ?_
 iterate 2(try simp(etaStruct := .none)only[push_cast,zab,seval,zaf,zac,frS,frI,zad];try refine xsu ?_)
 refine cI (fun h1 => ?_) fun h1 => ?_
 ·iterate 2(try simp(etaStruct := .none)only[push_cast,zab,seval,zaf,zac,frS,frI,zad];try refine xsu ?_)
  refine caM [3,4] (yk0 l.held (l.held.countP (· < n)) hc (by omega) n) ?_
  iterate 2(try simp(etaStruct := .none)only[push_cast,zab,seval,zaf,zac,frS,frI,zad];try refine xsu ?_)
  (try(refine⟨by kernel_rfl,?_⟩))
  iterate 2(try simp(etaStruct := .none)only[push_cast,zab,seval,zaf,zac,frS,frI,zad];try refine xsu ?_)
  exact zbc [0,1,2,3,5,50] rfl rfl (by decide) ⟨⟨rfl,WkL.refl _⟩,⟨rfl,rfl,rfl⟩,trivial,trivial,⟨rfl,rfl,rfl⟩,⟨rfl,rfl,by rw[List.map_append];rfl⟩,trivial⟩ (by repeat' (first|exact trivial|exact rfl|omega|refine⟨?_,?_⟩)) (Wk.refl _)
 ·simp at h1;rcases h1 with h1|h1
  ·omega
  ·exact absurd h1 h.2
theorem z5x (g:Int) (D:List Int) (h:0<D.length) (hv:D.getD 0 default=g):zca g D=zca (g+1) (D.drop 1):=by
 cases D with
 | nil=>simp at h
 | cons x r =>
  obtain rfl:x=g:=hv
  rw[zca,if_pos rfl];rfl
theorem zx3 (g:Int) (D:List Int) (hv:0<D.length→D.getD 0 default≠g):zca g D=(g,D):=by
 cases D with
 | nil=>rfl
 | cons x r =>
  have:x≠g:=hv (by simp)
  rw[zca,if_neg this]
theorem z3y (l:Lnk) (R:LnkR l) (h:(l.got.length:Int)<l.next):Spec Tryz.prog 118 [.ptr 0 0 0,I .i64 l.got.length] [zaf l (frS l.sent) (.own 1) (.own 2) (.own 3) (frI l.held),zad l.way,zad l.acks,zah l.got] (.tup []) [zaf l (frS l.sent) (.own 1) (.own 5) (.own 4) (frI (zca (l.got.length+1) l.held).2),zad l.way,.dead,.dead,zah (l.sent.take (zca (l.got.length+1) l.held).1.toNat),zad (l.acks ++ [(zca (l.got.length+1) l.held).1])]:=by
 have hs:=R.s
 have hg:=R.g
 have ha:=R.a
 have hh:=R.h
 have hn3:=R.n
 have hlt0:l.got.length<l.sent.length:=by omega
 have e0:l.got ++ [l.sent.getD l.got.length default]=l.sent.take (l.got.length+1):=by
  rw[zas _ _ hlt0];congr 1;exact R.p
 have e1:List.map zc4 l.got ++ [[PV.v (Value.string (l.sent.getD l.got.length default))]]=List.map zc4 (List.take (l.got.length+1) l.sent):=by rw[←e0,List.map_append];rfl
 refine spB Tryz.func118 125 [] Tryz.results118 ?_
 iterate 2(try simp(etaStruct := .none)only[push_cast,zab,seval,zaf,zac,frS,frI,zad,zah,zaa _ _ _ hlt0,zc4];try refine xsu ?_)
 refine caP (ylk l.held l.got.length (by omega) (yah R.up)) ?_
 iterate 2(try simp(etaStruct := .none)only[push_cast,zab,seval,zaf,zac,frS,frI,zad,zah,zaa _ _ _ hlt0,zc4];try refine xsu ?_)
 refine cI (fun h1 => ?_) fun h1 => ?_
 ·simp at h1
 ·iterate 2(try simp(etaStruct := .none)only[push_cast,zab,seval,zaf,zac,frS,frI,zad,zah,zaa _ _ _ hlt0,zc4];try refine xsu ?_)
  refine za1 (fun h2 => ?_) (fun h2 => ?_)
  ·(try replace h2:=xhh h2)
   iterate 2(try simp(etaStruct := .none)only[push_cast,zab,seval,zaf,zac,frS,frI,zad,zah,zaa _ _ _ hlt0,zc4];try refine xsu ?_)
   (try(refine⟨by kernel_rfl,?_⟩))
   iterate 2(try simp(etaStruct := .none)only[push_cast,zab,seval,zaf,zac,frS,frI,zad,zah,zaa _ _ _ hlt0,zc4];try refine xsu ?_)
   refine za3 (fun g:Nat=>⟨[(0,.ptr 0 0 0)],[(0,.blk 88 [I .i64 l.window,.c (.sl 1 (l.sent.map zc4)),I .i64 l.base,I .i64 l.next,.own 1,.own 2,.own 4,.c (.sl 1 ((l.held.drop (g-(l.got.length+1))).map zae))]),(1,.row 3 1 (l.way.map zae)),(2,.row 3 1 (l.acks.map zae)),(3,.dead),(4,.row 9 1 ((l.sent.take g).map zc4))],5⟩) (fun g:Nat=>l.got.length+1≤g∧g≤l.sent.length∧zca g (l.held.drop (g-(l.got.length+1)))=zca (l.got.length+1) l.held) (fun g:Nat=>l.sent.length-g) (l.got.length+1) (⟨Nat.le_refl _,by omega,by rw[Nat.sub_self,List.drop_zero];rfl⟩) (To.mk [0,1,2,3,56] rfl rfl (by decide) ?_ ?_) ?_
   ·simp(etaStruct := .none)only[push_cast,zab,seval,e1,Nat.sub_self,List.drop_zero]
   ·simp(etaStruct := .none)only[push_cast,zab,seval]
   rintro g ⟨hg1,hg2,hr⟩
   have hlg:(List.take g l.sent).length=g:=by rw[List.length_take];omega
   rcases Nat.eq_zero_or_pos (l.held.drop (g-(l.got.length+1))).length with hz|hlt
   ·have hd:l.held.drop (g-(l.got.length+1)) = []:=List.length_eq_zero_iff.1 hz
    have hr2:zca (l.got.length+1) l.held=((g:Int),[]):=by rw[←hr,hd];rfl
    iterate 2(try simp(etaStruct := .none)only[push_cast,zab,seval,hd,hlg,List.map_nil,List.length_nil,List.getD_nil,List.take_nil,List.drop_nil];try refine xsu ?_)
    (try(refine⟨by kernel_rfl,?_⟩))
    iterate 2(try simp(etaStruct := .none)only[push_cast,zab,seval,hd,hlg,List.map_nil,List.length_nil,List.getD_nil,List.take_nil,List.drop_nil];try refine xsu ?_)
    refine za1 (fun h3 => ?_) (fun h3 => ?_)
    ·simp at h3
    ·(try replace h3:=xhh h3)
     try refine xz1 hlg ?_
     (try(refine⟨by kernel_rfl,?_⟩))
     try refine xz1 hlg ?_
     rw[hr2]
     exact zbc [0,1,2,3,4,129] rfl rfl (by decide) ⟨⟨rfl,WkL.refl _⟩,⟨rfl,rfl,rfl⟩,trivial,trivial,⟨rfl,rfl,rfl⟩,⟨rfl,rfl,by rw[List.map_append];rfl⟩,trivial⟩ (by repeat' (first|exact trivial|exact rfl|omega|refine⟨?_,?_⟩)) (Wk.refl _)
   iterate 2(try simp(etaStruct := .none)only[push_cast,zab,seval,zaf,zac,frS,frI,zad,zah,zaa _ _ _ hlt0,zc4,hlg,zaa _ _ _ hlt,zae];try refine xsu ?_)
   (try(refine⟨by kernel_rfl,?_⟩))
   iterate 2(try simp(etaStruct := .none)only[push_cast,zab,seval,zaf,zac,frS,frI,zad,zah,zaa _ _ _ hlt0,zc4,hlg,zaa _ _ _ hlt,zae];try refine xsu ?_)
   refine za1 (fun h3 => ?_) (fun h3 => ?_)
   ·(try replace h3:=xhh h3)
    have hv:(l.held.drop (g-(l.got.length+1))).getD 0 default=(g:Int):=by omega
    have hmem:(l.held.drop (g-(l.got.length+1))).getD 0 default∈l.held:=by rw[zag _ _ hlt];exact List.mem_of_mem_drop (List.getElem_mem hlt)
    have hgs:g<l.sent.length:=by have:=R.hd _ hmem;omega
    have hdd:List.drop 1 (List.map zae (List.drop (g-(l.got.length+1)) l.held))=List.map zae (List.drop (g-l.got.length) l.held):=by
     rw[←List.map_drop,List.drop_drop];congr 2;omega
    have hsn:(l.sent.take (g+1)).map zc4=(l.sent.take g).map zc4 ++ [[PV.v (.string (l.sent.getD g default))]]:=by rw[zas _ _ hgs,List.map_append];rfl
    iterate 2(try simp(etaStruct := .none)only[push_cast,zab,seval,zaf,zac,frS,frI,zad,zah,zaa _ _ _ hlt0,zc4,hlg,zaa _ _ _ hlt,zae,hv,Int.toNat_natCast,zaa _ _ _ hgs,zc4];try refine xsu ?_)
    (try(refine⟨by kernel_rfl,?_⟩))
    iterate 2(try simp(etaStruct := .none)only[push_cast,zab,seval,zaf,zac,frS,frI,zad,zah,zaa _ _ _ hlt0,zc4,hlg,zaa _ _ _ hlt,zae,hv,Int.toNat_natCast,zaa _ _ _ hgs,zc4];try refine xsu ?_)
    refine⟨g+1,⟨by omega,by omega,by
 rw[←hr,z5x _ _ hlt hv,List.drop_drop]
 congr 2; omega⟩, by omega, To.mk [0, 1, 2, 3, 161] rfl rfl (by decide) ?_ ?_⟩
    ·simp(etaStruct := .none)only[push_cast,zab,seval,hsn,hdd]
    ·(iterate 2((try simp(etaStruct := .none)only[push_cast,zab,seval,zaf,zac,frS,frI,zad,zah,zaa _ _ _ hlt0,zc4,hlg,zaa _ _ _ hlt,zae,hv,Int.toNat_natCast,zaa _ _ _ hgs,zc4]);(try(refine xsu ?_;try exact xtI))))
   ·(try replace h3:=xhh h3)
    have hr2:zca (l.got.length+1) l.held=((g:Int),l.held.drop (g-(l.got.length+1))):=by rw[←hr];exact zx3 _ _ (fun _=>by omega)
    iterate 2(try simp(etaStruct := .none)only[push_cast,zab,seval,zaf,zac,frS,frI,zad,zah,zaa _ _ _ hlt0,zc4,hlg,zaa _ _ _ hlt,zae];try refine xsu ?_)
    (try(refine⟨by kernel_rfl,?_⟩))
    iterate 2(try simp(etaStruct := .none)only[push_cast,zab,seval,zaf,zac,frS,frI,zad,zah,zaa _ _ _ hlt0,zc4,hlg,zaa _ _ _ hlt,zae];try refine xsu ?_)
    rw[hr2]
    exact zbc [0,1,2,3,4,129] rfl rfl (by decide) ⟨⟨rfl,WkL.refl _⟩,⟨rfl,rfl,rfl⟩,trivial,trivial,⟨rfl,rfl,rfl⟩,⟨rfl,rfl,by rw[List.map_append];rfl⟩,trivial⟩ (by repeat' (first|exact trivial|exact rfl|omega|refine⟨?_,?_⟩)) (Wk.refl _)
  ·(try replace h2:=xhh h2)
   simp at h2
theorem LnkR.cutway {l:Lnk} (R:LnkR l) (i:Nat):LnkR { l with way:=zhy l.way i }:=⟨R.w,R.s,Nat.le_trans (zks _ _) R.y,R.a,R.g,R.p,R.b,R.h,R.n,fun m hm=>R.wy m (zkr hm),R.ak,R.hd,R.up⟩
theorem yhf (l:Lnk) (x:Evt) (R:LnkR l) (hk:¬(x.kind=1∨x.kind=2∨x.kind=3∨x.kind=4∨x.kind=5)):Spec Tryz.prog 67 [.ptr 0 0 0,zai x] [zaf l (frS l.sent) (frI l.way) (frI l.acks) (frS l.got) (frI l.held)] (I .i64 1) [zaf l (frS l.sent) (frI l.way) (frI l.acks) (frS l.got) (frI l.held)]:=by
 have hs:=R.s
 have hg:=R.g
 have ha:=R.a
 have hh:=R.h
 have hy:=R.y
 have hb:=R.b
 have hn3:=R.n
 have hl:=za4 R
 refine spB Tryz.func67 127 [.tmp 4] Tryz.results67 ?_
 iterate 2(try simp(etaStruct := .none)only[push_cast,zab,seval,zaf,zac,frS,frI,zad,zah,zai];try refine xsu ?_)
 refine cI (fun h1 => ?_) fun h1 => ?_
 ·omega
 ·iterate 2(try simp(etaStruct := .none)only[push_cast,zab,seval,zaf,zac,frS,frI,zad,zah,zai];try refine xsu ?_)
  refine cI (fun h2 => ?_) fun h2 => ?_
  ·omega
  ·iterate 2(try simp(etaStruct := .none)only[push_cast,zab,seval,zaf,zac,frS,frI,zad,zah,zai];try refine xsu ?_)
   refine cI (fun h3 => ?_) fun h3 => ?_
   ·omega
   ·iterate 2(try simp(etaStruct := .none)only[push_cast,zab,seval,zaf,zac,frS,frI,zad,zah,zai];try refine xsu ?_)
    refine cI (fun h4 => ?_) fun h4 => ?_
    ·omega
    ·iterate 2(try simp(etaStruct := .none)only[push_cast,zab,seval,zaf,zac,frS,frI,zad,zah,zai];try refine xsu ?_)
     refine cI (fun h5 => ?_) fun h5 => ?_
     ·omega
     ·iterate 2(try simp(etaStruct := .none)only[push_cast,zab,seval,zaf,zac,frS,frI,zad,zah,zai];try refine xsu ?_)
      exact zbc [0] rfl rfl (by decide) ⟨⟨rfl,WkL.refl _⟩,trivial⟩ (by repeat' (first|exact trivial|exact rfl|omega|refine⟨?_,?_⟩)) (Wk.refl _)
theorem z7z (l:Lnk) (x:Evt) (R:LnkR l) (hk:x.kind=1) (h:l.sent.length=200):Spec Tryz.prog 67 [.ptr 0 0 0,zai x] [zaf l (frS l.sent) (frI l.way) (frI l.acks) (frS l.got) (frI l.held)] (I .i64 6) [zaf l (frS l.sent) (frI l.way) (frI l.acks) (frS l.got) (frI l.held)]:=by
 have hs:=R.s
 have hg:=R.g
 have ha:=R.a
 have hh:=R.h
 have hy:=R.y
 have hb:=R.b
 have hn3:=R.n
 have hl:=za4 R
 refine spB Tryz.func67 127 [.tmp 4] Tryz.results67 ?_
 iterate 2(try simp(etaStruct := .none)only[push_cast,zab,seval,zaf,zac,frS,frI,zad,zah,zai,hk];try refine xsu ?_)
 refine cI (fun h1 => ?_) fun h1 => ?_
 ·iterate 2(try simp(etaStruct := .none)only[push_cast,zab,seval,zaf,zac,frS,frI,zad,zah,zai,hk];try refine xsu ?_)
  refine cI (fun h2 => ?_) fun h2 => ?_
  ·iterate 2(try simp(etaStruct := .none)only[push_cast,zab,seval,zaf,zac,frS,frI,zad,zah,zai,hk];try refine xsu ?_)
   exact zbc [0] rfl rfl (by decide) ⟨⟨rfl,WkL.refl _⟩,trivial⟩ (by repeat' (first|exact trivial|exact rfl|omega|refine⟨?_,?_⟩)) (Wk.refl _)
  ·omega
 ·simp at h1
theorem yhh (l:Lnk) (x:Evt) (R:LnkR l) (hk:x.kind=1) (h:¬l.sent.length=200):Spec Tryz.prog 67 [.ptr 0 0 0,zai x] [zaf l (.own 1) (frI l.way) (frI l.acks) (frS l.got) (frI l.held),zah l.sent] (I .i64 0) [zaf l (.own 2) (frI l.way) (frI l.acks) (frS l.got) (frI l.held),.dead,zah (l.sent ++ [x.text])]:=by
 have hs:=R.s
 have hg:=R.g
 have ha:=R.a
 have hh:=R.h
 have hy:=R.y
 have hb:=R.b
 have hn3:=R.n
 have hl:=za4 R
 refine spB Tryz.func67 127 [.tmp 4] Tryz.results67 ?_
 iterate 2(try simp(etaStruct := .none)only[push_cast,zab,seval,zaf,zac,frS,frI,zad,zah,zai,hk];try refine xsu ?_)
 refine cI (fun h1 => ?_) fun h1 => ?_
 ·iterate 2(try simp(etaStruct := .none)only[push_cast,zab,seval,zaf,zac,frS,frI,zad,zah,zai,hk];try refine xsu ?_)
  refine cI (fun h2 => ?_) fun h2 => ?_
  ·omega
  ·iterate 2(try simp(etaStruct := .none)only[push_cast,zab,seval,zaf,zac,frS,frI,zad,zah,zai,hk];try refine xsu ?_)
   (try(refine⟨by kernel_rfl,?_⟩))
   iterate 2(try simp(etaStruct := .none)only[push_cast,zab,seval,zaf,zac,frS,frI,zad,zah,zai,hk];try refine xsu ?_)
   exact zbc [0,1,35] rfl rfl (by decide) ⟨⟨rfl,WkL.refl _⟩,trivial,⟨rfl,rfl,by first|rfl|(rw[List.map_append];rfl)⟩,trivial⟩ (by repeat' (first|exact trivial|exact rfl|omega|refine⟨?_,?_⟩)) (Wk.refl _)
 ·simp at h1
theorem z7y (l:Lnk) (x:Evt) (R:LnkR l) (hk:x.kind=2) (h:1000<(l.way.length:Int)+za8 l-l.base):Spec Tryz.prog 67 [.ptr 0 0 0,zai x] [zaf l (frS l.sent) (frI l.way) (frI l.acks) (frS l.got) (frI l.held)] (I .i64 6) [zaf l (frS l.sent) (frI l.way) (frI l.acks) (frS l.got) (frI l.held)]:=by
 have hs:=R.s
 have hg:=R.g
 have ha:=R.a
 have hh:=R.h
 have hy:=R.y
 have hb:=R.b
 have hn3:=R.n
 have hl:=za4 R
 refine spB Tryz.func67 127 [.tmp 4] Tryz.results67 ?_
 iterate 2(try simp(etaStruct := .none)only[push_cast,zab,seval,zaf,zac,frS,frI,zad,zah,zai,hk];try refine xsu ?_)
 refine cI (fun h1 => ?_) fun h1 => ?_
 ·simp at h1
 ·iterate 2(try simp(etaStruct := .none)only[push_cast,zab,seval,zaf,zac,frS,frI,zad,zah,zai,hk];try refine xsu ?_)
  refine cI (fun h2 => ?_) fun h2 => ?_
  ·iterate 2(try simp(etaStruct := .none)only[push_cast,zab,seval,zaf,zac,frS,frI,zad,zah,zai,hk];try refine xsu ?_)
   refine caM [0] (z0q l R h) ?_
   iterate 2(try simp(etaStruct := .none)only[push_cast,zab,seval,zaf,zac,frS,frI,zad,zah,zai,hk];try refine xsu ?_)
   exact zbc [0] rfl rfl (by decide) ⟨⟨rfl,WkL.refl _⟩,trivial⟩ (by repeat' (first|exact trivial|exact rfl|omega|refine⟨?_,?_⟩)) (Wk.refl _)
  ·simp at h2
theorem yhg (l:Lnk) (x:Evt) (R:LnkR l) (hk:x.kind=2) (h:¬1000<(l.way.length:Int)+za8 l-l.base):Spec Tryz.prog 67 [.ptr 0 0 0,zai x] [zaf l (frS l.sent) (.own 1) (frI l.acks) (frS l.got) (frI l.held),zad l.way] (I .i64 0) [zaf { l with base:=l.base,next:=(za8 l) } (frS l.sent) (.own 2) (frI l.acks) (frS l.got) (frI l.held),.dead,zad (l.way++zkg l.base (za8 l-l.base).toNat)]:=by
 have hs:=R.s
 have hg:=R.g
 have ha:=R.a
 have hh:=R.h
 have hy:=R.y
 have hb:=R.b
 have hn3:=R.n
 have hl:=za4 R
 refine spB Tryz.func67 127 [.tmp 4] Tryz.results67 ?_
 iterate 2(try simp(etaStruct := .none)only[push_cast,zab,seval,zaf,zac,frS,frI,zad,zah,zai,hk];try refine xsu ?_)
 refine cI (fun h1 => ?_) fun h1 => ?_
 ·simp at h1
 ·iterate 2(try simp(etaStruct := .none)only[push_cast,zab,seval,zaf,zac,frS,frI,zad,zah,zai,hk];try refine xsu ?_)
  refine cI (fun h2 => ?_) fun h2 => ?_
  ·iterate 2(try simp(etaStruct := .none)only[push_cast,zab,seval,zaf,zac,frS,frI,zad,zah,zai,hk];try refine xsu ?_)
   refine caM [0,1] (ya4 l R h) ?_
   iterate 2(try simp(etaStruct := .none)only[push_cast,zab,seval,zaf,zac,frS,frI,zad,zah,zai,hk];try refine xsu ?_)
   exact zbc [0,1,3] rfl rfl (by decide) ⟨⟨rfl,WkL.refl _⟩,trivial,⟨rfl,rfl,by first|rfl|(rw[List.map_append];rfl)⟩,trivial⟩ (by repeat' (first|exact trivial|exact rfl|omega|refine⟨?_,?_⟩)) (Wk.refl _)
  ·simp at h2
theorem z7w (l:Lnk) (x:Evt) (R:LnkR l) (hk:x.kind=3) (h:x.at_<0∨(l.way.length:Int)≤x.at_):Spec Tryz.prog 67 [.ptr 0 0 0,zai x] [zaf l (frS l.sent) (frI l.way) (frI l.acks) (frS l.got) (frI l.held)] (I .i64 7) [zaf l (frS l.sent) (frI l.way) (frI l.acks) (frS l.got) (frI l.held)]:=by
 have hs:=R.s
 have hg:=R.g
 have ha:=R.a
 have hh:=R.h
 have hy:=R.y
 have hb:=R.b
 have hn3:=R.n
 have hl:=za4 R
 refine spB Tryz.func67 127 [.tmp 4] Tryz.results67 ?_
 iterate 2(try simp(etaStruct := .none)only[push_cast,zab,seval,zaf,zac,frS,frI,zad,zah,zai,hk];try refine xsu ?_)
 refine cI (fun h1 => ?_) fun h1 => ?_
 ·simp at h1
 ·iterate 2(try simp(etaStruct := .none)only[push_cast,zab,seval,zaf,zac,frS,frI,zad,zah,zai,hk];try refine xsu ?_)
  refine cI (fun h2 => ?_) fun h2 => ?_
  ·simp at h2
  ·iterate 2(try simp(etaStruct := .none)only[push_cast,zab,seval,zaf,zac,frS,frI,zad,zah,zai,hk];try refine xsu ?_)
   refine cI (fun h3 => ?_) fun h3 => ?_
   ·iterate 2(try simp(etaStruct := .none)only[push_cast,zab,seval,zaf,zac,frS,frI,zad,zah,zai,hk];try refine xsu ?_)
    refine zcb [0] (zus l x.at_ true hl h) (WkL.refl _) rfl (by decide) (by simp[zay,zb1,zf9]) ?_
    iterate 2(try simp(etaStruct := .none)only[push_cast,zab,seval,zaf,zac,frS,frI,zad,zah,zai,hk];try refine xsu ?_)
    (try(refine⟨by kernel_rfl,?_⟩))
    iterate 2(try simp(etaStruct := .none)only[push_cast,zab,seval,zaf,zac,frS,frI,zad,zah,zai,hk];try refine xsu ?_)
    refine cI (fun h4 => ?_) fun h4 => ?_
    ·iterate 2(try simp(etaStruct := .none)only[push_cast,zab,seval,zaf,zac,frS,frI,zad,zah,zai,hk];try refine xsu ?_)
     exact zbc [0] rfl rfl (by decide) ⟨⟨rfl,WkL.refl _⟩,trivial⟩ (by repeat' (first|exact trivial|exact rfl|omega|refine⟨?_,?_⟩)) (Wk.refl _)
    ·simp at h4
   ·simp at h3
theorem z7x (l:Lnk) (x:Evt) (R:LnkR l) (hk:x.kind=3) (h:¬(x.at_<0∨(l.way.length:Int)≤x.at_)) (hf:l.acks.length=1000):Spec Tryz.prog 67 [.ptr 0 0 0,zai x] [zaf l (frS l.sent) (frI l.way) (frI l.acks) (frS l.got) (frI l.held)] (I .i64 6) [zaf l (frS l.sent) (frI l.way) (frI l.acks) (frS l.got) (frI l.held)]:=by
 have hs:=R.s
 have hg:=R.g
 have ha:=R.a
 have hh:=R.h
 have hy:=R.y
 have hb:=R.b
 have hn3:=R.n
 have hl:=za4 R
 refine spB Tryz.func67 127 [.tmp 4] Tryz.results67 ?_
 iterate 2(try simp(etaStruct := .none)only[push_cast,zab,seval,zaf,zac,frS,frI,zad,zah,zai,hk];try refine xsu ?_)
 refine cI (fun h1 => ?_) fun h1 => ?_
 ·simp at h1
 ·iterate 2(try simp(etaStruct := .none)only[push_cast,zab,seval,zaf,zac,frS,frI,zad,zah,zai,hk];try refine xsu ?_)
  refine cI (fun h2 => ?_) fun h2 => ?_
  ·simp at h2
  ·iterate 2(try simp(etaStruct := .none)only[push_cast,zab,seval,zaf,zac,frS,frI,zad,zah,zai,hk];try refine xsu ?_)
   refine cI (fun h3 => ?_) fun h3 => ?_
   ·iterate 2(try simp(etaStruct := .none)only[push_cast,zab,seval,zaf,zac,frS,frI,zad,zah,zai,hk];try refine xsu ?_)
    refine zcb [0] (z5b l x.at_ hl (by omega)) (WkL.refl _) rfl (by decide) (by simp[zay,zb1,zf9]) ?_
    iterate 2(try simp(etaStruct := .none)only[push_cast,zab,seval,zaf,zac,frS,frI,zad,zah,zai,hk];try refine xsu ?_)
    (try(refine⟨by kernel_rfl,?_⟩))
    iterate 2(try simp(etaStruct := .none)only[push_cast,zab,seval,zaf,zac,frS,frI,zad,zah,zai,hk];try refine xsu ?_)
    refine cI (fun h4 => ?_) fun h4 => ?_
    ·simp at h4
    ·iterate 2(try simp(etaStruct := .none)only[push_cast,zab,seval,zaf,zac,frS,frI,zad,zah,zai,hk];try refine xsu ?_)
     refine cI (fun h5 => ?_) fun h5 => ?_
     ·iterate 2(try simp(etaStruct := .none)only[push_cast,zab,seval,zaf,zac,frS,frI,zad,zah,zai,hk];try refine xsu ?_)
      exact zbc [0] rfl rfl (by decide) ⟨⟨rfl,WkL.refl _⟩,trivial⟩ (by repeat' (first|exact trivial|exact rfl|omega|refine⟨?_,?_⟩)) (Wk.refl _)
     ·omega
   ·simp at h3
theorem ydi (l:Lnk) (x:Evt) (R:LnkR l) (hk:x.kind=3) (hkeep:x.keep=true) (h:¬(x.at_<0∨(l.way.length:Int)≤x.at_)) (hf:¬l.acks.length=1000) (hc:(l.got.length:Int)<(l.way.getD x.at_.toNat default)∧(l.way.getD x.at_.toNat default)∉l.held):Spec Tryz.prog 67 [.ptr 0 0 0,zai x] [zaf l (frS l.sent) (.own 1) (.own 2) (frS l.got) (.own 3),zad l.way,zad l.acks,zad l.held] (I .i64 0) [zaf l (frS l.sent) (.own 1) (.own 4) (frS l.got) (.own 5),zad l.way,.dead,.dead,zad (l.acks ++ [(l.got.length:Int)]),zad (zj7 (l.way.getD x.at_.toNat default) l.held)]:=by
 have hs:=R.s
 have hg:=R.g
 have ha:=R.a
 have hh:=R.h
 have hy:=R.y
 have hb:=R.b
 have hn3:=R.n
 have hl:=za4 R
 refine spB Tryz.func67 127 [.tmp 4] Tryz.results67 ?_
 iterate 2(try simp(etaStruct := .none)only[push_cast,zab,seval,zaf,zac,frS,frI,zad,zah,zai,hk,hkeep];try refine xsu ?_)
 refine cI (fun h1 => ?_) fun h1 => ?_
 ·simp at h1
 ·iterate 2(try simp(etaStruct := .none)only[push_cast,zab,seval,zaf,zac,frS,frI,zad,zah,zai,hk,hkeep];try refine xsu ?_)
  refine cI (fun h2 => ?_) fun h2 => ?_
  ·simp at h2
  ·iterate 2(try simp(etaStruct := .none)only[push_cast,zab,seval,zaf,zac,frS,frI,zad,zah,zai,hk,hkeep];try refine xsu ?_)
   refine cI (fun h3 => ?_) fun h3 => ?_
   ·iterate 2(try simp(etaStruct := .none)only[push_cast,zab,seval,zaf,zac,frS,frI,zad,zah,zai,hk,hkeep];try refine xsu ?_)
    refine zcb [0,1,2,3] (zi1 l x.at_ hl (by omega)) (WkL.refl _) rfl (by decide) (by simp[zay,zb1,zf9]) ?_
    iterate 2(try simp(etaStruct := .none)only[push_cast,zab,seval,zaf,zac,frS,frI,zad,zah,zai,hk,hkeep];try refine xsu ?_)
    (try(refine⟨by kernel_rfl,?_⟩))
    iterate 2(try simp(etaStruct := .none)only[push_cast,zab,seval,zaf,zac,frS,frI,zad,zah,zai,hk,hkeep];try refine xsu ?_)
    refine cI (fun h4 => ?_) fun h4 => ?_
    ·simp at h4
    ·iterate 2(try simp(etaStruct := .none)only[push_cast,zab,seval,zaf,zac,frS,frI,zad,zah,zai,hk,hkeep];try refine xsu ?_)
     refine cI (fun h5 => ?_) fun h5 => ?_
     ·omega
     ·iterate 2(try simp(etaStruct := .none)only[push_cast,zab,seval,zaf,zac,frS,frI,zad,zah,zai,hk,hkeep];try refine xsu ?_)
      refine zcb [0,1,2,3] (zi1 l x.at_ hl (by omega)) (WkL.refl _) rfl (by decide) (by simp[zay,zb1,zf9]) ?_
      iterate 2(try simp(etaStruct := .none)only[push_cast,zab,seval,zaf,zac,frS,frI,zad,zah,zai,hk,hkeep];try refine xsu ?_)
      (try(refine⟨by kernel_rfl,?_⟩))
      iterate 2(try simp(etaStruct := .none)only[push_cast,zab,seval,zaf,zac,frS,frI,zad,zah,zai,hk,hkeep];try refine xsu ?_)
      refine caM [0,1,2,3] (z3z l (l.way.getD x.at_.toNat default) R hc) ?_
      iterate 2(try simp(etaStruct := .none)only[push_cast,zab,seval,zaf,zac,frS,frI,zad,zah,zai,hk,hkeep];try refine xsu ?_)
      exact zbc [0,1,2,3,102,101] rfl rfl (by decide) ⟨⟨rfl,WkL.refl _⟩,⟨rfl,rfl,rfl⟩,trivial,trivial,⟨rfl,rfl,by first|rfl|(rw[List.map_append];rfl)⟩,⟨rfl,rfl,by first|rfl|(rw[List.map_append];rfl)⟩,trivial⟩ (by repeat' (first|exact trivial|exact rfl|omega|refine⟨?_,?_⟩)) (Wk.refl _)
   ·simp at h3
theorem ydh (l:Lnk) (x:Evt) (R:LnkR l) (hk:x.kind=3) (hkeep:x.keep=false) (h:¬(x.at_<0∨(l.way.length:Int)≤x.at_)) (hf:¬l.acks.length=1000) (hc:(l.got.length:Int)<(l.way.getD x.at_.toNat default)∧(l.way.getD x.at_.toNat default)∉l.held):Spec Tryz.prog 67 [.ptr 0 0 0,zai x] [zaf l (frS l.sent) (.own 1) (.own 2) (frS l.got) (.own 3),zad l.way,zad l.acks,zad l.held] (I .i64 0) [zaf l (frS l.sent) (.own 4) (.own 5) (frS l.got) (.own 6),.dead,.dead,.dead,zad (zhy l.way x.at_.toNat),zad (l.acks ++ [(l.got.length:Int)]),zad (zj7 (l.way.getD x.at_.toNat default) l.held)]:=by
 have hs:=R.s
 have hg:=R.g
 have ha:=R.a
 have hh:=R.h
 have hy:=R.y
 have hb:=R.b
 have hn3:=R.n
 have hl:=za4 R
 refine spB Tryz.func67 127 [.tmp 4] Tryz.results67 ?_
 iterate 2(try simp(etaStruct := .none)only[push_cast,zab,seval,zaf,zac,frS,frI,zad,zah,zai,hk,hkeep];try refine xsu ?_)
 refine cI (fun h1 => ?_) fun h1 => ?_
 ·simp at h1
 ·iterate 2(try simp(etaStruct := .none)only[push_cast,zab,seval,zaf,zac,frS,frI,zad,zah,zai,hk,hkeep];try refine xsu ?_)
  refine cI (fun h2 => ?_) fun h2 => ?_
  ·simp at h2
  ·iterate 2(try simp(etaStruct := .none)only[push_cast,zab,seval,zaf,zac,frS,frI,zad,zah,zai,hk,hkeep];try refine xsu ?_)
   refine cI (fun h3 => ?_) fun h3 => ?_
   ·iterate 2(try simp(etaStruct := .none)only[push_cast,zab,seval,zaf,zac,frS,frI,zad,zah,zai,hk,hkeep];try refine xsu ?_)
    refine zcb [0,1,2,3] (zi1 l x.at_ hl (by omega)) (WkL.refl _) rfl (by decide) (by simp[zay,zb1,zf9]) ?_
    iterate 2(try simp(etaStruct := .none)only[push_cast,zab,seval,zaf,zac,frS,frI,zad,zah,zai,hk,hkeep];try refine xsu ?_)
    (try(refine⟨by kernel_rfl,?_⟩))
    iterate 2(try simp(etaStruct := .none)only[push_cast,zab,seval,zaf,zac,frS,frI,zad,zah,zai,hk,hkeep];try refine xsu ?_)
    refine cI (fun h4 => ?_) fun h4 => ?_
    ·simp at h4
    ·iterate 2(try simp(etaStruct := .none)only[push_cast,zab,seval,zaf,zac,frS,frI,zad,zah,zai,hk,hkeep];try refine xsu ?_)
     refine cI (fun h5 => ?_) fun h5 => ?_
     ·omega
     ·iterate 2(try simp(etaStruct := .none)only[push_cast,zab,seval,zaf,zac,frS,frI,zad,zah,zai,hk,hkeep];try refine xsu ?_)
      refine zcb [0,1,2,3] (zxs l x.at_ hl (by omega)) (WkL.refl _) rfl (by decide) (by simp[zay,zb1,zf9]) ?_
      iterate 2(try simp(etaStruct := .none)only[push_cast,zab,seval,zaf,zac,frS,frI,zad,zah,zai,hk,hkeep];try refine xsu ?_)
      (try(refine⟨by kernel_rfl,?_⟩))
      iterate 2(try simp(etaStruct := .none)only[push_cast,zab,seval,zaf,zac,frS,frI,zad,zah,zai,hk,hkeep];try refine xsu ?_)
      refine caM [0,77,2,3] (z3z { l with way:=zhy l.way x.at_.toNat } (l.way.getD x.at_.toNat default) (R.cutway _) hc) ?_
      iterate 2(try simp(etaStruct := .none)only[push_cast,zab,seval,zaf,zac,frS,frI,zad,zah,zai,hk,hkeep];try refine xsu ?_)
      exact zbc [0,1,2,3,77,102,101] rfl rfl (by decide) ⟨⟨rfl,WkL.refl _⟩,trivial,trivial,trivial,⟨rfl,rfl,by first|rfl|(rw[List.map_append];rfl)⟩,⟨rfl,rfl,by first|rfl|(rw[List.map_append];rfl)⟩,⟨rfl,rfl,by first|rfl|(rw[List.map_append];rfl)⟩,trivial⟩ (by repeat' (first|exact trivial|exact rfl|omega|refine⟨?_,?_⟩)) (Wk.refl _)
   ·simp at h3
theorem ydg (l:Lnk) (x:Evt) (R:LnkR l) (hk:x.kind=3) (hkeep:x.keep=true) (h:¬(x.at_<0∨(l.way.length:Int)≤x.at_)) (hf:¬l.acks.length=1000) (hc:(l.way.getD x.at_.toNat default)=(l.got.length:Int)):Spec Tryz.prog 67 [.ptr 0 0 0,zai x] [zaf l (frS l.sent) (.own 1) (.own 2) (.own 3) (frI l.held),zad l.way,zad l.acks,zah l.got] (I .i64 0) [zaf l (frS l.sent) (.own 1) (.own 4) (.own 5) (frI ((zca (l.got.length+1) l.held).2)),zad l.way,.dead,.dead,zad (l.acks ++ [(zca (l.got.length+1) l.held).1]),zah (l.sent.take (zca (l.got.length+1) l.held).1.toNat)]:=by
 have hs:=R.s
 have hg:=R.g
 have ha:=R.a
 have hh:=R.h
 have hy:=R.y
 have hb:=R.b
 have hn3:=R.n
 have hl:=za4 R
 have hbn:(l.got.length:Int)<l.next:=by have:=zor (p:=fun n=>0≤n∧n<l.next) R.wy (show x.at_.toNat<l.way.length by omega);omega
 refine spB Tryz.func67 127 [.tmp 4] Tryz.results67 ?_
 iterate 2(try simp(etaStruct := .none)only[push_cast,zab,seval,zaf,zac,frS,frI,zad,zah,zai,hk,hkeep,hc];try refine xsu ?_)
 refine cI (fun h1 => ?_) fun h1 => ?_
 ·simp at h1
 ·iterate 2(try simp(etaStruct := .none)only[push_cast,zab,seval,zaf,zac,frS,frI,zad,zah,zai,hk,hkeep,hc];try refine xsu ?_)
  refine cI (fun h2 => ?_) fun h2 => ?_
  ·simp at h2
  ·iterate 2(try simp(etaStruct := .none)only[push_cast,zab,seval,zaf,zac,frS,frI,zad,zah,zai,hk,hkeep,hc];try refine xsu ?_)
   refine cI (fun h3 => ?_) fun h3 => ?_
   ·iterate 2(try simp(etaStruct := .none)only[push_cast,zab,seval,zaf,zac,frS,frI,zad,zah,zai,hk,hkeep,hc];try refine xsu ?_)
    refine zcb [0,1,2,3] (zi2 l x.at_ hl (by omega)) (WkL.refl _) rfl (by decide) (by simp[zay,zb1,zf9]) ?_
    iterate 2(try simp(etaStruct := .none)only[push_cast,zab,seval,zaf,zac,frS,frI,zad,zah,zai,hk,hkeep,hc];try refine xsu ?_)
    (try(refine⟨by kernel_rfl,?_⟩))
    iterate 2(try simp(etaStruct := .none)only[push_cast,zab,seval,zaf,zac,frS,frI,zad,zah,zai,hk,hkeep,hc];try refine xsu ?_)
    refine cI (fun h4 => ?_) fun h4 => ?_
    ·simp at h4
    ·iterate 2(try simp(etaStruct := .none)only[push_cast,zab,seval,zaf,zac,frS,frI,zad,zah,zai,hk,hkeep,hc];try refine xsu ?_)
     refine cI (fun h5 => ?_) fun h5 => ?_
     ·omega
     ·iterate 2(try simp(etaStruct := .none)only[push_cast,zab,seval,zaf,zac,frS,frI,zad,zah,zai,hk,hkeep,hc];try refine xsu ?_)
      refine zcb [0,1,2,3] (zi2 l x.at_ hl (by omega)) (WkL.refl _) rfl (by decide) (by simp[zay,zb1,zf9]) ?_
      iterate 2(try simp(etaStruct := .none)only[push_cast,zab,seval,zaf,zac,frS,frI,zad,zah,zai,hk,hkeep,hc];try refine xsu ?_)
      (try(refine⟨by kernel_rfl,?_⟩))
      iterate 2(try simp(etaStruct := .none)only[push_cast,zab,seval,zaf,zac,frS,frI,zad,zah,zai,hk,hkeep,hc];try refine xsu ?_)
      refine caM [0,1,2,3] (z3y l R hbn) ?_
      iterate 2(try simp(etaStruct := .none)only[push_cast,zab,seval,zaf,zac,frS,frI,zad,zah,zai,hk,hkeep,hc];try refine xsu ?_)
      exact zbc [0,1,2,3,102,101] rfl rfl (by decide) ⟨⟨rfl,WkL.refl _⟩,⟨rfl,rfl,rfl⟩,trivial,trivial,⟨rfl,rfl,by first|rfl|(rw[List.map_append];rfl)⟩,⟨rfl,rfl,by first|rfl|(rw[List.map_append];rfl)⟩,trivial⟩ (by repeat' (first|exact trivial|exact rfl|omega|refine⟨?_,?_⟩)) (Wk.refl _)
   ·simp at h3
theorem ydf (l:Lnk) (x:Evt) (R:LnkR l) (hk:x.kind=3) (hkeep:x.keep=false) (h:¬(x.at_<0∨(l.way.length:Int)≤x.at_)) (hf:¬l.acks.length=1000) (hc:(l.way.getD x.at_.toNat default)=(l.got.length:Int)):Spec Tryz.prog 67 [.ptr 0 0 0,zai x] [zaf l (frS l.sent) (.own 1) (.own 2) (.own 3) (frI l.held),zad l.way,zad l.acks,zah l.got] (I .i64 0) [zaf l (frS l.sent) (.own 4) (.own 5) (.own 6) (frI ((zca (l.got.length+1) l.held).2)),.dead,.dead,.dead,zad (zhy l.way x.at_.toNat),zad (l.acks ++ [(zca (l.got.length+1) l.held).1]),zah (l.sent.take (zca (l.got.length+1) l.held).1.toNat)]:=by
 have hs:=R.s
 have hg:=R.g
 have ha:=R.a
 have hh:=R.h
 have hy:=R.y
 have hb:=R.b
 have hn3:=R.n
 have hl:=za4 R
 have hbn:(l.got.length:Int)<l.next:=by have:=zor (p:=fun n=>0≤n∧n<l.next) R.wy (show x.at_.toNat<l.way.length by omega);omega
 refine spB Tryz.func67 127 [.tmp 4] Tryz.results67 ?_
 iterate 2(try simp(etaStruct := .none)only[push_cast,zab,seval,zaf,zac,frS,frI,zad,zah,zai,hk,hkeep,hc];try refine xsu ?_)
 refine cI (fun h1 => ?_) fun h1 => ?_
 ·simp at h1
 ·iterate 2(try simp(etaStruct := .none)only[push_cast,zab,seval,zaf,zac,frS,frI,zad,zah,zai,hk,hkeep,hc];try refine xsu ?_)
  refine cI (fun h2 => ?_) fun h2 => ?_
  ·simp at h2
  ·iterate 2(try simp(etaStruct := .none)only[push_cast,zab,seval,zaf,zac,frS,frI,zad,zah,zai,hk,hkeep,hc];try refine xsu ?_)
   refine cI (fun h3 => ?_) fun h3 => ?_
   ·iterate 2(try simp(etaStruct := .none)only[push_cast,zab,seval,zaf,zac,frS,frI,zad,zah,zai,hk,hkeep,hc];try refine xsu ?_)
    refine zcb [0,1,2,3] (zi2 l x.at_ hl (by omega)) (WkL.refl _) rfl (by decide) (by simp[zay,zb1,zf9]) ?_
    iterate 2(try simp(etaStruct := .none)only[push_cast,zab,seval,zaf,zac,frS,frI,zad,zah,zai,hk,hkeep,hc];try refine xsu ?_)
    (try(refine⟨by kernel_rfl,?_⟩))
    iterate 2(try simp(etaStruct := .none)only[push_cast,zab,seval,zaf,zac,frS,frI,zad,zah,zai,hk,hkeep,hc];try refine xsu ?_)
    refine cI (fun h4 => ?_) fun h4 => ?_
    ·simp at h4
    ·iterate 2(try simp(etaStruct := .none)only[push_cast,zab,seval,zaf,zac,frS,frI,zad,zah,zai,hk,hkeep,hc];try refine xsu ?_)
     refine cI (fun h5 => ?_) fun h5 => ?_
     ·omega
     ·iterate 2(try simp(etaStruct := .none)only[push_cast,zab,seval,zaf,zac,frS,frI,zad,zah,zai,hk,hkeep,hc];try refine xsu ?_)
      refine zcb [0,1,2,3] (zxt l x.at_ hl (by omega)) (WkL.refl _) rfl (by decide) (by simp[zay,zb1,zf9]) ?_
      iterate 2(try simp(etaStruct := .none)only[push_cast,zab,seval,zaf,zac,frS,frI,zad,zah,zai,hk,hkeep,hc];try refine xsu ?_)
      (try(refine⟨by kernel_rfl,?_⟩))
      iterate 2(try simp(etaStruct := .none)only[push_cast,zab,seval,zaf,zac,frS,frI,zad,zah,zai,hk,hkeep,hc];try refine xsu ?_)
      refine caM [0,77,2,3] (z3y { l with way:=zhy l.way x.at_.toNat } (R.cutway _) hbn) ?_
      iterate 2(try simp(etaStruct := .none)only[push_cast,zab,seval,zaf,zac,frS,frI,zad,zah,zai,hk,hkeep,hc];try refine xsu ?_)
      exact zbc [0,1,2,3,77,102,101] rfl rfl (by decide) ⟨⟨rfl,WkL.refl _⟩,trivial,trivial,trivial,⟨rfl,rfl,by first|rfl|(rw[List.map_append];rfl)⟩,⟨rfl,rfl,by first|rfl|(rw[List.map_append];rfl)⟩,⟨rfl,rfl,by first|rfl|(rw[List.map_append];rfl)⟩,trivial⟩ (by repeat' (first|exact trivial|exact rfl|omega|refine⟨?_,?_⟩)) (Wk.refl _)
   ·simp at h3
theorem yde (l:Lnk) (x:Evt) (R:LnkR l) (hk:x.kind=3) (hkeep:x.keep=true) (h:¬(x.at_<0∨(l.way.length:Int)≤x.at_)) (hf:¬l.acks.length=1000) (hc:(l.way.getD x.at_.toNat default)≠(l.got.length:Int)) (hc2:¬((l.got.length:Int)<(l.way.getD x.at_.toNat default)∧(l.way.getD x.at_.toNat default)∉l.held)):Spec Tryz.prog 67 [.ptr 0 0 0,zai x] [zaf l (frS l.sent) (.own 1) (.own 2) (frS l.got) (frI l.held),zad l.way,zad l.acks] (I .i64 0) [zaf l (frS l.sent) (.own 1) (.own 3) (frS l.got) (frI l.held),zad l.way,.dead,zad (l.acks ++ [(l.got.length:Int)])]:=by
 have hs:=R.s
 have hg:=R.g
 have ha:=R.a
 have hh:=R.h
 have hy:=R.y
 have hb:=R.b
 have hn3:=R.n
 have hl:=za4 R
 refine spB Tryz.func67 127 [.tmp 4] Tryz.results67 ?_
 iterate 2(try simp(etaStruct := .none)only[push_cast,zab,seval,zaf,zac,frS,frI,zad,zah,zai,hk,hkeep];try refine xsu ?_)
 refine cI (fun h1 => ?_) fun h1 => ?_
 ·simp at h1
 ·iterate 2(try simp(etaStruct := .none)only[push_cast,zab,seval,zaf,zac,frS,frI,zad,zah,zai,hk,hkeep];try refine xsu ?_)
  refine cI (fun h2 => ?_) fun h2 => ?_
  ·simp at h2
  ·iterate 2(try simp(etaStruct := .none)only[push_cast,zab,seval,zaf,zac,frS,frI,zad,zah,zai,hk,hkeep];try refine xsu ?_)
   refine cI (fun h3 => ?_) fun h3 => ?_
   ·iterate 2(try simp(etaStruct := .none)only[push_cast,zab,seval,zaf,zac,frS,frI,zad,zah,zai,hk,hkeep];try refine xsu ?_)
    refine zcb [0,1,2] (zk4 l x.at_ hl (by omega)) (WkL.refl _) rfl (by decide) (by simp[zay,zb1,zf9]) ?_
    iterate 2(try simp(etaStruct := .none)only[push_cast,zab,seval,zaf,zac,frS,frI,zad,zah,zai,hk,hkeep];try refine xsu ?_)
    (try(refine⟨by kernel_rfl,?_⟩))
    iterate 2(try simp(etaStruct := .none)only[push_cast,zab,seval,zaf,zac,frS,frI,zad,zah,zai,hk,hkeep];try refine xsu ?_)
    refine cI (fun h4 => ?_) fun h4 => ?_
    ·simp at h4
    ·iterate 2(try simp(etaStruct := .none)only[push_cast,zab,seval,zaf,zac,frS,frI,zad,zah,zai,hk,hkeep];try refine xsu ?_)
     refine cI (fun h5 => ?_) fun h5 => ?_
     ·omega
     ·iterate 2(try simp(etaStruct := .none)only[push_cast,zab,seval,zaf,zac,frS,frI,zad,zah,zai,hk,hkeep];try refine xsu ?_)
      refine zcb [0,1,2] (zk4 l x.at_ hl (by omega)) (WkL.refl _) rfl (by decide) (by simp[zay,zb1,zf9]) ?_
      iterate 2(try simp(etaStruct := .none)only[push_cast,zab,seval,zaf,zac,frS,frI,zad,zah,zai,hk,hkeep];try refine xsu ?_)
      (try(refine⟨by kernel_rfl,?_⟩))
      iterate 2(try simp(etaStruct := .none)only[push_cast,zab,seval,zaf,zac,frS,frI,zad,zah,zai,hk,hkeep];try refine xsu ?_)
      refine caM [0,1,2] (z3x l (l.way.getD x.at_.toNat default) R hc hc2) ?_
      iterate 2(try simp(etaStruct := .none)only[push_cast,zab,seval,zaf,zac,frS,frI,zad,zah,zai,hk,hkeep];try refine xsu ?_)
      exact zbc [0,1,2,100] rfl rfl (by decide) ⟨⟨rfl,WkL.refl _⟩,⟨rfl,rfl,rfl⟩,trivial,⟨rfl,rfl,by first|rfl|(rw[List.map_append];rfl)⟩,trivial⟩ (by repeat' (first|exact trivial|exact rfl|omega|refine⟨?_,?_⟩)) (Wk.refl _)
   ·simp at h3
theorem ydd (l:Lnk) (x:Evt) (R:LnkR l) (hk:x.kind=3) (hkeep:x.keep=false) (h:¬(x.at_<0∨(l.way.length:Int)≤x.at_)) (hf:¬l.acks.length=1000) (hc:(l.way.getD x.at_.toNat default)≠(l.got.length:Int)) (hc2:¬((l.got.length:Int)<(l.way.getD x.at_.toNat default)∧(l.way.getD x.at_.toNat default)∉l.held)):Spec Tryz.prog 67 [.ptr 0 0 0,zai x] [zaf l (frS l.sent) (.own 1) (.own 2) (frS l.got) (frI l.held),zad l.way,zad l.acks] (I .i64 0) [zaf l (frS l.sent) (.own 3) (.own 4) (frS l.got) (frI l.held),.dead,.dead,zad (zhy l.way x.at_.toNat),zad (l.acks ++ [(l.got.length:Int)])]:=by
 have hs:=R.s
 have hg:=R.g
 have ha:=R.a
 have hh:=R.h
 have hy:=R.y
 have hb:=R.b
 have hn3:=R.n
 have hl:=za4 R
 refine spB Tryz.func67 127 [.tmp 4] Tryz.results67 ?_
 iterate 2(try simp(etaStruct := .none)only[push_cast,zab,seval,zaf,zac,frS,frI,zad,zah,zai,hk,hkeep];try refine xsu ?_)
 refine cI (fun h1 => ?_) fun h1 => ?_
 ·simp at h1
 ·iterate 2(try simp(etaStruct := .none)only[push_cast,zab,seval,zaf,zac,frS,frI,zad,zah,zai,hk,hkeep];try refine xsu ?_)
  refine cI (fun h2 => ?_) fun h2 => ?_
  ·simp at h2
  ·iterate 2(try simp(etaStruct := .none)only[push_cast,zab,seval,zaf,zac,frS,frI,zad,zah,zai,hk,hkeep];try refine xsu ?_)
   refine cI (fun h3 => ?_) fun h3 => ?_
   ·iterate 2(try simp(etaStruct := .none)only[push_cast,zab,seval,zaf,zac,frS,frI,zad,zah,zai,hk,hkeep];try refine xsu ?_)
    refine zcb [0,1,2] (zk4 l x.at_ hl (by omega)) (WkL.refl _) rfl (by decide) (by simp[zay,zb1,zf9]) ?_
    iterate 2(try simp(etaStruct := .none)only[push_cast,zab,seval,zaf,zac,frS,frI,zad,zah,zai,hk,hkeep];try refine xsu ?_)
    (try(refine⟨by kernel_rfl,?_⟩))
    iterate 2(try simp(etaStruct := .none)only[push_cast,zab,seval,zaf,zac,frS,frI,zad,zah,zai,hk,hkeep];try refine xsu ?_)
    refine cI (fun h4 => ?_) fun h4 => ?_
    ·simp at h4
    ·iterate 2(try simp(etaStruct := .none)only[push_cast,zab,seval,zaf,zac,frS,frI,zad,zah,zai,hk,hkeep];try refine xsu ?_)
     refine cI (fun h5 => ?_) fun h5 => ?_
     ·omega
     ·iterate 2(try simp(etaStruct := .none)only[push_cast,zab,seval,zaf,zac,frS,frI,zad,zah,zai,hk,hkeep];try refine xsu ?_)
      refine zcb [0,1,2] (zz8 l x.at_ hl (by omega)) (WkL.refl _) rfl (by decide) (by simp[zay,zb1,zf9]) ?_
      iterate 2(try simp(etaStruct := .none)only[push_cast,zab,seval,zaf,zac,frS,frI,zad,zah,zai,hk,hkeep];try refine xsu ?_)
      (try(refine⟨by kernel_rfl,?_⟩))
      iterate 2(try simp(etaStruct := .none)only[push_cast,zab,seval,zaf,zac,frS,frI,zad,zah,zai,hk,hkeep];try refine xsu ?_)
      refine caM [0,76,2] (z3x { l with way:=zhy l.way x.at_.toNat } (l.way.getD x.at_.toNat default) (R.cutway _) hc hc2) ?_
      iterate 2(try simp(etaStruct := .none)only[push_cast,zab,seval,zaf,zac,frS,frI,zad,zah,zai,hk,hkeep];try refine xsu ?_)
      exact zbc [0,1,2,76,100] rfl rfl (by decide) ⟨⟨rfl,WkL.refl _⟩,trivial,trivial,⟨rfl,rfl,by first|rfl|(rw[List.map_append];rfl)⟩,⟨rfl,rfl,by first|rfl|(rw[List.map_append];rfl)⟩,trivial⟩ (by repeat' (first|exact trivial|exact rfl|omega|refine⟨?_,?_⟩)) (Wk.refl _)
   ·simp at h3
theorem z7v (l:Lnk) (x:Evt) (R:LnkR l) (hk:x.kind=4) (h:x.at_<0∨(l.acks.length:Int)≤x.at_):Spec Tryz.prog 67 [.ptr 0 0 0,zai x] [zaf l (frS l.sent) (frI l.way) (frI l.acks) (frS l.got) (frI l.held)] (I .i64 7) [zaf l (frS l.sent) (frI l.way) (frI l.acks) (frS l.got) (frI l.held)]:=by
 have hs:=R.s
 have hg:=R.g
 have ha:=R.a
 have hh:=R.h
 have hy:=R.y
 have hb:=R.b
 have hn3:=R.n
 have hl:=za4 R
 refine spB Tryz.func67 127 [.tmp 4] Tryz.results67 ?_
 iterate 2(try simp(etaStruct := .none)only[push_cast,zab,seval,zaf,zac,frS,frI,zad,zah,zai,hk];try refine xsu ?_)
 refine cI (fun h1 => ?_) fun h1 => ?_
 ·simp at h1
 ·iterate 2(try simp(etaStruct := .none)only[push_cast,zab,seval,zaf,zac,frS,frI,zad,zah,zai,hk];try refine xsu ?_)
  refine cI (fun h2 => ?_) fun h2 => ?_
  ·simp at h2
  ·iterate 2(try simp(etaStruct := .none)only[push_cast,zab,seval,zaf,zac,frS,frI,zad,zah,zai,hk];try refine xsu ?_)
   refine cI (fun h3 => ?_) fun h3 => ?_
   ·simp at h3
   ·iterate 2(try simp(etaStruct := .none)only[push_cast,zab,seval,zaf,zac,frS,frI,zad,zah,zai,hk];try refine xsu ?_)
    refine cI (fun h4 => ?_) fun h4 => ?_
    ·iterate 2(try simp(etaStruct := .none)only[push_cast,zab,seval,zaf,zac,frS,frI,zad,zah,zai,hk];try refine xsu ?_)
     refine zcb [0] (zut l x.at_ x.keep hl h) (WkL.refl _) rfl (by decide) (by simp[zay,zb1,zf9]) ?_
     iterate 2(try simp(etaStruct := .none)only[push_cast,zab,seval,zaf,zac,frS,frI,zad,zah,zai,hk];try refine xsu ?_)
     (try(refine⟨by kernel_rfl,?_⟩))
     iterate 2(try simp(etaStruct := .none)only[push_cast,zab,seval,zaf,zac,frS,frI,zad,zah,zai,hk];try refine xsu ?_)
     refine cI (fun h5 => ?_) fun h5 => ?_
     ·iterate 2(try simp(etaStruct := .none)only[push_cast,zab,seval,zaf,zac,frS,frI,zad,zah,zai,hk];try refine xsu ?_)
      exact zbc [0] rfl rfl (by decide) ⟨⟨rfl,WkL.refl _⟩,trivial⟩ (by repeat' (first|exact trivial|exact rfl|omega|refine⟨?_,?_⟩)) (Wk.refl _)
     ·simp at h5
    ·simp at h4
theorem ylg (l:Lnk) (x:Evt) (R:LnkR l) (hk:x.kind=4) (hkeep:x.keep=true) (h:¬(x.at_<0∨(l.acks.length:Int)≤x.at_)):Spec Tryz.prog 67 [.ptr 0 0 0,zai x] [zaf l (frS l.sent) (frI l.way) (.own 1) (frS l.got) (frI l.held),zad l.acks] (I .i64 0) [zaf { l with base:=(max l.base (l.acks.getD x.at_.toNat default)),next:=(max l.next (max l.base (l.acks.getD x.at_.toNat default))) } (frS l.sent) (frI l.way) (.own 1) (frS l.got) (frI l.held),zad l.acks]:=by
 have hs:=R.s
 have hg:=R.g
 have ha:=R.a
 have hh:=R.h
 have hy:=R.y
 have hb:=R.b
 have hn3:=R.n
 have hl:=za4 R
 have hv:=zor (p:=fun n=>0≤n∧n≤l.got.length) R.ak (show x.at_.toNat<l.acks.length by omega)
 have em:∀a b:Int,(if a<b then b else a)=max a b:=fun a b=>by split<;>omega
 refine spB Tryz.func67 127 [.tmp 4] Tryz.results67 ?_
 iterate 2(try simp(etaStruct := .none)only[push_cast,zab,seval,zaf,zac,frS,frI,zad,zah,zai,hk,hkeep,em];try refine xsu ?_)
 refine cI (fun h1 => ?_) fun h1 => ?_
 ·simp at h1
 ·iterate 2(try simp(etaStruct := .none)only[push_cast,zab,seval,zaf,zac,frS,frI,zad,zah,zai,hk,hkeep,em];try refine xsu ?_)
  refine cI (fun h2 => ?_) fun h2 => ?_
  ·simp at h2
  ·iterate 2(try simp(etaStruct := .none)only[push_cast,zab,seval,zaf,zac,frS,frI,zad,zah,zai,hk,hkeep,em];try refine xsu ?_)
   refine cI (fun h3 => ?_) fun h3 => ?_
   ·simp at h3
   ·iterate 2(try simp(etaStruct := .none)only[push_cast,zab,seval,zaf,zac,frS,frI,zad,zah,zai,hk,hkeep,em];try refine xsu ?_)
    refine cI (fun h4 => ?_) fun h4 => ?_
    ·iterate 2(try simp(etaStruct := .none)only[push_cast,zab,seval,zaf,zac,frS,frI,zad,zah,zai,hk,hkeep,em];try refine xsu ?_)
     refine zcb [0,1] (z5c l x.at_ hl (by omega)) (WkL.refl _) rfl (by decide) (by simp[zay,zb1,zf9]) ?_
     iterate 2(try simp(etaStruct := .none)only[push_cast,zab,seval,zaf,zac,frS,frI,zad,zah,zai,hk,hkeep,em];try refine xsu ?_)
     (try(refine⟨by kernel_rfl,?_⟩))
     iterate 2(try simp(etaStruct := .none)only[push_cast,zab,seval,zaf,zac,frS,frI,zad,zah,zai,hk,hkeep,em];try refine xsu ?_)
     refine cI (fun h5 => ?_) fun h5 => ?_
     ·simp at h5
     ·iterate 2(try simp(etaStruct := .none)only[push_cast,zab,seval,zaf,zac,frS,frI,zad,zah,zai,hk,hkeep,em];try refine xsu ?_)
      (try(refine⟨by kernel_rfl,?_⟩))
      iterate 2(try simp(etaStruct := .none)only[push_cast,zab,seval,zaf,zac,frS,frI,zad,zah,zai,hk,hkeep,em];try refine xsu ?_)
      exact zbc [0,1] rfl rfl (by decide) ⟨⟨rfl,WkL.refl _⟩,⟨rfl,rfl,rfl⟩,trivial⟩ (by repeat' (first|exact trivial|exact rfl|omega|refine⟨?_,?_⟩)) (Wk.refl _)
    ·simp at h4
theorem ylf (l:Lnk) (x:Evt) (R:LnkR l) (hk:x.kind=4) (hkeep:x.keep=false) (h:¬(x.at_<0∨(l.acks.length:Int)≤x.at_)):Spec Tryz.prog 67 [.ptr 0 0 0,zai x] [zaf l (frS l.sent) (frI l.way) (.own 1) (frS l.got) (frI l.held),zad l.acks] (I .i64 0) [zaf { l with base:=(max l.base (l.acks.getD x.at_.toNat default)),next:=(max l.next (max l.base (l.acks.getD x.at_.toNat default))) } (frS l.sent) (frI l.way) (.own 2) (frS l.got) (frI l.held),.dead,zad (zhy l.acks x.at_.toNat)]:=by
 have hs:=R.s
 have hg:=R.g
 have ha:=R.a
 have hh:=R.h
 have hy:=R.y
 have hb:=R.b
 have hn3:=R.n
 have hl:=za4 R
 have hv:=zor (p:=fun n=>0≤n∧n≤l.got.length) R.ak (show x.at_.toNat<l.acks.length by omega)
 have em:∀a b:Int,(if a<b then b else a)=max a b:=fun a b=>by split<;>omega
 refine spB Tryz.func67 127 [.tmp 4] Tryz.results67 ?_
 iterate 2(try simp(etaStruct := .none)only[push_cast,zab,seval,zaf,zac,frS,frI,zad,zah,zai,hk,hkeep,em];try refine xsu ?_)
 refine cI (fun h1 => ?_) fun h1 => ?_
 ·simp at h1
 ·iterate 2(try simp(etaStruct := .none)only[push_cast,zab,seval,zaf,zac,frS,frI,zad,zah,zai,hk,hkeep,em];try refine xsu ?_)
  refine cI (fun h2 => ?_) fun h2 => ?_
  ·simp at h2
  ·iterate 2(try simp(etaStruct := .none)only[push_cast,zab,seval,zaf,zac,frS,frI,zad,zah,zai,hk,hkeep,em];try refine xsu ?_)
   refine cI (fun h3 => ?_) fun h3 => ?_
   ·simp at h3
   ·iterate 2(try simp(etaStruct := .none)only[push_cast,zab,seval,zaf,zac,frS,frI,zad,zah,zai,hk,hkeep,em];try refine xsu ?_)
    refine cI (fun h4 => ?_) fun h4 => ?_
    ·iterate 2(try simp(etaStruct := .none)only[push_cast,zab,seval,zaf,zac,frS,frI,zad,zah,zai,hk,hkeep,em];try refine xsu ?_)
     refine zcb [0,1] (zuu l x.at_ hl (by omega)) (WkL.refl _) rfl (by decide) (by simp[zay,zb1,zf9]) ?_
     iterate 2(try simp(etaStruct := .none)only[push_cast,zab,seval,zaf,zac,frS,frI,zad,zah,zai,hk,hkeep,em];try refine xsu ?_)
     (try(refine⟨by kernel_rfl,?_⟩))
     iterate 2(try simp(etaStruct := .none)only[push_cast,zab,seval,zaf,zac,frS,frI,zad,zah,zai,hk,hkeep,em];try refine xsu ?_)
     refine cI (fun h5 => ?_) fun h5 => ?_
     ·simp at h5
     ·iterate 2(try simp(etaStruct := .none)only[push_cast,zab,seval,zaf,zac,frS,frI,zad,zah,zai,hk,hkeep,em];try refine xsu ?_)
      (try(refine⟨by kernel_rfl,?_⟩))
      iterate 2(try simp(etaStruct := .none)only[push_cast,zab,seval,zaf,zac,frS,frI,zad,zah,zai,hk,hkeep,em];try refine xsu ?_)
      exact zbc [0,1,31] rfl rfl (by decide) ⟨⟨rfl,WkL.refl _⟩,trivial,⟨rfl,rfl,by first|rfl|(rw[List.map_append];rfl)⟩,trivial⟩ (by repeat' (first|exact trivial|exact rfl|omega|refine⟨?_,?_⟩)) (Wk.refl _)
    ·simp at h4
theorem zza (l:Lnk) (x:Evt) (R:LnkR l) (hk:x.kind=5) (hkeep:x.keep=false) (h:x.at_<0∨(l.way.length:Int)≤x.at_):Spec Tryz.prog 67 [.ptr 0 0 0,zai x] [zaf l (frS l.sent) (frI l.way) (frI l.acks) (frS l.got) (frI l.held)] (I .i64 7) [zaf l (frS l.sent) (frI l.way) (frI l.acks) (frS l.got) (frI l.held)]:=by
 have hs:=R.s
 have hg:=R.g
 have ha:=R.a
 have hh:=R.h
 have hy:=R.y
 have hb:=R.b
 have hn3:=R.n
 have hl:=za4 R
 refine spB Tryz.func67 127 [.tmp 4] Tryz.results67 ?_
 iterate 2(try simp(etaStruct := .none)only[push_cast,zab,seval,zaf,zac,frS,frI,zad,zah,zai,hk,hkeep];try refine xsu ?_)
 refine cI (fun h1 => ?_) fun h1 => ?_
 ·simp at h1
 ·iterate 2(try simp(etaStruct := .none)only[push_cast,zab,seval,zaf,zac,frS,frI,zad,zah,zai,hk,hkeep];try refine xsu ?_)
  refine cI (fun h2 => ?_) fun h2 => ?_
  ·simp at h2
  ·iterate 2(try simp(etaStruct := .none)only[push_cast,zab,seval,zaf,zac,frS,frI,zad,zah,zai,hk,hkeep];try refine xsu ?_)
   refine cI (fun h3 => ?_) fun h3 => ?_
   ·simp at h3
   ·iterate 2(try simp(etaStruct := .none)only[push_cast,zab,seval,zaf,zac,frS,frI,zad,zah,zai,hk,hkeep];try refine xsu ?_)
    refine cI (fun h4 => ?_) fun h4 => ?_
    ·simp at h4
    ·iterate 2(try simp(etaStruct := .none)only[push_cast,zab,seval,zaf,zac,frS,frI,zad,zah,zai,hk,hkeep];try refine xsu ?_)
     refine cI (fun h5 => ?_) fun h5 => ?_
     ·iterate 2(try simp(etaStruct := .none)only[push_cast,zab,seval,zaf,zac,frS,frI,zad,zah,zai,hk,hkeep];try refine xsu ?_)
      refine cI (fun h6 => ?_) fun h6 => ?_
      ·simp at h6
      ·iterate 2(try simp(etaStruct := .none)only[push_cast,zab,seval,zaf,zac,frS,frI,zad,zah,zai,hk,hkeep];try refine xsu ?_)
       refine zcb [0] (zus l x.at_ false hl h) (WkL.refl _) rfl (by decide) (by simp[zay,zb1,zf9]) ?_
       iterate 2(try simp(etaStruct := .none)only[push_cast,zab,seval,zaf,zac,frS,frI,zad,zah,zai,hk,hkeep];try refine xsu ?_)
       refine cI (fun h7 => ?_) fun h7 => ?_
       ·iterate 2(try simp(etaStruct := .none)only[push_cast,zab,seval,zaf,zac,frS,frI,zad,zah,zai,hk,hkeep];try refine xsu ?_)
        exact zbc [0] rfl rfl (by decide) ⟨⟨rfl,WkL.refl _⟩,trivial⟩ (by repeat' (first|exact trivial|exact rfl|omega|refine⟨?_,?_⟩)) (Wk.refl _)
       ·simp at h7
     ·simp at h5
theorem yld (l:Lnk) (x:Evt) (R:LnkR l) (hk:x.kind=5) (hkeep:x.keep=false) (h:¬(x.at_<0∨(l.way.length:Int)≤x.at_)):Spec Tryz.prog 67 [.ptr 0 0 0,zai x] [zaf l (frS l.sent) (.own 1) (frI l.acks) (frS l.got) (frI l.held),zad l.way] (I .i64 0) [zaf l (frS l.sent) (.own 2) (frI l.acks) (frS l.got) (frI l.held),.dead,zad (zhy l.way x.at_.toNat)]:=by
 have hs:=R.s
 have hg:=R.g
 have ha:=R.a
 have hh:=R.h
 have hy:=R.y
 have hb:=R.b
 have hn3:=R.n
 have hl:=za4 R
 refine spB Tryz.func67 127 [.tmp 4] Tryz.results67 ?_
 iterate 2(try simp(etaStruct := .none)only[push_cast,zab,seval,zaf,zac,frS,frI,zad,zah,zai,hk,hkeep];try refine xsu ?_)
 refine cI (fun h1 => ?_) fun h1 => ?_
 ·simp at h1
 ·iterate 2(try simp(etaStruct := .none)only[push_cast,zab,seval,zaf,zac,frS,frI,zad,zah,zai,hk,hkeep];try refine xsu ?_)
  refine cI (fun h2 => ?_) fun h2 => ?_
  ·simp at h2
  ·iterate 2(try simp(etaStruct := .none)only[push_cast,zab,seval,zaf,zac,frS,frI,zad,zah,zai,hk,hkeep];try refine xsu ?_)
   refine cI (fun h3 => ?_) fun h3 => ?_
   ·simp at h3
   ·iterate 2(try simp(etaStruct := .none)only[push_cast,zab,seval,zaf,zac,frS,frI,zad,zah,zai,hk,hkeep];try refine xsu ?_)
    refine cI (fun h4 => ?_) fun h4 => ?_
    ·simp at h4
    ·iterate 2(try simp(etaStruct := .none)only[push_cast,zab,seval,zaf,zac,frS,frI,zad,zah,zai,hk,hkeep];try refine xsu ?_)
     refine cI (fun h5 => ?_) fun h5 => ?_
     ·iterate 2(try simp(etaStruct := .none)only[push_cast,zab,seval,zaf,zac,frS,frI,zad,zah,zai,hk,hkeep];try refine xsu ?_)
      refine cI (fun h6 => ?_) fun h6 => ?_
      ·simp at h6
      ·iterate 2(try simp(etaStruct := .none)only[push_cast,zab,seval,zaf,zac,frS,frI,zad,zah,zai,hk,hkeep];try refine xsu ?_)
       refine zcb [0,1] (z5a l x.at_ hl (by omega)) (WkL.refl _) rfl (by decide) (by simp[zay,zb1,zf9]) ?_
       iterate 2(try simp(etaStruct := .none)only[push_cast,zab,seval,zaf,zac,frS,frI,zad,zah,zai,hk,hkeep];try refine xsu ?_)
       refine cI (fun h7 => ?_) fun h7 => ?_
       ·simp at h7
       ·iterate 2(try simp(etaStruct := .none)only[push_cast,zab,seval,zaf,zac,frS,frI,zad,zah,zai,hk,hkeep];try refine xsu ?_)
        exact zbc [0,1,3] rfl rfl (by decide) ⟨⟨rfl,WkL.refl _⟩,trivial,⟨rfl,rfl,by first|rfl|(rw[List.map_append];rfl)⟩,trivial⟩ (by repeat' (first|exact trivial|exact rfl|omega|refine⟨?_,?_⟩)) (Wk.refl _)
     ·simp at h5
theorem zzb (l:Lnk) (x:Evt) (R:LnkR l) (hk:x.kind=5) (hkeep:x.keep=true) (h:x.at_<0∨(l.acks.length:Int)≤x.at_):Spec Tryz.prog 67 [.ptr 0 0 0,zai x] [zaf l (frS l.sent) (frI l.way) (frI l.acks) (frS l.got) (frI l.held)] (I .i64 7) [zaf l (frS l.sent) (frI l.way) (frI l.acks) (frS l.got) (frI l.held)]:=by
 have hs:=R.s
 have hg:=R.g
 have ha:=R.a
 have hh:=R.h
 have hy:=R.y
 have hb:=R.b
 have hn3:=R.n
 have hl:=za4 R
 refine spB Tryz.func67 127 [.tmp 4] Tryz.results67 ?_
 iterate 2(try simp(etaStruct := .none)only[push_cast,zab,seval,zaf,zac,frS,frI,zad,zah,zai,hk,hkeep];try refine xsu ?_)
 refine cI (fun h1 => ?_) fun h1 => ?_
 ·simp at h1
 ·iterate 2(try simp(etaStruct := .none)only[push_cast,zab,seval,zaf,zac,frS,frI,zad,zah,zai,hk,hkeep];try refine xsu ?_)
  refine cI (fun h2 => ?_) fun h2 => ?_
  ·simp at h2
  ·iterate 2(try simp(etaStruct := .none)only[push_cast,zab,seval,zaf,zac,frS,frI,zad,zah,zai,hk,hkeep];try refine xsu ?_)
   refine cI (fun h3 => ?_) fun h3 => ?_
   ·simp at h3
   ·iterate 2(try simp(etaStruct := .none)only[push_cast,zab,seval,zaf,zac,frS,frI,zad,zah,zai,hk,hkeep];try refine xsu ?_)
    refine cI (fun h4 => ?_) fun h4 => ?_
    ·simp at h4
    ·iterate 2(try simp(etaStruct := .none)only[push_cast,zab,seval,zaf,zac,frS,frI,zad,zah,zai,hk,hkeep];try refine xsu ?_)
     refine cI (fun h5 => ?_) fun h5 => ?_
     ·iterate 2(try simp(etaStruct := .none)only[push_cast,zab,seval,zaf,zac,frS,frI,zad,zah,zai,hk,hkeep];try refine xsu ?_)
      refine cI (fun h6 => ?_) fun h6 => ?_
      ·iterate 2(try simp(etaStruct := .none)only[push_cast,zab,seval,zaf,zac,frS,frI,zad,zah,zai,hk,hkeep];try refine xsu ?_)
       refine zcb [0] (zut l x.at_ false hl h) (WkL.refl _) rfl (by decide) (by simp[zay,zb1,zf9]) ?_
       iterate 2(try simp(etaStruct := .none)only[push_cast,zab,seval,zaf,zac,frS,frI,zad,zah,zai,hk,hkeep];try refine xsu ?_)
       refine cI (fun h7 => ?_) fun h7 => ?_
       ·iterate 2(try simp(etaStruct := .none)only[push_cast,zab,seval,zaf,zac,frS,frI,zad,zah,zai,hk,hkeep];try refine xsu ?_)
        exact zbc [0] rfl rfl (by decide) ⟨⟨rfl,WkL.refl _⟩,trivial⟩ (by repeat' (first|exact trivial|exact rfl|omega|refine⟨?_,?_⟩)) (Wk.refl _)
       ·simp at h7
      ·simp at h6
     ·simp at h5
theorem yle (l:Lnk) (x:Evt) (R:LnkR l) (hk:x.kind=5) (hkeep:x.keep=true) (h:¬(x.at_<0∨(l.acks.length:Int)≤x.at_)):Spec Tryz.prog 67 [.ptr 0 0 0,zai x] [zaf l (frS l.sent) (frI l.way) (.own 1) (frS l.got) (frI l.held),zad l.acks] (I .i64 0) [zaf l (frS l.sent) (frI l.way) (.own 2) (frS l.got) (frI l.held),.dead,zad (zhy l.acks x.at_.toNat)]:=by
 have hs:=R.s
 have hg:=R.g
 have ha:=R.a
 have hh:=R.h
 have hy:=R.y
 have hb:=R.b
 have hn3:=R.n
 have hl:=za4 R
 refine spB Tryz.func67 127 [.tmp 4] Tryz.results67 ?_
 iterate 2(try simp(etaStruct := .none)only[push_cast,zab,seval,zaf,zac,frS,frI,zad,zah,zai,hk,hkeep];try refine xsu ?_)
 refine cI (fun h1 => ?_) fun h1 => ?_
 ·simp at h1
 ·iterate 2(try simp(etaStruct := .none)only[push_cast,zab,seval,zaf,zac,frS,frI,zad,zah,zai,hk,hkeep];try refine xsu ?_)
  refine cI (fun h2 => ?_) fun h2 => ?_
  ·simp at h2
  ·iterate 2(try simp(etaStruct := .none)only[push_cast,zab,seval,zaf,zac,frS,frI,zad,zah,zai,hk,hkeep];try refine xsu ?_)
   refine cI (fun h3 => ?_) fun h3 => ?_
   ·simp at h3
   ·iterate 2(try simp(etaStruct := .none)only[push_cast,zab,seval,zaf,zac,frS,frI,zad,zah,zai,hk,hkeep];try refine xsu ?_)
    refine cI (fun h4 => ?_) fun h4 => ?_
    ·simp at h4
    ·iterate 2(try simp(etaStruct := .none)only[push_cast,zab,seval,zaf,zac,frS,frI,zad,zah,zai,hk,hkeep];try refine xsu ?_)
     refine cI (fun h5 => ?_) fun h5 => ?_
     ·iterate 2(try simp(etaStruct := .none)only[push_cast,zab,seval,zaf,zac,frS,frI,zad,zah,zai,hk,hkeep];try refine xsu ?_)
      refine cI (fun h6 => ?_) fun h6 => ?_
      ·iterate 2(try simp(etaStruct := .none)only[push_cast,zab,seval,zaf,zac,frS,frI,zad,zah,zai,hk,hkeep];try refine xsu ?_)
       refine zcb [0,1] (zuu l x.at_ hl (by omega)) (WkL.refl _) rfl (by decide) (by simp[zay,zb1,zf9]) ?_
       iterate 2(try simp(etaStruct := .none)only[push_cast,zab,seval,zaf,zac,frS,frI,zad,zah,zai,hk,hkeep];try refine xsu ?_)
       refine cI (fun h7 => ?_) fun h7 => ?_
       ·simp at h7
       ·iterate 2(try simp(etaStruct := .none)only[push_cast,zab,seval,zaf,zac,frS,frI,zad,zah,zai,hk,hkeep];try refine xsu ?_)
        exact zbc [0,1,3] rfl rfl (by decide) ⟨⟨rfl,WkL.refl _⟩,trivial,⟨rfl,rfl,by first|rfl|(rw[List.map_append];rfl)⟩,trivial⟩ (by repeat' (first|exact trivial|exact rfl|omega|refine⟨?_,?_⟩)) (Wk.refl _)
      ·simp at h6
     ·simp at h5
theorem zj4 (l:Lnk) (x:Evt) (R:LnkR l) (e:Int) (he:e≠0) (D:Spec Tryz.prog 67 [.ptr 0 0 0,zai x] [zaf l (frS l.sent) (frI l.way) (frI l.acks) (frS l.got) (frI l.held)] (I .i64 e) [zaf l (frS l.sent) (frI l.way) (frI l.acks) (frS l.got) (frI l.held)]):Spec Tryz.prog 23 [zan l,zai x] [] (.tup [zan l,I .i64 e]) []:=by
 have hl:=za4 R
 have hC:=zcr l hl
 rw[(zcq l).2 R]at hC
 refine spB Tryz.func23 26 [.cell 4 88,.tmp 5] Tryz.results23 ?_
 iterate 2(try simp(etaStruct := .none)only[push_cast,zab,seval,zan,zai];try refine xsu ?_)
 refine caP (zew l hl) ?_
 iterate 2(try simp(etaStruct := .none)only[push_cast,zab,seval,zan,zai];try refine xsu ?_)
 refine caP (hC) ?_
 iterate 2(try simp(etaStruct := .none)only[push_cast,zab,seval,zan,zai];try refine xsu ?_)
 refine cI (fun h1 => ?_) fun h1 => ?_
 ·simp at h1
 ·iterate 2(try simp(etaStruct := .none)only[push_cast,zab,seval,zan,zai];try refine xsu ?_)
  refine caP (zew l hl) ?_
  iterate 2(try simp(etaStruct := .none)only[push_cast,zab,seval,zan,zai];try refine xsu ?_)
  refine caM [0] (D) ?_
  iterate 2(try simp(etaStruct := .none)only[push_cast,zab,seval,zan,zai];try refine xsu ?_)
  refine cI (fun h2 => ?_) fun h2 => ?_
  ·iterate 2(try simp(etaStruct := .none)only[push_cast,zab,seval,zan,zai];try refine xsu ?_)
   exact xrz rfl
  ·exact absurd h2 he
theorem yeb (l:Lnk) (x:Evt) (R:LnkR l) (hk:x.kind=1) (h:¬l.sent.length=200):Spec Tryz.prog 23 [zan l,zai x] [] (.tup [zan { l with sent:=l.sent ++ [x.text] },I .i64 0]) []:=by
 have hl:=za4 R
 have hC:=zcr l hl
 rw[(zcq l).2 R]at hC
 refine spB Tryz.func23 26 [.cell 4 88,.tmp 5] Tryz.results23 ?_
 iterate 2(try simp(etaStruct := .none)only[push_cast,zab,seval,zan,zai,zbt,zaf,zac,frS,frI,zah,zad];try refine xsu ?_)
 refine caP (zew l hl) ?_
 iterate 2(try simp(etaStruct := .none)only[push_cast,zab,seval,zan,zai,zbt,zaf,zac,frS,frI,zah,zad];try refine xsu ?_)
 refine caP (hC) ?_
 iterate 2(try simp(etaStruct := .none)only[push_cast,zab,seval,zan,zai,zbt,zaf,zac,frS,frI,zah,zad];try refine xsu ?_)
 refine cI (fun h1 => ?_) fun h1 => ?_
 ·simp at h1
 ·iterate 2(try simp(etaStruct := .none)only[push_cast,zab,seval,zan,zai,zbt,zaf,zac,frS,frI,zah,zad];try refine xsu ?_)
  refine caM [] (yj9 l hl) ?_
  iterate 2(try simp(etaStruct := .none)only[push_cast,zab,seval,zan,zai,zbt,zaf,zac,frS,frI,zah,zad];try refine xsu ?_)
  refine caM [0,4] (yhh l x R hk h) ?_
  iterate 2(try simp(etaStruct := .none)only[push_cast,zab,seval,zan,zai,zbt,zaf,zac,frS,frI,zah,zad];try refine xsu ?_)
  refine cI (fun h2 => ?_) fun h2 => ?_
  ·simp at h2
  ·iterate 2(try simp(etaStruct := .none)only[push_cast,zab,seval,zan,zai,zbt,zaf,zac,frS,frI,zah,zad];try refine xsu ?_)
   exact zbr rfl (by repeat' (first|exact trivial|exact rfl|omega|refine⟨?_,?_⟩)) (Wk.refl _)
theorem yea (l:Lnk) (x:Evt) (R:LnkR l) (hk:x.kind=2) (h:¬1000<(l.way.length:Int)+za8 l-l.base):Spec Tryz.prog 23 [zan l,zai x] [] (.tup [zan { l with next:=(za8 l),way:=l.way++zkg l.base (za8 l-l.base).toNat },I .i64 0]) []:=by
 have hl:=za4 R
 have hC:=zcr l hl
 rw[(zcq l).2 R]at hC
 refine spB Tryz.func23 26 [.cell 4 88,.tmp 5] Tryz.results23 ?_
 iterate 2(try simp(etaStruct := .none)only[push_cast,zab,seval,zan,zai,zbt,zaf,zac,frS,frI,zah,zad];try refine xsu ?_)
 refine caP (zew l hl) ?_
 iterate 2(try simp(etaStruct := .none)only[push_cast,zab,seval,zan,zai,zbt,zaf,zac,frS,frI,zah,zad];try refine xsu ?_)
 refine caP (hC) ?_
 iterate 2(try simp(etaStruct := .none)only[push_cast,zab,seval,zan,zai,zbt,zaf,zac,frS,frI,zah,zad];try refine xsu ?_)
 refine cI (fun h1 => ?_) fun h1 => ?_
 ·simp at h1
 ·iterate 2(try simp(etaStruct := .none)only[push_cast,zab,seval,zan,zai,zbt,zaf,zac,frS,frI,zah,zad];try refine xsu ?_)
  refine caM [] (yfw l hl) ?_
  iterate 2(try simp(etaStruct := .none)only[push_cast,zab,seval,zan,zai,zbt,zaf,zac,frS,frI,zah,zad];try refine xsu ?_)
  refine caM [0,4] (yhg l x R hk h) ?_
  iterate 2(try simp(etaStruct := .none)only[push_cast,zab,seval,zan,zai,zbt,zaf,zac,frS,frI,zah,zad];try refine xsu ?_)
  refine cI (fun h2 => ?_) fun h2 => ?_
  ·simp at h2
  ·iterate 2(try simp(etaStruct := .none)only[push_cast,zab,seval,zan,zai,zbt,zaf,zac,frS,frI,zah,zad];try refine xsu ?_)
   exact zbr rfl (by repeat' (first|exact trivial|exact rfl|omega|refine⟨?_,?_⟩)) (Wk.refl _)
theorem z8w (l:Lnk) (x:Evt) (R:LnkR l) (hk:x.kind=3) (hkeep:x.keep=true) (h:¬(x.at_<0∨(l.way.length:Int)≤x.at_)) (hf:¬l.acks.length=1000) (hc:(l.got.length:Int)<(l.way.getD x.at_.toNat default)∧(l.way.getD x.at_.toNat default)∉l.held):Spec Tryz.prog 23 [zan l,zai x] [] (.tup [zan { l with acks:=l.acks ++ [(l.got.length:Int)],held:=zj7 (l.way.getD x.at_.toNat default) l.held },I .i64 0]) []:=by
 have hl:=za4 R
 have hC:=zcr l hl
 rw[(zcq l).2 R]at hC
 refine spB Tryz.func23 26 [.cell 4 88,.tmp 5] Tryz.results23 ?_
 iterate 2(try simp(etaStruct := .none)only[push_cast,zab,seval,zan,zai,zbt,zaf,zac,frS,frI,zah,zad];try refine xsu ?_)
 refine caP (zew l hl) ?_
 iterate 2(try simp(etaStruct := .none)only[push_cast,zab,seval,zan,zai,zbt,zaf,zac,frS,frI,zah,zad];try refine xsu ?_)
 refine caP (hC) ?_
 iterate 2(try simp(etaStruct := .none)only[push_cast,zab,seval,zan,zai,zbt,zaf,zac,frS,frI,zah,zad];try refine xsu ?_)
 refine cI (fun h1 => ?_) fun h1 => ?_
 ·simp at h1
 ·iterate 2(try simp(etaStruct := .none)only[push_cast,zab,seval,zan,zai,zbt,zaf,zac,frS,frI,zah,zad];try refine xsu ?_)
  refine caM [] (z1b l hl) ?_
  iterate 2(try simp(etaStruct := .none)only[push_cast,zab,seval,zan,zai,zbt,zaf,zac,frS,frI,zah,zad];try refine xsu ?_)
  refine caM [0,4,5,6] (ydi l x R hk hkeep h hf hc) ?_
  iterate 2(try simp(etaStruct := .none)only[push_cast,zab,seval,zan,zai,zbt,zaf,zac,frS,frI,zah,zad];try refine xsu ?_)
  refine cI (fun h2 => ?_) fun h2 => ?_
  ·simp at h2
  ·iterate 2(try simp(etaStruct := .none)only[push_cast,zab,seval,zan,zai,zbt,zaf,zac,frS,frI,zah,zad];try refine xsu ?_)
   exact zbr rfl (by repeat' (first|exact trivial|exact rfl|omega|refine⟨?_,?_⟩)) (Wk.refl _)
theorem z8v (l:Lnk) (x:Evt) (R:LnkR l) (hk:x.kind=3) (hkeep:x.keep=false) (h:¬(x.at_<0∨(l.way.length:Int)≤x.at_)) (hf:¬l.acks.length=1000) (hc:(l.got.length:Int)<(l.way.getD x.at_.toNat default)∧(l.way.getD x.at_.toNat default)∉l.held):Spec Tryz.prog 23 [zan l,zai x] [] (.tup [zan { l with way:=zhy l.way x.at_.toNat,acks:=l.acks ++ [(l.got.length:Int)],held:=zj7 (l.way.getD x.at_.toNat default) l.held },I .i64 0]) []:=by
 have hl:=za4 R
 have hC:=zcr l hl
 rw[(zcq l).2 R]at hC
 refine spB Tryz.func23 26 [.cell 4 88,.tmp 5] Tryz.results23 ?_
 iterate 2(try simp(etaStruct := .none)only[push_cast,zab,seval,zan,zai,zbt,zaf,zac,frS,frI,zah,zad];try refine xsu ?_)
 refine caP (zew l hl) ?_
 iterate 2(try simp(etaStruct := .none)only[push_cast,zab,seval,zan,zai,zbt,zaf,zac,frS,frI,zah,zad];try refine xsu ?_)
 refine caP (hC) ?_
 iterate 2(try simp(etaStruct := .none)only[push_cast,zab,seval,zan,zai,zbt,zaf,zac,frS,frI,zah,zad];try refine xsu ?_)
 refine cI (fun h1 => ?_) fun h1 => ?_
 ·simp at h1
 ·iterate 2(try simp(etaStruct := .none)only[push_cast,zab,seval,zan,zai,zbt,zaf,zac,frS,frI,zah,zad];try refine xsu ?_)
  refine caM [] (z1b l hl) ?_
  iterate 2(try simp(etaStruct := .none)only[push_cast,zab,seval,zan,zai,zbt,zaf,zac,frS,frI,zah,zad];try refine xsu ?_)
  refine caM [0,4,5,6] (ydh l x R hk hkeep h hf hc) ?_
  iterate 2(try simp(etaStruct := .none)only[push_cast,zab,seval,zan,zai,zbt,zaf,zac,frS,frI,zah,zad];try refine xsu ?_)
  refine cI (fun h2 => ?_) fun h2 => ?_
  ·simp at h2
  ·iterate 2(try simp(etaStruct := .none)only[push_cast,zab,seval,zan,zai,zbt,zaf,zac,frS,frI,zah,zad];try refine xsu ?_)
   exact zbr rfl (by repeat' (first|exact trivial|exact rfl|omega|refine⟨?_,?_⟩)) (Wk.refl _)
theorem z8u (l:Lnk) (x:Evt) (R:LnkR l) (hk:x.kind=3) (hkeep:x.keep=true) (h:¬(x.at_<0∨(l.way.length:Int)≤x.at_)) (hf:¬l.acks.length=1000) (hc:(l.way.getD x.at_.toNat default)=(l.got.length:Int)):Spec Tryz.prog 23 [zan l,zai x] [] (.tup [zan { l with acks:=l.acks ++ [(zca (l.got.length+1) l.held).1],got:=l.sent.take (zca (l.got.length+1) l.held).1.toNat,held:=(zca (l.got.length+1) l.held).2 },I .i64 0]) []:=by
 have hl:=za4 R
 have hC:=zcr l hl
 rw[(zcq l).2 R]at hC
 refine spB Tryz.func23 26 [.cell 4 88,.tmp 5] Tryz.results23 ?_
 iterate 2(try simp(etaStruct := .none)only[push_cast,zab,seval,zan,zai,zbt,zaf,zac,frS,frI,zah,zad];try refine xsu ?_)
 refine caP (zew l hl) ?_
 iterate 2(try simp(etaStruct := .none)only[push_cast,zab,seval,zan,zai,zbt,zaf,zac,frS,frI,zah,zad];try refine xsu ?_)
 refine caP (hC) ?_
 iterate 2(try simp(etaStruct := .none)only[push_cast,zab,seval,zan,zai,zbt,zaf,zac,frS,frI,zah,zad];try refine xsu ?_)
 refine cI (fun h1 => ?_) fun h1 => ?_
 ·simp at h1
 ·iterate 2(try simp(etaStruct := .none)only[push_cast,zab,seval,zan,zai,zbt,zaf,zac,frS,frI,zah,zad];try refine xsu ?_)
  refine caM [] (z1c l hl) ?_
  iterate 2(try simp(etaStruct := .none)only[push_cast,zab,seval,zan,zai,zbt,zaf,zac,frS,frI,zah,zad];try refine xsu ?_)
  refine caM [0,4,5,6] (ydg l x R hk hkeep h hf hc) ?_
  iterate 2(try simp(etaStruct := .none)only[push_cast,zab,seval,zan,zai,zbt,zaf,zac,frS,frI,zah,zad];try refine xsu ?_)
  refine cI (fun h2 => ?_) fun h2 => ?_
  ·simp at h2
  ·iterate 2(try simp(etaStruct := .none)only[push_cast,zab,seval,zan,zai,zbt,zaf,zac,frS,frI,zah,zad];try refine xsu ?_)
   exact zbr rfl (by repeat' (first|exact trivial|exact rfl|omega|refine⟨?_,?_⟩)) (Wk.refl _)
theorem z8t (l:Lnk) (x:Evt) (R:LnkR l) (hk:x.kind=3) (hkeep:x.keep=false) (h:¬(x.at_<0∨(l.way.length:Int)≤x.at_)) (hf:¬l.acks.length=1000) (hc:(l.way.getD x.at_.toNat default)=(l.got.length:Int)):Spec Tryz.prog 23 [zan l,zai x] [] (.tup [zan { l with way:=zhy l.way x.at_.toNat,acks:=l.acks ++ [(zca (l.got.length+1) l.held).1],got:=l.sent.take (zca (l.got.length+1) l.held).1.toNat,held:=(zca (l.got.length+1) l.held).2 },I .i64 0]) []:=by
 have hl:=za4 R
 have hC:=zcr l hl
 rw[(zcq l).2 R]at hC
 refine spB Tryz.func23 26 [.cell 4 88,.tmp 5] Tryz.results23 ?_
 iterate 2(try simp(etaStruct := .none)only[push_cast,zab,seval,zan,zai,zbt,zaf,zac,frS,frI,zah,zad];try refine xsu ?_)
 refine caP (zew l hl) ?_
 iterate 2(try simp(etaStruct := .none)only[push_cast,zab,seval,zan,zai,zbt,zaf,zac,frS,frI,zah,zad];try refine xsu ?_)
 refine caP (hC) ?_
 iterate 2(try simp(etaStruct := .none)only[push_cast,zab,seval,zan,zai,zbt,zaf,zac,frS,frI,zah,zad];try refine xsu ?_)
 refine cI (fun h1 => ?_) fun h1 => ?_
 ·simp at h1
 ·iterate 2(try simp(etaStruct := .none)only[push_cast,zab,seval,zan,zai,zbt,zaf,zac,frS,frI,zah,zad];try refine xsu ?_)
  refine caM [] (z1c l hl) ?_
  iterate 2(try simp(etaStruct := .none)only[push_cast,zab,seval,zan,zai,zbt,zaf,zac,frS,frI,zah,zad];try refine xsu ?_)
  refine caM [0,4,5,6] (ydf l x R hk hkeep h hf hc) ?_
  iterate 2(try simp(etaStruct := .none)only[push_cast,zab,seval,zan,zai,zbt,zaf,zac,frS,frI,zah,zad];try refine xsu ?_)
  refine cI (fun h2 => ?_) fun h2 => ?_
  ·simp at h2
  ·iterate 2(try simp(etaStruct := .none)only[push_cast,zab,seval,zan,zai,zbt,zaf,zac,frS,frI,zah,zad];try refine xsu ?_)
   exact zbr rfl (by repeat' (first|exact trivial|exact rfl|omega|refine⟨?_,?_⟩)) (Wk.refl _)
theorem z8s (l:Lnk) (x:Evt) (R:LnkR l) (hk:x.kind=3) (hkeep:x.keep=true) (h:¬(x.at_<0∨(l.way.length:Int)≤x.at_)) (hf:¬l.acks.length=1000) (hc:(l.way.getD x.at_.toNat default)≠(l.got.length:Int)) (hc2:¬((l.got.length:Int)<(l.way.getD x.at_.toNat default)∧(l.way.getD x.at_.toNat default)∉l.held)):Spec Tryz.prog 23 [zan l,zai x] [] (.tup [zan { l with acks:=l.acks ++ [(l.got.length:Int)] },I .i64 0]) []:=by
 have hl:=za4 R
 have hC:=zcr l hl
 rw[(zcq l).2 R]at hC
 refine spB Tryz.func23 26 [.cell 4 88,.tmp 5] Tryz.results23 ?_
 iterate 2(try simp(etaStruct := .none)only[push_cast,zab,seval,zan,zai,zbt,zaf,zac,frS,frI,zah,zad];try refine xsu ?_)
 refine caP (zew l hl) ?_
 iterate 2(try simp(etaStruct := .none)only[push_cast,zab,seval,zan,zai,zbt,zaf,zac,frS,frI,zah,zad];try refine xsu ?_)
 refine caP (hC) ?_
 iterate 2(try simp(etaStruct := .none)only[push_cast,zab,seval,zan,zai,zbt,zaf,zac,frS,frI,zah,zad];try refine xsu ?_)
 refine cI (fun h1 => ?_) fun h1 => ?_
 ·simp at h1
 ·iterate 2(try simp(etaStruct := .none)only[push_cast,zab,seval,zan,zai,zbt,zaf,zac,frS,frI,zah,zad];try refine xsu ?_)
  refine caM [] (z9l l hl) ?_
  iterate 2(try simp(etaStruct := .none)only[push_cast,zab,seval,zan,zai,zbt,zaf,zac,frS,frI,zah,zad];try refine xsu ?_)
  refine caM [0,4,5] (yde l x R hk hkeep h hf hc hc2) ?_
  iterate 2(try simp(etaStruct := .none)only[push_cast,zab,seval,zan,zai,zbt,zaf,zac,frS,frI,zah,zad];try refine xsu ?_)
  refine cI (fun h2 => ?_) fun h2 => ?_
  ·simp at h2
  ·iterate 2(try simp(etaStruct := .none)only[push_cast,zab,seval,zan,zai,zbt,zaf,zac,frS,frI,zah,zad];try refine xsu ?_)
   exact zbr rfl (by repeat' (first|exact trivial|exact rfl|omega|refine⟨?_,?_⟩)) (Wk.refl _)
theorem z8r (l:Lnk) (x:Evt) (R:LnkR l) (hk:x.kind=3) (hkeep:x.keep=false) (h:¬(x.at_<0∨(l.way.length:Int)≤x.at_)) (hf:¬l.acks.length=1000) (hc:(l.way.getD x.at_.toNat default)≠(l.got.length:Int)) (hc2:¬((l.got.length:Int)<(l.way.getD x.at_.toNat default)∧(l.way.getD x.at_.toNat default)∉l.held)):Spec Tryz.prog 23 [zan l,zai x] [] (.tup [zan { l with way:=zhy l.way x.at_.toNat,acks:=l.acks ++ [(l.got.length:Int)] },I .i64 0]) []:=by
 have hl:=za4 R
 have hC:=zcr l hl
 rw[(zcq l).2 R]at hC
 refine spB Tryz.func23 26 [.cell 4 88,.tmp 5] Tryz.results23 ?_
 iterate 2(try simp(etaStruct := .none)only[push_cast,zab,seval,zan,zai,zbt,zaf,zac,frS,frI,zah,zad];try refine xsu ?_)
 refine caP (zew l hl) ?_
 iterate 2(try simp(etaStruct := .none)only[push_cast,zab,seval,zan,zai,zbt,zaf,zac,frS,frI,zah,zad];try refine xsu ?_)
 refine caP (hC) ?_
 iterate 2(try simp(etaStruct := .none)only[push_cast,zab,seval,zan,zai,zbt,zaf,zac,frS,frI,zah,zad];try refine xsu ?_)
 refine cI (fun h1 => ?_) fun h1 => ?_
 ·simp at h1
 ·iterate 2(try simp(etaStruct := .none)only[push_cast,zab,seval,zan,zai,zbt,zaf,zac,frS,frI,zah,zad];try refine xsu ?_)
  refine caM [] (z9l l hl) ?_
  iterate 2(try simp(etaStruct := .none)only[push_cast,zab,seval,zan,zai,zbt,zaf,zac,frS,frI,zah,zad];try refine xsu ?_)
  refine caM [0,4,5] (ydd l x R hk hkeep h hf hc hc2) ?_
  iterate 2(try simp(etaStruct := .none)only[push_cast,zab,seval,zan,zai,zbt,zaf,zac,frS,frI,zah,zad];try refine xsu ?_)
  refine cI (fun h2 => ?_) fun h2 => ?_
  ·simp at h2
  ·iterate 2(try simp(etaStruct := .none)only[push_cast,zab,seval,zan,zai,zbt,zaf,zac,frS,frI,zah,zad];try refine xsu ?_)
   exact zbr rfl (by repeat' (first|exact trivial|exact rfl|omega|refine⟨?_,?_⟩)) (Wk.refl _)
theorem yh7 (l:Lnk) (x:Evt) (R:LnkR l) (hk:x.kind=4) (hkeep:x.keep=true) (h:¬(x.at_<0∨(l.acks.length:Int)≤x.at_)):Spec Tryz.prog 23 [zan l,zai x] [] (.tup [zan { l with base:=(max l.base (l.acks.getD x.at_.toNat default)),next:=(max l.next (max l.base (l.acks.getD x.at_.toNat default))) },I .i64 0]) []:=by
 have hl:=za4 R
 have hC:=zcr l hl
 rw[(zcq l).2 R]at hC
 refine spB Tryz.func23 26 [.cell 4 88,.tmp 5] Tryz.results23 ?_
 iterate 2(try simp(etaStruct := .none)only[push_cast,zab,seval,zan,zai,zbt,zaf,zac,frS,frI,zah,zad];try refine xsu ?_)
 refine caP (zew l hl) ?_
 iterate 2(try simp(etaStruct := .none)only[push_cast,zab,seval,zan,zai,zbt,zaf,zac,frS,frI,zah,zad];try refine xsu ?_)
 refine caP (hC) ?_
 iterate 2(try simp(etaStruct := .none)only[push_cast,zab,seval,zan,zai,zbt,zaf,zac,frS,frI,zah,zad];try refine xsu ?_)
 refine cI (fun h1 => ?_) fun h1 => ?_
 ·simp at h1
 ·iterate 2(try simp(etaStruct := .none)only[push_cast,zab,seval,zan,zai,zbt,zaf,zac,frS,frI,zah,zad];try refine xsu ?_)
  refine caM [] (own_a l hl) ?_
  iterate 2(try simp(etaStruct := .none)only[push_cast,zab,seval,zan,zai,zbt,zaf,zac,frS,frI,zah,zad];try refine xsu ?_)
  refine caM [0,4] (ylg l x R hk hkeep h) ?_
  iterate 2(try simp(etaStruct := .none)only[push_cast,zab,seval,zan,zai,zbt,zaf,zac,frS,frI,zah,zad];try refine xsu ?_)
  refine cI (fun h2 => ?_) fun h2 => ?_
  ·simp at h2
  ·iterate 2(try simp(etaStruct := .none)only[push_cast,zab,seval,zan,zai,zbt,zaf,zac,frS,frI,zah,zad];try refine xsu ?_)
   exact zbr rfl (by repeat' (first|exact trivial|exact rfl|omega|refine⟨?_,?_⟩)) (Wk.refl _)
theorem yh6 (l:Lnk) (x:Evt) (R:LnkR l) (hk:x.kind=4) (hkeep:x.keep=false) (h:¬(x.at_<0∨(l.acks.length:Int)≤x.at_)):Spec Tryz.prog 23 [zan l,zai x] [] (.tup [zan { l with base:=(max l.base (l.acks.getD x.at_.toNat default)),next:=(max l.next (max l.base (l.acks.getD x.at_.toNat default))),acks:=zhy l.acks x.at_.toNat },I .i64 0]) []:=by
 have hl:=za4 R
 have hC:=zcr l hl
 rw[(zcq l).2 R]at hC
 refine spB Tryz.func23 26 [.cell 4 88,.tmp 5] Tryz.results23 ?_
 iterate 2(try simp(etaStruct := .none)only[push_cast,zab,seval,zan,zai,zbt,zaf,zac,frS,frI,zah,zad];try refine xsu ?_)
 refine caP (zew l hl) ?_
 iterate 2(try simp(etaStruct := .none)only[push_cast,zab,seval,zan,zai,zbt,zaf,zac,frS,frI,zah,zad];try refine xsu ?_)
 refine caP (hC) ?_
 iterate 2(try simp(etaStruct := .none)only[push_cast,zab,seval,zan,zai,zbt,zaf,zac,frS,frI,zah,zad];try refine xsu ?_)
 refine cI (fun h1 => ?_) fun h1 => ?_
 ·simp at h1
 ·iterate 2(try simp(etaStruct := .none)only[push_cast,zab,seval,zan,zai,zbt,zaf,zac,frS,frI,zah,zad];try refine xsu ?_)
  refine caM [] (own_a l hl) ?_
  iterate 2(try simp(etaStruct := .none)only[push_cast,zab,seval,zan,zai,zbt,zaf,zac,frS,frI,zah,zad];try refine xsu ?_)
  refine caM [0,4] (ylf l x R hk hkeep h) ?_
  iterate 2(try simp(etaStruct := .none)only[push_cast,zab,seval,zan,zai,zbt,zaf,zac,frS,frI,zah,zad];try refine xsu ?_)
  refine cI (fun h2 => ?_) fun h2 => ?_
  ·simp at h2
  ·iterate 2(try simp(etaStruct := .none)only[push_cast,zab,seval,zan,zai,zbt,zaf,zac,frS,frI,zah,zad];try refine xsu ?_)
   exact zbr rfl (by repeat' (first|exact trivial|exact rfl|omega|refine⟨?_,?_⟩)) (Wk.refl _)
theorem yh4 (l:Lnk) (x:Evt) (R:LnkR l) (hk:x.kind=5) (hkeep:x.keep=false) (h:¬(x.at_<0∨(l.way.length:Int)≤x.at_)):Spec Tryz.prog 23 [zan l,zai x] [] (.tup [zan { l with way:=zhy l.way x.at_.toNat },I .i64 0]) []:=by
 have hl:=za4 R
 have hC:=zcr l hl
 rw[(zcq l).2 R]at hC
 refine spB Tryz.func23 26 [.cell 4 88,.tmp 5] Tryz.results23 ?_
 iterate 2(try simp(etaStruct := .none)only[push_cast,zab,seval,zan,zai,zbt,zaf,zac,frS,frI,zah,zad];try refine xsu ?_)
 refine caP (zew l hl) ?_
 iterate 2(try simp(etaStruct := .none)only[push_cast,zab,seval,zan,zai,zbt,zaf,zac,frS,frI,zah,zad];try refine xsu ?_)
 refine caP (hC) ?_
 iterate 2(try simp(etaStruct := .none)only[push_cast,zab,seval,zan,zai,zbt,zaf,zac,frS,frI,zah,zad];try refine xsu ?_)
 refine cI (fun h1 => ?_) fun h1 => ?_
 ·simp at h1
 ·iterate 2(try simp(etaStruct := .none)only[push_cast,zab,seval,zan,zai,zbt,zaf,zac,frS,frI,zah,zad];try refine xsu ?_)
  refine caM [] (yfw l hl) ?_
  iterate 2(try simp(etaStruct := .none)only[push_cast,zab,seval,zan,zai,zbt,zaf,zac,frS,frI,zah,zad];try refine xsu ?_)
  refine caM [0,4] (yld l x R hk hkeep h) ?_
  iterate 2(try simp(etaStruct := .none)only[push_cast,zab,seval,zan,zai,zbt,zaf,zac,frS,frI,zah,zad];try refine xsu ?_)
  refine cI (fun h2 => ?_) fun h2 => ?_
  ·simp at h2
  ·iterate 2(try simp(etaStruct := .none)only[push_cast,zab,seval,zan,zai,zbt,zaf,zac,frS,frI,zah,zad];try refine xsu ?_)
   exact zbr rfl (by repeat' (first|exact trivial|exact rfl|omega|refine⟨?_,?_⟩)) (Wk.refl _)
theorem yh5 (l:Lnk) (x:Evt) (R:LnkR l) (hk:x.kind=5) (hkeep:x.keep=true) (h:¬(x.at_<0∨(l.acks.length:Int)≤x.at_)):Spec Tryz.prog 23 [zan l,zai x] [] (.tup [zan { l with acks:=zhy l.acks x.at_.toNat },I .i64 0]) []:=by
 have hl:=za4 R
 have hC:=zcr l hl
 rw[(zcq l).2 R]at hC
 refine spB Tryz.func23 26 [.cell 4 88,.tmp 5] Tryz.results23 ?_
 iterate 2(try simp(etaStruct := .none)only[push_cast,zab,seval,zan,zai,zbt,zaf,zac,frS,frI,zah,zad];try refine xsu ?_)
 refine caP (zew l hl) ?_
 iterate 2(try simp(etaStruct := .none)only[push_cast,zab,seval,zan,zai,zbt,zaf,zac,frS,frI,zah,zad];try refine xsu ?_)
 refine caP (hC) ?_
 iterate 2(try simp(etaStruct := .none)only[push_cast,zab,seval,zan,zai,zbt,zaf,zac,frS,frI,zah,zad];try refine xsu ?_)
 refine cI (fun h1 => ?_) fun h1 => ?_
 ·simp at h1
 ·iterate 2(try simp(etaStruct := .none)only[push_cast,zab,seval,zan,zai,zbt,zaf,zac,frS,frI,zah,zad];try refine xsu ?_)
  refine caM [] (own_a l hl) ?_
  iterate 2(try simp(etaStruct := .none)only[push_cast,zab,seval,zan,zai,zbt,zaf,zac,frS,frI,zah,zad];try refine xsu ?_)
  refine caM [0,4] (yle l x R hk hkeep h) ?_
  iterate 2(try simp(etaStruct := .none)only[push_cast,zab,seval,zan,zai,zbt,zaf,zac,frS,frI,zah,zad];try refine xsu ?_)
  refine cI (fun h2 => ?_) fun h2 => ?_
  ·simp at h2
  ·iterate 2(try simp(etaStruct := .none)only[push_cast,zab,seval,zan,zai,zbt,zaf,zac,frS,frI,zah,zad];try refine xsu ?_)
   exact zbr rfl (by repeat' (first|exact trivial|exact rfl|omega|refine⟨?_,?_⟩)) (Wk.refl _)
theorem ylz (l:Lnk) (x:Evt) (R:LnkR l):Spec Tryz.prog 23 [zan l,zai x] [] (.tup [zan (zga l x).1,I .i64 (zga l x).2]) []:=by
 by_cases k1:x.kind=1
 ·by_cases h:l.sent.length=200
  ·rw[show zga l x=(l,6)by unfold zga;rw[if_pos k1,if_pos h]]
   exact zj4 l x R 6 (by decide) (z7z l x R k1 h)
  ·rw[show zga l x=({ l with sent:=l.sent ++ [x.text] },0)by unfold zga;rw[if_pos k1,if_neg h]]
   exact yeb l x R k1 h
 by_cases k2:x.kind=2
 ·by_cases h:1000<(l.way.length:Int)+za8 l-l.base
  ·rw[show zga l x=(l,6)by unfold zga;rw[if_neg k1,if_pos k2,if_pos h]]
   exact zj4 l x R 6 (by decide) (z7y l x R k2 h)
  ·rw[show zga l x=({ l with next:=za8 l,way:=l.way++zkg l.base (za8 l-l.base).toNat },0)by unfold zga;rw[if_neg k1,if_pos k2,if_neg h]]
   exact yea l x R k2 h
 by_cases k3:x.kind=3
 ·by_cases h:x.at_<0∨(l.way.length:Int)≤x.at_
  ·rw[show zga l x=(l,7)by unfold zga;rw[if_neg k1,if_neg k2,if_pos k3,if_pos h]]
   exact zj4 l x R 7 (by decide) (z7w l x R k3 h)
  by_cases hf:l.acks.length=1000
  ·rw[show zga l x=(l,6)by unfold zga;rw[if_neg k1,if_neg k2,if_pos k3,if_neg h,if_pos hf]]
   exact zj4 l x R 6 (by decide) (z7x l x R k3 h hf)
  have e:zga l x=({ l with way:=zp8 l.way x.at_ x.keep,got:=l.sent.take (zc1 l.got.length l.held (l.way.getD x.at_.toNat default)).1.toNat,held:=(zc1 l.got.length l.held (l.way.getD x.at_.toNat default)).2,acks:=l.acks ++ [(zc1 l.got.length l.held (l.way.getD x.at_.toNat default)).1] },0):=by
   unfold zga;rw[if_neg k1,if_neg k2,if_pos k3,if_neg h,if_neg hf];rfl
  rw[e]
  by_cases hc:l.way.getD x.at_.toNat default=(l.got.length:Int)
  ·rw[show zc1 l.got.length l.held (l.way.getD x.at_.toNat default)=zca (l.got.length+1) l.held by unfold zc1;rw[if_pos hc]]
   cases hk:x.keep
   ·exact z8t l x R k3 hk h hf hc
   ·exact z8u l x R k3 hk h hf hc
  have hp:l.sent.take ((l.got.length:Int)).toNat=l.got:=by rw[Int.toNat_natCast];exact R.p.symm
  by_cases hc2:(l.got.length:Int)<l.way.getD x.at_.toNat default∧l.way.getD x.at_.toNat default∉l.held
  ·rw[show zc1 l.got.length l.held (l.way.getD x.at_.toNat default)=((l.got.length:Int),zj7 (l.way.getD x.at_.toNat default) l.held)by unfold zc1;rw[if_neg hc,if_pos hc2]]
   simp only[hp]
   cases hk:x.keep
   ·exact z8v l x R k3 hk h hf hc2
   ·exact z8w l x R k3 hk h hf hc2
  ·rw[show zc1 l.got.length l.held (l.way.getD x.at_.toNat default)=((l.got.length:Int),l.held)by unfold zc1;rw[if_neg hc,if_neg hc2]]
   simp only[hp]
   cases hk:x.keep
   ·exact z8r l x R k3 hk h hf hc hc2
   ·exact z8s l x R k3 hk h hf hc hc2
 by_cases k4:x.kind=4
 ·by_cases h:x.at_<0∨(l.acks.length:Int)≤x.at_
  ·rw[show zga l x=(l,7)by unfold zga;rw[if_neg k1,if_neg k2,if_neg k3,if_pos k4,if_pos h]]
   exact zj4 l x R 7 (by decide) (z7v l x R k4 h)
  have e:zga l x=({ l with acks:=zp8 l.acks x.at_ x.keep,base:=max l.base (l.acks.getD x.at_.toNat default),next:=max l.next (max l.base (l.acks.getD x.at_.toNat default)) },0):=by
   unfold zga;rw[if_neg k1,if_neg k2,if_neg k3,if_pos k4,if_neg h];rfl
  rw[e]
  cases hk:x.keep
  ·exact yh6 l x R k4 hk h
  ·exact yh7 l x R k4 hk h
 by_cases k5:x.kind=5
 ·cases hk:x.keep
  ·by_cases h:x.at_<0∨(l.way.length:Int)≤x.at_
   ·rw[show zga l x=(l,7)by unfold zga;rw[if_neg k1,if_neg k2,if_neg k3,if_neg k4,if_pos k5,if_neg (by rw[hk];simp),if_pos h]]
    exact zj4 l x R 7 (by decide) (zza l x R k5 hk h)
   ·rw[show zga l x=({ l with way:=zhy l.way x.at_.toNat },0)by unfold zga;rw[if_neg k1,if_neg k2,if_neg k3,if_neg k4,if_pos k5,if_neg (by rw[hk];simp),if_neg h]]
    exact yh4 l x R k5 hk h
  ·by_cases h:x.at_<0∨(l.acks.length:Int)≤x.at_
   ·rw[show zga l x=(l,7)by unfold zga;rw[if_neg k1,if_neg k2,if_neg k3,if_neg k4,if_pos k5,if_pos hk,if_pos h]]
    exact zj4 l x R 7 (by decide) (zzb l x R k5 hk h)
   ·rw[show zga l x=({ l with acks:=zhy l.acks x.at_.toNat },0)by unfold zga;rw[if_neg k1,if_neg k2,if_neg k3,if_neg k4,if_pos k5,if_pos hk,if_neg h]]
    exact yh5 l x R k5 hk h
 ·rw[show zga l x=(l,1)by unfold zga;rw[if_neg k1,if_neg k2,if_neg k3,if_neg k4,if_neg k5]]
  exact zj4 l x R 1 (by decide) (yhf l x R (by omega))
end Go.Proofs.YtmjbgbmegbkmhaaGreat
namespace Go.Proofs.YtmjbgbmegbkmhaaGreat
set_option linter.all false
open Go.RowKit
set_option maxRecDepth 100000
set_option maxHeartbeats 2000000
theorem z56 (w:Wld) (h0:Hst) (cs:List Clq) (WR:Cel→List Int) (hWR:∀a,zat w.f [a] (WR a)) (hcl:cs.length≤100) (T:Told WR w (h0,[])):Spec Tryz.prog 21 [ztu h0,.c (.sl 9 (cs.map zpv))] [] (.tup [ztu (zfr WR cs (h0,[])).1,.c (.sl 1 ((zfr WR cs (h0,[])).2.map zc4))]) []:=by
 refine spB Tryz.func21 38 [.cell 4 40,.tmp 5] Tryz.results21 ?_
 (iterate 2((try simp(etaStruct := .none)only[push_cast,seval]);(try(refine xsu ?_;try exact xtI))))
 refine za3 (fun x:Nat × Hst × List ByteArray=>⟨[(14,I .i64 x.1),(13,I .i64 cs.length),(12,.c (.sl 9 (cs.map zpv))),(6,.own 2),(4,.ptr 1 0 0),(2,.ptr 0 0 0)],[(0,.blk 40 (zzq x.2.1)),(1,.blk 40 ycw),(2,.row 9 1 (x.2.2.map zc4))],3⟩) (fun x:Nat × Hst × List ByteArray=>x.1≤cs.length∧Told WR w x.2∧zfr WR (cs.take x.1) (h0,[])=x.2∧x.2.2.length≤x.1) (fun x:Nat × Hst × List ByteArray=>cs.length-x.1) ((0,h0,[])) (⟨Nat.zero_le _,T,rfl,Nat.le_refl _⟩) ((To.nil 6 9 1 rfl).trans (To.mk [0,1,2] rfl rfl (by decide) ?_ ?_)) ?_
 ·simp(etaStruct := .none)only[push_cast,zab,seval]
 ·simp(etaStruct := .none)only[push_cast,zab,seval]
 rintro⟨k,h,ts⟩ ⟨hk,H,hp,hlen⟩
 simp only at hk H hp hlen
 (iterate 2((try simp(etaStruct := .none)only[push_cast,seval]);(try(refine xsu ?_;try exact xtI))))
 refine cI (fun h1 => ?_) fun h1 => ?_
 ·have hlt:k<cs.length:=by omega
  have hsn:=zm7 WR (cs.getD k default) (cs.take k) (h0,[])
  rw[←zas cs k hlt,hp]at hsn
  have S:=H.step (cs.getD k default)
  generalize hc:cs.getD k default=c at *
  have D:=ycy h c WR (by rw[show h.sty.start=w from H.w];exact hWR) H.o.l H.o.b H.o.e
  simp only at hsn S
  generalize doV WR h c=V at *
  obtain⟨h',t,e⟩:=V
  simp only at hsn S
  (iterate 2((try simp(etaStruct := .none)only[push_cast,seval,zaa _ _ _ hlt,hc,zpv]);(try(refine xsu ?_;try exact xtI))))
  refine caP (D) ?_
  (iterate 2((try simp(etaStruct := .none)only[push_cast,seval,zaa _ _ _ hlt,hc,zpv]);(try(refine xsu ?_;try exact xtI))))
  refine cI (fun h2 => ?_) fun h2 => ?_
  ·rw[if_pos h2]at hsn S
   (iterate 2((try simp(etaStruct := .none)only[push_cast,seval,zaa _ _ _ hlt,hc,zpv]);(try(refine xsu ?_;try exact xtI))))
   refine⟨(k+1,h,ts),⟨by simp only;omega,S,hsn,by simp only;omega⟩,by simp only;omega,To.mk [0,1,2] rfl rfl (by decide) ?_ ?_⟩
   ·(iterate 2((try simp(etaStruct := .none)only[push_cast,seval,zaa _ _ _ hlt,hc,zpv]);(try(refine xsu ?_;try exact xtI))))
   ·(iterate 2((try simp(etaStruct := .none)only[push_cast,seval,zaa _ _ _ hlt,hc,zpv]);(try(refine xsu ?_;try exact xtI))))
  ·rw[if_neg (fun x=>x (by simpa using h2))]at hsn S
   (iterate 2((try simp(etaStruct := .none)only[push_cast,seval,zaa _ _ _ hlt,hc,zpv]);(try(refine xsu ?_;try exact xtI))))
   refine cI (fun h3 => ?_) fun h3 => ?_
   ·rw[if_pos h3]at hsn S
    (iterate 2((try simp(etaStruct := .none)only[push_cast,seval,zaa _ _ _ hlt,hc,zpv]);(try(refine xsu ?_;try exact xtI))))
    refine⟨(k+1,h',ts ++ [t]),⟨by simp only;omega,S,hsn,by simp only[List.length_append,List.length_cons,List.length_nil];omega⟩,by simp only;omega,To.mk [0,1,6] rfl rfl (by decide) ?_ ?_⟩
    ·(iterate 2((try simp(etaStruct := .none)only[push_cast,zab,seval,List.map_append,List.map_cons,List.map_nil,zc4]);(try(refine xsu ?_;try exact xtI))))
    ·(iterate 2((try simp(etaStruct := .none)only[push_cast,seval,zaa _ _ _ hlt,hc,zpv]);(try(refine xsu ?_;try exact xtI))))
   ·rw[if_neg h3]at hsn S
    (iterate 2((try simp(etaStruct := .none)only[push_cast,seval,zaa _ _ _ hlt,hc,zpv]);(try(refine xsu ?_;try exact xtI))))
    refine⟨(k+1,h',ts),⟨by simp only;omega,S,hsn,by simp only;omega⟩,by simp only;omega,To.mk [0,1,2] rfl rfl (by decide) ?_ ?_⟩
    ·(iterate 2((try simp(etaStruct := .none)only[push_cast,seval,zaa _ _ _ hlt,hc,zpv]);(try(refine xsu ?_;try exact xtI))))
    ·(iterate 2((try simp(etaStruct := .none)only[push_cast,seval,zaa _ _ _ hlt,hc,zpv]);(try(refine xsu ?_;try exact xtI))))
 ·obtain rfl:k=cs.length:=by omega
  rw[List.take_length]at hp
  rw[hp]
  (iterate 2((try simp(etaStruct := .none)only[push_cast,seval]);(try(refine xsu ?_;try exact xtI))))
  exact xrz rfl
def zfj (n:Int) (ts:List ByteArray):Lnk:=⟨n,ts,0,0,[],[],[],[]⟩
abbrev ylt (l:Lnk):List AV := [I .i64 l.window,.c (.sl 1 (l.sent.map zc4)),I .i64 l.base,I .i64 l.next,.c (.sl 1 (l.way.map zae)),.c (.sl 1 (l.acks.map zae)),.c (.sl 1 (l.got.map zc4)),.c (.sl 1 (l.held.map zae))]
abbrev ykw:List AV := [I .i64 0,.c (.v (.slice none 0 0)),I .i64 0,I .i64 0,.c (.v (.slice none 0 0)),.c (.v (.slice none 0 0)),.c (.v (.slice none 0 0)),.c (.v (.slice none 0 0))]
theorem znl {n:Int} {ts:List ByteArray} (h:1≤n∧n≤16) (ht:ts.length≤200):LnkR (zfj n ts) :=
 ⟨h,ht,by simp[zfj],by simp[zfj],by simp[zfj],by simp[zfj],by simp[zfj],by simp[zfj],by simp[zfj];omega,by simp[zfj],by simp[zfj],by simp[zfj],by simp[zfj]⟩
theorem z28 (n:Int) (ts:List ByteArray) (h:ts.length<200) (t:ByteArray):zga (zfj n ts) ⟨1,0,false,t⟩=(zfj n (ts ++ [t]),0):=by
 unfold zga
 rw[if_pos rfl,if_neg (by show ¬ts.length=200;omega)]
 rfl
theorem yc2 (n:Int) (ts:List ByteArray) (hn:1≤n∧n≤16) (ht:ts.length≤200):Spec Tryz.prog 22 [I .i64 n,.c (.sl 1 (ts.map zc4))] [] (.tup [zan (zfj n ts),B true]) []:=by
 refine spB Tryz.func22 34 [.cell 4 88,.tmp 5] Tryz.results22 ?_
 (iterate 2((try simp(etaStruct := .none)only[push_cast,seval,zan]);(try(refine xsu ?_;try exact xtI))))
 refine caP (ycc n hn) ?_
 (iterate 2((try simp(etaStruct := .none)only[push_cast,seval,zan]);(try(refine xsu ?_;try exact xtI))))
 refine za3 (fun k:Nat=>⟨[(17,I .i64 k),(16,I .i64 ts.length),(15,.c (.sl 1 (ts.map zc4))),(7,I .i64 0),(6,.ptr 1 0 0),(4,.ptr 0 0 0)],[(0,.blk 88 ykw),(1,.blk 88 (ylt (zfj n (ts.take k))))],2⟩) (fun k:Nat=>k≤ts.length) (fun k:Nat=>ts.length-k) (0) (Nat.zero_le _) (To.mk [0,1] rfl rfl (by decide) ?_ ?_) ?_
 ·simp(etaStruct := .none)only[push_cast,zab,seval,zan,zfj,List.take_zero,List.map_nil]
 ·simp(etaStruct := .none)only[push_cast,zab,seval]
 rintro k hk
 (iterate 2((try simp(etaStruct := .none)only[push_cast,seval,zan]);(try(refine xsu ?_;try exact xtI))))
 refine cI (fun h1 => ?_) fun h1 => ?_
 ·have hlt:k<ts.length:=by omega
  have sn:=zas ts k hlt
  have hlk:(ts.take k).length=k:=by rw[List.length_take];omega
  have D:=ylz (zfj n (ts.take k)) ⟨1,0,false,ts.getD k default⟩ (znl hn (by omega))
  rw[z28 n _ (by omega),←sn]at D
  (iterate 2((try simp(etaStruct := .none)only[push_cast,seval,zan,zaa _ _ _ hlt,zc4]);(try(refine xsu ?_;try exact xtI))))
  refine cI (fun h2 => ?_) fun h2 => ?_
  ·(iterate 2((try simp(etaStruct := .none)only[push_cast,seval,zan,zaa _ _ _ hlt,zc4]);(try(refine xsu ?_;try exact xtI))))
   refine caP (D) ?_
   (iterate 2((try simp(etaStruct := .none)only[push_cast,seval,zan,zaa _ _ _ hlt,zc4]);(try(refine xsu ?_;try exact xtI))))
   refine⟨k+1,by omega,by omega,To.mk [0,1] rfl rfl (by decide) ?_ ?_⟩
   ·(iterate 2((try simp(etaStruct := .none)only[push_cast,seval,zan,zaa _ _ _ hlt,zc4]);(try(refine xsu ?_;try exact xtI))))
   ·(iterate 2((try simp(etaStruct := .none)only[push_cast,seval,zan,zaa _ _ _ hlt,zc4]);(try(refine xsu ?_;try exact xtI))))
  ·simp at h2
 ·obtain rfl:k=ts.length:=by omega
  (iterate 2((try simp(etaStruct := .none)only[push_cast,seval,zan,List.take_length]);(try(refine xsu ?_;try exact xtI))))
  exact xrz rfl
theorem zz7 (w:Wld) (n:Int) (cs:List Clq) (q:Int) (es:List Evt) (WR:Cel→List Int) (hWR:∀a,zat w.f [a] (WR a)) (hl:zf7 w) (hcl:cs.length≤100) (h0:zrb w n=0) (hq:1≤q∧q≤16) (hel:es.length≤300):Spec Tryz.prog 6 [zdi w,I .i64 n,.c (.sl 9 (cs.map zpv)),I .i64 q,.c (.sl 4 (es.map zwz))] [] (B true) []:=by
 have N1:=z2u w n WR hWR hl
 have T0:=z1y (WR:=WR) h0
 rw[h0]at N1
 generalize zsj w n=M at *
 have PL:=z56 w M cs WR hWR hcl T0
 have T:=Told.play cs T0
 have hts:(zfr WR cs (M,[])).2.length≤200:=by
  rw[T.t,List.length_map]
  exact(zer (zko T.o.e).1).1
 have GV:=yc2 q _ hq hts
 have R0:=znl hq hts
 have hs0:(zfj q (zfr WR cs (M,[])).2).sent=(zfr WR cs (M,[])).2:=rfl
 generalize zfj q (zfr WR cs (M,[])).2=L0 at *
 generalize zfr WR cs (M,[])=S at *
 clear T0 hts
 refine spB Tryz.func6 146 [.tmp 10] Tryz.results6 ?_
 (iterate 2((try simp(etaStruct := .none)only[push_cast,seval,zan]);(try(refine xsu ?_;try exact xtI))))
 refine caP (N1) ?_
 (iterate 2((try simp(etaStruct := .none)only[push_cast,seval,zan]);(try(refine xsu ?_;try exact xtI))))
 refine caP (ztq) ?_
 (iterate 2((try simp(etaStruct := .none)only[push_cast,seval,zan]);(try(refine xsu ?_;try exact xtI))))
 refine cI (fun h1 => ?_) fun h1 => ?_
 ·omega
 ·(iterate 2((try simp(etaStruct := .none)only[push_cast,seval,zan]);(try(refine xsu ?_;try exact xtI))))
  refine caP (PL) ?_
  (iterate 2((try simp(etaStruct := .none)only[push_cast,seval,zan]);(try(refine xsu ?_;try exact xtI))))
  refine caP (GV) ?_
  (iterate 2((try simp(etaStruct := .none)only[push_cast,seval,zan]);(try(refine xsu ?_;try exact xtI))))
  refine cI (fun h2 => ?_) fun h2 => ?_
  ·simp at h2
  ·(iterate 2((try simp(etaStruct := .none)only[push_cast,seval,zan]);(try(refine xsu ?_;try exact xtI))))
   refine za3 (fun x:Nat × Lnk=>⟨[(74,I .i64 x.1),(73,I .i64 es.length),(72,.c (.sl 4 (es.map zwz))),(14,.ptr 2 0 0),(11,.ptr 1 0 0),(5,.ptr 0 0 0)],[(0,.blk 28 (znz w)),(1,.blk 40 (zzq S.1)),(2,.blk 88 (ylt x.2))],3⟩) (fun x:Nat × Lnk=>x.1≤es.length∧LnkR x.2∧x.2.sent=S.2) (fun x:Nat × Lnk=>es.length-x.1) ((0,L0)) (⟨Nat.zero_le _,R0,hs0⟩) (To.mk [0,1,2] rfl rfl (by decide) ?_ ?_) ?_
   ·simp(etaStruct := .none)only[push_cast,zab,seval]
   ·simp(etaStruct := .none)only[push_cast,zab,seval]
   rintro⟨k,l⟩ ⟨hk,R,hs⟩
   simp only at hk R hs
   (iterate 2((try simp(etaStruct := .none)only[push_cast,seval,zan]);(try(refine xsu ?_;try exact xtI))))
   refine cI (fun h3 => ?_) fun h3 => ?_
   ·have hlt:k<es.length:=by omega
    generalize hc:es.getD k default=x at *
    have D:=ylz l x R
    (iterate 2((try simp(etaStruct := .none)only[push_cast,seval,zan,zaa _ _ _ hlt,hc,zwz]);(try(refine xsu ?_;try exact xtI))))
    refine cI (fun h4 => ?_) fun h4 => ?_
    ·have hse:=z2c (l:=l) (x:=x) (by omega)
     have hR:=zyu R x
     generalize zga l x=V at *
     obtain⟨l',e⟩:=V
     simp only at hse hR
     (iterate 2((try simp(etaStruct := .none)only[push_cast,seval,zan,zaa _ _ _ hlt,hc,zwz]);(try(refine xsu ?_;try exact xtI))))
     refine caP (D) ?_
     (iterate 2((try simp(etaStruct := .none)only[push_cast,seval,zan,zaa _ _ _ hlt,hc,zwz]);(try(refine xsu ?_;try exact xtI))))
     refine⟨(k+1,l'),⟨by simp only;omega,hR,hse.trans hs⟩,by simp only;omega,To.mk [0,1,2] rfl rfl (by decide) ?_ ?_⟩
     ·(iterate 2((try simp(etaStruct := .none)only[push_cast,seval,zan,zaa _ _ _ hlt,hc,zwz]);(try(refine xsu ?_;try exact xtI))))
     ·(iterate 2((try simp(etaStruct := .none)only[push_cast,seval,zan,zaa _ _ _ hlt,hc,zwz]);(try(refine xsu ?_;try exact xtI))))
    ·(iterate 2((try simp(etaStruct := .none)only[push_cast,seval,zan,zaa _ _ _ hlt,hc,zwz]);(try(refine xsu ?_;try exact xtI))))
     refine⟨(k+1,l),⟨by simp only;omega,R,hs⟩,by simp only;omega,To.mk [0,1,2] rfl rfl (by decide) ?_ ?_⟩
     ·(iterate 2((try simp(etaStruct := .none)only[push_cast,seval,zan,zaa _ _ _ hlt,hc,zwz]);(try(refine xsu ?_;try exact xtI))))
     ·(iterate 2((try simp(etaStruct := .none)only[push_cast,seval,zan,zaa _ _ _ hlt,hc,zwz]);(try(refine xsu ?_;try exact xtI))))
   ·obtain⟨f1,f2,f3,f4,f5,f6,f7,f8⟩:=yk2 hWR T R hs
    have FO:=zwu w l.got WR hWR f6 f7 (fun s hx=>by have:=f8 s hx;omega)
    have AT:=yj7 S.1.sty l.got.length WR (by rw[T.w];exact hWR) T.o.l.s
    rw[f1,f2]at FO
    rw[f3,f4]at AT
    generalize zfo WR (S.1.sty.turns.take l.got.length) w=y at *
    have MK:=zsx y f5.l f5.e
    have SW:=zs6 y y f5.l f5.l
    rw[decide_eq_true rfl]at SW
    clear f1 f2 f3 f4 hWR
    (iterate 2((try simp(etaStruct := .none)only[push_cast,seval,zan]);(try(refine xsu ?_;try exact xtI))))
    refine caP (FO) ?_
    (iterate 2((try simp(etaStruct := .none)only[push_cast,seval,zan]);(try(refine xsu ?_;try exact xtI))))
    refine caP (AT) ?_
    (iterate 2((try simp(etaStruct := .none)only[push_cast,seval,zan]);(try(refine xsu ?_;try exact xtI))))
    refine caP (MK) ?_
    (iterate 2((try simp(etaStruct := .none)only[push_cast,seval,zan]);(try(refine xsu ?_;try exact xtI))))
    refine caP (MK) ?_
    (iterate 2((try simp(etaStruct := .none)only[push_cast,seval,zan]);(try(refine xsu ?_;try exact xtI))))
    refine gcP (fun hcc=>SW) ?_
    (iterate 2((try simp(etaStruct := .none)only[push_cast,seval,zan]);(try(refine xsu ?_;try exact xtI))))
    exact xrz rfl
theorem zz6 (w:Wld) (n:Int) (cs:List Clq) (q:Int) (es:List Evt) (WR:Cel→List Int) (hWR:∀a,zat w.f [a] (WR a)) (hl:zf7 w) (hcl:cs.length≤9223372036854775807) (hel:es.length≤9223372036854775807) (h0:¬(zrb w n=0∧cs.length≤100∧es.length≤300∧1≤q∧q≤16)):Spec Tryz.prog 6 [zdi w,I .i64 n,.c (.sl 9 (cs.map zpv)),I .i64 q,.c (.sl 4 (es.map zwz))] [] (B true) []:=by
 have N1:=z2u w n WR hWR hl
 generalize zsj w n=M at *
 generalize zrb w n=e at *
 refine spB Tryz.func6 146 [.tmp 10] Tryz.results6 ?_
 (iterate 2((try simp(etaStruct := .none)only[push_cast,seval]);(try(refine xsu ?_;try exact xtI))))
 refine caP (N1) ?_
 (iterate 2((try simp(etaStruct := .none)only[push_cast,seval]);(try(refine xsu ?_;try exact xtI))))
 refine caP (ztq) ?_
 (iterate 2((try simp(etaStruct := .none)only[push_cast,seval]);(try(refine xsu ?_;try exact xtI))))
 refine cI (fun h1 => ?_) fun h1 => ?_
 ·(iterate 2((try simp(etaStruct := .none)only[push_cast,seval]);(try(refine xsu ?_;try exact xtI))))
  refine caP (ztq) ?_
  (iterate 2((try simp(etaStruct := .none)only[push_cast,seval]);(try(refine xsu ?_;try exact xtI))))
  exact xrz rfl
 ·omega
end Go.Proofs.YtmjbgbmegbkmhaaGreat
namespace Go.Proofs.YtmjbgbmegbkmhaaGreat
set_option linter.all false
open Go.RowKit Go.ChangeShapes Go.WideShapes Go.ChangeAt
def RelCs (w:World) (ps:List PV) (cs:List Value):Prop:=∀(j:Nat) p u,ps[j]? = some p→cs[j]? = some u→RelP w (· < w.heap.size) p u
theorem RelCs.nil {w:World} : RelCs w [] []:=fun j p u h=>by simp at h
theorem RelCs.cons {w:World} {p:PV} {u:Value} {ps:List PV} {cs:List Value} (h:RelP w (· < w.heap.size) p u) (h':RelCs w ps cs):RelCs w (p::ps) (u::cs):=by
 intro j q v h1 h2
 cases j with
 | zero=>simp at h1 h2;subst h1 h2;exact h
 | succ j=>exact h' j q v (by simpa using h1) (by simpa using h2)
theorem RelCs.append {w:World} : ∀ {ps qs:List PV} {cs ds:List Value},ps.length=cs.length→RelCs w ps cs→RelCs w qs ds→RelCs w (ps++qs) (cs++ds)
 | [],_,[],_,_,_,h=>h
 | [],_,_::_,_,hl,_,_=>by simp at hl
 | _::_,_,[],_,hl,_,_=>by simp at hl
 | p::ps,qs,c::cs,ds,hl,h,h'=>by
  refine RelCs.cons (h 0 p c rfl rfl) (RelCs.append (by simpa using hl) (fun j q v h1 h2=>h (j+1) q v (by simpa using h1) (by simpa using h2)) h')
def OpA (P:Program) (T sz:Nat) (w:World) {α : Type} (pv : α → List PV) (ok : α → Prop):Prop :=
 ∃(β : Type) (enc : β → List Value) (okb : β → Prop) (f : β → α),Opens P T sz w enc okb∧∀y,okb y→ok (f y)∧(pv (f y)).length=sz∧(enc y).length=sz∧RelCs w (pv (f y)) (enc y)
section
variable {P : Program} {T : Nat} {w : World}
theorem OpA.i64 (h:P.underlying T=some (.int .i64)):OpA P T 1 w zae zhz :=
 ⟨_,_,_,id,Opens.i64 h,fun y hy=>⟨hy,rfl,rfl,.cons (zqx rfl) .nil⟩⟩
theorem OpA.u64 (h:P.underlying T=some (.int .u64)):OpA P T 1 w zmp (fun n=>n<18446744073709551616) :=
 ⟨_,_,_,id,Opens.u64 h,fun y hy=>⟨hy,rfl,rfl,.cons (zqx rfl) .nil⟩⟩
def yl3 (n:Nat):List PV := [.v (.int .u32 n)]
theorem OpA.u32 (h:P.underlying T=some (.int .u32)):OpA P T 1 w yl3 (fun n=>n<4294967296) :=
 ⟨_,_,_,id,Opens.u32 h,fun y hy=>⟨hy,rfl,rfl,.cons (zqx rfl) .nil⟩⟩
theorem OpA.bool (h:P.underlying T=some .bool):OpA P T 1 w zfl (fun _=>True) :=
 ⟨_,_,_,id,Opens.bool h,fun y hy=>⟨hy,rfl,rfl,.cons (zqx rfl) .nil⟩⟩
theorem OpA.str (h:P.underlying T=some .string):OpA P T 1 w zc4 (fun s=>s.size≤140737488351232) :=
 ⟨_,_,_,id,Opens.str h,fun y hy=>⟨hy,rfl,rfl,.cons (zqx rfl) .nil⟩⟩
theorem OpA.map {sz:Nat} {α β : Type} {pv : α → List PV} {ok : α → Prop} {pv' : β → List PV} {ok' : β → Prop} (h:OpA P T sz w pv ok) (f : α → β) (hf:∀x,pv' (f x)=pv x) (hok:∀x,ok x→ok' (f x)):OpA P T sz w pv' ok':=by
 obtain⟨γ,enc,okb,g,h1,h2⟩:=h
 exact⟨γ,enc,okb,fun y=>f (g y),h1,fun y hy=>by obtain⟨a,b,c,d⟩:=h2 y hy;exact⟨hok _ a,by rw[hf];exact b,c,by rw[hf];exact d⟩⟩
theorem OpA.slice {E sz bts:Nat} {α : Type} {pv : α → List PV} {ok : α → Prop} (hT:P.underlying T=some (.slice E)) (hc:P.cellsOf E=sz) (hsz:0<sz) (hby:P.bytesOf E=bts) (hE:OpA P E sz w pv ok) :
 OpA P T 1 w (fun xs:List α => [.sl sz (xs.map pv)]) (fun xs=>(∀x∈xs,ok x)∧xs.length*bts≤140737488351232∧xs.length≤9223372036854775807):=by
 obtain⟨γ,enc,okb,g,h1,h2⟩:=hE
 refine⟨_,_,_,fun s=>s.xs.map g,Opens.slice hT hc hsz hby h1,fun s hs=>⟨⟨?_,?_,?_⟩,rfl,rfl,?_⟩⟩
 ·intro x hx
  obtain⟨y,hy,rfl⟩:=List.mem_map.1 hx
  exact(h2 y (hs.each y hy).1).1
 ·have:=hs.reach
  have h3:s.xs.length*bts≤s.c*bts:=Nat.mul_le_mul_right _ hs.cap
  simp only[List.length_map];omega
 ·have h3:=hs.cap;have h4:=hs.max;unfold maxLen at h4;simp only[List.length_map];omega
 ·refine .cons ?_ .nil
  have:=yfq (pv:=fun y=>pv (g y)) hs fun y hy ho=>by
   obtain⟨_,a,b,d⟩:=h2 y ho
   exact⟨a,d⟩
  simpa[List.map_map,Function.comp_def]using this
def OpAF (P:Program) (w:World) (fs:List Field) (o sz:Nat) {α : Type} (pv : α → List PV) (ok : α → Prop):Prop :=
 ∃(β : Type) (enc : β → List Value) (okb : β → Prop) (f : β → α),OpensF P w fs o sz enc okb∧∀y,okb y→ok (f y)∧(pv (f y)).length=sz∧(enc y).length=sz∧RelCs w (pv (f y)) (enc y)
theorem OpAF.nil {o:Nat} : OpAF P w [] o 0 (fun _:Unit => []) (fun _=>True) :=
 ⟨_,_,_,id,OpensF.nil,fun y hy=>⟨trivial,rfl,rfl,.nil⟩⟩
theorem OpAF.cons {f:Field} {fs:List Field} {o n sz:Nat} {α β : Type} {pv : α → List PV} {ok : α → Prop} {pv' : β → List PV} {ok' : β → Prop}
 (ho:f.offset=o) (hn:P.cellsOf f.type=n) (h:OpA P f.type n w pv ok) (h':OpAF P w fs (o+n) sz pv' ok') :
 OpAF P w (f::fs) o (n+sz) (fun x : α × β => pv x.1++pv' x.2) (fun x=>ok x.1∧ok' x.2):=by
 obtain⟨γ,enc,okb,g,h1,h2⟩:=h
 obtain⟨γ',enc',okb',g',h1',h2'⟩:=h'
 refine⟨_,_,_,fun y=>(g y.1,g' y.2),OpensF.cons ho hn h1 h1',fun y hy => ?_⟩
 obtain⟨a,b,c,d⟩:=h2 y.1 hy.1
 obtain⟨a',b',c',d'⟩:=h2' y.2 hy.2
 exact⟨⟨a,a'⟩,by simp[b,b'],by simp[c,c'],.append (by rw[b,c]) d d'⟩
theorem OpA.struct {sz:Nat} {fs:Array Field} {α : Type} {pv : α → List PV} {ok : α → Prop} (hT:P.underlying T=some (.struct fs)) (hc:P.cellsOf T=sz) (h:OpAF P w fs.toList 0 sz pv ok):OpA P T sz w pv ok:=by
 obtain⟨γ,enc,okb,g,h1,h2⟩:=h
 exact⟨γ,enc,okb,g,Opens.struct hT hc h1,h2⟩
theorem OpA.arg {sz:Nat} {α : Type} {pv : α → List PV} {ok : α → Prop} (h:OpA P T sz w pv ok) {H:Type} {eH:TypeId × Value→H} {v:Value} {d:DataW H} {p:List MemPlace}
 (hT:DataW.Trod eH P w 0 (fun _=>true) true T v d p) {ts:List TypeId} {ds:List (DataW H)} (hz:(DataW.weightsEach P ts ds).all (· ≤ reachBytes)=true) (j:Nat) (h1:ts[j]? = some T) (h2:ds[j]? = some d):∃x : α,ok x∧(pv x).length=v.cells.toList.length∧RelCs w (pv x) v.cells.toList:=by
 obtain⟨γ,enc,okb,g,k1,k2⟩:=h
 obtain⟨y,hy,ho⟩:=Opens.arg k1 hT hz j h1 h2
 obtain⟨a,b,c,e⟩:=k2 y ho
 exact⟨g y,a,by rw[hy,b,c],by rw[hy];exact e⟩
theorem zof {p:PV} {v:Value} (hv:v.cells = #[v]) (hr:RelCs w [p] v.cells.toList):RelA (· < 0) w (· < w.heap.size) (fun _=>none) (.c p) v :=
 z9i (hr 0 p v rfl (by rw[hv];rfl))
theorem zm6 {U:Nat→Prop} {β : Nat→Option Bind} : ∀ {ps:List PV} {cs:List Value},ps.length=cs.length→RelCs w ps cs→RelL U w (· < w.heap.size) β (ps.map .c) cs
 | [],[],_,_=>zvh
 | [],_::_,h,_=>by simp at h
 | _::_,[],h,_=>by simp at h
 | p::ps,c::cs,h,hr=>by
  rw[List.map_cons]
  exact zfd (z9i (hr 0 p c rfl rfl)) (zm6 (by simpa using h) fun j q v h1 h2=>hr (j+1) q v (by simpa using h1) (by simpa using h2))
theorem ybe {ps:List PV} {v:Value} {cs:List Value} (hv:v = .agg cs.toArray) (hl:ps.length=v.cells.toList.length) (hr:RelCs w ps v.cells.toList):RelA (· < 0) w (· < w.heap.size) (fun _=>none) (.agg (ps.map .c)) v:=by
 subst hv
 have e:(Value.agg cs.toArray).cells.toList=cs:=rfl
 rw[e]at hl hr
 refine z53 (zm6 hl hr) fun x hx => ?_
 obtain⟨j,hj,rfl⟩:=List.getElem_of_mem hx
 exact(hr j ps[j] cs[j] (by simp) (by simp)).one
theorem zq6 {base e:Nat} {v:Value} (ht:P.underlying T=some (.slice e)) (h:Value.okWide P w .any base T v):v.cells = #[v]:=by obtain⟨a,l,c,rfl⟩:=okWide_slice ht h;rfl
theorem z1o {base:Nat} {k:IntKind} {v:Value} (ht:P.underlying T=some (.int k)) (h:Value.okWide P w .any base T v):v.cells = #[v]:=by obtain⟨n,rfl⟩:=okWide_int ht h;rfl
end
end Go.Proofs.YtmjbgbmegbkmhaaGreat
