/- Lemmas for the proof of deskSays.proved. -/
import Derived.Test.YtgggemkjaccbhaaGreatDoorDSa7
import Derived.RangeFuncRecord
import Derived.Lib.ItoaLen
import Derived.Lib.ItoaMem
namespace Go.Proofs.YtgggemkjaccbhaaGreatDoor
set_option linter.all false
open Go.RowKit
set_option maxRecDepth 100000
set_option maxHeartbeats 4000000
theorem yg4 (xs:List Int) (m:Nat) (hm:1≤m):Spec Tryz.prog 119 [.c (.sl 1 (xs.map zao)),I .i64 m] [] (.clo (.func 153) [] [.fel 1 [[.sl 1 (xs.map zao)]] 0 0,.fel 1 [[.v (.int .i64 m)]] 0 0]) []:=by
 refine spB Tryz.func119 9 [.tmp 4] Tryz.results119 ?_
 try refine xst ?_
 refine cI (fun h1=>?_) fun h1=>?_
 ·omega
 ·try refine xst ?_
  exact xrz rfl
def zk9 (rs:List (List Int)):List UInt8:=rs.flatMap fun r=>r.map z85 ++ [10]
theorem ztv {W:Nat} : ∀ {rs:List (List Int)},(∀z∈rs,z.length=W)→(zk9 rs).length=rs.length*(W+1)
 | [],_=>by simp[zk9]
 | r::rs,h=>by
  have ih:=ztv (rs:=rs) fun z hz=>h z (by simp[hz])
  have h1:=h r (by simp)
  unfold zk9 at ih ⊢
  rw[List.flatMap_cons,List.length_append,ih,List.length_append,List.length_map,h1]
  simp only[List.length_cons,List.length_nil]
  rw[Nat.add_mul rs.length 1,Nat.one_mul];omega
theorem z1c (rs:List (List Int)) (r:List Int):zk9 (rs ++ [r])=zk9 rs++(r.map z85 ++ [10]):=by
 unfold zk9;rw[List.flatMap_append];simp
theorem yb7 (l:List UInt8):z8w (l.map bP)=True:=eq_true fun q hq=>by
 obtain⟨b,_,rfl⟩:=List.mem_map.1 hq
 rfl
theorem z8c (l:List UInt8):strOfNums ((l.map bP).map yff)=zah l:=by
 apply ByteArray.ext
 apply Array.ext'
 rw[strOfNums_data,List.map_map,List.map_map]
 show _=l
 have:(((fun n:Int=>UInt8.ofNat n.toNat) ∘ yff) ∘ bP)=id:=by
  funext b
  show UInt8.ofNat ((b.toNat:Nat):Int).toNat=b
  rw[Int.toNat_natCast];simp
 rw[this,List.map_id]
theorem yh8 (P:Int) (h:0≤P∧P<4):([46,35,116,111]:List UInt8).getD P.toNat 0=z85 P:=by
 have:P=0∨P=1∨P=2∨P=3:=by omega
 rcases this with rfl|rfl|rfl|rfl<;>rfl
theorem z27 (f:Fld) (hl:f.p.length≤9223372036854775807) (h:zbl f≠0):Spec Tryz.prog 82 [ziq f] [] (.tup [S ByteArray.empty,I .i64 (zbl f)]) []:=by
 have C:=zm8 f hl
 generalize zbl f=e at *
 refine spB Tryz.func82 37 [.tmp 2,.tmp 3] Tryz.results82 ?_
 try refine xst ?_
 refine caP (C) ?_
 try refine xst ?_
 refine cI (fun h1=>?_) fun h1=>?_
 ·try refine xst ?_
  exact xrz rfl
 ·exact absurd h1 h
theorem zye (W H:Nat) (p:List Int) (h:zbl ⟨W,H,p⟩=0):Spec Tryz.prog 82 [ziq ⟨W,H,p⟩] [] (.tup [S (zah (zk9 ((List.range H).map (zhx p W)))),I .i64 0]) []:=by
 obtain⟨e1,e2,e3,e4⟩:=za4 h
 simp only at e1 e2 e3
 have hWH:W*H≤40*40:=Nat.mul_le_mul (by omega) (by omega)
 have e3':p.length=H*W:=by rw[Nat.mul_comm];exact_mod_cast e3
 have C:=zm8 ⟨W,H,p⟩ (by simp only;rw[Nat.mul_comm]at hWH;omega)
 rw[h]at C
 have hPi:∀k,k<H→(fun c:List Int=>c.length=W∧∀q∈c,0≤q∧q<4) (zhx p W k):=fun k hk =>
  ⟨zog p W H k e3' hk,fun q hq=>e4 q (List.mem_of_mem_drop (List.mem_of_mem_take hq))⟩
 refine spB Tryz.func82 37 [.tmp 2,.tmp 3] Tryz.results82 ?_
 try refine xy0 ?_
 refine caP (C) ?_
 try refine xy0 ?_
 refine cI (fun h1=>?_) fun h1=>?_
 ·exact absurd h1 (by decide)
 ·try refine xy0 ?_
  refine caP (yg4 p W (by omega)) ?_
  try refine xy0 ?_
  refine yex (by kernel_rfl) rfl (zxz p W H (by omega) (by omega) e3' (by rw[e3',Nat.mul_comm];omega) (fun c=>c.length=W∧∀q∈c,0≤q∧q<4) hPi) [(5,.ptr 0 0 0)] 1 2 (fun pre => [(0,.blk 38 [.own 1]),(1,.row 5 1 ((zk9 pre).map bP))]) ((To.nilC 1 0 5 1 38 _ rfl rfl).trans (To.mk [1,2] rfl rfl (by decide) ?_ ?_)) (by decide) (by decide) (by decide) (fun pre=>by exact z5s rfl) (by kernel_rfl) (by decide) (by decide) (fun pre x hpl hpr hx=>?_) ?_
  ·simp(etaStruct := .none)only[push_cast,zad,seval,List.set_cons_zero]
   try exact rfl
  ·exact xS
  ·skip
   obtain⟨xl,xb⟩:=hx
   have trl:=ztv (W:=W) (rs:=pre) fun z hz=>(hpr z hz).1
   rw[List.length_map,List.length_range]at hpl
   have tr2:pre.length*(W+1)≤40*41:=Nat.mul_le_mul (by omega) (by omega)
   iterate 2(try simp(etaStruct := .none)only[push_cast,seval,zub];try refine xsu ?_)
   refine zay (fun k:Nat=>⟨[(22,I .i64 k),(21,I .i64 x.length),(20,.c (.sl 1 (x.map zao))),(5,.ptr 0 0 0)],[(0,.blk 38 [.own 1]),(1,.row 5 1 ((zk9 pre++(x.take k).map z85).map bP))],2⟩) (fun k:Nat=>k≤x.length) (fun k:Nat=>x.length-k) (0) (Nat.zero_le _) (To.mk [0,1] rfl rfl (by decide) ?_ ?_) ?_
   ·exact xS
   ·exact xS
   rintro k hk
   iterate 2(try simp(etaStruct := .none)only[push_cast,seval,zub];try refine xsu ?_)
   refine cI (fun h2=>?_) fun h2=>?_
   ·have hlt:k<x.length:=by omega
    have hq:=xb _ (zax x k hlt)
    have hgx:=zae zao x k hlt
    have sn:=zak x k hlt
    have la:=yh8 _ hq
    generalize x.getD k default=q at *
    have hsz:(⟨#[46,35,116,111]⟩:ByteArray).size=4:=rfl
    have htk:(List.take k x).length≤k:=List.length_take_le _ _
    iterate 2(try simp(etaStruct := .none)only[push_cast,seval,zub,hgx,zao,la,hsz,List.length_append,List.length_map];try refine xsu ?_)
    refine zdc [some 26,some 27,some 28,some 29,some 30,none] rfl ?_
    intro Oq lq Rq hlq hdq hRq
    subst hlq
    iterate 6(refine zby fun rq hrq=>?_;(iterate 2((try simp(etaStruct := .none)only[push_cast,seval,hdq,id,zub,hgx,zao,la,hsz,List.length_append,List.length_map]);(try(refine xsu ?_;try exact xtI))));subst hrq)
    refine zv9 ?_
    subst hRq
    clear hdq Oq
    refine zv8 (by kernel_rfl) ?_
    iterate 2(try simp(etaStruct := .none)only[push_cast,seval,zub,hgx,zao,la,hsz,List.length_append,List.length_map];try refine xsu ?_)
    refine⟨k+1,by omega,by omega,To.mk [0,18] rfl rfl (by decide) ?_ ?_⟩
    ·(iterate 2((try simp(etaStruct := .none)only[push_cast,zad,seval,sn,List.map_append,List.map_cons,List.map_nil,bP,List.append_assoc]);(try(refine xsu ?_;try exact xtI))))
    ·(iterate 2((try simp(etaStruct := .none)only[push_cast,seval,zub,hgx,zao,la,hsz,List.length_append,List.length_map]);(try(refine xsu ?_;try exact xtI))))
   ·have h2':¬((k:Int)<(W:Int)):=of_decide_eq_false h2
    obtain rfl:k=x.length:=by omega
    iterate 2(try simp(etaStruct := .none)only[push_cast,seval,zub,List.take_length];try refine xsu ?_)
    refine To.mk [0,3] rfl rfl (by decide) ?_ ?_
    ·iterate 2(try simp(etaStruct := .none)only[push_cast,zad,seval,z1c,List.map_append,List.map_cons,List.map_nil,bP,List.append_assoc];try refine xsu ?_)
     try exact rfl
    ·(iterate 2((try simp(etaStruct := .none)only[push_cast,seval,zub,List.take_length]);(try(refine xsu ?_;try exact xtI))))
  try refine xz2 yb7 z8c ?_
  try refine xy0 ?_
  exact xrz rfl
theorem zim (s:ByteArray) (c:Int):Spec Tryz.prog 61 [S s,I .u8 c] [] (I .i64 (Lib.indexByte s.data.toList (UInt8.ofNat c.toNat))) [] :=
 znv (zdi rfl rfl rfl) [.string s,.int .u8 c] _ rfl fun w=>(Tryz.strings_IndexByte s c w).mono fun e w' h=>⟨h.1,h.2▸Below.refl _ _⟩
theorem yf3 (s:ByteArray) (c:UInt8):Spec Tryz.prog 40 [S s,S ⟨#[c]⟩] [] (I .i64 (Lib.indexByte s.data.toList c)) [] :=
 znv (zdi rfl rfl rfl) [.string s,.string ⟨#[c]⟩] _ rfl fun w=>(Tryz.strings_Index_one s c w).mono fun e w' h=>⟨h.1,h.2▸Below.refl _ _⟩
theorem zs5 (s:ByteArray) (c:UInt8):Spec Tryz.prog 39 [S s,S ⟨#[c]⟩] [] (I .i64 (Lib.countByte s.data.toList c)) [] :=
 znv (zdi rfl rfl rfl) [.string s,.string ⟨#[c]⟩] _ rfl fun w=>(Tryz.strings_Count_one s c w).mono fun e w' h=>⟨h.1,h.2▸Below.refl _ _⟩
def sgn (b:UInt8):Int:=Lib.indexByte [46,35,116,111] b
theorem z9o (b:UInt8):sgn b=(Lib.indexByte [46,35,116,111] b:Int):=rfl
def zi2 (l:List UInt8):List Int:=(l.map sgn).filter fun k=>decide (0≤k)
theorem zqc (l:List UInt8) (b:UInt8):zi2 (l ++ [b])=zi2 l++if 0≤sgn b then [sgn b]else []:=by
 unfold zi2
 rw[List.map_append,List.filter_append]
 congr 1
 simp only[List.map_cons,List.map_nil,List.filter_cons,List.filter_nil,decide_eq_true_eq]
theorem zoc (l:List UInt8):(zi2 l).length≤l.length:=by
 unfold zi2
 exact Nat.le_trans (List.length_filter_le _ _) (by simp)
def zgy (s:ByteArray):Fld:=⟨Lib.indexByte s.data.toList 10,Lib.countByte s.data.toList 10,zi2 s.data.toList⟩
theorem z41 (s:ByteArray) (hs:s.size≤1048576) (t:ByteArray) (e:Int) (hW:Spec Tryz.prog 82 [ziq (zgy s)] [] (.tup [S t,I .i64 e]) []) (h:e≠0∨t≠s):Spec Tryz.prog 46 [S s] [] (.tup [ykx,I .i64 4]) []:=by
 have I1:=zim s 10
 have C1:=zs5 s 10
 have hsl:s.data.toList.length=s.size:=by rw[Array.length_toList];rfl
 refine spB Tryz.func46 46 [.cell 2 28,.tmp 3] Tryz.results46 ?_
 try refine xy0 ?_
 refine caP (I1) ?_
 try refine xy0 ?_
 refine caP (C1) ?_
 try refine xy0 ?_
 refine zay (fun k:Nat=>⟨[(16,I .i64 k),(15,I .i64 s.size),(4,.ptr 1 0 0),(2,.ptr 0 0 0),(0,S s)],[(0,.blk 28 [I .i64 0,I .i64 0,.c (.v (.slice none 0 0))]),(1,.blk 28 [I .i64 (zgy s).w,I .i64 (zgy s).h,.own 2]),(2,.row 3 1 ((zi2 (s.data.toList.take k)).map zao))],3⟩) (fun k:Nat=>k≤s.size) (fun k:Nat=>s.size-k) (0) (Nat.zero_le _) ((To.nilC 1 2 3 1 28 _ rfl rfl).trans (To.mk [0,1,2] rfl rfl (by decide) ?_ ?_)) ?_
 ·simp(etaStruct := .none)only[push_cast,zad,seval,List.set_cons_succ,List.set_cons_zero]
  exact⟨⟨Wk.refl _,Wk.refl _⟩,rfl⟩
 ·exact xS
 rintro k hk
 try refine xy0 ?_
 refine cI (fun h1=>?_) fun h1=>?_
 ·have hlt:k<s.data.toList.length:=by omega
  have sn:=zak s.data.toList k hlt
  have rs:=zqc (s.data.toList.take k) (s.data.toList.getD k default)
  have rl:=zoc (s.data.toList.take k)
  have tl:(s.data.toList.take k).length≤k:=List.length_take_le _ _
  have hof:UInt8.ofNat (s.data.toList.getD k default).toNat=s.data.toList.getD k default:=by simp
  rw[←sn]at rs
  try refine xy1 hof ?_
  refine caP (zim ⟨#[46,35,116,111]⟩ ((s.data.toList.getD k default).toNat:Nat)) ?_
  try refine xy1 hof ?_
  refine cI (fun h2=>?_) fun h2=>?_
  ·have h2':0≤sgn (s.data.toList.getD k default):=h2
   rw[if_pos h2']at rs
   try refine xy1 hof ?_
   refine⟨k+1,by omega,by omega,To.mk [0,1,4] rfl rfl (by decide) ?_ ?_⟩
   ·(try(refine xz4 rs zab z9o QB0 ?_;try exact xtI))
   ·(try(refine xy1 hof ?_;try exact xtI))
  ·have h2':¬0≤sgn (s.data.toList.getD k default):=by unfold sgn;omega
   rw[if_neg h2',List.append_nil]at rs
   try refine xy1 hof ?_
   refine⟨k+1,by omega,by omega,To.mk [0,1,2] rfl rfl (by decide) ?_ ?_⟩
   ·(try(refine xz1 rs ?_;try exact xtI))
   ·(try(refine xy1 hof ?_;try exact xtI))
 ·obtain rfl:k=s.size:=by omega
  have htk:s.data.toList.take s.size=s.data.toList:=List.take_of_length_le (by omega)
  rw[htk]
  try refine xy0 ?_
  refine zc0 (hW) (WkL.refl _) rfl ?_
  try refine xy0 ?_
  refine cI (fun h3=>?_) fun h3=>?_
  ·try refine xy0 ?_
   exact xrz rfl
  ·exfalso
   rcases h with h|h
   ·exact h h3.1
   ·exact h h3.2
theorem z96 (s:ByteArray) (hs:s.size≤1048576) (hW:Spec Tryz.prog 82 [ziq (zgy s)] [] (.tup [S s,I .i64 0]) []):Spec Tryz.prog 46 [S s] [] (.tup [ziq (zgy s),I .i64 0]) []:=by
 have I1:=zim s 10
 have C1:=zs5 s 10
 have hsl:s.data.toList.length=s.size:=by rw[Array.length_toList];rfl
 refine spB Tryz.func46 46 [.cell 2 28,.tmp 3] Tryz.results46 ?_
 try refine xy0 ?_
 refine caP (I1) ?_
 try refine xy0 ?_
 refine caP (C1) ?_
 try refine xy0 ?_
 refine zay (fun k:Nat=>⟨[(16,I .i64 k),(15,I .i64 s.size),(4,.ptr 1 0 0),(2,.ptr 0 0 0),(0,S s)],[(0,.blk 28 [I .i64 0,I .i64 0,.c (.v (.slice none 0 0))]),(1,.blk 28 [I .i64 (zgy s).w,I .i64 (zgy s).h,.own 2]),(2,.row 3 1 ((zi2 (s.data.toList.take k)).map zao))],3⟩) (fun k:Nat=>k≤s.size) (fun k:Nat=>s.size-k) (0) (Nat.zero_le _) ((To.nilC 1 2 3 1 28 _ rfl rfl).trans (To.mk [0,1,2] rfl rfl (by decide) ?_ ?_)) ?_
 ·simp(etaStruct := .none)only[push_cast,zad,seval,List.set_cons_succ,List.set_cons_zero]
  exact⟨⟨Wk.refl _,Wk.refl _⟩,rfl⟩
 ·exact xS
 rintro k hk
 try refine xy0 ?_
 refine cI (fun h1=>?_) fun h1=>?_
 ·have hlt:k<s.data.toList.length:=by omega
  have sn:=zak s.data.toList k hlt
  have rs:=zqc (s.data.toList.take k) (s.data.toList.getD k default)
  have rl:=zoc (s.data.toList.take k)
  have tl:(s.data.toList.take k).length≤k:=List.length_take_le _ _
  have hof:UInt8.ofNat (s.data.toList.getD k default).toNat=s.data.toList.getD k default:=by simp
  rw[←sn]at rs
  try refine xy1 hof ?_
  refine caP (zim ⟨#[46,35,116,111]⟩ ((s.data.toList.getD k default).toNat:Nat)) ?_
  try refine xy1 hof ?_
  refine cI (fun h2=>?_) fun h2=>?_
  ·have h2':0≤sgn (s.data.toList.getD k default):=h2
   rw[if_pos h2']at rs
   try refine xy1 hof ?_
   refine⟨k+1,by omega,by omega,To.mk [0,1,4] rfl rfl (by decide) ?_ ?_⟩
   ·(try(refine xz4 rs zab z9o QB0 ?_;try exact xtI))
   ·(try(refine xy1 hof ?_;try exact xtI))
  ·have h2':¬0≤sgn (s.data.toList.getD k default):=by unfold sgn;omega
   rw[if_neg h2',List.append_nil]at rs
   try refine xy1 hof ?_
   refine⟨k+1,by omega,by omega,To.mk [0,1,2] rfl rfl (by decide) ?_ ?_⟩
   ·(try(refine xz1 rs ?_;try exact xtI))
   ·(try(refine xy1 hof ?_;try exact xtI))
 ·obtain rfl:k=s.size:=by omega
  have htk:s.data.toList.take s.size=s.data.toList:=List.take_of_length_le (by omega)
  rw[htk]
  try refine xy0 ?_
  refine zc0 (hW) (WkL.refl _) rfl ?_
  try refine xy0 ?_
  refine cI (fun h3=>?_) fun h3=>?_
  ·exact absurd h3 (by simp)
  ·try refine xy0 ?_
   exact xrz rfl
def za0:List UInt8→List UInt8
 | [] => []
 | b::r=>if b=10 then []else b::za0 r
def zcx:List UInt8→List UInt8
 | [] => []
 | b::r=>if b=10 then r else zcx r
def za3:Nat→List UInt8→List UInt8
 | 0,l=>l
 | k+1,l=>za3 k (zcx l)
theorem zlr:∀l:List UInt8,0<l.count 10→Lib.indexByte l 10=((za0 l).length:Nat)∧l=za0 l++10::zcx l∧(zcx l).count 10+1=l.count 10
 | [],h=>by simp at h
 | b::r,h=>by
  by_cases e:b=10
  ·subst e
   exact⟨by simp[Lib.indexByte,za0],by simp[za0,zcx],by simp[zcx]⟩
  ·have hc:(b::r).count 10=r.count 10:=by rw[List.count_cons];simp[e]
   rw[hc]at h ⊢
   obtain⟨h1,h2,h3⟩:=zlr r h
   simp only[za0,zcx,if_neg e]
   refine⟨?_,by rw[List.cons_append,←h2],h3⟩
   have g:¬((((za0 r).length:Nat):Int) = -1):=by omega
   simp only[Lib.indexByte,h1,List.length_cons,beq_iff_eq,if_neg e,if_neg g]
   omega
theorem zih:∀(k:Nat) (l:List UInt8),za3 (k+1) l=zcx (za3 k l)
 | 0,_=>rfl
 | k+1,l=>zih k (zcx l)
theorem zjo:∀(k:Nat) (l:List UInt8),k≤l.count 10→(za3 k l).count 10=l.count 10-k
 | 0,_,_=>rfl
 | k+1,l,h=>by
  have:=(zlr l (by omega)).2.2
  show (za3 k (zcx l)).count 10=_
  rw[zjo k (zcx l) (by omega)];omega
theorem znq:∀l:List UInt8,(zcx l).length≤l.length
 | []=>Nat.le_refl _
 | b::r=>by
  unfold zcx
  have:=znq r
  split<;>simp only[List.length_cons]<;>omega
theorem zhu:∀(k:Nat) (l:List UInt8),(za3 k l).length≤l.length
 | 0,_=>Nat.le_refl _
 | k+1,l=>Nat.le_trans (zhu k (zcx l)) (znq l)
def zbs (k:Nat) (l:List UInt8):List (List UInt8):=(List.range k).map fun i=>za0 (za3 i l)
theorem zjr (k:Nat) (l:List UInt8):zbs (k+1) l=zbs k l ++ [za0 (za3 k l)]:=by
 unfold zbs;rw[List.range_succ,List.map_append];rfl
theorem zai (k:Nat) (l:List UInt8):(zbs k l).length=k:=by simp[zbs]
def zc3 (r:List UInt8):List PV := [.v (.string (zah r))]
theorem zbd (r:List UInt8):zc3 r=([.v (.string (zah r))]:List PV):=rfl
theorem z0m {α : Type} (xs:List α) (k m:Nat) (z x : α) (h:xs.length=k):(xs++List.replicate (m+1) z).set k x=xs ++ [x]++List.replicate m z:=by
 subst h
 rw[List.set_append_right _ _ (Nat.le_refl _),Nat.sub_self,List.replicate_succ,List.set_cons_zero];simp
abbrev yjz:List PV := [.v (.string ByteArray.empty)]
theorem zvn (k n:Nat) (l:List UInt8) (h:k≤n):((zbs k l).map zc3++List.replicate (n+1-k) ([.v (.string ByteArray.empty)]:List PV)).length=n+1:=by rw[List.length_append,List.length_map,zai,List.length_replicate];omega
theorem z7o (n:Nat) (l:List UInt8):((zbs n l).map zc3++List.replicate (n+1-n) ([.v (.string ByteArray.empty)]:List PV)).set n [.v (.string (zah (za3 n l)))]=(zbs n l ++ [za3 n l]).map zc3:=by
 rw[show n+1-n=0+1 from by omega,List.map_append]
 exact(z0m _ n _ _ _ (by rw[List.length_map,zai])).trans (by simp[zc3])
theorem szT:(⟨#[10]⟩:ByteArray).size=1:=rfl
theorem ybi (l:List UInt8) (hl:l.length≤1048576):Spec Tryz.prog 14 [S (zah l),S ⟨#[10]⟩,I .i64 0,I .i64 (-1)] [] (.c (.sl 1 ((zbs (l.count 10) l ++ [za3 (l.count 10) l]).map zc3))) []:=by
 have C1:=zs5 (zah l) 10
 rw[zbo]at C1
 have hcl:l.count 10≤l.length:=List.count_le_length
 have hcnt:=zjo
 have hrl:=fun k=>zhu k l
 unfold Lib.countByte at C1
 generalize hn:l.count 10=n at *
 have hts:=zaa l
 have hmin:¬((((zah l).size:Nat):Int)+1<(n:Int)+1):=by omega
 refine spB Tryz.func14 66 [.tmp 8] Tryz.results14 ?_
 try refine xst ?_
 refine cI (fun h1=>?_) fun h1=>?_
 ·exact absurd h1 (by decide)
 ·try refine xst ?_
  refine cI (fun h2=>?_) fun h2=>?_
  ·exact absurd h2 (by decide)
  ·try refine xst ?_
   refine cI (fun h3=>?_) fun h3=>?_
   ·try refine xst ?_
    refine caP (C1) ?_
    try refine xst ?_
    refine zay (fun k:Nat=>⟨[(10,I .i64 k),(9,.own 0),(3,I .i64 n),(2,I .i64 0),(1,S ⟨#[10]⟩),(0,S (zah (za3 k l)))],[(0,.row 9 1 ((zbs k l).map zc3++List.replicate (n+1-k) [.v (.string ByteArray.empty)]))],1⟩) (fun k:Nat=>k≤n) (fun k:Nat=>n-k) (0) (Nat.zero_le _) (To.mk [0] rfl rfl (by decide) ?_ ?_) ?_
    ·simp(etaStruct := .none)only[push_cast,zad,seval,if_neg hmin]
     rfl
    ·simp(etaStruct := .none)only[push_cast,zad,seval,if_neg hmin]
     exact⟨Wk.of (by rw[Int.add_sub_cancel]),Wk.refl _⟩
    rintro k hk
    try refine xst ?_
    refine cI (fun h4=>?_) fun h4=>?_
    ·have hlt:k<n:=by omega
     obtain⟨i1,i2,i3⟩:=zlr (za3 k l) (by rw[hcnt k l (by omega)];omega)
     have I1:=yf3 (zah (za3 k l)) 10
     rw[zbo,i1]at I1
     have rl:=hrl k
     have ts:=zaa (za3 k l)
     have hl2:(za0 (za3 k l)).length+1≤(za3 k l).length:=by
      have:=congrArg List.length i2
      simp only[List.length_append,List.length_cons]at this;omega
     have e1:(zah (za3 k l)).extract 0 (za0 (za3 k l)).length=zah (za0 (za3 k l)):=by
      rw[zgd,List.drop_zero];exact congrArg zah ((congrArg (List.take _) i2).trans List.take_left)
     have e2:(zah (za3 k l)).extract ((za0 (za3 k l)).length+1) (zah (za3 k l)).size=zah (za3 (k+1) l):=by
      rw[zgd,ts,List.take_length,zih]
      refine congrArg zah ((congrArg (List.drop _) i2).trans ?_)
      rw[show (za0 (za3 k l)).length+1=(za0 (za3 k l)).length+1 from rfl,List.drop_length_add_append];rfl
     have tn:(((za0 (za3 k l)).length:Nat)+1:Int).toNat=(za0 (za3 k l)).length+1:=by omega
     have lF:=zvn k n l (by omega)
     have fs:((zbs k l).map zc3++List.replicate (n+1-k) yjz).set k [.v (.string (zah (za0 (za3 k l))))]=(zbs (k+1) l).map zc3++List.replicate (n+1-(k+1)) yjz:=by
      rw[show n+1-k=(n-k)+1 from by omega,show n+1-(k+1)=n-k from by omega,zjr,List.map_append]
      exact z0m _ k _ _ _ (by rw[List.length_map,zai])
     try refine xz6 szT e1 e2 tn lF QB8 ?_
     refine caP (I1) ?_
     try refine xz6 szT e1 e2 tn lF QB8 ?_
     refine cI (fun h5=>?_) fun h5=>?_
     ·omega
     ·try refine xz6 szT e1 e2 tn lF QB8 ?_
      refine⟨k+1,by omega,by omega,To.mk [0] rfl rfl (by decide) ?_ ?_⟩
      ·(try(refine xz1 fs ?_;try exact xtI))
      ·(try(refine xz6 szT e1 e2 tn lF QB8 ?_;try exact xtI))
    ·obtain rfl:k=n:=by omega
     have lF:=zvn k k l (by omega)
     have lE:=z7o k l
     have lG:((zbs k l ++ [za3 k l]).map zc3).length=k+1:=by rw[List.length_map,List.length_append,zai];rfl
     have tk:((k:Int)+1).toNat=k+1:=by omega
     try refine xz4 lF lE lG tk ?_
     refine zfm rfl trivial (Wk.of ?_)
     show AV.c (.sl 1 (List.take _ (List.drop 0 _)))=_
     rw[List.drop_zero,List.take_of_length_le (by omega)]
   ·exact absurd h3 (by decide)
abbrev z9x (l:List UInt8):List (List UInt8):=zbs (l.count 10) l ++ [za3 (l.count 10) l]
theorem zsw (l:List UInt8) (hl:l.length≤1048576):Spec Tryz.prog 6 [S (zah l),S ⟨#[10]⟩] [] (.c (.sl 1 ((z9x l).map zc3))) []:=by
 have G:=ybi l hl
 refine spB Tryz.func6 8 [.tmp 4] Tryz.results6 ?_
 try refine xst ?_
 refine caP (G) ?_
 try refine xst ?_
 exact xrz rfl
def zda (k:Nat) (l:List UInt8):List Int:=(zbs k l).flatMap (·.map sgn)
theorem zhw (k:Nat) (l:List UInt8):zda (k+1) l=zda k l++(za0 (za3 k l)).map sgn:=by
 unfold zda;rw[zjr,List.flatMap_append];simp
theorem zgo:∀l:List UInt8,(za0 l).length≤l.length
 | []=>Nat.le_refl _
 | b::r=>by
  unfold za0
  have:=zgo r
  split<;>simp only[List.length_cons,List.length_nil]<;>omega
theorem zfd {W:Nat} : ∀(k:Nat) (l:List UInt8),(∀j,j<k→(za0 (za3 j l)).length=W)→(zda k l).length=k*W
 | 0,l,_=>by simp[zda,zbs]
 | k+1,l,h=>by
  rw[zhw,List.length_append,List.length_map,zfd k l (fun j hj=>h j (by omega)),h k (by omega),Nat.add_mul,Nat.one_mul]
theorem yci {α : Type} {l t:List α} {a : α} {P : α → Prop} (e:t=l ++ [a]) (h:∀b∈l,P b) (ha:P a):∀b∈t,P b:=fun b hb=>by
 rw[e]at hb
 rcases List.mem_append.1 hb with hb|hb
 ·exact h b hb
 ·rw[List.mem_singleton.1 hb];exact ha
theorem z3f {P:Nat→Prop} {k:Nat} (h:∀j,j<k→P j) (hk:P k):∀j,j<k+1→P j:=fun j hj=>by
 rcases Nat.lt_or_ge j k with h1|h1
 ·exact h j h1
 ·rw[show j=k from by omega];exact hk
theorem zzz (k n:Nat) (l:List UInt8) (h:k<n):((zbs n l).map zc3).getD k []=zc3 (za0 (za3 k l)):=by
 unfold zbs
 simp[h]
theorem z4m (n:Nat) (l:List UInt8):((zbs n l ++ [za3 n l]).map zc3).getD n []=zc3 (za3 n l):=by
 rw[List.map_append,List.getD_eq_getElem?_getD,List.getElem?_append_right (by simp[zbs]),List.length_map,zai];simp
theorem zyz (n:Nat) (l:List UInt8) (h:1≤n):((zbs n l ++ [za3 n l]).map zc3).getD 0 []=zc3 (za0 l):=by
 obtain⟨m,rfl⟩:∃m,n=m+1:=⟨n-1,by omega⟩
 unfold zbs
 rw[List.range_succ_eq_map]
 rfl
theorem yep (n:Nat) (l:List UInt8):∃r0:List UInt8,((zbs n l ++ [za3 n l]).map zc3).getD 0 []=zc3 r0∧r0.length≤l.length:=by
 rcases Nat.eq_zero_or_pos n with rfl|h
 ·exact⟨l,rfl,Nat.le_refl _⟩
 ·exact⟨za0 l,zyz n l h,zgo l⟩
theorem zt9 (n:Nat) (l:List UInt8):((zbs n l ++ [za3 n l]).map zc3).take n=(zbs n l).map zc3:=by
 rw[List.map_append,List.take_append_of_le_length (by simp[zbs]),List.take_of_length_le (by simp[zbs])]
theorem zrs (n:Nat) (l:List UInt8):((zbs n l ++ [za3 n l]).map zc3).length=n+1:=by simp[zbs]
theorem tE:(zah []=(⟨#[]⟩:ByteArray))=True:=eq_true rfl
theorem z1b (l:List UInt8) (hl:l.length≤1048576) (n W:Nat) (hn:l.count 10=n) (h0:1≤n∧n≤40) (hr:za3 n l = []) (hW:(za0 l).length=W) (hw:1≤W∧W≤40) (hg:∀k,k<n→(za0 (za3 k l)).length=W∧∀b∈za0 (za3 k l),0≤sgn b) :
 Spec Tryz.prog 27 [S (zah l)] [] (.tup [.agg [I .i64 W,I .i64 n,.c (.sl 1 ((zda n l).map zao))],I .i64 0]) []:=by
 have G:=zsw l hl
 have gn:=z4m n l
 have g0:=zyz n l (by omega)
 have gt:=zt9 n l
 have gl:=zrs n l
 unfold z9x at G
 rw[hn]at G
 rw[hr]at G gn g0 gt gl
 have w1:zal n 1 40=true:=within_iff.2 ⟨by omega,by omega⟩
 have w2:zal W 1 40=true:=within_iff.2 ⟨by omega,by omega⟩
 have sW:=zaa (za0 l)
 rw[hW]at sW
 refine spB Tryz.func27 77 [.cell 2 28,.tmp 3] Tryz.results27 ?_
 try refine zdv zai gn g0 gt gl w1 w2 sW tE (And.intro zbd QB9) ?_
 refine caP (G) ?_
 try refine zdv zai gn g0 gt gl w1 w2 sW tE (And.intro zbd QB9) ?_
 refine caP (zat n 1 40) ?_
 try refine zdv zai gn g0 gt gl w1 w2 sW tE (And.intro zbd QB9) ?_
 refine gcP (fun hcc=>zat W 1 40) ?_
 try refine zdv zai gn g0 gt gl w1 w2 sW tE (And.intro zbd QB9) ?_
 refine cI (fun h1=>?_) fun h1=>?_
 ·exact absurd h1 (by decide)
 ·try refine zdv zai gn g0 gt gl w1 w2 sW tE (And.intro zbd QB9) ?_
  refine zay (fun k:Nat=>⟨[(46,I .i64 k),(45,I .i64 n),(44,.c (.sl 1 ((zbs n l).map zc3))),(6,.ptr 1 0 0),(2,.ptr 0 0 0)],[(0,.blk 28 [I .i64 0,I .i64 0,.c (.v (.slice none 0 0))]),(1,.blk 28 [I .i64 W,I .i64 n,.own 2]),(2,.row 3 1 ((zda k l).map zao))],3⟩) (fun k:Nat=>k≤n) (fun k:Nat=>n-k) (0) (Nat.zero_le _) ((To.nilC 1 2 3 1 28 _ rfl rfl).trans (To.mk [0,1,2] rfl rfl (by decide) ?_ ?_)) ?_
  ·simp(etaStruct := .none)only[push_cast,zad,seval,List.set_cons_succ,List.set_cons_zero]
   exact rfl
  ·exact xS1 zai
  rintro k hk
  try refine zdv zai gn g0 gt gl w1 w2 sW tE (And.intro zbd QB9) ?_
  refine cI (fun h2=>?_) fun h2=>?_
  ·have hlt:k<n:=by omega
   have gk:=zzz k n l hlt
   obtain⟨g1,g2⟩:=hg k hlt
   have ps:=zhw k l
   have hkr:(za0 (za3 k l)).length≤l.length:=Nat.le_trans (zgo _) (zhu k l)
   have sk:=zaa (za0 (za3 k l))
   rw[g1]at sk
   have tk:=zbo (za0 (za3 k l))
   try refine zdv zai gn g0 gt gl w1 w2 sW tE (And.intro zbd (And.intro gk (And.intro sk (And.intro tk (And.intro g1 QB9))))) ?_
   refine cI (fun h3=>?_) fun h3=>?_
   ·exact absurd h3 (by simp)
   ·try refine zdv zai gn g0 gt gl w1 w2 sW tE (And.intro zbd (And.intro gk (And.intro sk (And.intro tk (And.intro g1 QB9))))) ?_
    refine zay (fun x:Nat=>⟨[(59,I .i64 x),(58,I .i64 W),(57,.c (.sl 1 ((za0 (za3 k l)).map bP))),(46,I .i64 k),(45,I .i64 n),(44,.c (.sl 1 ((zbs n l).map zc3))),(6,.ptr 1 0 0),(2,.ptr 0 0 0)],[(0,.blk 28 [I .i64 0,I .i64 0,.c (.v (.slice none 0 0))]),(1,.blk 28 [I .i64 W,I .i64 n,.own 2]),(2,.row 3 1 ((zda k l++((za0 (za3 k l)).take x).map sgn).map zao))],3⟩) (fun x:Nat=>x≤W) (fun x:Nat=>W-x) (0) (Nat.zero_le _) (To.mk [0,1,2] rfl rfl (by decide) ?_ ?_) ?_
    ·exact xS
    ·exact xS
    rintro x hx
    try refine zdv zai gn g0 gt gl w1 w2 sW tE (And.intro zbd (And.intro gk (And.intro sk (And.intro tk (And.intro g1 QB9))))) ?_
    refine cI (fun h4=>?_) fun h4=>?_
    ·have hlx:x<(za0 (za3 k l)).length:=by omega
     have sn:=zak (za0 (za3 k l)) x hlx
     have hm:=g2 _ (zax (za0 (za3 k l)) x hlx)
     have pl:=zfd k l (W:=W) (fun j hj=>(hg j (by omega)).1)
     have pk:k*W≤40*40:=Nat.mul_le_mul (by omega) (by omega)
     have hof:UInt8.ofNat ((za0 (za3 k l)).getD x default).toNat=(za0 (za3 k l)).getD x default:=by simp
     iterate 2(try simp(etaStruct := .none)only[push_cast,seval,zai,gn,g0,gt,gl,w1,w2,sW,tE,zc3,Int.add_sub_cancel,Int.toNat_natCast,gk,sk,tk,g1,zae _ _ _ hlx,bP,hof];try refine xsu ?_)
     refine caP (zim ⟨#[46,35,116,111]⟩ (((za0 (za3 k l)).getD x default).toNat:Nat)) ?_
     iterate 2(try simp(etaStruct := .none)only[push_cast,seval,zai,gn,g0,gt,gl,w1,w2,sW,tE,zc3,Int.add_sub_cancel,Int.toNat_natCast,gk,sk,tk,g1,zae _ _ _ hlx,bP,hof];try refine xsu ?_)
     refine cI (fun h5=>?_) fun h5=>?_
     ·unfold sgn at hm;omega
     ·iterate 2(try simp(etaStruct := .none)only[push_cast,seval,zai,gn,g0,gt,gl,w1,w2,sW,tE,zc3,Int.add_sub_cancel,Int.toNat_natCast,gk,sk,tk,g1,zae _ _ _ hlx,bP,hof];try refine xsu ?_)
      refine⟨x+1,by omega,by omega,To.mk [0,1,4] rfl rfl (by decide) ?_ ?_⟩
      ·(try(refine xz4 sn zab z9o QB7 ?_;try exact xtI))
      ·(iterate 2((try simp(etaStruct := .none)only[push_cast,seval,zai,gn,g0,gt,gl,w1,w2,sW,tE,zc3,Int.add_sub_cancel,Int.toNat_natCast,gk,sk,tk,g1,zae _ _ _ hlx,bP,hof]);(try(refine xsu ?_;try exact xtI))))
    ·obtain rfl:x=W:=by omega
     have htk:(za0 (za3 k l)).take x=za0 (za3 k l):=List.take_of_length_le (by omega)
     rw[htk]
     try refine zdv zai gn g0 gt gl w1 w2 sW tE (And.intro zbd (And.intro gk (And.intro sk (And.intro tk (And.intro g1 QB9))))) ?_
     refine⟨k+1,by omega,by omega,To.mk [0,1,2] rfl rfl (by decide) ?_ ?_⟩
     ·(try(refine xz1 ps ?_;try exact xtI))
     ·(try(refine zdv zai gn g0 gt gl w1 w2 sW tE (And.intro zbd (And.intro gk (And.intro sk (And.intro tk (And.intro g1 QB9))))) ?_;try exact xtI))
  ·obtain rfl:k=n:=by omega
   try refine zdv zai gn g0 gt gl w1 w2 sW tE (And.intro zbd QB9) ?_
   exact xrz rfl
theorem zwp (l:List UInt8) (hl:l.length≤1048576) (n:Nat) (hn:l.count 10=n) (h:¬((1≤n∧n≤40)∧za3 n l = []∧1≤(za0 l).length∧(za0 l).length≤40)) :
 Spec Tryz.prog 27 [S (zah l)] [] (.tup [ykx,I .i64 4]) []:=by
 have G:=zsw l hl
 have gn:=z4m n l
 have gl:=zrs n l
 unfold z9x at G
 rw[hn]at G
 have hC:=zat n 1 40
 have sW:=zaa (za0 l)
 have hcl:l.count 10≤l.length:=List.count_le_length
 rw[hn]at hcl
 have hhl:=zgo l
 by_cases hn1:1≤n∧n≤40
 ·have w1:zal n 1 40=true:=within_iff.2 ⟨by omega,by omega⟩
  have g0:=zyz n l (by omega)
  by_cases hr:za3 n l = []
  ·have w2:zal (za0 l).length 1 40=false:=within_f.2 (fun hh=>h ⟨hn1,hr,by omega,by omega⟩)
   rw[hr]at G gn g0 gl
   refine spB Tryz.func27 77 [.cell 2 28,.tmp 3] Tryz.results27 ?_
   try refine zdv zai gn g0 gl w1 w2 sW tE zbd QB9 ?_
   refine caP (G) ?_
   try refine zdv zai gn g0 gl w1 w2 sW tE zbd QB9 ?_
   refine caP (hC) ?_
   try refine zdv zai gn g0 gl w1 w2 sW tE zbd QB9 ?_
   refine gcP (fun hcc=>zat (za0 l).length 1 40) ?_
   try refine zdv zai gn g0 gl w1 w2 sW tE zbd QB9 ?_
   refine cI (fun h1=>?_) fun h1=>?_
   ·try refine zdv zai gn g0 gl w1 w2 sW tE zbd QB9 ?_
    exact xrz rfl
   ·exact absurd h1 (by decide)
  ·have hne:(zah (za3 n l)=(⟨#[]⟩:ByteArray))=False:=eq_false fun e=>hr (by have:=congrArg (fun s:ByteArray=>s.data.toList) e;rwa [zbo]at this)
   refine spB Tryz.func27 77 [.cell 2 28,.tmp 3] Tryz.results27 ?_
   try refine xy9 zai gn g0 gl w1 sW hne zbd QB9 ?_
   refine caP (G) ?_
   try refine xy9 zai gn g0 gl w1 sW hne zbd QB9 ?_
   refine caP (hC) ?_
   try refine xy9 zai gn g0 gl w1 sW hne zbd QB9 ?_
   refine gcP (fun hcc=>zat (za0 l).length 1 40) ?_
   try refine xy9 zai gn g0 gl w1 sW hne zbd QB9 ?_
   refine cI (fun h1=>?_) fun h1=>?_
   ·try refine xy9 zai gn g0 gl w1 sW hne zbd QB9 ?_
    exact xrz rfl
   ·exact absurd h1 (by decide)
 ·have w1:zal n 1 40=false:=within_f.2 (fun hh=>hn1 ⟨by omega,by omega⟩)
  obtain⟨r0,g0,hr0⟩:=yep n l
  have s0:=zaa r0
  refine spB Tryz.func27 77 [.cell 2 28,.tmp 3] Tryz.results27 ?_
  try refine xy8 zai gn g0 gl w1 s0 zbd QB9 ?_
  refine caP (G) ?_
  try refine xy8 zai gn g0 gl w1 s0 zbd QB9 ?_
  refine caP (hC) ?_
  try refine xy8 zai gn g0 gl w1 s0 zbd QB9 ?_
  refine gcP (fun hcc=>zat r0.length 1 40) ?_
  try refine xy8 zai gn g0 gl w1 s0 zbd QB9 ?_
  refine cI (fun h1=>?_) fun h1=>?_
  ·try refine xy8 zai gn g0 gl w1 s0 zbd QB9 ?_
   exact xrz rfl
  ·exact absurd h1 (by decide)
def ygh (W:Nat) (l:List UInt8) (k:Nat):Prop:=(za0 (za3 k l)).length=W∧∀b∈za0 (za3 k l),0≤sgn b
theorem z3s (l:List UInt8) (hl:l.length≤1048576) (n W:Nat) (hn:l.count 10=n) (h0:1≤n∧n≤40) (hr:za3 n l = []) (hW:(za0 l).length=W) (hw:1≤W∧W≤40) (hb:¬ ∀k,k<n→ygh W l k) :
 Spec Tryz.prog 27 [S (zah l)] [] (.tup [ykx,I .i64 4]) []:=by
 have G:=zsw l hl
 have gn:=z4m n l
 have g0:=zyz n l (by omega)
 have gt:=zt9 n l
 have gl:=zrs n l
 unfold z9x at G
 rw[hn]at G
 rw[hr]at G gn g0 gt gl
 have w1:zal n 1 40=true:=within_iff.2 ⟨by omega,by omega⟩
 have w2:zal W 1 40=true:=within_iff.2 ⟨by omega,by omega⟩
 have sW:=zaa (za0 l)
 rw[hW]at sW
 refine spB Tryz.func27 77 [.cell 2 28,.tmp 3] Tryz.results27 ?_
 try refine zdv zai gn g0 gt gl w1 w2 sW tE (And.intro zbd QB9) ?_
 refine caP (G) ?_
 try refine zdv zai gn g0 gt gl w1 w2 sW tE (And.intro zbd QB9) ?_
 refine caP (zat n 1 40) ?_
 try refine zdv zai gn g0 gt gl w1 w2 sW tE (And.intro zbd QB9) ?_
 refine gcP (fun hcc=>zat W 1 40) ?_
 try refine zdv zai gn g0 gt gl w1 w2 sW tE (And.intro zbd QB9) ?_
 refine cI (fun h1=>?_) fun h1=>?_
 ·exact absurd h1 (by decide)
 ·try refine zdv zai gn g0 gt gl w1 w2 sW tE (And.intro zbd QB9) ?_
  refine zay (fun k:Nat=>⟨[(46,I .i64 k),(45,I .i64 n),(44,.c (.sl 1 ((zbs n l).map zc3))),(6,.ptr 1 0 0),(2,.ptr 0 0 0)],[(0,.blk 28 [I .i64 0,I .i64 0,.c (.v (.slice none 0 0))]),(1,.blk 28 [I .i64 W,I .i64 n,.own 2]),(2,.row 3 1 ((zda k l).map zao))],3⟩) (fun k:Nat=>k≤n∧∀j,j<k→ygh W l j) (fun k:Nat=>n-k) (0) (⟨Nat.zero_le _,fun j hj=>absurd hj (Nat.not_lt_zero j)⟩) ((To.nilC 1 2 3 1 28 _ rfl rfl).trans (To.mk [0,1,2] rfl rfl (by decide) ?_ ?_)) ?_
  ·simp(etaStruct := .none)only[push_cast,zad,seval,List.set_cons_succ,List.set_cons_zero]
   exact rfl
  ·exact xS1 zai
  rintro k ⟨hk,hg⟩
  try refine zdv zai gn g0 gt gl w1 w2 sW tE (And.intro zbd QB9) ?_
  refine cI (fun h2=>?_) fun h2=>?_
  ·have hlt:k<n:=by omega
   have gk:=zzz k n l hlt
   have ps:=zhw k l
   have hkr:(za0 (za3 k l)).length≤l.length:=Nat.le_trans (zgo _) (zhu k l)
   have sk:=zaa (za0 (za3 k l))
   have tk:=zbo (za0 (za3 k l))
   try refine zdv zai gn g0 gt gl w1 w2 sW tE (And.intro zbd (And.intro gk (And.intro sk (And.intro tk QB9)))) ?_
   refine cI (fun h3=>?_) fun h3=>?_
   ·try refine zdv zai gn g0 gt gl w1 w2 sW tE (And.intro zbd (And.intro gk (And.intro sk (And.intro tk QB9)))) ?_
    exact xrz rfl
   ·have g1:(za0 (za3 k l)).length=W:=by omega
    rw[g1]at sk
    try refine zdv zai gn g0 gt gl w1 w2 sW tE (And.intro zbd (And.intro gk (And.intro sk (And.intro tk (And.intro g1 QB9))))) ?_
    refine zay (fun x:Nat=>⟨[(59,I .i64 x),(58,I .i64 W),(57,.c (.sl 1 ((za0 (za3 k l)).map bP))),(46,I .i64 k),(45,I .i64 n),(44,.c (.sl 1 ((zbs n l).map zc3))),(6,.ptr 1 0 0),(2,.ptr 0 0 0)],[(0,.blk 28 [I .i64 0,I .i64 0,.c (.v (.slice none 0 0))]),(1,.blk 28 [I .i64 W,I .i64 n,.own 2]),(2,.row 3 1 ((zda k l++((za0 (za3 k l)).take x).map sgn).map zao))],3⟩) (fun x:Nat=>x≤W∧∀b∈(za0 (za3 k l)).take x,0≤sgn b) (fun x:Nat=>W-x) (0) (⟨Nat.zero_le _,fun b hb=>by simp at hb⟩) (To.mk [0,1,2] rfl rfl (by decide) ?_ ?_) ?_
    ·exact xS
    ·exact xS
    rintro x ⟨hx,g2⟩
    try refine zdv zai gn g0 gt gl w1 w2 sW tE (And.intro zbd (And.intro gk (And.intro sk (And.intro tk (And.intro g1 QB9))))) ?_
    refine cI (fun h4=>?_) fun h4=>?_
    ·have hlx:x<(za0 (za3 k l)).length:=by omega
     have sn:=zak (za0 (za3 k l)) x hlx
     have pl:=zfd k l (W:=W) (fun j hj=>(hg j (by omega)).1)
     have pk:k*W≤40*40:=Nat.mul_le_mul (by omega) (by omega)
     have hof:UInt8.ofNat ((za0 (za3 k l)).getD x default).toNat=(za0 (za3 k l)).getD x default:=by simp
     iterate 2(try simp(etaStruct := .none)only[push_cast,seval,zai,gn,g0,gt,gl,w1,w2,sW,tE,zc3,Int.add_sub_cancel,Int.toNat_natCast,gk,sk,tk,g1,zae _ _ _ hlx,bP,hof];try refine xsu ?_)
     refine caP (zim ⟨#[46,35,116,111]⟩ (((za0 (za3 k l)).getD x default).toNat:Nat)) ?_
     iterate 2(try simp(etaStruct := .none)only[push_cast,seval,zai,gn,g0,gt,gl,w1,w2,sW,tE,zc3,Int.add_sub_cancel,Int.toNat_natCast,gk,sk,tk,g1,zae _ _ _ hlx,bP,hof];try refine xsu ?_)
     refine cI (fun h5=>?_) fun h5=>?_
     ·iterate 2(try simp(etaStruct := .none)only[push_cast,seval,zai,gn,g0,gt,gl,w1,w2,sW,tE,zc3,Int.add_sub_cancel,Int.toNat_natCast,gk,sk,tk,g1,zae _ _ _ hlx,bP,hof];try refine xsu ?_)
      exact xrz rfl
     ·have hm:0≤sgn ((za0 (za3 k l)).getD x default):=by unfold sgn;omega
      iterate 2(try simp(etaStruct := .none)only[push_cast,seval,zai,gn,g0,gt,gl,w1,w2,sW,tE,zc3,Int.add_sub_cancel,Int.toNat_natCast,gk,sk,tk,g1,zae _ _ _ hlx,bP,hof];try refine xsu ?_)
      refine⟨x+1,⟨by omega,yci sn g2 hm⟩,by omega,To.mk [0,1,4] rfl rfl (by decide) ?_ ?_⟩
      ·(try(refine xz4 sn zab z9o QB7 ?_;try exact xtI))
      ·(iterate 2((try simp(etaStruct := .none)only[push_cast,seval,zai,gn,g0,gt,gl,w1,w2,sW,tE,zc3,Int.add_sub_cancel,Int.toNat_natCast,gk,sk,tk,g1,zae _ _ _ hlx,bP,hof]);(try(refine xsu ?_;try exact xtI))))
    ·obtain rfl:x=W:=by omega
     have htk:(za0 (za3 k l)).take x=za0 (za3 k l):=List.take_of_length_le (by omega)
     rw[htk]at g2 ⊢
     try refine zdv zai gn g0 gt gl w1 w2 sW tE (And.intro zbd (And.intro gk (And.intro sk (And.intro tk (And.intro g1 QB9))))) ?_
     refine⟨k+1,⟨by omega,z3f hg ⟨g1,g2⟩⟩,by omega,To.mk [0,1,2] rfl rfl (by decide) ?_ ?_⟩
     ·(try(refine xz1 ps ?_;try exact xtI))
     ·(try(refine zdv zai gn g0 gt gl w1 w2 sW tE (And.intro zbd (And.intro gk (And.intro sk (And.intro tk (And.intro g1 QB9))))) ?_;try exact xtI))
  ·exact absurd (fun j hj=>hg j (by omega)) hb
theorem ygt {W H:Nat} {p:List Int} (h1:1≤W∧W≤40) (h2:1≤H∧H≤40) (h3:p.length=W*H) (h4:∀q∈p,0≤q∧q<4):zbl ⟨W,H,p⟩=0:=by
 have w1:zal W 1 40=true:=within_iff.2 ⟨by omega,by omega⟩
 have w2:zal H 1 40=true:=within_iff.2 ⟨by omega,by omega⟩
 refine zvl (by simp only[zds,w1,w2];rfl) (by simp only;exact_mod_cast h3) fun j hj=>?_
 have:=h4 _ (zax p j hj)
 exact within_iff.2 ⟨by simp only;omega,by simp only;omega⟩
theorem z4b {b:UInt8} (h:0≤sgn b):sgn b<4∧z85 (sgn b)=b:=by
 unfold sgn at *
 simp only[Lib.indexByte,beq_iff_eq]at *
 by_cases h1:(46:UInt8)=b
 ·subst h1;exact⟨by decide,rfl⟩
 ·by_cases h2:(35:UInt8)=b
  ·subst h2;exact⟨by decide,rfl⟩
  ·by_cases h3:(116:UInt8)=b
   ·subst h3;exact⟨by decide,rfl⟩
   ·by_cases h4:(111:UInt8)=b
    ·subst h4;exact⟨by decide,rfl⟩
    ·simp[h1,h2,h3,h4]at h
theorem yfq {q:Int} (h:0≤q∧q<4):sgn (z85 q)=q∧z85 q≠10:=by
 have:q=0∨q=1∨q=2∨q=3:=by omega
 rcases this with rfl|rfl|rfl|rfl<;>exact⟨by decide,by decide⟩
theorem zqf {W:Nat} : ∀(Rs:List (List Int)),(∀r∈Rs,r.length=W)→(List.range Rs.length).map (zhx Rs.flatten W)=Rs
 | [],_=>rfl
 | r::Rs,h=>by
  have hr:=h r (by simp)
  have ih:=zqf Rs fun z hz=>h z (by simp[hz])
  rw[List.length_cons,List.range_succ_eq_map,List.map_cons,List.map_map,List.flatten_cons]
  congr 1
  ·unfold zhx;rw[Nat.zero_mul,List.drop_zero,List.take_append_of_le_length (by omega),List.take_of_length_le (by omega)]
  ·refine Eq.trans (List.map_congr_left fun k _=>?_) ih
   show zhx _ W (k+1)=_
   unfold zhx
   rw[show (k+1)*W=r.length+k*W by rw[hr,Nat.add_mul];omega,List.drop_length_add_append]
theorem zlm (l:List UInt8):∀k,k≤l.count 10→l=(zbs k l).flatMap (· ++ [10])++za3 k l
 | 0,_=>rfl
 | k+1,h=>by
  have ih:=zlm l k (by omega)
  have hk:=(zlr (za3 k l) (by rw[zjo k l (by omega)];omega)).2.1
  rw[zjr,List.flatMap_append,zih]
  rw[hk]at ih
  simpa using ih
theorem zuh (a b:List UInt8):zi2 (a++b)=zi2 a++zi2 b:=by
 unfold zi2;rw[List.map_append,List.filter_append]
theorem z42 {r:List UInt8} (h:∀b∈r,0≤sgn b):zi2 r=r.map sgn:=by
 unfold zi2
 refine List.filter_eq_self.2 fun q hq=>?_
 obtain⟨b,hb,rfl⟩:=List.mem_map.1 hq
 exact decide_eq_true (h b hb)
theorem zob:∀ {L:List (List UInt8)},(∀r∈L,∀b∈r,0≤sgn b)→zi2 (L.flatMap (· ++ [10]))=L.flatMap (·.map sgn)
 | [],_=>rfl
 | r::L,h=>by
  rw[List.flatMap_cons,List.flatMap_cons,zuh,zuh,z42 (h r (by simp)),zob (fun z hz=>h z (by simp[hz]))]
  have:zi2 [10] = []:=rfl
  rw[this,List.append_nil]
theorem ygd {r t:List UInt8} (h:∀b∈r,b≠10):za0 (r++10::t)=r∧zcx (r++10::t)=t:=by
 induction r with
 | nil=>exact⟨rfl,rfl⟩
 | cons b r ih =>
  have hb:=h b (by simp)
  have:=ih fun z hz=>h z (by simp[hz])
  simp only[List.cons_append,za0,zcx,if_neg hb,this.1,this.2,and_self]
theorem zzy:∀(L:List (List UInt8)),(∀r∈L,∀b∈r,b≠10)→(L.flatMap (· ++ [10])).count 10=L.length∧za3 L.length (L.flatMap (· ++ [10])) = []∧∀k,k<L.length→za0 (za3 k (L.flatMap (· ++ [10])))∈L
 | [],_=>⟨rfl,rfl,fun k h=>by simp at h⟩
 | r::L,h=>by
  obtain⟨h1,h2,h3⟩:=zzy L fun z hz=>h z (by simp[hz])
  have e:(r::L).flatMap (· ++ [10])=r++10::L.flatMap (· ++ [10]):=by simp
  obtain⟨k1,k2⟩:=ygd (t:=L.flatMap (· ++ [10])) (h r (by simp))
  rw[e]
  refine⟨?_,?_,fun k hk=>?_⟩
  ·rw[List.count_append,List.count_cons_self,h1,List.count_eq_zero.2 (fun hm=>h r (by simp) 10 hm rfl)];simp
  ·show za3 L.length (zcx _) = []
   rw[k2];exact h2
  ·cases k with
   | zero =>
    have:za0 (za3 0 (r++10::L.flatMap (· ++ [10])))=r:=k1
    rw[this];simp
   | succ k =>
    show za0 (za3 k (zcx _))∈_
    rw[k2]
    exact List.mem_cons_of_mem _ (h3 k (by simpa using hk))
theorem zu8 {P:List UInt8→Prop} {n:Nat} {l:List UInt8} (h:∀k,k<n→P (za0 (za3 k l))):∀r∈zbs n l,P r:=fun r hr=>by
 unfold zbs at hr
 obtain⟨k,hk,rfl⟩:=List.mem_map.1 hr
 exact h k (List.mem_range.1 hk)
def z7a (l:List UInt8):Prop:=(1≤l.count 10∧l.count 10≤40)∧za3 (l.count 10) l = []∧(1≤(za0 l).length∧(za0 l).length≤40)∧∀k,k<l.count 10→ygh (za0 l).length l k
theorem zqd {l:List UInt8} (h:z7a l):zgy (zah l)=⟨((za0 l).length:Nat),(l.count 10:Nat),zda (l.count 10) l⟩:=by
 obtain⟨h1,h2,h3,h4⟩:=h
 have a:=(zlr l (by omega)).1
 have j:=zlm l _ (Nat.le_refl _)
 rw[h2,List.append_nil]at j
 have p:=zob (L:=zbs (l.count 10) l) (zu8 fun k hk=>(h4 k hk).2)
 rw[←j]at p
 unfold zgy zda
 rw[zbo,a,p];rfl
theorem z06 {l:List UInt8} (h:z7a l):zbl (zgy (zah l))=0∧zk9 ((List.range (l.count 10)).map (zhx (zda (l.count 10) l) (za0 l).length))=l:=by
 have hF:=zqd h
 obtain⟨h1,h2,h3,h4⟩:=h
 have j:=zlm l _ (Nat.le_refl _)
 rw[h2,List.append_nil]at j
 have hp:zda (l.count 10) l=((zbs (l.count 10) l).map (·.map sgn)).flatten:=by unfold zda;rw[List.flatMap_def]
 have hA:=zu8 (P:=fun r=>r.length=(za0 l).length∧∀b∈r,0≤sgn b) h4
 have hf:=zqf (W:=(za0 l).length) ((zbs (l.count 10) l).map (·.map sgn)) fun r hr=>by
  obtain⟨z,hz,rfl⟩:=List.mem_map.1 hr
  rw[List.length_map];exact(hA z hz).1
 rw[List.length_map,zai,←hp]at hf
 refine⟨?_,?_⟩
 ·rw[hF]
  refine ygt h3 h1 (by rw[zfd _ _ fun k hk=>(h4 k hk).1,Nat.mul_comm]) fun q hq=>?_
  unfold zda at hq
  obtain⟨r,hr,hq⟩:=List.mem_flatMap.1 hq
  obtain⟨b,hb,rfl⟩:=List.mem_map.1 hq
  exact⟨(hA r hr).2 b hb,(z4b ((hA r hr).2 b hb)).1⟩
 ·rw[hf]
  refine Eq.trans ?_ j.symm
  unfold zk9
  rw[List.flatMap_map]
  refine congrArg List.flatten (List.map_congr_left fun r hr=>?_)
  have:(r.map sgn).map z85=r:=by
   rw[List.map_map]
   exact(List.map_congr_left fun b hb=>(z4b ((hA r hr).2 b hb)).2).trans (List.map_id _)
  rw[this]
theorem z18 {l:List UInt8} {W H:Nat} {p:List Int} (h:zbl ⟨W,H,p⟩=0) (e:zk9 ((List.range H).map (zhx p W))=l):z7a l:=by
 obtain⟨e1,e2,e3,e4⟩:=za4 h
 simp only at e1 e2 e3
 have e3':p.length=H*W:=by rw[Nat.mul_comm];exact_mod_cast e3
 let L:=((List.range H).map (zhx p W)).map (·.map z85)
 have hL:∀r∈L,r.length=W∧∀b∈r,0≤sgn b∧b≠10:=fun r hr=>by
  obtain⟨c,hc,rfl⟩:=List.mem_map.1 hr
  obtain⟨k,hk,rfl⟩:=List.mem_map.1 hc
  refine⟨by rw[List.length_map];exact zog p W H k e3' (List.mem_range.1 hk),fun b hb=>?_⟩
  obtain⟨q,hq,rfl⟩:=List.mem_map.1 hb
  have hq4:=e4 q (List.mem_of_mem_drop (List.mem_of_mem_take hq))
  obtain⟨s1,s2⟩:=yfq hq4
  exact⟨by rw[s1];exact hq4.1,s2⟩
 have hl:l=L.flatMap (· ++ [10]):=by
  rw[←e];unfold zk9;exact(List.flatMap_map (fun c:List Int=>c.map z85) (fun r:List UInt8=>r ++ [10]) _).symm
 obtain⟨h1,h2,h3⟩:=zzy L fun r hr b hb=>((hL r hr).2 b hb).2
 rw[←hl]at h1 h2 h3
 have hLl:L.length=H:=by simp[L]
 rw[hLl]at h1 h2 h3
 have g:=fun k (hk:k<H)=>hL _ (h3 k hk)
 have g0:(za0 l).length=W:=(g 0 (by omega)).1
 unfold z7a
 rw[h1,g0]
 exact⟨by omega,h2,by omega,fun k hk=>⟨(g k hk).1,fun b hb=>((g k hk).2 b hb).1⟩⟩
theorem z28 (e:Int):Wk (.tup [ykx,I .i64 e]) (.tup [ziq ⟨0,0,[]⟩,I .i64 e]):=Wk.tup ⟨Wk.agg ⟨Wk.refl _,Wk.refl _,Wk.nil 1,trivial⟩,Wk.refl _,trivial⟩
theorem yeu (s:ByteArray) (hs:s.size≤1048576):∃(F:Fld) (e:Int),Spec Tryz.prog 46 [S s] [] (.tup [ziq F,I .i64 e]) []∧Spec Tryz.prog 27 [S s] [] (.tup [ziq F,I .i64 e]) []∧F.p.length≤10000∧(e=0→zbl F=0)∧(e=0∨e=4):=by
 obtain⟨l,rfl⟩:∃l,s=zah l:=⟨s.data.toList,by apply ByteArray.ext;simp[zah]⟩
 have hl:l.length≤1048576:=by rw[←zaa];exact hs
 by_cases g:z7a l
 ·have hF:=zqd g
  obtain⟨w1,w2⟩:=z06 g
  rw[hF]at w1
  have hW:=zye _ _ _ w1
  rw[w2]at hW
  obtain⟨h1,h2,h3,h4⟩:=g
  have R:=z96 (zah l) hs (by rw[hF];exact hW)
  rw[hF]at R
  refine⟨_,0,R,z1b l hl (l.count 10) _ rfl h1 h2 rfl h3 h4,?_,fun _=>w1,.inl rfl⟩
  have pl:=zfd (l.count 10) l (W:=(za0 l).length) fun k hk=>(h4 k hk).1
  have pk:l.count 10*(za0 l).length≤40*40:=Nat.mul_le_mul (by omega) (by omega)
  simp only;omega
 ·refine⟨⟨0,0,[]⟩,4,Spec.wk0 ?_ (z28 4),Spec.wk0 ?_ (z28 4),by simp,by decide,.inr rfl⟩
  ·have hpl:(zgy (zah l)).p.length≤9223372036854775807:=by
    have:=zoc l
    unfold zgy;simp only[zbo];omega
   by_cases hE:zbl (zgy (zah l))=0
   ·have hok:=za4 hE
    obtain⟨W,hW⟩:∃W:Nat,(zgy (zah l)).w=W:=⟨(zgy (zah l)).w.toNat,by omega⟩
    obtain⟨H,hH⟩:∃H:Nat,(zgy (zah l)).h=H:=⟨(zgy (zah l)).h.toNat,by omega⟩
    have eF:zgy (zah l)=⟨W,H,(zgy (zah l)).p⟩:=by rw[←hW,←hH]
    rw[eF]at hE
    refine z41 (zah l) hs _ 0 (by rw[eF];exact zye W H _ hE) (.inr fun e=>g (z18 hE ?_))
    have:=congrArg (fun s:ByteArray=>s.data.toList) e
    simpa only[zbo]using this
   ·exact z41 (zah l) hs _ _ (z27 _ hpl hE) (.inl hE)
  ·by_cases he:(1≤l.count 10∧l.count 10≤40)∧za3 (l.count 10) l = []∧1≤(za0 l).length∧(za0 l).length≤40
   ·exact z3s l hl (l.count 10) _ rfl he.1 he.2.1 rfl he.2.2 fun hb=>g ⟨he.1,he.2.1,he.2.2,hb⟩
   ·exact zwp l hl _ rfl he
theorem zuc (a b:UInt8):∀(k:Nat) (s:List UInt8),(Lib.replaceK [a] [b] k s).length≤s.length+k
 | 0,s=>by simp[Lib.replaceK]
 | k+1,s=>by
  rw[Lib.replaceK]
  split
  ·omega
  ·have:=zuc a b k (s.drop ((Lib.index s [a]).toNat+([a]:List UInt8).length))
   simp only[List.length_append,List.length_take,List.length_drop,List.length_cons,List.length_nil]at this ⊢
   omega
def z4x (s:List UInt8):List UInt8:=Lib.replaceAll s [47] [10]
theorem zn8 (s:List UInt8):(z4x s).length≤2*s.length:=by
 have h:=zuc 47 10 (Lib.replaceNum s [47] (-1)) s
 have h2:Lib.replaceNum s [47] (-1)≤s.length:=by
  unfold Lib.replaceNum
  rw[if_pos (.inl (by decide)),Lib.count_one]
  exact List.count_le_length
 have:z4x s=Lib.replaceK [47] [10] (Lib.replaceNum s [47] (-1)) s:=by
  unfold z4x Lib.replaceAll Lib.replace
  rw[if_neg (by decide)]
 rw[this];omega
theorem ycv (s:ByteArray) (hs:s.size≤1048576):Spec Tryz.prog 28 [S s,S ⟨#[47]⟩,S ⟨#[10]⟩] [] (S (zah (z4x s.data.toList))) [] :=
 zdp (zdi rfl rfl rfl) fun w F β vs g _ hv=>by
  simp only[RelL,RelA,RelP]at hv
  obtain⟨_,_,rfl,⟨rfl,_⟩,_,_,rfl,⟨rfl,_⟩,_,_,rfl,⟨rfl,_⟩,rfl⟩:=hv
  obtain⟨m,hm⟩:=z7e g
  have hc:Lib.countB s ⟨#[47]⟩≤1048576:=by
   have:=Lib.countB_mul_le ⟨#[47]⟩ (by decide) s.size s (Nat.le_refl _)
   have e:(⟨#[47]⟩:ByteArray).size=1:=rfl
   rw[e]at this;omega
  have e:(⟨#[10]⟩:ByteArray).size=1:=rfl
  refine(Tryz.strings_ReplaceAll s ⟨#[47]⟩ ⟨#[10]⟩ m w (by omega) hm (by decide) (by rw[e];omega)).mono ?_
  rintro e w' ⟨rfl,hw⟩
  exact⟨_,rfl,hw,fun _ _ _=>relS.2 rfl⟩
def za2 (b:UInt8):List UInt8→List (List UInt8)
 | [] => [[]]
 | x::r=>if x=b then []::za2 b r else (x::(za2 b r).headD [])::(za2 b r).tail
theorem zka (b:UInt8):∀l,za2 b l ≠ []
 | []=>by simp[za2]
 | x::r=>by unfold za2;split<;>simp
theorem zdo (b:UInt8):∀l,(za2 b l).length=l.count b+1
 | []=>by simp[za2]
 | x::r=>by
  have ih:=zdo b r
  unfold za2
  split
  ·rename_i h;subst h;simp[ih]
  ·rename_i h;simp[ih,h]
theorem zjl (b:UInt8):∀l:List UInt8,b∉l→za2 b l = [l]
 | [],_=>rfl
 | x::r,h=>by
  simp only[List.mem_cons,not_or]at h
  unfold za2
  rw[if_neg (fun e=>h.1 e.symm),zjl b r h.2];rfl
theorem zp6 (b:UInt8):∀(l r:List UInt8),b∉l→za2 b (l++b::r)=l::za2 b r
 | [],r,_=>by simp[za2]
 | x::l,r,h=>by
  simp only[List.mem_cons,not_or]at h
  rw[List.cons_append]
  conv=>lhs;unfold za2
  rw[if_neg (fun e=>h.1 e.symm),zp6 b l r h.2];rfl
theorem zrj (s:ByteArray):zah s.data.toList=s:=by apply ByteArray.ext;simp[zah]
theorem yc9 (b:UInt8):∀l:List UInt8,b∈l→∃u v,l=u++b::v∧b∉u∧Lib.indexByte l b=(u.length:Nat)
 | [],h=>by simp at h
 | x::r,h=>by
  by_cases e:x=b
  ·subst e
   exact⟨[],r,rfl,by simp,by simp[Lib.indexByte]⟩
  ·have hr:b∈r:=by
    rcases List.mem_cons.1 h with h|h
    ·exact absurd h.symm e
    ·exact h
   obtain⟨u,v,h1,h2,h3⟩:=yc9 b r hr
   refine⟨x::u,v,by rw[h1];rfl,by simp[h2,Ne.symm e],?_⟩
   have g:¬(((u.length:Nat):Int) = -1):=by omega
   simp only[Lib.indexByte,h3,List.length_cons,beq_iff_eq,if_neg e,if_neg g]
   omega
theorem zyt (b:UInt8):∀(k:Nat) (l:List UInt8),l.count b=k→Lib.splitB ⟨#[b]⟩ 0 k (zah l)=(za2 b l).map zah
 | 0,l,h=>by
  rw[Lib.splitB_zero,zjl b l (by rw[←List.count_eq_zero];exact h)];rfl
 | k+1,l,h=>by
  obtain⟨u,v,rfl,h2,h3⟩:=yc9 b l (List.count_pos_iff.1 (by omega))
  have hi:Lib.indexB (zah (u++b::v)) ⟨#[b]⟩=(u.length:Nat):=by
   show Lib.index (zah (u++b::v)).data.toList [b]=_
   rw[zbo,Lib.index_one,h3]
  rw[Lib.splitB_hit _ _ _ _ _ hi,zp6 b u v h2,List.map_cons]
  have e1:(zah (u++b::v)).extract 0 (u.length+0)=zah u:=by
   rw[zgd,List.drop_zero,Nat.add_zero,List.take_left' rfl]
  have e2:(zah (u++b::v)).extract (u.length+(⟨#[b]⟩:ByteArray).size) (zah (u++b::v)).size=zah v:=by
   rw[zgd,zaa,List.take_length]
   congr 1
   rw[show (⟨#[b]⟩:ByteArray).size=1 from rfl,List.drop_append]
   simp
  rw[e1,e2,zyt b k v (by rw[List.count_append,List.count_cons_self,List.count_eq_zero.2 h2]at h;omega)]
theorem zya (w:World) (o:Obj):Below w.heap.size w (w.alloc o) :=
 ⟨rfl,rfl,rfl,by show w.heap.size≤(w.heap.push o).size;rw[Array.size_push];omega,fun b hb=>by
  show (w.heap.push o)[b]? = w.heap[b]?
  rw[Array.getElem?_push,if_neg (by omega)]⟩
theorem z8o (w:World) (F:Nat→Prop) (xs:List ByteArray) (hn:xs.length≤maxLen) (hF:F w.heap.size) (n:Nat) (hx:n=xs.length) :
 RelP (w.alloc (.cells (xs.map Value.string).toArray 9)) F (.sl 1 (xs.map zge)) (.slice (some ⟨w.heap.size,0,none⟩) n n):=by
 subst hx
 simp only[RelP]
 refine⟨_,_,by rw[List.length_map],by rw[List.length_map];exact Nat.le_refl _,hn,.inr ⟨_,0,rfl,hF,RelE.of fun i cs hi=>?_⟩⟩
 rw[List.getElem?_map]at hi
 obtain⟨q,hq,rfl⟩:=Option.map_eq_some_iff.1 hi
 refine⟨rfl,RelC.of fun j x hx=>?_⟩
 cases j with
 | zero =>
  have hx:some (PV.v (.string q))=some x:=hx
  cases hx
  refine⟨.string q,?_,by simp only[RelP];exact⟨trivial,rfl⟩⟩
  have e:(w.alloc (.cells (xs.map Value.string).toArray 9)).heap[w.heap.size]? = some (.cells (xs.map Value.string).toArray 9):=World.alloc_heap_new _ _
  unfold World.cell?
  rw[e]
  simp only[Option.isSome_none,Bool.false_eq_true,if_false,Nat.mul_one,Nat.zero_add,Nat.add_zero,List.getElem?_toArray,List.getElem?_map,hq,Option.map_some]
 | succ j=>simp[zge]at hx
theorem zyu (b:UInt8) (s:ByteArray) (hs:s.size≤1048576):Spec Tryz.prog 6 [S s,S ⟨#[b]⟩] [] (.c (.sl 1 (((za2 b s.data.toList).map zah).map zge))) [] :=
 ⟨zdi rfl rfl rfl,Nat.le_refl _,fun w F β vs M hv=>by
  simp only[RelL,RelA,RelP]at hv
  obtain⟨_,_,rfl,⟨rfl,_⟩,_,_,rfl,⟨rfl,_⟩,rfl⟩:=hv
  obtain⟨m,hm⟩:=z7e M.gl
  have hc:Lib.countB s ⟨#[b]⟩=s.data.toList.count b:=Lib.count_one b _
  have hcl:s.data.toList.count b≤s.size:=List.count_le_length
  refine(Tryz.strings_Split s ⟨#[b]⟩ m w (by omega) hm (by exact Nat.le_refl 1)).mono ?_
  rintro e w' ⟨rfl,rfl⟩
  have es:Lib.splitB ⟨#[b]⟩ 0 (Lib.countB s ⟨#[b]⟩) s=(za2 b s.data.toList).map zah:=by
   have:=zyt b _ s.data.toList rfl
   rw[zrj]at this
   rw[hc,this]
  rw[es]
  have B:=zya w (.cells (((za2 b s.data.toList).map zah).map Value.string).toArray 9)
  obtain⟨h1,h2⟩:=M.step (w':=w.alloc (.cells (((za2 b s.data.toList).map zah).map Value.string).toArray 9)) (h':=nth []) (β' := β) (F':=fun b=>F b∨b=w.heap.size) (U':=(· < 0)) (fun _=>False)
   (fun _ _=>rfl) (fun _ _=>rfl) rfl rfl rfl B.size (fun b hb _=>B.block b hb) (fun _ h=>h) (fun _ h => .inl h)
   (fun b hb=>by
    rcases hb with hb|rfl
    ·exact⟨Nat.lt_of_lt_of_le (M.fin b hb) B.size,.inl hb⟩
    ·exact⟨by show _<(w.heap.push _).size;rw[Array.size_push];omega,.inr (.inl (Nat.le_refl _))⟩)
   (fun _ _ h=>h.elim) (fun _ _ h=>h.elim) (fun _ _ _ _ _ h=>h.elim) (fun _ _ h=>h.elim)
  refine⟨_,_,β,rfl,h1,?_,fun _ h => .inl h,fun b hb=>?_,fun _ _ _ h=>⟨_,h⟩⟩
  ·simp only[RelA]
   exact z8o w _ ((za2 b s.data.toList).map zah) (by rw[List.length_map,zdo];unfold maxLen;omega) (.inr rfl) _ (by rw[List.length_map,zdo,hc])
  ·rcases hb with hb|rfl
   ·exact .inl hb
   ·exact .inr (.inl (Nat.le_refl _))⟩
theorem z4q {i W Y:Nat} (h1:Y*W≤i) (h2:i<Y*W+W):i % W=i-Y*W:=by
 have e:i=W*Y+(i-Y*W):=by rw[Nat.mul_comm W];omega
 have e2:(W*Y+(i-Y*W)) % W=i-Y*W:=by rw[Nat.mul_add_mod,Nat.mod_eq_of_lt (by omega)]
 rw[←e]at e2;exact e2
theorem yid (f:Fld) (c:Cel) (r:Int) (hl:f.p.length≤9223372036854775807):Spec Tryz.prog 133 [ziq f,zeu c,I .i64 r] [] (.tup [.c (.sl 2 ((zpn f c r).1.map zbk)),I .i64 (zpn f c r).2]) []:=by
 refine spB Tryz.func133 81 [.tmp 6,.tmp 7] Tryz.results133 ?_
 try refine xst ?_
 refine caP (z2n f c hl) ?_
 try refine xst ?_
 refine cI (fun h1=>?_) fun h1=>?_
 ·have e2:=ynv f c
  have e3:zpn f c r=([],(atV f c).2):=by
   unfold zpn
   by_cases hf:zbl f=0
   ·rw[if_neg (by simp[hf])]
    rw[if_neg (by simp[hf])]at e2
    cases hc:inF f c with
    | true=>rw[hc]at e2;exact absurd e2 h1
    | false=>rw[hc]at e2;rw[e2];rfl
   ·rw[if_pos hf]at e2 ⊢;rw[e2]
  try refine xst ?_
  exact zfm rfl trivial (by rw[e3];exact Wk.tup ⟨Wk.nil _,Wk.refl _,trivial⟩)
 ·obtain⟨hf,hc⟩:=yoj h1
  obtain⟨g1,g2,g3,g4⟩:=za4 hf
  have hc2:=inF_iff.1 hc
  try refine xst ?_
  refine cI (fun h2=>?_) fun h2=>?_
  ·have e3:zpn f c r=([],1):=by
    unfold zpn
    rw[if_neg (by simp[hf]),if_neg (by simp[hc]),if_pos (within_f.2 (by omega))]
   try refine xst ?_
   exact zfm rfl trivial (by rw[e3];exact Wk.tup ⟨Wk.nil _,Wk.refl _,trivial⟩)
  ·have e3:zpn f c r=(zb8 f c r f.p.length,0):=by
    unfold zpn
    rw[if_neg (by simp[hf]),if_neg (by simp[hc]),if_neg (by rw[within_iff.2 (by omega)];simp)]
   have hm2:f.w*f.h≤40*40:=Int.mul_le_mul g1.2 g2.2 (by omega) (by omega)
   obtain⟨W,hW⟩:∃W:Nat,f.w=W:=⟨f.w.toNat,by omega⟩
   obtain⟨Y0,hY0⟩:∃Y:Nat,(Y:Int)=max 0 (c.y-r):=⟨(max 0 (c.y-r)).toNat,by omega⟩
   obtain⟨X0,hX0⟩:∃X:Nat,(X:Int)=max 0 (c.x-r):=⟨(max 0 (c.x-r)).toNat,by omega⟩
   have E1:(if c.y-r>0 then c.y-r else 0)=(Y0:Int):=by split<;>omega
   have E2:(if c.x-r>0 then c.x-r else 0)=(X0:Int):=by split<;>omega
   have E3:(if c.y+r<f.h-1 then c.y+r else f.h-1)=min (f.h-1) (c.y+r):=by split<;>omega
   have E4:(if c.x+r<f.w-1 then c.x+r else f.w-1)=min (f.w-1) (c.x+r):=by split<;>omega
   have DV:∀i:Nat,(zdd f.w i).x=((i % W:Nat):Int)∧(zdd f.w i).y=((i/W:Nat):Int):=by intro i;unfold zdd;rw[hW];simp
   have Z0:zb8 f c r (Y0*W) = []:=by
    rw[zmq (Nat.zero_le _) fun i _ hi=>zmp (.inr (.inr (.inl ?_)))]
    ·rfl
    ·rw[(DV i).2]
     have:i/W<Y0:=(Nat.div_lt_iff_lt_mul (by omega)).2 hi
     generalize i/W=q at this ⊢
     omega
   try refine xz4 E1 E2 E3 E4 ?_
   refine zay (fun Y:Nat=>⟨[(11,I .i64 Y),(10,.own 2),(4,.ptr 1 0 0),(3,.ptr 0 0 0),(2,I .i64 r)],[(0,.blk 28 [I .i64 f.w,I .i64 f.h,.c (.sl 1 (f.p.map zao))]),(1,.blk 72 [I .i64 c.x,I .i64 c.y]),(2,.row 72 2 ((zb8 f c r (Y*W)).map zbk))],3⟩) (fun Y:Nat=>Y0≤Y∧(Y:Int)≤min (f.h-1) (c.y+r)+1) (fun Y:Nat=>(min (f.h-1) (c.y+r)+1-Y).toNat) (Y0) (⟨Nat.le_refl _,by omega⟩) ((To.nil 10 72 2 rfl).trans (To.mk [0,1,2] rfl rfl (by decide) ?_ ?_)) ?_
   ·exact xS1 Z0
   ·exact xS
   rintro Y ⟨hY1,hY2⟩
   try refine xz4 E1 E2 E3 E4 ?_
   refine cI (fun h3=>?_) fun h3=>?_
   ·have hYh:(Y:Int)<f.h:=by omega
    have R0:zb8 f c r (Y*W+X0)=zb8 f c r (Y*W):=zmq (by omega) fun i i1 i2=>zmp (.inl (by
     rw[(DV i).1]
     rw[z4q i1 (by omega)]
     omega))
    have YW:(Y*W:Nat)+W≤1600:=by
     have:(Y+1)*W≤40*40:=Nat.mul_le_mul (by omega) (by omega)
     rw[Nat.add_mul]at this;omega
    try refine xz4 E1 E2 E3 E4 ?_
    refine zay (fun X:Nat=>⟨[(12,I .i64 X),(11,I .i64 Y),(10,.own 2),(4,.ptr 1 0 0),(3,.ptr 0 0 0),(2,I .i64 r)],[(0,.blk 28 [I .i64 f.w,I .i64 f.h,.c (.sl 1 (f.p.map zao))]),(1,.blk 72 [I .i64 c.x,I .i64 c.y]),(2,.row 72 2 ((zb8 f c r (Y*W+X)).map zbk))],3⟩) (fun X:Nat=>X0≤X∧(X:Int)≤min (f.w-1) (c.x+r)+1) (fun X:Nat=>(min (f.w-1) (c.x+r)+1-X).toNat) (X0) (⟨Nat.le_refl _,by omega⟩) (To.mk [0,1,2] rfl rfl (by decide) ?_ ?_) ?_
    ·exact xS1 R0
    ·exact xS
    rintro X ⟨hX1,hX2⟩
    try refine xz4 E1 E2 E3 E4 ?_
    refine cI (fun h4=>?_) fun h4=>?_
    ·have hXW:X<W:=by omega
     have CE:zdd f.w (Y*W+X)=⟨X,Y⟩:=yb6 hW hXW
     have hin:inF f ⟨X,Y⟩=true:=inF_iff.2 ⟨⟨by simp only;omega,by simp only;omega⟩,⟨by simp only;omega,by simp only;omega⟩⟩
     have sl:=zt4 f c r (Y*W+X)
     have NR:decide (max (((⟨X,Y⟩:Cel).x-c.x).natAbs:Int) (((⟨X,Y⟩:Cel).y-c.y).natAbs:Int)≤r)=true:=decide_eq_true (by simp only;omega)
     try refine xz4 E1 E2 E3 E4 ?_
     refine caP (z02 f c ⟨X,Y⟩ hf hc hin) ?_
     try refine xz4 E1 E2 E3 E4 ?_
     refine gcP (fun hcc=>z02 f ⟨X,Y⟩ c hf hin hc) ?_
     try refine xz4 E1 E2 E3 E4 ?_
     refine cI (fun h5=>?_) fun h5=>?_
     ·have sb:zgw f c r (zdd f.w (Y*W+X))=true:=by unfold zgw;rw[CE,NR];unfold zeq;simpa using h5
      have se:=yee sb
      rw[CE]at se
      try refine xz4 E1 E2 E3 E4 ?_
      refine⟨X+1,⟨by omega,by omega⟩,by omega,To.mk [0,1,5] rfl rfl (by decide) ?_ ?_⟩
      ·(iterate 2((try simp(etaStruct := .none)only[push_cast,zad,seval,←Nat.add_assoc,se,List.map_append,zbk]);(try(refine xsu ?_;try exact xtI))))
      ·(try(refine xz4 E1 E2 E3 E4 ?_;try exact xtI))
     ·have sb:zgw f c r (zdd f.w (Y*W+X))=false:=by unfold zgw;rw[CE,NR];unfold zeq;simpa using h5
      have se:=z4e sb
      try refine xz4 E1 E2 E3 E4 ?_
      refine⟨X+1,⟨by omega,by omega⟩,by omega,To.mk [0,1,2] rfl rfl (by decide) ?_ ?_⟩
      ·(iterate 2((try simp(etaStruct := .none)only[push_cast,zad,seval,←Nat.add_assoc,se,List.map_append,zbk]);(try(refine xsu ?_;try exact xtI))))
      ·(try(refine xz4 E1 E2 E3 E4 ?_;try exact xtI))
    ·have hX3:(X:Int)=min (f.w-1) (c.x+r)+1:=by omega
     have R1:zb8 f c r ((Y+1)*W)=zb8 f c r (Y*W+X):=zmq (by rw[Nat.add_mul];omega) fun i i1 i2=>by
      rw[Nat.add_mul]at i2
      refine zmp (.inr (.inl ?_))
      rw[(DV i).1]
      rw[z4q (Y:=Y) (by omega) (by omega)]
      omega
     try refine xz4 E1 E2 E3 E4 ?_
     refine⟨Y+1,⟨by omega,by omega⟩,by omega,To.mk [0,1,2] rfl rfl (by decide) ?_ ?_⟩
     ·(try(refine xz1 R1 ?_;try exact xtI))
     ·(try(refine xz4 E1 E2 E3 E4 ?_;try exact xtI))
   ·have R2:zb8 f c r f.p.length=zb8 f c r (Y*W):=by
     have q1:f.p.length=W*f.h.toNat:=by
      have:((W*f.h.toNat:Nat):Int)=f.w*f.h:=by rw[Int.natCast_mul,hW];congr 1;omega
      omega
     have q2:Y*W≤W*f.h.toNat:=by rw[Nat.mul_comm];exact Nat.mul_le_mul_left _ (by omega)
     rw[q1]
     refine zmq q2 fun i i1 i2=>zmp (.inr (.inr (.inr ?_)))
     rw[(DV i).2]
     have a1:Y≤i/W:=(Nat.le_div_iff_mul_le (by omega)).2 i1
     have a2:i/W<f.h.toNat:=(Nat.div_lt_iff_lt_mul (by omega)).2 (by rw[Nat.mul_comm];exact i2)
     generalize i/W=q at a1 a2 ⊢
     omega
    try refine xz4 E1 E2 E3 E4 ?_
    exact znb e3 R2 rfl
def zef (w:Wld) (p:Int):Int:=if zap w≠0 then zap w else if zal p 0 ((w.bases.length:Int)-1)=false then 7 else 0
theorem z56 {w:Wld} {p:Int} (h:zef w p=0):zap w=0∧0≤p∧p<w.bases.length:=by
 unfold zef at h
 by_cases h1:zap w=0
 ·rw[if_neg (by simp[h1])]at h
  by_cases h2:zal p 0 ((w.bases.length:Int)-1)=false
  ·rw[if_pos h2]at h;exact absurd h (by decide)
  ·rw[Bool.not_eq_false,within_iff]at h2;exact⟨h1,by omega,by omega⟩
 ·rw[if_pos h1]at h;exact absurd h h1
def ycn (w:Wld) (p:Int) (k:Nat) (c:Cel):Bool:=zgw w.f (w.bases.getD p.toNat default) 3 c||(w.troops.take k).any fun t=>decide (t.owner=p)&&zgw w.f t.c 5 c
def z9a (w:Wld) (p:Int) (c:Cel):Bool:=ycn w p w.troops.length c
def zy2 (w:Wld) (p:Int) (k:Nat):List Bool:=(List.range w.f.p.length).map fun i=>ycn w p k (zdd w.f.w i)
def yd0 (w:Wld) (p:Int):List Bool:=zy2 w p w.troops.length
theorem z3d (w:Wld) (p:Int):yd0 w p=(zy2 w p w.troops.length:List Bool):=rfl
theorem zfs (w:Wld) (p:Int) (k:Nat):(zy2 w p k).length=w.f.p.length:=by simp[zy2]
theorem zmr (w:Wld) (p:Int) (k i:Nat) (hi:i<w.f.p.length):(zy2 w p k).getD i default=ycn w p k (zdd w.f.w i):=by
 rw[zaq _ _ (by rw[zfs];exact hi)];simp[zy2]
def zem (f:Fld) (o:List Bool) (l:List Cel):List Bool:=l.foldl (fun o n=>o.set (zaw f n) true) o
theorem ykv (f:Fld) (o:List Bool) (l:List Cel):zem f o l=(l.foldl (fun o n=>o.set (zaw f n) true) o:List Bool):=rfl
theorem zwq (f:Fld) (o:List Bool) (l:List Cel) (c:Cel):zem f o (l ++ [c])=(zem f o l).set (zaw f c) true:=by unfold zem;rw[List.foldl_append];rfl
theorem zgg (f:Fld) (l:List Cel):∀o:List Bool,(zem f o l).length=o.length:=by
 induction l with
 | nil=>intro o;rfl
 | cons c r ih=>intro o;have:=ih (o.set (zaw f c) true);simp only[zem,List.foldl_cons]at *;rw[this];simp
theorem z1e (f:Fld) (l:List Cel):∀(o:List Bool) (i:Nat),i<o.length→(∀n∈l,zaw f n<o.length)→(zem f o l).getD i default=(o.getD i default||l.any fun n=>decide (zaw f n=i)):=by
 induction l with
 | nil=>intro o i hi _;simp[zem]
 | cons c r ih =>
  intro o i hi hl
  have h1:=ih (o.set (zaw f c) true) i (by simpa using hi) (fun n hn=>by rw[List.length_set];exact hl n (by simp[hn]))
  have e:zem f o (c::r)=zem f (o.set (zaw f c) true) r:=rfl
  rw[e,h1,zkc _ _ _ _ (hl c (by simp)),List.any_cons]
  by_cases hc:zaw f c=i
  ·simp[hc]
  ·simp[hc]
theorem zh7 {f:Fld} (hf:zbl f=0) {i:Nat} (hi:i<f.p.length):inF f (zdd f.w i)=true∧zaw f (zdd f.w i)=i:=by
 obtain⟨h1,h2,h3,_⟩:=za4 hf
 refine⟨yb5 hf (by omega),?_⟩
 unfold zaw zdd
 simp only
 rw[Int.mul_comm,Int.mul_ediv_add_emod];omega
theorem zn1 {f:Fld} {c n:Cel} {r:Int} (h:n∈zb8 f c r f.p.length):∃i,i<f.p.length∧n=zdd f.w i∧zgw f c r n=true:=by
 unfold zb8 at h
 obtain⟨h1,h2⟩:=List.mem_filter.1 h
 obtain⟨i,hi,rfl⟩:=List.mem_map.1 h1
 exact⟨i,by simpa using hi,rfl,h2⟩
theorem znz {f:Fld} (hf:zbl f=0) (c:Cel) (r:Int) (o:List Bool) (ho:o.length=f.p.length) (i:Nat) (hi:i<f.p.length):(zem f o (zb8 f c r f.p.length)).getD i default=(o.getD i default||zgw f c r (zdd f.w i)):=by
 rw[z1e f _ o i (by omega) (fun n hn=>by
  obtain⟨j,hj,rfl,_⟩:=zn1 hn
  rw[(zh7 hf hj).2];omega)]
 congr 1
 rw[Bool.eq_iff_iff,List.any_eq_true]
 constructor
 ·rintro⟨n,hn,he⟩
  obtain⟨j,hj,rfl,hb⟩:=zn1 hn
  rw[decide_eq_true_eq,(zh7 hf hj).2]at he
  subst he;exact hb
 ·intro hb
  refine⟨zdd f.w i,?_,by rw[decide_eq_true_eq];exact(zh7 hf hi).2⟩
  unfold zb8
  exact List.mem_filter.2 ⟨List.mem_map.2 ⟨i,by simpa using hi,rfl⟩,hb⟩
theorem z4r {w:Wld} {p:Int} (hf:zbl w.f=0):zem w.f (List.replicate w.f.p.length false) (zb8 w.f (w.bases.getD p.toNat default) 3 w.f.p.length)=zy2 w p 0:=by
 refine zkx (by rw[zgg,zfs];simp) fun i hi=>?_
 rw[zgg,List.length_replicate]at hi
 rw[znz hf _ _ _ (by simp) i hi,zmr w p 0 i hi,zaq _ _ (by simpa using hi)]
 simp[ycn]
theorem z9y {w:Wld} {p:Int} (hf:zbl w.f=0) {k:Nat} (hk:k<w.troops.length) (ho:(w.troops.getD k default).owner=p):zem w.f (zy2 w p k) (zb8 w.f (w.troops.getD k default).c 5 w.f.p.length)=zy2 w p (k+1):=by
 refine zkx (by rw[zgg,zfs,zfs]) fun i hi=>?_
 rw[zgg,zfs]at hi
 rw[znz hf _ _ _ (zfs w p k) i hi,zmr w p k i hi,zmr w p (k+1) i hi]
 unfold ycn
 rw[zak _ _ hk,List.any_append,Bool.or_assoc]
 simp only[List.any_cons,List.any_nil,Bool.or_false,ho,decide_true,Bool.true_and]
theorem z9z {w:Wld} {p:Int} {k:Nat} (hk:k<w.troops.length) (ho:¬(w.troops.getD k default).owner=p):zy2 w p (k+1)=zy2 w p k:=by
 unfold zy2
 refine List.map_congr_left fun i _=>?_
 unfold ycn
 rw[zak _ _ hk,List.any_append]
 simp only[List.any_cons,List.any_nil,decide_eq_false ho,Bool.false_and,Bool.or_false]
theorem z54 (w:Wld) (c:Cel) (r:Int) (o:List Bool) (hf:zbl w.f=0) (hc:inF w.f c=true) (hr:0≤r∧r≤12) (ho:o.length=w.f.p.length):Spec Tryz.prog 132 [zeu c,I .i64 r,.ptr 0 0 0,.ptr 1 0 0] [.blk 32 (zhe w),.blk 93 [.own 2],.row 4 1 (o.map zf9)] .undef [.blk 32 (zhe w),.blk 93 [.own 2],.row 4 1 ((zem w.f o (zb8 w.f c r w.f.p.length)).map zf9)]:=by
 have hsv:zpn w.f c r=(zb8 w.f c r w.f.p.length,0):=by
  unfold zpn
  rw[if_neg (by simp[hf]),if_neg (by simp[hc]),if_neg (by rw[within_iff.2 (by omega)];simp)]
 have hpx:=zbb hf hc
 have hsl:=zt4 w.f c r w.f.p.length
 refine spB Tryz.func132 36 [] Tryz.results132 ?_
 try refine xst ?_
 refine caP (yid w.f c r (by omega)) ?_
 rw[hsv]
 try refine xst ?_
 refine zay (fun k:Nat=>⟨[(20,I .i64 k),(19,I .i64 (zb8 w.f c r w.f.p.length).length),(18,.c (.sl 2 ((zb8 w.f c r w.f.p.length).map zbk))),(3,.ptr 1 0 0),(2,.ptr 0 0 0)],[(0,.blk 32 (zhe w)),(1,.blk 93 [.own 2]),(2,.row 4 1 ((zem w.f o ((zb8 w.f c r w.f.p.length).take k)).map zf9))],3⟩) (fun k:Nat=>k≤(zb8 w.f c r w.f.p.length).length) (fun k:Nat=>(zb8 w.f c r w.f.p.length).length-k) (0) (Nat.zero_le _) (To.mk [0,1,2] rfl rfl (by decide) ?_ ?_) ?_
 ·simp(etaStruct := .none)only[push_cast,zad,seval,List.take_zero,zem,List.foldl_nil]
 ·exact xS
 rintro k hk
 have hal:=zgg w.f ((zb8 w.f c r w.f.p.length).take k) o
 try refine xst ?_
 refine cI (fun h1=>?_) fun h1=>?_
 ·have hlt:k<(zb8 w.f c r w.f.p.length).length:=by omega
  obtain⟨i,hi,hci,_⟩:=zn1 (zax _ k hlt)
  obtain⟨q1,q2⟩:=zh7 hf hi
  rw[←hci]at q1 q2
  have hqx:=zbb hf q1
  have hqi:=inF_iff.1 q1
  have e1:IntKind.i64.wrap (IntKind.i64.wrap (((zb8 w.f c r w.f.p.length).getD k default).y*w.f.w)+((zb8 w.f c r w.f.p.length).getD k default).x)=((zaw w.f ((zb8 w.f c r w.f.p.length).getD k default):Nat):Int):=by rw[zaj (_*_) (by omega) (by omega),zaj _ (by omega) (by omega)];unfold zaw;omega
  have hsn:=zwq w.f o ((zb8 w.f c r w.f.p.length).take k) ((zb8 w.f c r w.f.p.length).getD k default)
  rw[←zak _ _ hlt]at hsn
  have hsx:zaw w.f ((zb8 w.f c r w.f.p.length).getD k default)<(zem w.f o ((zb8 w.f c r w.f.p.length).take k)).length:=by omega
  try refine xz3 (gd hlt) zag e1 ?_
  refine⟨k+1,by omega,by omega,To.mk [0,1,2] rfl rfl (by decide) ?_ ?_⟩
  ·(try(refine xz3 hsn zbg Qr ?_;try exact xtI))
  ·(try(refine xz3 (gd hlt) zag e1 ?_;try exact xtI))
 ·obtain rfl:k=(zb8 w.f c r w.f.p.length).length:=by omega
  try refine xst ?_
  refine zb9 [0,1,2] rfl rfl (by decide) ⟨?_,?_,?_,trivial⟩ trivial (Wk.undef _)<;>simp(etaStruct := .none)only[push_cast,zad,seval,List.take_length]
theorem yfi (w:Wld) (p:Int) (hl:zd4 w):Spec Tryz.prog 89 [zcf w,I .i64 p] [] (.tup [.c (.sl 1 ((if zef w p=0 then yd0 w p else []).map zf9)),I .i64 (zef w p)]) []:=by
 refine spB Tryz.func89 55 [.tmp 4,.tmp 5] Tryz.results89 ?_
 try refine xst ?_
 refine caP (zeh w hl) ?_
 try refine xst ?_
 refine cI (fun h1=>?_) fun h1=>?_
 ·have e:zef w p=zap w:=by unfold zef;rw[if_pos h1]
  rw[e,if_neg h1]
  try refine xst ?_
  exact zcw z3d rfl
 ·have hw:=zdz h1
  have hrf:List.map zf9 (List.replicate w.f.p.length false)=List.replicate w.f.p.length [pB false]:=by rw[List.map_replicate];rfl
  try refine xst ?_
  refine cI (fun h2=>?_) fun h2=>?_
  ·have e:zef w p=7:=by
    unfold zef
    rw[if_neg (by simp[h1]),if_pos]
    rw[within_f];omega
   rw[e,if_neg (by decide)]
   try refine xst ?_
   exact zcw z3d rfl
  ·have e:zef w p=0:=by
    unfold zef
    rw[if_neg (by simp[h1]),if_neg]
    rw[Bool.not_eq_false,within_iff];omega
   rw[e,if_pos rfl]
   obtain⟨q,rfl⟩:∃q:Nat,p=q:=Int.eq_ofNat_of_zero_le (by omega)
   have hqb:q<w.bases.length:=by omega
   have hbs:=(ground_iff.1 (hw.base q hqb).1).1
   have hpx:=zbb hw.f hbs
   have hfr:=z4r (w:=w) (p:=q) hw.f
   rw[Int.toNat_natCast]at hfr
   try refine xz2 (gd hqb) zag ?_
   rw[←hrf]
   refine caM [0,2,1] (z54 w (w.bases.getD q default) 3 (List.replicate w.f.p.length false) hw.f hbs (by omega) (by simp)) ?_
   try refine xz2 (gd hqb) zag ?_
   refine zay (fun k:Nat=>⟨[(41,I .i64 k),(40,I .i64 w.troops.length),(39,.c (.sl 7 (w.troops.map zch))),(8,.clo (.func 132) [] [.ptr 0 0 0,.ptr 1 0 0]),(7,.ptr 1 0 0),(1,I .i64 q)],[(0,.blk 32 (zhe w)),(1,.blk 93 [.own 2]),(2,.row 4 1 ((zy2 w q k).map zf9))],3⟩) (fun k:Nat=>k≤w.troops.length) (fun k:Nat=>w.troops.length-k) (0) (Nat.zero_le _) (To.mk [0,2,1] rfl rfl (by decide) ?_ ?_) ?_
   ·exact xS1 hfr
   ·exact xS
   rintro k hk
   try refine xz2 (gd hqb) zag ?_
   refine cI (fun h3=>?_) fun h3=>?_
   ·have hlt:k<w.troops.length:=by omega
    have hnt:=hw.nt
    have htk:=hw.trp k hlt
    try refine xz4 (gd hqb) zag (gd hlt) zac ?_
    refine cI (fun h4=>?_) fun h4=>?_
    ·have hst:=z9y hw.f hlt h4
     try refine xz5 (gd hqb) zag (gd hlt) zac hst ?_
     refine caM [0,1,2] (z54 w (w.troops.getD k default).c 5 (zy2 w q k) hw.f (ground_iff.1 htk.at_).1 (by omega) (zfs w q k)) ?_
     try refine xz5 (gd hqb) zag (gd hlt) zac hst ?_
     refine⟨k+1,by omega,by omega,To.mk [0,1,2] rfl rfl (by decide) ?_ ?_⟩
     ·(try(refine xz5 (gd hqb) zag (gd hlt) zac hst ?_;try exact xtI))
     ·(try(refine xz5 (gd hqb) zag (gd hlt) zac hst ?_;try exact xtI))
    ·have hst:=z9z hlt h4
     try refine xz5 (gd hqb) zag (gd hlt) zac hst ?_
     refine⟨k+1,by omega,by omega,To.mk [0,1,2] rfl rfl (by decide) ?_ ?_⟩
     ·(try(refine xz5 (gd hqb) zag (gd hlt) zac hst ?_;try exact xtI))
     ·(try(refine xz5 (gd hqb) zag (gd hlt) zac hst ?_;try exact xtI))
   ·obtain rfl:k=w.troops.length:=by omega
    try refine xz2 (gd hqb) zag ?_
    exact zcw z3d rfl
def zd9 (w:Wld) (p:Int) (k:Nat):List Cel:=((List.range k).map (zdd w.f.w)).filter (z9a w p)
theorem yk2 (w:Wld) (p:Int) (k:Nat):zd9 w p k=(((List.range k).map (zdd w.f.w)).filter (z9a w p):List Cel):=rfl
theorem zpd (w:Wld) (p:Int) (k:Nat):zd9 w p (k+1)=zd9 w p k++if z9a w p (zdd w.f.w k)then [zdd w.f.w k]else []:=by
 unfold zd9
 rw[List.range_succ,List.map_append,List.filter_append]
 congr 1
 simp[List.filter_cons]
theorem zgr (w:Wld) (p:Int) (k:Nat):(zd9 w p k).length≤k:=by
 unfold zd9;exact Nat.le_trans (List.length_filter_le _ _) (by simp)
theorem z88 (w:Wld) (p:Int):(yd0 w p).length=w.f.p.length:=zfs w p _
theorem z89 (w:Wld) (p:Int) (i:Nat) (hi:i<w.f.p.length):(yd0 w p).getD i default=z9a w p (zdd w.f.w i):=zmr w p _ i hi
theorem yax (w:Wld) (p:Int) (hl:zd4 w):Spec Tryz.prog 56 [zcf w,I .i64 p] [] (.tup [.c (.sl 2 ((if zef w p=0 then zd9 w p w.f.p.length else []).map zbk)),I .i64 (zef w p)]) []:=by
 refine spB Tryz.func56 44 [.tmp 4,.tmp 5] Tryz.results56 ?_
 try refine xst ?_
 refine caP (yfi w p hl) ?_
 try refine xst ?_
 refine cI (fun h1=>?_) fun h1=>?_
 ·rw[if_neg h1]
  try refine xst ?_
  exact xrz rfl
 ·obtain⟨h0,hp⟩:=z56 h1
  have hw:=zdz h0
  have hfo:=za4 hw.f
  have hvl:=z88 w p
  have hm2:w.f.w*w.f.h≤40*40:=Int.mul_le_mul hfo.1.2 hfo.2.1.2 (by omega) (by omega)
  rw[h1,if_pos rfl,if_pos rfl]
  try refine xst ?_
  refine zay (fun k:Nat=>⟨[(22,I .i64 k),(21,I .i64 (yd0 w p).length),(20,.c (.sl 1 ((yd0 w p).map zf9))),(8,.own 1),(2,.ptr 0 0 0)],[(0,.blk 32 (zhe w)),(1,.row 72 2 ((zd9 w p k).map zbk))],2⟩) (fun k:Nat=>k≤w.f.p.length) (fun k:Nat=>w.f.p.length-k) (0) (Nat.zero_le _) ((To.nil 8 72 2 rfl).trans (To.mk [0,1] rfl rfl (by decide) ?_ ?_)) ?_
  ·simp(etaStruct := .none)only[push_cast,zad,seval,zd9,List.range_zero,List.map_nil,List.filter_nil]
  ·exact xS
  rintro k hk
  try refine xst ?_
  refine cI (fun h2=>?_) fun h2=>?_
  ·have hlt:k<(yd0 w p).length:=by omega
   have hvg:=z89 w p k (by omega)
   have hcs:=zpd w p k
   have hcl:=zgr w p k
   have hdv:IntKind.i64.wrap ((k:Int)/w.f.w)=(k:Int)/w.f.w:=by
    have h1:=Int.ediv_nonneg (a:=(k:Int)) (b:=w.f.w) (by omega) (by omega)
    have h2:=Int.ediv_le_self (a:=(k:Int)) w.f.w (by omega)
    rw[zaj _ (by omega) (by omega)]
   try refine xz4 (gd hlt) hvg zbg hdv ?_
   refine cI (fun h3=>?_) fun h3=>?_
   ·rw[if_pos h3]at hcs
    try refine xz4 (gd hlt) hvg zbg hdv ?_
    (try(refine⟨by kernel_rfl,?_⟩))
    try refine xz4 (gd hlt) hvg zbg hdv ?_
    refine⟨k+1,by omega,by omega,To.mk [0,54] rfl rfl (by decide) ?_ ?_⟩
    ·(try(refine xz4 hcs zag yg6 Qp ?_;try exact xtI))
    ·(try(refine xz4 (gd hlt) hvg zbg hdv ?_;try exact xtI))
   ·rw[if_neg (by simp[h3]),List.append_nil]at hcs
    try refine xz4 (gd hlt) hvg zbg hdv ?_
    refine⟨k+1,by omega,by omega,To.mk [0,1] rfl rfl (by decide) ?_ ?_⟩
    ·(try(refine xz1 hcs ?_;try exact xtI))
    ·(try(refine xz4 (gd hlt) hvg zbg hdv ?_;try exact xtI))
  ·obtain rfl:k=w.f.p.length:=by omega
   try refine xst ?_
   exact xrz rfl
end Go.Proofs.YtgggemkjaccbhaaGreatDoor
namespace Go.Proofs.YtgggemkjaccbhaaGreatDoor
set_option linter.all false
open Go.RowKit
set_option maxRecDepth 100000
set_option maxHeartbeats 4000000
inductive Ans where
 | ok (r:List (List PV)) (w:Wld) (l:List Ord)
 | err (e:Int)
theorem zq1 (s:ByteArray):∃x:Fld × Int,s.size≤1048576→Spec Tryz.prog 46 [S s] [] (.tup [ziq x.1,I .i64 x.2]) []∧Spec Tryz.prog 27 [S s] [] (.tup [ziq x.1,I .i64 x.2]) []∧x.1.p.length≤10000∧(x.2=0→zbl x.1=0)∧(x.2=0∨x.2=4):=by
 by_cases h:s.size≤1048576
 ·obtain⟨F,e,h1⟩:=yeu s h
  exact⟨(F,e),fun _=>h1⟩
 ·exact⟨default,fun h2=>absurd h2 h⟩
def zo7 (s:ByteArray):ByteArray:=zah (z4x s.data.toList)++⟨#[10]⟩
noncomputable def fieldOf (s:ByteArray):Fld × Int:=Classical.choose (zq1 (zo7 s))
theorem zo8 (s:ByteArray) (hs:s.size≤65536):Spec Tryz.prog 46 [S (zo7 s)] [] (.tup [ziq (fieldOf s).1,I .i64 (fieldOf s).2]) []∧Spec Tryz.prog 27 [S (zo7 s)] [] (.tup [ziq (fieldOf s).1,I .i64 (fieldOf s).2]) []∧(fieldOf s).1.p.length≤10000∧((fieldOf s).2=0→zbl (fieldOf s).1=0)∧((fieldOf s).2=0∨(fieldOf s).2=4):=by
 refine Classical.choose_spec (zq1 (zo7 s)) ?_
 unfold zo7
 rw[ypi,zbe,zaa]
 have:=zn8 s.data.toList
 have e:s.data.toList.length=s.size:=by rw[Array.length_toList];rfl
 rw[List.length_append,List.length_singleton];omega
noncomputable def fldR (f:Fld) (c:Cel):List Int:=Classical.choose (z0j f [c])
theorem zg9 (f:Fld) (c:Cel):zbu f [c] (fldR f c):=Classical.choose_spec (z0j f [c])
section
open Classical
noncomputable def numsD (n:Nat) (ws:List ByteArray) (g:List Nat→Ans):Ans:=if zcm n ws then g (ws.map za8)else .err 10
noncomputable def fieldD:List ByteArray→Ans
 | [s]=>if (fieldOf s).2=0 then .ok [] (zmh (fieldOf s).1) []else .err (fieldOf s).2
 | _ => .err 10
noncomputable def baseD (w:Wld) (l:List Ord) (n:List Nat):Ans :=
 if zap (zdj w (n.getD 0 0:Nat) (n.getD 1 0:Nat) (n.getD 2 0:Nat))=0 then .ok [zcy w.bases.length] (zdj w (n.getD 0 0:Nat) (n.getD 1 0:Nat) (n.getD 2 0:Nat)) l
 else .err (zap (zdj w (n.getD 0 0:Nat) (n.getD 1 0:Nat) (n.getD 2 0:Nat)))
noncomputable def troopD (w:Wld) (l:List Ord) (n:List Nat):Ans :=
 if zeg (n.getD 1 0:Nat)≠0 then .err (zeg (n.getD 1 0:Nat))else
 if zap (zb7 w (n.getD 0 0:Nat) (n.getD 1 0:Nat) (n.getD 2 0:Nat) (n.getD 3 0:Nat))=0 then .ok [zcy w.next] (zb7 w (n.getD 0 0:Nat) (n.getD 1 0:Nat) (n.getD 2 0:Nat) (n.getD 3 0:Nat)) l
 else .err (zap (zb7 w (n.getD 0 0:Nat) (n.getD 1 0:Nat) (n.getD 2 0:Nat) (n.getD 3 0:Nat)))
noncomputable def waitD (w:Wld) (l:List Ord) (o:Ord):Ans:=if zii o≠0 then .err (zii o)else if l.length=100 then .err 2 else .ok [] w (l ++ [o])
abbrev z87:ByteArray:=⟨#[104,105,116]⟩
abbrev wGo:ByteArray:=⟨#[103,111]⟩
abbrev zto:ByteArray:=⟨#[109,105,110,101]⟩
abbrev zwi:ByteArray:=⟨#[100,114,111,112]⟩
abbrev ztp:ByteArray:=⟨#[109,97,107,101]⟩
def yad (wd:ByteArray):Nat:=if wd=z87 then 3 else if wd=wGo then 4 else if wd=zto then 4 else 2
def zqj (wd:ByteArray) (n:List Nat):Ord :=
 if wd=z87 then ⟨(n.getD 0 0:Nat),1,(n.getD 1 0:Nat),⟨0,0⟩,(n.getD 2 0:Nat)⟩
 else if wd=wGo then ⟨(n.getD 0 0:Nat),2,(n.getD 1 0:Nat),⟨(n.getD 2 0:Nat),(n.getD 3 0:Nat)⟩,0⟩
 else if wd=zto then ⟨(n.getD 0 0:Nat),3,(n.getD 1 0:Nat),⟨(n.getD 2 0:Nat),(n.getD 3 0:Nat)⟩,0⟩
 else if wd=zwi then ⟨(n.getD 0 0:Nat),4,(n.getD 1 0:Nat),⟨0,0⟩,0⟩
 else ⟨(n.getD 0 0:Nat),5,0,⟨0,0⟩,(n.getD 1 0:Nat)⟩
def zkg (wd:ByteArray):Bool:=decide (wd=z87)||decide (wd=wGo)||decide (wd=zto)||decide (wd=zwi)||decide (wd=ztp)
noncomputable def orderD (w:Wld) (l:List Ord) (wd:ByteArray) (ws:List ByteArray):Ans:=numsD (yad wd) ws fun n=>waitD w l (zqj wd n)
noncomputable def turnDD (w:Wld) (l:List Ord):Ans :=
 if zck l w=0 then .ok (zk7 (zk8 w l) (znm (fldR w.f) w l)++(zme (fldR w.f) w l).map ynP) (zj6 (fldR w.f) w l) []else .err (zck l w)
noncomputable def stockD (w:Wld) (l:List Ord) (n:List Nat):Ans:=if n.getD 0 0<w.stocks.length then .ok [zcy (w.stocks.getD (n.getD 0 0) default)] w l else .err 7
noncomputable def wayDD (w:Wld) (l:List Ord) (n:List Nat):Ans :=
 let a:Cel:=⟨(n.getD 0 0:Nat),(n.getD 1 0:Nat)⟩
 let b:Cel:=⟨(n.getD 2 0:Nat),(n.getD 3 0:Nat)⟩
 if zek (fldR w.f a) w.f a b=0 then .ok ([zcy (zml (fldR w.f a) w.f a b)]++(zmd (fldR w.f a) w.f a b).map fun x=>zlo [x.x,x.y]) w l else .err (zek (fldR w.f a) w.f a b)
noncomputable def seenD (w:Wld) (l:List Ord) (n:List Nat):Ans:=if zef w (n.getD 0 0:Nat)=0 then .ok [zcy ((zd9 w (n.getD 0 0:Nat) w.f.p.length).length:Nat)] w l else .err (zef w (n.getD 0 0:Nat))
abbrev zfa:ByteArray:=⟨#[102,105,101,108,100]⟩
abbrev ztq:ByteArray:=⟨#[98,97,115,101]⟩
abbrev zl6:ByteArray:=⟨#[116,114,111,111,112]⟩
abbrev z08:ByteArray:=⟨#[116,117,114,110]⟩
abbrev zhn:ByteArray:=⟨#[116,114,111,111,112,115]⟩
abbrev zi8:ByteArray:=⟨#[115,116,111,99,107]⟩
abbrev z8y:ByteArray:=⟨#[119,97,121]⟩
abbrev znh:ByteArray:=⟨#[115,101,101,110]⟩
abbrev z86:ByteArray:=⟨#[110,111,119]⟩
noncomputable def doneV (w:Wld) (l:List Ord) (wd:ByteArray) (ws:List ByteArray):Ans :=
 if wd=zfa then fieldD ws
 else if wd=ztq then numsD 3 ws (baseD w l)
 else if wd=zl6 then numsD 4 ws (troopD w l)
 else if zkg wd then orderD w l wd ws
 else if wd=z08 then numsD 0 ws fun _=>turnDD w l
 else if wd=zhn then numsD 0 ws fun _ => .ok (w.troops.map fun t=>zlo (zpi t)) w l
 else if wd=zi8 then numsD 1 ws (stockD w l)
 else if wd=z8y then numsD 4 ws (wayDD w l)
 else if wd=znh then numsD 1 ws (seenD w l)
 else if wd=z86 then numsD 0 ws fun _ => .ok [zcy w.now] w l
 else .err 10
end
def yiq (w:Wld) (l:List Ord):Ans→Out
 | .ok r w' l' => .ret (.c (.sl 1 r)) [za9 w' 2,.dead,zbc l']
 | .err e => .pan (za5 e) [za9 w 1,zbc l]
theorem yac (w:Wld) (l:List Ord) (a:Ans):2≤match yiq w l a with | .ret _ hs'=>hs'.length | .pan _ hs'=>hs'.length:=by cases a<;>simp[yiq]
def ypo (w:Wld) (l:List Ord):Ans→Out
 | .ok r w' l' => .ret (.c (.sl 1 r)) [za9 w' 3,.dead,.dead,zbc l']
 | .err e => .pan (za5 e) [za9 w 1,zbc l,.dead]
theorem ze9 (w:Wld) (l:List Ord) (o:Ord) (hl:l.length≤100):(zii o≠0∧waitD w l o = .err (zii o))∨(zii o=0∧l.length=100∧waitD w l o = .err 2)∨(zii o=0∧l.length<100∧waitD w l o = .ok [] w (l ++ [o])):=by
 unfold waitD
 by_cases h:zii o=0
 ·by_cases h2:l.length=100
  ·exact .inr (.inl ⟨h,h2,by rw[if_neg (by simp[h]),if_pos h2]⟩)
  ·exact .inr (.inr ⟨h,by omega,by rw[if_neg (by simp[h]),if_neg h2]⟩)
 ·exact .inl ⟨h,by rw[if_pos h]⟩
theorem yjl {ws:List ByteArray} (h:zcm 2 ws):∃a b,ws = [a,b]:=by
 obtain⟨h,_⟩:=h
 match ws,h with
 | [a,b],_=>exact⟨a,b,rfl⟩
theorem ygi {ws:List ByteArray} (h:zcm 3 ws):∃a b c,ws = [a,b,c]:=by
 obtain⟨h,_⟩:=h
 match ws,h with
 | [a,b,c],_=>exact⟨a,b,c,rfl⟩
theorem z7b {ws:List ByteArray} (h:zcm 4 ws):∃a b c d,ws = [a,b,c,d]:=by
 obtain⟨h,_⟩:=h
 match ws,h with
 | [a,b,c,d],_=>exact⟨a,b,c,d,rfl⟩
theorem yjm {ws:List ByteArray} (h:zcm 1 ws):∃a,ws = [a]:=by
 obtain⟨h,_⟩:=h
 match ws,h with
 | [a],_=>exact⟨a,rfl⟩
theorem ybj {ws:List ByteArray} (h:zcm 0 ws):ws = []:=List.eq_nil_of_length_eq_zero h.1
theorem z5f (w:Wld) (l:List Ord) (wd:ByteArray) (ws:List ByteArray) (hl:ws.length≤1048576) (hs:∀s∈ws,s.size≤1048576) (hll:l.length≤100) (hw:zkg wd=true) :
 zc6 Tryz.prog 51 [.ptr 0 0 0,S wd,.ptr 2 0 0] [za9 w 1,zbc l,zi7 ws] (ypo w l (orderD w l wd ws)):=by
 unfold zkg at hw
 simp only[Bool.or_eq_true,decide_eq_true_eq]at hw
 unfold orderD numsD
 rcases hw with (((rfl|rfl)|rfl)|rfl)|rfl
 ·rw[show yad z87=3 by decide]
  by_cases g:zcm 3 ws
  ·rw[if_pos g];dsimp only
   obtain⟨a,b,c,rfl⟩:=ygi g
   rw[show zqj z87 ([a,b,c].map za8)=⟨(za8 a:Nat),1,(za8 b:Nat),⟨0,0⟩,(za8 c:Nat)⟩by unfold zqj;rw[if_pos rfl];rfl]
   rcases ze9 w l ⟨(za8 a:Nat),1,(za8 b:Nat),⟨0,0⟩,(za8 c:Nat)⟩ hll with ⟨h1,h2⟩|⟨h1,h3,h2⟩|⟨h1,h3,h2⟩
   ·rw[h2];exact z6x w l a b c g _ (zj3 w l _ h1)
   ·rw[h2];exact z6x w l a b c g _ (zj2 w l _ h1 h3)
   ·rw[h2];exact yjf w l _ a b c g (zng w l _ h1 h3)
  ·rw[if_neg g];exact ygc w l ws hl hs g
 ·rw[show yad wGo=4 by decide]
  by_cases g:zcm 4 ws
  ·rw[if_pos g];dsimp only
   obtain⟨a,b,c,d,rfl⟩:=z7b g
   rw[show zqj wGo ([a,b,c,d].map za8)=⟨(za8 a:Nat),2,(za8 b:Nat),⟨(za8 c:Nat),(za8 d:Nat)⟩,0⟩by unfold zqj;rw[if_neg (by decide),if_pos rfl];rfl]
   rcases ze9 w l ⟨(za8 a:Nat),2,(za8 b:Nat),⟨(za8 c:Nat),(za8 d:Nat)⟩,0⟩ hll with ⟨h1,h2⟩|⟨h1,h3,h2⟩|⟨h1,h3,h2⟩
   ·rw[h2];exact ydb w l a b c d g _ (zj3 w l _ h1)
   ·rw[h2];exact ydb w l a b c d g _ (zj2 w l _ h1 h3)
   ·rw[h2];exact yni w l _ a b c d g (zng w l _ h1 h3)
  ·rw[if_neg g];exact yjo w l ws hl hs g
 ·rw[show yad zto=4 by decide]
  by_cases g:zcm 4 ws
  ·rw[if_pos g];dsimp only
   obtain⟨a,b,c,d,rfl⟩:=z7b g
   rw[show zqj zto ([a,b,c,d].map za8)=⟨(za8 a:Nat),3,(za8 b:Nat),⟨(za8 c:Nat),(za8 d:Nat)⟩,0⟩by unfold zqj;rw[if_neg (by decide),if_neg (by decide),if_pos rfl];rfl]
   rcases ze9 w l ⟨(za8 a:Nat),3,(za8 b:Nat),⟨(za8 c:Nat),(za8 d:Nat)⟩,0⟩ hll with ⟨h1,h2⟩|⟨h1,h3,h2⟩|⟨h1,h3,h2⟩
   ·rw[h2];exact zzq w l a b c d g _ (zj3 w l _ h1)
   ·rw[h2];exact zzq w l a b c d g _ (zj2 w l _ h1 h3)
   ·rw[h2];exact yfj w l _ a b c d g (zng w l _ h1 h3)
  ·rw[if_neg g];exact yau w l ws hl hs g
 ·rw[show yad zwi=2 by decide]
  by_cases g:zcm 2 ws
  ·rw[if_pos g];dsimp only
   obtain⟨a,b,rfl⟩:=yjl g
   rw[show zqj zwi ([a,b].map za8)=⟨(za8 a:Nat),4,(za8 b:Nat),⟨0,0⟩,0⟩by unfold zqj;rw[if_neg (by decide),if_neg (by decide),if_neg (by decide),if_pos rfl];rfl]
   rcases ze9 w l ⟨(za8 a:Nat),4,(za8 b:Nat),⟨0,0⟩,0⟩ hll with ⟨h1,h2⟩|⟨h1,h3,h2⟩|⟨h1,h3,h2⟩
   ·rw[h2];exact z0p w l a b g _ (zj3 w l _ h1)
   ·rw[h2];exact z0p w l a b g _ (zj2 w l _ h1 h3)
   ·rw[h2];exact ygz w l _ a b g (zng w l _ h1 h3)
  ·rw[if_neg g];exact ybv w l ws hl hs g
 ·rw[show yad ztp=2 by decide]
  by_cases g:zcm 2 ws
  ·rw[if_pos g];dsimp only
   obtain⟨a,b,rfl⟩:=yjl g
   rw[show zqj ztp ([a,b].map za8)=⟨(za8 a:Nat),5,0,⟨0,0⟩,(za8 b:Nat)⟩by unfold zqj;rw[if_neg (by decide),if_neg (by decide),if_neg (by decide),if_neg (by decide)];rfl]
   rcases ze9 w l ⟨(za8 a:Nat),5,0,⟨0,0⟩,(za8 b:Nat)⟩ hll with ⟨h1,h2⟩|⟨h1,h3,h2⟩|⟨h1,h3,h2⟩
   ·rw[h2];exact zzt w l a b g _ (zj3 w l _ h1)
   ·rw[h2];exact zzt w l a b g _ (zj2 w l _ h1 h3)
   ·rw[h2];exact yfk w l _ a b g (zng w l _ h1 h3)
  ·rw[if_neg g];exact yaz w l ws hl hs g
end Go.Proofs.YtgggemkjaccbhaaGreatDoor
namespace Go.Proofs.YtgggemkjaccbhaaGreatDoor
set_option linter.all false
open Go.RowKit
set_option maxRecDepth 100000
set_option maxHeartbeats 4000000
theorem ymm (w:Wld) (R:Right w):zdu w.next∧zdu w.now:=⟨⟨by have:=R.nx;omega,by have:=R.nx;omega⟩,⟨by have:=R.nw;omega,by have:=R.nw;omega⟩⟩
theorem yj1 (w:Wld) (l:List Ord) (wd:ByteArray) (ws:List ByteArray) (R:Right w) (hll:l.length≤100) (hl:ws.length≤65536) (hsz:∀s∈ws,s.size≤65536) :
 zc6 Tryz.prog 19 [.ptr 0 0 0,.c (.sl 1 ((wd::ws).map zge))] [za9 w 1,zbc l] (yiq w l (doneV w l wd ws)):=by
 have hs:∀s∈ws,s.size≤1048576:=fun s h=>by have:=hsz s h;omega
 have hl:ws.length≤1048576:=by omega
 obtain⟨f1,f2,f3,_⟩:=za4 R.f
 have hpl:w.f.p.length≤1600:=by
  have:w.f.w*w.f.h≤40*40:=Int.mul_le_mul (by omega) (by omega) (by omega) (by omega)
  omega
 refine zdw (yiq w l (doneV w l wd ws)) [4,5,7,11,13,19,21,22,24,27,29,32,34,35,38,40] Tryz.func19 rfl rfl mix 122 rfl [.tmp 4] Tryz.results19 (yac w l _) ?_
 generalize hO:yiq w l (doneV w l wd ws)=O
 try refine xst ?_
 refine caM [2] (zlg wd ws hl) ?_
 try refine xst ?_
 refine cI (fun h1=>?_) fun h1=>?_
 ·have D:doneV w l wd ws=fieldD ws:=by unfold doneV;exact if_pos h1
  try refine xst ?_
  rcases (show (∃s r,ws=s::r)∨ws = []from by cases ws<;>simp)with ⟨s,r,rfl⟩|rfl
  ·skip
   have hl':r.length≤1048576:=by simp only[List.length_cons]at hl;omega
   have hs1:s.size≤65536:=hsz s (by simp)
   refine ztl ?_
   try refine xst ?_
   refine caM [2] (zlg s r hl') ?_
   try refine xst ?_
   rcases (show r = []∨r ≠ []from Classical.em _)with rfl|hr
   ·skip
    refine ztl ?_
    try refine xz1 Qd ?_
    refine caP (zr5) ?_
    try refine xz1 Qd ?_
    refine caP (ycv s (by omega)) ?_
    try refine xz1 Qd ?_
    have hF:=zo8 s hs1
    unfold zo7 at hF
    refine⟨by
     have:=zn8 s.data.toList
     have e:s.data.toList.length=s.size:=by rw[Array.length_toList];rfl
     have e1:(⟨#[10]⟩:ByteArray).size=1:=rfl
     rw[zaa,e1];omega,?_⟩
    refine caP (hF.1) ?_
    try refine xz1 Qd ?_
    rcases Classical.em ((fieldOf s).2=0)with hE|hE
    ·skip
     have D2:=D.trans (if_pos hE)
     refine ztl ?_
     try refine xz2 hE Qd ?_
     refine caP (zk2) ?_
     try refine xz2 hE Qd ?_
     refine caM [0,1] (ygq w l (fieldOf s).1 hF.2.2.1) ?_
     try refine xz2 hE Qd ?_
     obtain rfl:O = .ret (.c (.sl 1 ([]))) [za9 (zmh (fieldOf s).1) 2,.dead,zbc ([])]:=by rw[←hO,D2];rfl
     refine zhg ?_
     refine(zb9 [0,1,4] rfl rfl (by decide) ⟨?_,trivial,?_,trivial⟩ trivial ?_)
     ·exact xS
     ·exact xS
     ·first|exact Wk.nil _|simp(etaStruct := .none)only[push_cast,zad,seval]
    ·skip
     refine zfn 1 ?_
     have D2:=D.trans (if_neg hE)
     try refine xz1 Qd ?_
     refine caN [] (zjh _ hE) ?_
     try refine xz1 Qd ?_
     obtain rfl:O = .pan (za5 (fieldOf s).2) [za9 w 1,zbc l]:=by rw[←hO,D2];rfl
     refine zfe (zfo [0,1] (ToK.refl _ _) rfl (Nat.le_refl _) (by decide) ⟨?_,?_,trivial⟩)
     ·exact xS
     ·exact xS
   ·skip
    refine zfn 3 ?_
    have D2:doneV w l wd (s::r) = .err 10:=by rw[D];cases r with|nil=>exact absurd rfl hr|cons x y=>rfl
    have hr1:decide ((r.length:Int)=0)=false:=decide_eq_false (by have:=List.length_pos_iff.2 hr;omega)
    try refine xst ?_
    refine caN [] (zlh) ?_ (hw:=by rw[hr1];exact WkL.refl _)
    try refine xst ?_
    obtain rfl:O = .pan (za5 10) [za9 w 1,zbc l]:=by rw[←hO,D2];rfl
    refine zfe (zfo [0,1] (ToK.refl _ _) rfl (Nat.le_refl _) (by decide) ⟨?_,?_,trivial⟩)
    ·exact xS
    ·exact xS
  ·skip
   refine zfn 0 ?_
   try refine xst ?_
   refine caN [2] (z5u) ?_
   try refine xst ?_
   obtain rfl:O = .pan (za5 10) [za9 w 1,zbc l]:=by rw[←hO,D];rfl
   refine zfe (zfo [0,1] (ToK.refl _ _) rfl (Nat.le_refl _) (by decide) ⟨?_,?_,trivial⟩)
   ·exact xS
   ·exact xS
 ·try refine xst ?_
  refine cI (fun h2=>?_) fun h2=>?_
  ·have D:doneV w l wd ws=numsD 3 ws (baseD w l):=by unfold doneV;rw[if_neg h1];exact if_pos h2
   try refine xst ?_
   rcases Classical.em (zcm 3 ws)with hg|hg
   ·skip
    obtain⟨a,b,c,rfl⟩:=ygi hg
    have N:=zbn 3 [a,b,c] (by decide) hg
    simp only[List.map_cons,List.map_nil,nmP]at N
    have D2:=D.trans (if_pos hg)
    have ha:=And.intro (zdm a) (And.intro (zdm b) (zdm c))
    have hb:w.bases.length≤1000∧w.stocks.length≤1000:=⟨by have:=R.nb;omega,by have:=R.nb;have:=R.sl;omega⟩
    rcases Classical.em (zap (zdj w (za8 a:Nat) (za8 b:Nat) (za8 c:Nat))=0)with hE|hE
    ·skip
     have D3:=D2.trans (if_pos hE)
     refine ztl ?_
     try refine xst ?_
     refine caM [2] (N) ?_
     try refine xst ?_
     refine caM [0,1] (yhh w l _ _ _ ha R.l hb hE) ?_
     try refine xst ?_
     obtain rfl:O = .ret (.c (.sl 1 ([zcy w.bases.length]))) [za9 (zdj w (za8 a:Nat) (za8 b:Nat) (za8 c:Nat)) 2,.dead,zbc (l)]:=by rw[←hO,D3];rfl
     refine zhg ?_
     refine zjn (To.moveC 0 9 1 74 6 35 _ ((l).map zga) rfl rfl rfl) (zb9 [0,1,3] rfl rfl (by decide) ⟨?_,trivial,?_,trivial⟩ trivial ?_)
     ·exact xS1 QB1
     ·exact xS
     ·exact xS
    ·skip
     refine zfn 2 ?_
     have D3:=D2.trans (if_neg hE)
     try refine xst ?_
     refine caM [2] (N) ?_
     try refine xst ?_
     refine caN [0,1] (yhi w l _ _ _ ha R.l hb hE) ?_
     try refine xst ?_
     obtain rfl:O = .pan (za5 (zap (zdj w (za8 a:Nat) (za8 b:Nat) (za8 c:Nat)))) [za9 w 1,zbc l]:=by rw[←hO,D3];rfl
     refine zfe (zfo [0,1] (ToK.refl _ _) rfl (Nat.le_refl _) (by decide) ⟨?_,?_,trivial⟩)
     ·exact xS
     ·exact xS
   ·skip
    refine zfn 1 ?_
    have D2:=D.trans (if_neg hg)
    try refine xst ?_
    refine caN [2] (zb6 3 ws (by decide) hl hs hg) ?_
    try refine xst ?_
    obtain rfl:O = .pan (za5 10) [za9 w 1,zbc l]:=by rw[←hO,D2];rfl
    refine zfe (zfo [0,1] (ToK.refl _ _) rfl (Nat.le_refl _) (by decide) ⟨?_,?_,trivial⟩)
    ·exact xS
    ·exact xS
  ·try refine xst ?_
   refine cI (fun h3=>?_) fun h3=>?_
   ·have D:doneV w l wd ws=numsD 4 ws (troopD w l):=by unfold doneV;rw[if_neg h1,if_neg h2];exact if_pos h3
    try refine xst ?_
    rcases Classical.em (zcm 4 ws)with hg|hg
    ·skip
     obtain⟨a,b,c,d,rfl⟩:=z7b hg
     have N:=zbn 4 [a,b,c,d] (by decide) hg
     simp only[List.map_cons,List.map_nil,nmP]at N
     have D2:=D.trans (if_pos hg)
     have ha:=And.intro (zdm a) (And.intro (zdm b) (And.intro (zdm c) (zdm d)))
     have hb:w.troops.length≤1000∧0≤w.next∧w.next≤1000000:=⟨by have:=R.nt;omega,by have:=R.nx;omega⟩
     rcases Classical.em (zeg (za8 b:Nat)=0)with hk|hk
     ·skip
      have D3:=D2.trans (if_neg (not_not_intro hk))
      rcases Classical.em (zap (zb7 w (za8 a:Nat) (za8 b:Nat) (za8 c:Nat) (za8 d:Nat))=0)with hE|hE
      ·skip
       have D4:=D3.trans (if_pos hE)
       refine ztl ?_
       try refine xst ?_
       refine caM [2] (N) ?_
       try refine xst ?_
       refine caM [0,1] (z7v w l _ _ _ _ ha R.l hb hk hE) ?_
       try refine xst ?_
       obtain rfl:O = .ret (.c (.sl 1 ([zcy w.next]))) [za9 ((zb7 w (za8 a:Nat) (za8 b:Nat) (za8 c:Nat) (za8 d:Nat))) 2,.dead,zbc (l)]:=by rw[←hO,D4];rfl
       refine zhg ?_
       refine zjn (To.moveC 0 9 1 74 6 35 _ ((l).map zga) rfl rfl rfl) (zb9 [0,1,3] rfl rfl (by decide) ⟨?_,trivial,?_,trivial⟩ trivial ?_)
       ·exact xS1 QB1
       ·exact xS
       ·exact xS
      ·skip
       refine zfn 2 ?_
       have D4:=D3.trans (if_neg hE)
       try refine xst ?_
       refine caM [2] (N) ?_
       try refine xst ?_
       refine caN [0,1] (z2f w l _ _ _ _ ha R.l hb hk hE) ?_
       try refine xst ?_
       obtain rfl:O = .pan (za5 (zap (zb7 w (za8 a:Nat) (za8 b:Nat) (za8 c:Nat) (za8 d:Nat)))) [za9 w 1,zbc l]:=by rw[←hO,D4];rfl
       refine zfe (zfo [0,1] (ToK.refl _ _) rfl (Nat.le_refl _) (by decide) ⟨?_,?_,trivial⟩)
       ·exact xS
       ·exact xS
     ·skip
      refine zfn 2 ?_
      have D3:=D2.trans (if_pos hk)
      try refine xst ?_
      refine caM [2] (N) ?_
      try refine xst ?_
      refine caN [0,1] (z2g w l _ _ _ _ ha hk) ?_
      try refine xst ?_
      obtain rfl:O = .pan (za5 (zeg (za8 b:Nat))) [za9 w 1,zbc l]:=by rw[←hO,D3];rfl
      refine zfe (zfo [0,1] (ToK.refl _ _) rfl (Nat.le_refl _) (by decide) ⟨?_,?_,trivial⟩)
      ·exact xS
      ·exact xS
    ·skip
     refine zfn 1 ?_
     have D2:=D.trans (if_neg hg)
     try refine xst ?_
     refine caN [2] (zb6 4 ws (by decide) hl hs hg) ?_
     try refine xst ?_
     obtain rfl:O = .pan (za5 10) [za9 w 1,zbc l]:=by rw[←hO,D2];rfl
     refine zfe (zfo [0,1] (ToK.refl _ _) rfl (Nat.le_refl _) (by decide) ⟨?_,?_,trivial⟩)
     ·exact xS
     ·exact xS
   ·try refine xst ?_
    refine zf1 (fun _u:Unit=>⟨[(0,.ptr 0 0 0),(3,.ptr 2 0 0),(5,S wd),(13,S wd),(43,B (zkg wd))],[(0,za9 w 1),(1,zbc l),(2,zi7 ws)],3⟩) (fun _u:Unit=>Tr) (fun h4=>?_) (fun h4=>?_) ?_
    ·(try replace h4:=xhh h4)
     try refine xst ?_
     have e:zkg wd=true:=by simp[zkg,h4]
     have e2:=eq_true h4
     refine⟨(),trI,To.mk [0,1,2] rfl rfl (by decide) ?_ ?_⟩
     ·(try(refine xz2 e e2 ?_;try exact xtI))
     ·(try(refine xz2 e e2 ?_;try exact xtI))
    ·(try replace h4:=xhh h4)
     try refine xst ?_
     refine cI (fun h5=>?_) fun h5=>?_
     ·try refine xst ?_
      have e:zkg wd=true:=by simp[zkg,h5]
      have e2:=eq_true h5
      refine⟨(),trI,To.mk [0,1,2] rfl rfl (by decide) ?_ ?_⟩
      ·(try(refine xz2 e e2 ?_;try exact xtI))
      ·(try(refine xz2 e e2 ?_;try exact xtI))
     ·try refine xst ?_
      refine cI (fun h6=>?_) fun h6=>?_
      ·try refine xst ?_
       have e:zkg wd=true:=by simp[zkg,h6]
       have e2:=eq_true h6
       refine⟨(),trI,To.mk [0,1,2] rfl rfl (by decide) ?_ ?_⟩
       ·(try(refine xz2 e e2 ?_;try exact xtI))
       ·(try(refine xz2 e e2 ?_;try exact xtI))
      ·try refine xst ?_
       refine cI (fun h7=>?_) fun h7=>?_
       ·try refine xst ?_
        have e:zkg wd=true:=by simp[zkg,h7]
        have e2:=eq_true h7
        refine⟨(),trI,To.mk [0,1,2] rfl rfl (by decide) ?_ ?_⟩
        ·(try(refine xz2 e e2 ?_;try exact xtI))
        ·(try(refine xz2 e e2 ?_;try exact xtI))
       ·try refine xst ?_
        have e:zkg wd=decide (wd=ztp):=by simp[zkg,h4,h5,h6,h7]
        have e2:=trivial
        refine⟨(),trI,To.mk [0,1,2] rfl rfl (by decide) ?_ ?_⟩
        ·(try(refine xz2 e e2 ?_;try exact xtI))
        ·(try(refine xz2 e e2 ?_;try exact xtI))
    ·rintro _ _
     try refine xst ?_
     refine cI (fun h8=>?_) fun h8=>?_
     ·have D:doneV w l wd ws=orderD w l wd ws:=by unfold doneV;rw[if_neg h1,if_neg h2,if_neg h3];exact if_pos h8
      try refine xst ?_
      have OS:=z5f w l wd ws hl hs hll h8
      rw[←D]at OS
      rcases hA:doneV w l wd ws with ⟨r,w',l'⟩|e<;>rw[hA]at OS
      ·skip
       refine ztl ?_
       try refine xst ?_
       refine caM [0,1,2] (OS) ?_
       try refine xst ?_
       obtain rfl:O = .ret (.c (.sl 1 (r))) [za9 (w') 2,.dead,zbc (l')]:=by rw[←hO,hA];rfl
       refine zhg ?_
       refine(zb9 [0,1,3] rfl rfl (by decide) ⟨?_,trivial,?_,trivial⟩ trivial ?_)
       ·exact xS
       ·exact xS
       ·first|exact Wk.nil _|simp(etaStruct := .none)only[push_cast,zad,seval]
      ·skip
       refine zfn 2 ?_
       try refine xst ?_
       refine caN [0,1,2] (OS) ?_
       try refine xst ?_
       obtain rfl:O = .pan (za5 e) [za9 w 1,zbc l]:=by rw[←hO,hA];rfl
       refine zfe (zfo [0,1] (ToK.refl _ _) rfl (Nat.le_refl _) (by decide) ⟨?_,?_,trivial⟩)
       ·exact xS
       ·exact xS
     ·try refine xst ?_
      refine cI (fun h9=>?_) fun h9=>?_
      ·have D:doneV w l wd ws=numsD 0 ws fun _=>turnDD w l:=by unfold doneV;rw[if_neg h1,if_neg h2,if_neg h3,if_neg (by simp[h8])];exact if_pos h9
       try refine xst ?_
       rcases Classical.em (zcm 0 ws)with hg|hg
       ·skip
        obtain rfl:=ybj hg
        have N:=zbn 0 [] (by decide) hg
        simp only[List.map_cons,List.map_nil,nmP]at N
        have D2:=D.trans (if_pos hg)
        refine ztl ?_
        try refine xst ?_
        refine caM [2] (N) ?_
        try refine xst ?_
        rcases Classical.em (zck l w=0)with hE|hE
        ·skip
         have D3:=D2.trans (if_pos hE)
         refine ztl ?_
         try refine xst ?_
         refine caM [0,1] (ybt w l (fldR w.f) (zg9 w.f) hll hE) ?_
         try refine xst ?_
         obtain rfl:O = .ret (.c (.sl 1 (zk7 (zk8 w l) (znm (fldR w.f) w l)++(zme (fldR w.f) w l).map ynP))) [za9 (zj6 (fldR w.f) w l) 2,.dead,zbc ([])]:=by rw[←hO,D3];rfl
         refine zhg ?_
         refine(zb9 [0,1,3] rfl rfl (by decide) ⟨?_,trivial,?_,trivial⟩ trivial ?_)
         ·exact xS
         ·exact xS
         ·first|exact Wk.nil _|simp(etaStruct := .none)only[push_cast,zad,seval]
        ·skip
         refine zfn 1 ?_
         have D3:=D2.trans (if_neg hE)
         try refine xst ?_
         refine caN [0,1] (ybu w l (fldR w.f) (zg9 w.f) R.l hll hE) ?_
         try refine xst ?_
         obtain rfl:O = .pan (za5 (zck l w)) [za9 w 1,zbc l]:=by rw[←hO,D3];rfl
         refine zfe (zfo [0,1] (ToK.refl _ _) rfl (Nat.le_refl _) (by decide) ⟨?_,?_,trivial⟩)
         ·exact xS
         ·exact xS
       ·skip
        refine zfn 0 ?_
        have D2:=D.trans (if_neg hg)
        try refine xst ?_
        refine caN [2] (zb6 0 ws (by decide) hl hs hg) ?_
        try refine xst ?_
        obtain rfl:O = .pan (za5 10) [za9 w 1,zbc l]:=by rw[←hO,D2];rfl
        refine zfe (zfo [0,1] (ToK.refl _ _) rfl (Nat.le_refl _) (by decide) ⟨?_,?_,trivial⟩)
        ·exact xS
        ·exact xS
      ·try refine xst ?_
       refine cI (fun h10=>?_) fun h10=>?_
       ·have D:doneV w l wd ws=numsD 0 ws fun _ => .ok (w.troops.map fun t=>zlo (zpi t)) w l:=by unfold doneV;rw[if_neg h1,if_neg h2,if_neg h3,if_neg (by simp[h8]),if_neg h9];exact if_pos h10
        try refine xst ?_
        rcases Classical.em (zcm 0 ws)with hg|hg
        ·skip
         obtain rfl:=ybj hg
         have N:=zbn 0 [] (by decide) hg
         simp only[List.map_cons,List.map_nil,nmP]at N
         have D2:=D.trans (if_pos hg)
         refine ztl ?_
         try refine xst ?_
         refine caM [2] (N) ?_
         try refine xst ?_
         refine caM [0,1] (z7u w l R) ?_
         try refine xst ?_
         obtain rfl:O = .ret (.c (.sl 1 (w.troops.map fun t=>zlo (zpi t)))) [za9 (w) 2,.dead,zbc (l)]:=by rw[←hO,D2];rfl
         refine zhg ?_
         refine zjn (To.moveC 0 9 1 74 6 35 _ ((l).map zga) rfl rfl rfl) (zb9 [0,1,3] rfl rfl (by decide) ⟨?_,trivial,?_,trivial⟩ trivial ?_)
         ·exact xS1 QB1
         ·exact xS
         ·exact xS
        ·skip
         refine zfn 0 ?_
         have D2:=D.trans (if_neg hg)
         try refine xst ?_
         refine caN [2] (zb6 0 ws (by decide) hl hs hg) ?_
         try refine xst ?_
         obtain rfl:O = .pan (za5 10) [za9 w 1,zbc l]:=by rw[←hO,D2];rfl
         refine zfe (zfo [0,1] (ToK.refl _ _) rfl (Nat.le_refl _) (by decide) ⟨?_,?_,trivial⟩)
         ·exact xS
         ·exact xS
       ·try refine xst ?_
        refine cI (fun h11=>?_) fun h11=>?_
        ·have D:doneV w l wd ws=numsD 1 ws (stockD w l):=by unfold doneV;rw[if_neg h1,if_neg h2,if_neg h3,if_neg (by simp[h8]),if_neg h9,if_neg h10];exact if_pos h11
         try refine xst ?_
         rcases Classical.em (zcm 1 ws)with hg|hg
         ·skip
          obtain⟨a,rfl⟩:=yjm hg
          have N:=zbn 1 [a] (by decide) hg
          simp only[List.map_cons,List.map_nil,nmP]at N
          have D2:=D.trans (if_pos hg)
          refine ztl ?_
          try refine xst ?_
          refine caM [2] (N) ?_
          try refine xst ?_
          refine cI (fun h12=>?_) fun h12=>?_
          ·have D3:=D2.trans (if_neg (by show ¬za8 a<w.stocks.length;omega))
           try refine xst ?_
           refine zfn 0 ?_
           try refine xst ?_
           refine caN [] (zjh 7 (by decide)) ?_
           try refine xst ?_
           obtain rfl:O = .pan (za5 7) [za9 w 1,zbc l]:=by rw[←hO,D3];rfl
           refine zfe (zfo [0,1] (ToK.refl _ _) rfl (Nat.le_refl _) (by decide) ⟨?_,?_,trivial⟩)
           ·exact xS
           ·exact xS
          ·have hlt:za8 a<w.stocks.length:=by omega
           have D3:=D2.trans (if_pos hlt)
           have ht:∀n ∈ [w.stocks.getD (za8 a) default],zdu n:=fun n hn=>by
            rw[List.mem_singleton]at hn;subst hn
            have h0:=R.sl
            obtain⟨_,h1,_⟩:=R.base (za8 a) (by omega)
            exact⟨by omega,by omega⟩
           try refine xz2 (gd hlt) zab ?_
           refine zcn [3] (Spec.hand 0 (zno [w.stocks.getD (za8 a) default] ht (by simp)) (Nat.zero_le _) rfl (by exact WkL.refl _) rfl) (WkL.refl _) rfl (by decide) (by simp[za6]) ?_
           try refine xz2 (gd hlt) zab ?_
           obtain rfl:O = .ret (.c (.sl 1 ([zcy (w.stocks.getD (za8 a) default)]))) [za9 (w) 2,.dead,zbc (l)]:=by rw[←hO,D3];rfl
           refine zhg ?_
           refine zjn (To.moveC 0 9 1 74 6 35 _ ((l).map zga) rfl rfl rfl) (zb9 [0,1,4] rfl rfl (by decide) ⟨?_,trivial,?_,trivial⟩ trivial ?_)
           ·exact xS1 QB1
           ·exact xS
           ·exact xS
         ·skip
          refine zfn 0 ?_
          have D2:=D.trans (if_neg hg)
          try refine xst ?_
          refine caN [2] (zb6 1 ws (by decide) hl hs hg) ?_
          try refine xst ?_
          obtain rfl:O = .pan (za5 10) [za9 w 1,zbc l]:=by rw[←hO,D2];rfl
          refine zfe (zfo [0,1] (ToK.refl _ _) rfl (Nat.le_refl _) (by decide) ⟨?_,?_,trivial⟩)
          ·exact xS
          ·exact xS
        ·try refine xst ?_
         refine cI (fun h13=>?_) fun h13=>?_
         ·have D:doneV w l wd ws=numsD 4 ws (wayDD w l):=by unfold doneV;rw[if_neg h1,if_neg h2,if_neg h3,if_neg (by simp[h8]),if_neg h9,if_neg h10,if_neg h11];exact if_pos h13
          try refine xst ?_
          rcases Classical.em (zcm 4 ws)with hg|hg
          ·skip
           obtain⟨a,b,c,d,rfl⟩:=z7b hg
           have N:=zbn 4 [a,b,c,d] (by decide) hg
           simp only[List.map_cons,List.map_nil,nmP]at N
           have D2:=D.trans (if_pos hg)
           rcases Classical.em ((zek (fldR w.f ⟨(za8 a:Nat),(za8 b:Nat)⟩) w.f ⟨(za8 a:Nat),(za8 b:Nat)⟩ ⟨(za8 c:Nat),(za8 d:Nat)⟩)=0)with hE|hE
           ·skip
            have D3:=D2.trans (if_pos hE)
            refine ztl ?_
            try refine xst ?_
            refine caM [2] (N) ?_
            try refine xst ?_
            refine caM [0,1] (ygx w l _ _ _ _ _ (zg9 w.f _) R.f hE) ?_
            try refine xst ?_
            obtain rfl:O = .ret (.c (.sl 1 ([zcy (zml (fldR w.f ⟨(za8 a:Nat),(za8 b:Nat)⟩) w.f ⟨(za8 a:Nat),(za8 b:Nat)⟩ ⟨(za8 c:Nat),(za8 d:Nat)⟩)]++(zmd (fldR w.f ⟨(za8 a:Nat),(za8 b:Nat)⟩) w.f ⟨(za8 a:Nat),(za8 b:Nat)⟩ ⟨(za8 c:Nat),(za8 d:Nat)⟩).map fun x=>zlo [x.x,x.y]))) [za9 (w) 2,.dead,zbc (l)]:=by rw[←hO,D3];rfl
            refine zhg ?_
            refine zjn (To.moveC 0 9 1 74 6 35 _ ((l).map zga) rfl rfl rfl) (zb9 [0,1,3] rfl rfl (by decide) ⟨?_,trivial,?_,trivial⟩ trivial ?_)
            ·exact xS1 QB1
            ·exact xS
            ·exact xS
           ·skip
            refine zfn 2 ?_
            have D3:=D2.trans (if_neg hE)
            try refine xst ?_
            refine caM [2] (N) ?_
            try refine xst ?_
            refine caN [0,1] (ygy w l _ _ _ _ _ (zg9 w.f _) (by omega) hE) ?_
            try refine xst ?_
            obtain rfl:O = .pan (za5 (zek (fldR w.f ⟨(za8 a:Nat),(za8 b:Nat)⟩) w.f ⟨(za8 a:Nat),(za8 b:Nat)⟩ ⟨(za8 c:Nat),(za8 d:Nat)⟩)) [za9 w 1,zbc l]:=by rw[←hO,D3];rfl
            refine zfe (zfo [0,1] (ToK.refl _ _) rfl (Nat.le_refl _) (by decide) ⟨?_,?_,trivial⟩)
            ·exact xS
            ·exact xS
          ·skip
           refine zfn 1 ?_
           have D2:=D.trans (if_neg hg)
           try refine xst ?_
           refine caN [2] (zb6 4 ws (by decide) hl hs hg) ?_
           try refine xst ?_
           obtain rfl:O = .pan (za5 10) [za9 w 1,zbc l]:=by rw[←hO,D2];rfl
           refine zfe (zfo [0,1] (ToK.refl _ _) rfl (Nat.le_refl _) (by decide) ⟨?_,?_,trivial⟩)
           ·exact xS
           ·exact xS
         ·try refine xst ?_
          refine cI (fun h14=>?_) fun h14=>?_
          ·have D:doneV w l wd ws=numsD 1 ws (seenD w l):=by unfold doneV;rw[if_neg h1,if_neg h2,if_neg h3,if_neg (by simp[h8]),if_neg h9,if_neg h10,if_neg h11,if_neg h13];exact if_pos h14
           try refine xst ?_
           rcases Classical.em (zcm 1 ws)with hg|hg
           ·skip
            obtain⟨a,rfl⟩:=yjm hg
            have N:=zbn 1 [a] (by decide) hg
            simp only[List.map_cons,List.map_nil,nmP]at N
            have D2:=D.trans (if_pos hg)
            refine ymt ?_
            try refine xst ?_
            refine zcn [2] (N) (WkL.refl _) rfl (by decide) (by simp[za6,zdf,zjc]) ?_
            try refine xst ?_
            refine caP (yax w _ R.l) ?_
            try refine xst ?_
            (try(refine⟨by kernel_rfl,?_⟩))
            try refine xst ?_
            rcases Classical.em (zef w (za8 a:Nat)=0)with hE|hE
            ·skip
             have D3:=D2.trans (if_pos hE)
             have hcl:=zgr w (za8 a:Nat) w.f.p.length
             have ht:∀n ∈ [((zd9 w (za8 a:Nat) w.f.p.length).length:Int)],zdu n:=fun n hn=>by
              rw[List.mem_singleton]at hn;subst hn
              exact⟨by omega,by omega⟩
             refine ztl ?_
             try refine xz2 hE ynz ?_
             refine caP (zk2) ?_
             try refine xz2 hE ynz ?_
             refine zcn [55] (Spec.hand 0 (zno [((zd9 w (za8 a:Nat) w.f.p.length).length:Int)] ht (by simp)) (Nat.zero_le _) rfl (by exact WkL.refl _) rfl) (WkL.refl _) rfl (by decide) (by simp[za6]) ?_
             try refine xz2 hE ynz ?_
             obtain rfl:O = .ret (.c (.sl 1 ([zcy ((zd9 w (za8 a:Nat) w.f.p.length).length:Nat)]))) [za9 (w) 2,.dead,zbc (l)]:=by rw[←hO,D3];rfl
             refine zhg ?_
             refine zjn (To.moveC 0 9 1 74 6 35 _ ((l).map zga) rfl rfl rfl) (zb9 [0,1,56] rfl rfl (by decide) ⟨?_,trivial,?_,trivial⟩ trivial ?_)
             ·exact xS1 QB1
             ·exact xS
             ·exact xS
            ·skip
             refine zfn 1 ?_
             have D3:=D2.trans (if_neg hE)
             try refine xst ?_
             refine caN [] (zjh _ hE) ?_
             try refine xst ?_
             obtain rfl:O = .pan (za5 (zef w (za8 a:Nat))) [za9 w 1,zbc l]:=by rw[←hO,D3];rfl
             refine zfe (zfo [0,1] (ToK.refl _ _) rfl (Nat.le_refl _) (by decide) ⟨?_,?_,trivial⟩)
             ·exact xS
             ·exact xS
           ·skip
            refine yms 4 ?_
            try refine xst ?_
            have D2:=D.trans (if_neg hg)
            obtain rfl:O = .pan (za5 10) [za9 w 1,zbc l]:=by rw[←hO,D2];rfl
            refine⟨?_,?_,?_,?_,?_⟩<;>(refine caN [2] (zb6 1 ws (by decide) hl hs hg) ?_;(try(refine xst ?_;try exact xtI));refine zfe (zfo [0,1] (ToK.refl _ _) rfl (Nat.le_refl _) (by decide) ⟨?_,?_,trivial⟩)<;>simp(etaStruct := .none)only[push_cast,zad,seval])
          ·try refine xst ?_
           refine cI (fun h15=>?_) fun h15=>?_
           ·have D:doneV w l wd ws=numsD 0 ws fun _ => .ok [zcy w.now] w l:=by unfold doneV;rw[if_neg h1,if_neg h2,if_neg h3,if_neg (by simp[h8]),if_neg h9,if_neg h10,if_neg h11,if_neg h13,if_neg h14];exact if_pos h15
            have ht:∀n ∈ [w.now],zdu n:=fun n hn=>by
             rw[List.mem_singleton]at hn;subst hn
             exact(ymm w R).2
            try refine xst ?_
            rcases Classical.em (zcm 0 ws)with hg|hg
            ·skip
             obtain rfl:=ybj hg
             have N:=zbn 0 [] (by decide) hg
             simp only[List.map_cons,List.map_nil,nmP]at N
             have D2:=D.trans (if_pos hg)
             refine ztl ?_
             try refine xst ?_
             refine caM [2] (N) ?_
             try refine xst ?_
             refine zcn [3] (Spec.hand 0 (zno [w.now] ht (by simp)) (Nat.zero_le _) rfl (by exact WkL.refl _) rfl) (WkL.refl _) rfl (by decide) (by simp[za6]) ?_
             try refine xst ?_
             obtain rfl:O = .ret (.c (.sl 1 ([zcy w.now]))) [za9 (w) 2,.dead,zbc (l)]:=by rw[←hO,D2];rfl
             refine zhg ?_
             refine zjn (To.moveC 0 9 1 74 6 35 _ ((l).map zga) rfl rfl rfl) (zb9 [0,1,4] rfl rfl (by decide) ⟨?_,trivial,?_,trivial⟩ trivial ?_)
             ·exact xS1 QB1
             ·exact xS
             ·exact xS
            ·skip
             refine zfn 0 ?_
             have D2:=D.trans (if_neg hg)
             try refine xst ?_
             refine caN [2] (zb6 0 ws (by decide) hl hs hg) ?_
             try refine xst ?_
             obtain rfl:O = .pan (za5 10) [za9 w 1,zbc l]:=by rw[←hO,D2];rfl
             refine zfe (zfo [0,1] (ToK.refl _ _) rfl (Nat.le_refl _) (by decide) ⟨?_,?_,trivial⟩)
             ·exact xS
             ·exact xS
           ·have D:doneV w l wd ws = .err 10:=by unfold doneV;rw[if_neg h1,if_neg h2,if_neg h3,if_neg (by simp[h8]),if_neg h9,if_neg h10,if_neg h11,if_neg h13,if_neg h14,if_neg h15]
            try refine xst ?_
            refine zfn 2 ?_
            try refine xst ?_
            obtain rfl:O = .pan (za5 10) [za9 w 1,zbc l]:=by rw[←hO,D];rfl
            refine zfe (zfo [0,1] (ToK.refl _ _) rfl (Nat.le_refl _) (by decide) ⟨?_,?_,trivial⟩)
            ·exact xS
            ·exact xS
def z8r (r:List (List PV)):Prop:=(∀x∈r,∃s:ByteArray,x=zge s∧s.size≤200)∧r.length≤6000
def z8x:Ans→Prop
 | .ok r w l=>z8r r∧Right w∧l.length≤100
 | .err e=>zdu e
theorem zqn {f:Fld} (h:zbl f=0):Right (zmh f) where
 f:=h
 nb:=by simp[zmh]
 nt:=by simp[zmh]
 sl:=by simp[zmh]
 ml:=by simp[zmh]
 nx:=by simp[zmh]
 nw:=by simp[zmh]
 base:=fun i hi=>by simp[zmh]at hi
 mine:=fun i hi=>by
  have hi':i<f.p.length:=by simpa[zmh]using hi
  have e:(zmh f).mines.getD i default=if f.p.getD i default=3 then 10 else 0:=by
   simp[zmh,List.getD_eq_getElem?_getD,List.getElem?_map,List.getElem?_eq_getElem hi']
  rw[e]
  split
  ·rename_i h3;exact⟨by omega,.inr h3⟩
  ·exact⟨by omega,.inl rfl⟩
 trp:=fun i hi=>by simp[zmh]at hi
 ord:=fun j k _ hk=>by simp[zmh]at hk
theorem zfx (n:Int) (h:zdu n):∃s:ByteArray,zcy n=zge s∧s.size≤200:=⟨_,rfl,by
 have:=Lib.itoa_length_le n h.1 h.2
 rw[zaa];omega⟩
theorem zz5 (l:List Int) (h:∀n∈l,zdu n) (hl:l.length≤9):∃s:ByteArray,zlo l=zge s∧s.size≤200:=⟨_,rfl,by
 have:=zg5 l h
 rw[zaa];omega⟩
theorem znk {x:List PV} (h:∃s:ByteArray,x=zge s∧s.size≤200):z8r [x]:=⟨fun y hy=>by rw[List.mem_singleton]at hy;rw[hy];exact h,by simp⟩
theorem z3i:z8r []:=⟨fun y hy=>by simp at hy,by simp⟩
theorem ze4 {n:Nat} {ws:List ByteArray} {g:List Nat→Ans} (h:zcm n ws→z8x (g (ws.map za8))):z8x (numsD n ws g):=by
 unfold numsD
 split
 ·rename_i hg;exact h hg
 ·exact(by constructor<;>decide:zdu 10)
theorem z9c {g m:List Int} {d:List Bool} (n1:g.length≤100) (n2:m.length≤100) (n3:d.length≤100) (i1:∀x∈g,zdu x) (i2:∀x∈m,zdu x):z8r (zk7 g m++d.map ynP):=by
 refine⟨fun x hx=>?_,by simp[zk7];omega⟩
 simp only[zk7,List.mem_append,List.mem_map,List.mem_singleton]at hx
 rcases hx with (((⟨n,hn,rfl⟩|rfl)|⟨n,hn,rfl⟩)|rfl)|⟨b,_,rfl⟩
 ·exact zfx n (i1 n hn)
 ·exact⟨_,rfl,by decide⟩
 ·exact zfx n (i2 n hn)
 ·exact⟨_,rfl,by decide⟩
 ·cases b<;>exact⟨_,rfl,by decide⟩
theorem yof (f:Fld):zdu (zbl f):=by unfold zbl;(repeat' split)<;>decide
theorem yhu (w:Wld):zdu (zap w):=by
 unfold zap
 split
 ·exact yof _
 ·split
  ·decide
  ·split<;>decide
theorem ymx (o:Ord):zdu (zii o):=by unfold zii;(repeat' split)<;>decide
theorem yoa:∀l:List Ord,zdu (zfy l)
 | []=>by unfold zfy;decide
 | o::r=>by
  unfold zfy
  split
  ·exact ymx o
  ·exact yoa r
theorem yn4 (l:List Ord) (w:Wld):zdu (zck l w):=by
 unfold zck
 split
 ·unfold zci
  split
  ·unfold zev
   split
   ·decide
   ·exact yoa l
  ·exact yhu w
 ·split<;>decide
theorem yn1 (R:List Int) (f:Fld) (a b:Cel):zdu (zek R f a b):=by
 unfold zek
 split
 ·exact yof _
 ·(repeat' split)<;>decide
theorem yn8 (w:Wld) (p:Int):zdu (zef w p):=by
 unfold zef
 split
 ·exact yhu _
 ·(repeat' split)<;>decide
theorem yix {w:Wld} {l:List Ord} (h:zck l w=0):w.now<1000000:=by
 unfold zck at h
 split at h
 ·rename_i h1;exact absurd h h1
 ·split at h
  ·simp at h
  ·omega
theorem z7y (w:Wld) (l:List Ord) (wd:ByteArray) (ws:List ByteArray) (R:Right w) (hll:l.length≤100) (hsz:∀s∈ws,s.size≤65536):z8x (doneV w l wd ws):=by
 have valI:∀s,zdu ((za8 s:Nat):Int):=fun s=>⟨by omega,by have:=zdm s;omega⟩
 unfold doneV
 split
 ·unfold fieldD
  split
  ·rename_i s
   obtain⟨_,_,_,h4,h5⟩:=zo8 s (hsz s (by simp))
   split
   ·rename_i he;exact⟨z3i,zqn (h4 he),by simp⟩
   ·show zdu (fieldOf s).2
    rcases h5 with h5|h5<;>rw[h5]<;>decide
  ·exact(by constructor<;>decide:zdu 10)
 split
 ·refine ze4 fun hg=>?_
  unfold baseD
  split
  ·rename_i hE;exact⟨znk (zfx _ ⟨by omega,by have:=R.nb;omega⟩),zdz hE,hll⟩
  ·exact yhu _
 split
 ·refine ze4 fun hg=>?_
  unfold troopD
  split
  ·exact(show zdu (zeg _)by unfold zeg;split<;>decide)
  ·split
   ·rename_i hE;exact⟨znk (zfx _ ⟨by have:=R.nx;omega,by have:=R.nx;omega⟩),zdz hE,hll⟩
   ·exact yhu _
 split
 ·unfold orderD
  refine ze4 fun hg=>?_
  unfold waitD
  split
  ·exact ymx _
  ·split
   ·exact(by constructor<;>decide:zdu 2)
   ·refine⟨z3i,R,?_⟩
    rw[List.length_append,List.length_singleton];omega
 split
 ·refine ze4 fun hg=>?_
  unfold turnDD
  split
  ·rename_i h
   obtain⟨n1,n2,n3⟩:=znl (fldR w.f) w l
   obtain⟨i1,i2⟩:=zrh (fldR w.f) w l
   unfold zhp at n1 i1
   unfold zho at n2 i2
   unfold zj7 at n3
   rw[if_pos h]at n1 n2 n3 i1 i2
   exact⟨z9c n1 n2 n3 i1 i2,z1i R (zg9 w.f) l (yix h),by simp⟩
  ·exact yn4 _ _
 split
 ·refine ze4 fun hg=>?_
  refine⟨⟨fun x hx=>?_,by have:=R.nt;simp;omega⟩,R,hll⟩
  obtain⟨t,ht,rfl⟩:=List.mem_map.1 hx
  obtain⟨i,hi,rfl⟩:=yc3 ht
  exact zz5 _ (zri R hi) (by simp[zpi])
 split
 ·refine ze4 fun hg=>?_
  unfold stockD
  split
  ·rename_i hlt
   have h0:=R.sl
   obtain⟨_,h1,_⟩:=R.base ((ws.map za8).getD 0 0) (by omega)
   exact⟨znk (zfx _ ⟨by omega,by omega⟩),R,hll⟩
  ·exact(by constructor<;>decide:zdu 7)
 split
 ·refine ze4 fun hg=>?_
  unfold wayDD
  simp only
  split
  ·rename_i hE
   obtain⟨w1,w2,w3⟩:=z29 (zg9 w.f _) hE
   obtain⟨e1,e2,e3,_⟩:=za4 R.f
   refine⟨⟨fun x hx=>?_,by simp only[List.length_append,List.length_map,List.length_singleton];omega⟩,R,hll⟩
   rcases List.mem_append.1 hx with hx|hx
   ·rw[List.mem_singleton]at hx;rw[hx];exact zfx _ ⟨by omega,by omega⟩
   ·obtain⟨c,hc,rfl⟩:=List.mem_map.1 hx
    have:=inF_iff.1 (w3 c hc)
    refine zz5 _ (fun n hn=>?_) (by simp)
    simp only[List.mem_cons,List.mem_nil_iff,or_false]at hn
    rcases hn with rfl|rfl<;>exact⟨by omega,by omega⟩
  ·exact yn1 _ _ _ _
 split
 ·refine ze4 fun hg=>?_
  unfold seenD
  split
  ·have hcl:=zgr w (((ws.map za8).getD 0 0:Nat):Int) w.f.p.length
   obtain⟨f1,f2,f3,_⟩:=za4 R.f
   have:w.f.w*w.f.h≤40*40:=Int.mul_le_mul (by omega) (by omega) (by omega) (by omega)
   exact⟨znk (zfx _ ⟨by omega,by omega⟩),R,hll⟩
  ·exact yn8 _ _
 split
 ·exact ze4 fun hg=>⟨znk (zfx _ ⟨by have:=R.nw;omega,by have:=R.nw;omega⟩),R,hll⟩
 ·exact(by constructor<;>decide:zdu 10)
def zs2 (e:Int):ByteArray:=⟨#[101,114,114,111,114,32]⟩++zah (Lib.itoa e)
theorem yjy (e:Int):zs2 e=(⟨#[101,114,114,111,114,32]⟩++zah (Lib.itoa e):ByteArray):=rfl
abbrev zmf (x:ByteArray):Chunk := .blk 9 [S x]
theorem z2j (b:Bool) (e:Int) (a:Act) (w:World) (o:Oper) (ho:o.op = .typeAssert (.tmp 4) 20 60 true) (h:a.eval (.tmp 4)=if b then za5 e else .nilIface) (h0:b=false→e=0) :
 (execOp a.eval o).run Tryz.prog w = .ok (.value (.tuple #[.agg #[.int .i64 e],.bool b])) w:=by
 cases b with
 | true =>
  simp only[if_true]at h
  simp only[execOp,ho,h,za5]
  kernel_rfl
 | false =>
  obtain rfl:=h0 rfl
  simp only[Bool.false_eq_true,if_false]at h
  simp only[execOp,ho,h]
  kernel_rfl
theorem z0n (a:Act) (d:Nat) (v:Value) (h:d<a.tmps.size):(a.put (some d) v).eval (.tmp d)=v:=by
 show (a.tmps.setIfInBounds d v).getD d undef=v
 rw[Array.getD_eq_getD_getElem?,Array.getElem?_setIfInBounds_self,if_pos h];rfl
theorem yjw (a:Act) (d t:Nat) (v:Value) (h:d≠t):(a.put (some d) v).eval (.tmp t)=a.eval (.tmp t):=by
 show (a.tmps.setIfInBounds d v).getD t undef=a.tmps.getD t undef
 rw[Array.getD_eq_getD_getElem?,Array.getElem?_setIfInBounds_ne h,←Array.getD_eq_getD_getElem?]
theorem z4h (a:Act) (w:World) (o:Oper) (t i:Nat) (ho:o.op = .extract (.tmp t) i) (xs:Array Value) (x:Value) (h:a.eval (.tmp t) = .tuple xs) (hx:xs[i]? = some x):(execOp a.eval o).run Tryz.prog w = .ok (.value x) w:=by
 simp only[execOp,ho,h,Instr.extract]
 simp[hx]
theorem yj6 (b:Bool) (e:Int) (he:zdu e) (x:ByteArray) (u u2:FrameMode) (hr:∀(c₀ : Frame) (cs:List Frame),c₀.mode=u→(b=true∧recoverD (c₀ :: cs)=some (za5 e,{ c₀ with mode:=u2 } :: cs))∨(b=false∧u2=u∧recoverD (c₀ :: cs)=none)) (h0:b=false→e=0) :
 yhp Tryz.prog 16 [.ptr 0 0 0] [zmf x] u u2 [zmf (if b then zs2 e else x)]:=by
 refine⟨Nat.le_refl _,fun w F β vs M hv=>?_⟩
 refine callsD_of_wpS Tryz.func16 rfl fun c₀ cs hu=>?_
 have C:=zk1 (fn:=Tryz.f16) (nt:=13) M hv rfl
 apply wpS_seq
 apply wpS_region
 show wpOpsS _ _ _ [0,1,2,3,4,5,6,7] _ _ _
 generalize ha0:({ tmps:=vs.toArray++Array.replicate (Tryz.f16.ntmps-vs.toArray.size) undef,defers := [] } : Act)=a0
 have hd0:a0.defers = []:=by rw[←ha0]
 have e0:({ tmps:=vs.toArray++Array.replicate (Tryz.f16.ntmps-vs.toArray.size) undef,defers := [] } : Act)=a0:=ha0
 rw[e0]at C
 have hnt:=C.nt
 have hnt:a0.tmps.size=13:=hnt
 have stp:∀ {rest:List Nat} {ops:Array Oper} {Q:Exit→Act→List Frame→World→Prop},wpOpsS Tryz.prog ops Q rest (a0.put (some 4) (if b then za5 e else .nilIface)) ({ c₀ with mode:=u2 } :: cs) w→∀o,ops[0]? = some o→o.guard=none→o.dst=some 4→(execOp a0.eval o).run Tryz.prog w = .ok .recover w→wpOpsS Tryz.prog ops Q (0::rest) a0 (c₀ :: cs) w:=by
  intro rest ops Q h o ho hg hd hrun
  rcases hr c₀ cs hu with ⟨rfl,h1⟩|⟨rfl,rfl,h1⟩
  ·exact ye7 ho hg _ hrun h1 (by rw[hd];simpa using h)
  ·refine yah ho hg hrun h1 ?_
   rw[hd]
   have e1:({ c₀ with mode:=u2 } : Frame)=c₀ := by cases c₀;simp only at hu;subst hu;rfl
   rw[e1]at h;simpa using h
 refine stp ?_ _ rfl rfl rfl rfl
 generalize ha1:a0.put (some 4) (if b then za5 e else .nilIface)=a1
 obtain⟨F1,β1,C1⟩:=C.step (zbq C.m _ (x := .undef) (v:=if b then za5 e else .nilIface) (by simp only[RelA])) (d:=some 4) (show 4<13 by decide)
 rw[ha1]at C1
 have hv1:a1.eval (.tmp 4)=if b then za5 e else .nilIface:=by rw[←ha1];exact z0n _ _ _ (by omega)
 have hs1:a1.tmps.size=13:=C1.nt
 refine zr2 rfl rfl _ (z2j b e _ w _ rfl hv1 h0) ?_
 show wpOpsS _ _ _ _ (a1.put (some 5) (.tuple #[.agg #[.int .i64 e],.bool b])) _ _
 generalize ha2:a1.put (some 5) (.tuple #[.agg #[.int .i64 e],.bool b])=a2
 obtain⟨F2,β2,C2⟩:=C1.step (zbq C1.m _ (x := .undef) (v := .tuple #[.agg #[.int .i64 e],.bool b]) (by simp only[RelA])) (d:=some 5) (show 5<13 by decide)
 rw[ha2]at C2
 have hv2:a2.eval (.tmp 5) = .tuple #[.agg #[.int .i64 e],.bool b]:=by rw[←ha2];exact z0n _ _ _ (by omega)
 have hs2:a2.tmps.size=13:=C2.nt
 refine zr2 rfl rfl (.tuple #[.agg #[.int .i64 e],.bool b]) (by show _=Result.ok (Next.value (Value.tuple #[.agg #[.int .i64 e],.bool b])) w;rw[←hv2];rfl) ?_
 show wpOpsS _ _ _ _ (a2.put (some 3) (.tuple #[.agg #[.int .i64 e],.bool b])) _ _
 generalize ha3:a2.put (some 3) (.tuple #[.agg #[.int .i64 e],.bool b])=a3
 obtain⟨F3,β3,C3⟩:=C2.step (zbq C2.m _ (x := .undef) (v := .tuple #[.agg #[.int .i64 e],.bool b]) (by simp only[RelA])) (d:=some 3) (show 3<13 by decide)
 rw[ha3]at C3
 have hv3:a3.eval (.tmp 3) = .tuple #[.agg #[.int .i64 e],.bool b]:=by rw[←ha3];exact z0n _ _ _ (by omega)
 have hs3:a3.tmps.size=13:=C3.nt
 refine zr2 rfl rfl (.agg #[.int .i64 e]) (z4h a3 w _ 3 0 rfl _ _ hv3 rfl) ?_
 show wpOpsS _ _ _ _ (a3.put (some 6) (.agg #[.int .i64 e])) _ _
 generalize ha4:a3.put (some 6) (.agg #[.int .i64 e])=a4
 obtain⟨F4,β4,C4⟩:=C3.step (zbq C3.m _ (x := .agg [I .i64 e]) (v := .agg #[.int .i64 e]) (by simp only[RelA,RelL,RelP];exact⟨#[.int .i64 e],rfl,⟨_,_,rfl,⟨rfl,rfl⟩,rfl⟩,by simp[Value.oneCell']⟩)) (d:=some 6) (show 6<13 by decide)
 rw[ha4]at C4
 have hv4:a4.eval (.tmp 3) = .tuple #[.agg #[.int .i64 e],.bool b]:=by rw[←ha4,yjw _ _ _ _ (by decide)];exact hv3
 refine zr2 rfl rfl (.bool b) (z4h a4 w _ 3 1 rfl _ _ hv4 rfl) ?_
 show wpOpsS _ _ _ _ (a4.put (some 7) (.bool b)) _ _
 generalize ha5:a4.put (some 7) (.bool b)=a5
 obtain⟨F5,β5,C5⟩:=C4.step (zbq C4.m _ (x:=B b) (v := .bool b) (relB.2 rfl)) (d:=some 7) (show 7<13 by decide)
 rw[ha5]at C5
 have hd5:a5.defers = []:=by rw[←ha5,←ha4,←ha3,←ha2,←ha1];exact hd0
 have n5:({ a5 with defers := [] } : Act)=a5:=by cases a5;simp only at hd5;subst hd5;rfl
 refine zj1 (Q':=adQ [] (ndQ [] (zix ⟨w,inB β,F,β,1,13⟩ fun e' s=>e' = .normal∧s=⟨(2,B b)::(1,.ptr 1 0 0) :: [(7,B b),(6,.agg [I .i64 e]),(3,.undef),(5,.undef),(4,.undef),(0,.ptr 0 0 0)],[(1,.blk 60 [I .i64 e]),(1,.blk 60 [I .i64 0]),(0,zmf x)],2⟩))) ?_ ?_ _ _ _ (yaf 5 (z6j [] ?_ (by
  rw[n5]
  refine ziw (H:=⟨w,inB β,F,β,1,13⟩) (Q:=fun e' s=>e' = .normal∧s=⟨(2,B b)::(1,.ptr 1 0 0) :: [(7,B b),(6,.agg [I .i64 e]),(3,.undef),(5,.undef),(4,.undef),(0,.ptr 0 0 0)],[(1,.blk 60 [I .i64 e]),(1,.blk 60 [I .i64 0]),(0,zmf x)],2⟩) _ ⟨[(7,B b),(6,.agg [I .i64 e]),(3,.undef),(5,.undef),(4,.undef),(0,.ptr 0 0 0)],[(0,zmf x)],1⟩ F5 β5 a5 w ?_ C5
  iterate 2(try simp(etaStruct := .none)only[push_cast,zad,seval,List.drop_succ_cons,List.drop_zero];try refine xsu ?_)
  done) hd5) rfl)
 ·rintro a w ⟨_,_,⟨⟨_,_,_,_,h,_⟩,_⟩⟩
  exact absurd h (by simp)
 rotate_left
 ·intro o ho
  have ho:o ∈ [_,_,_]:=ho
  simp only[List.mem_cons,List.not_mem_nil,or_false]at ho
  rcases ho with rfl|rfl|rfl<;>(intro a w w' d h;first|exact zfr _ _ _ _ h|exact zif _ _ _ _ h|(simp[execOp]at h;done))
 rintro e1 a6 w6 ⟨a6',rfl,⟨s6,F6,β6,C6,rfl,rfl⟩,hd6⟩
 have hd6:a6'.defers = []:=hd6 (by simp)
 rw[show adD [] a6'=a6' by unfold adD;rw[List.append_nil]]
 refine wpS_of_wp ?_
 refine wp_seq (wp_mono (zug (H:=⟨w,inB β,F,β,1,13⟩) (s:=⟨(2,B b)::(1,.ptr 1 0 0) :: [(7,B b),(6,.agg [I .i64 e]),(3,.undef),(5,.undef),(4,.undef),(0,.ptr 0 0 0)],[(1,.blk 60 [I .i64 e]),(1,.blk 60 [I .i64 0]),(0,zmf x)],2⟩) (Q:=fun e' s=>e' = .normal∧s=⟨(8,B b)::(2,B b)::(1,.ptr 1 0 0) :: [(7,B b),(6,.agg [I .i64 e]),(3,.undef),(5,.undef),(4,.undef),(0,.ptr 0 0 0)],[(1,.blk 60 [I .i64 e]),(1,.blk 60 [I .i64 0]),(0,zmf x)],2⟩) [] ?_ (fun s h=>by simp at h) hd6 (by rw[zl4 hd6];exact C6) (by
  refine ztl ?_
  (try(refine xst ?_;try exact xtI)))) ?_)
 ·intro o ho
  have ho:o ∈ [_]:=ho
  simp only[List.mem_cons,List.not_mem_nil,or_false]at ho
  subst ho;(intro a w w' d h;first|exact zfr _ _ _ _ h|exact zif _ _ _ _ h|(simp[execOp]at h;done))
 rintro e2 a7 w7 ⟨hd7,s7,F7,β7,C7,rfl,rfl⟩
 rw[zl4 hd7]at C7
 have h8:a7.eval (.tmp 8) = .bool b:=relB.1 (C7.G (.tmp 8))
 have fin:∀(y:ByteArray) (s':St) (F':Nat→Prop) (β':Nat→Option Bind) (a:Act) (w':World),Conc ⟨w,inB β,F,β,1,13⟩ s' F' β' a w'→zan s'.h 0=zmf y→a.defers = []→bodyPostS Tryz.prog Tryz.f16 c₀ cs (fun e u' w'=>e = .returned (.tuple #[])∧u'=u2∧∃F' β',MemOk w (inB β) (· < [zmf y].length) F' β' (nth [zmf y]) w'∧(∀b,F b→F' b)∧(∀b,F' b→F b∨w.heap.size≤b∨inB β b)∧(∀i bd,i<1 → β' i=some bd→∃bs,β i=some ⟨bd.v,bd.b,bd.n,bd.sz,bs⟩)) .normal a ({ c₀ with mode:=u2 } :: cs) w':=by
  intro y s' F' β' a w' C hy hd
  refine⟨hd,u2,rfl,.tuple #[],results_none rfl _ _ _,rfl,rfl,?_⟩
  exact zxv C [0] rfl (by decide) (by
   refine⟨?_,trivial⟩
   rw[hy]
   simp(etaStruct := .none)only[push_cast,zad,seval])
 cases b with
 | false =>
  refine wp_cond_false h8 (wp_skip ?_)
  exact fin x _ _ _ _ _ C7 rfl hd7
 | true =>
  refine wp_cond_true h8 ?_
  have hl:=Lib.itoa_length_le e he.1 he.2
  refine wp_mono (zug (H:=⟨w,inB β,F,β,1,13⟩) (s:=⟨(8,B true)::(2,B true)::(1,.ptr 1 0 0) :: [(7,B true),(6,.agg [I .i64 e]),(3,.undef),(5,.undef),(4,.undef),(0,.ptr 0 0 0)],[(1,.blk 60 [I .i64 e]),(1,.blk 60 [I .i64 0]),(0,zmf x)],2⟩) (Q:=fun e' s=>e' = .normal∧zan s.h 0=zmf (zs2 e)) [] ?_ (fun s h=>by simp at h) hd7 (by rw[zl4 hd7];exact C7) (by
   refine ztl ?_
   try refine xst ?_
   refine caP (zz6 e he) ?_
   try refine xst ?_
   refine⟨?_,rfl⟩
   have e6:(⟨#[101,114,114,111,114,32]⟩:ByteArray).size=6:=rfl
   rw[zaa,e6];omega)) ?_
  ·intro o ho
   have ho:o ∈ [_,_,_,_,_]:=ho
   simp only[List.mem_cons,List.not_mem_nil,or_false]at ho
   rcases ho with rfl|rfl|rfl|rfl|rfl<;>first|exact zw8 (zdi rfl rfl rfl) rfl|(intro a w w' d h;first|exact zfr _ _ _ _ h|exact zif _ _ _ _ h|(simp[execOp]at h;done))
  ·rintro e3 a8 w8 ⟨hd8,s8,F8,β8,C8,rfl,hy⟩
   rw[zl4 hd8]at C8
   exact fin (zs2 e) _ _ _ _ _ C8 hy hd8
theorem ye8 {P:Program} {ops:Array Oper} {Q:Exit→Act→World→Prop} {a:Act} {w w':World} {rest:List Oper} {o:Oper} (hg:o.guard=none) (v:Value) (hr:(execOp a.eval o).run P w = .ok (.value v) w') (h:wpList P ops Q rest (a.put o.dst v) w'):wpList P ops Q (o::rest) a w:=by
 simp only[wpList]
 rw[if_pos (by simp[Region.wanted,hg])]
 refine .inl ?_
 unfold Oper.wp
 rw[hr];exact h
theorem ye9 {P:Program} {ops:Array Oper} {Q:Exit→Act→World→Prop} {a:Act} {w w':World} {rest:List Oper} {o:Oper} (hg:o.guard=none) (d:Deferred) (hr:(execOp a.eval o).run P w = .ok (.defer d) w') (h:wpList P ops Q rest ({ a with defers:=d::a.defers }.put o.dst undef) w'):wpList P ops Q (o::rest) a w:=by
 simp only[wpList]
 rw[if_pos (by simp[Region.wanted,hg])]
 refine .inl ?_
 unfold Oper.wp
 rw[hr];exact h
def yd3:List PV→ByteArray
 | [.v (.string s)]=>s
 | _=>ByteArray.empty
theorem z3j:∀ {r:List (List PV)},(∀x∈r,∃s:ByteArray,x=zge s∧s.size≤200)→(r.map yd3).map zge=r∧∀s∈r.map yd3,s.size≤200
 | [],_=>⟨rfl,fun s h=>by simp at h⟩
 | x::r,h=>by
  obtain⟨s,rfl,hs⟩:=h x (List.mem_cons_self ..)
  obtain⟨h1,h2⟩:=z3j (r:=r) fun y hy=>h y (List.mem_cons_of_mem _ hy)
  refine⟨by rw[List.map_cons,List.map_cons,h1];rfl,fun y hy=>?_⟩
  rw[List.map_cons,List.mem_cons]at hy
  rcases hy with rfl|hy
  ·exact hs
  ·exact h2 y hy
abbrev okB:ByteArray:=⟨#[111,107]⟩
def okT (r:List (List PV)):ByteArray:=zah (Lib.join ((okB::r.map yd3).map (·.data.toList)) [32])
def zmi:Ans→ByteArray
 | .ok r _ _=>okT r
 | .err e=>zs2 e
def zxc (w:Wld):Ans→Wld
 | .ok _ w' _=>w'
 | .err _=>w
def zxd (l:List Ord):Ans→List Ord
 | .ok _ _ l'=>l'
 | .err _=>l
theorem zz4 (xs:List (List UInt8)) (h:∀x∈xs,x.length≤200):(Lib.join xs [32]).length≤201*xs.length:=by
 cases xs with
 | nil=>simp[Lib.join_nil]
 | cons x r =>
  rw[Lib.join_cons]
  have tail:∀r:List (List UInt8),(∀x∈r,x.length≤200)→(Lib.joinTail [32] r).length≤201*r.length:=by
   intro r
   induction r with
   | nil=>intro _;simp[Lib.joinTail]
   | cons y r ih =>
    intro hr
    have h1:=hr y (by simp)
    have h2:=ih fun z hz=>hr z (by simp[hz])
    unfold Lib.joinTail at h2 ⊢
    simp only[List.map_cons,List.flatten_cons,List.length_append,List.length_cons,List.length_nil]at h2 ⊢
    omega
  have h1:=h x (by simp)
  have h2:=tail r fun z hz=>h z (by simp[hz])
  simp only[List.length_append,List.length_cons]
  omega
theorem yai {r:List (List PV)} (h:z8r r):Spec Tryz.prog 18 [.c (.sl 1 (zge okB::r)),S ⟨#[32]⟩] [] (S (okT r)) []:=by
 obtain⟨h1,h2⟩:=z3j h.1
 have J:=yc8 (okB::r.map yd3) ⟨#[32]⟩ (by have:=h.2;simp;omega) (by
  have:=zz4 ((okB::r.map yd3).map (·.data.toList)) fun x hx=>by
   obtain⟨s,hs,rfl⟩:=List.mem_map.1 hx
   have e:s.data.toList.length=s.size:=by rw[Array.length_toList];rfl
   rw[e]
   rcases List.mem_cons.1 hs with rfl|hs
   ·decide
   ·exact h2 s hs
  have h3:=h.2
  rw[List.length_map,List.length_cons,List.length_map]at this
  show (Lib.join _ [32]).length≤_
  omega)
 rw[List.map_cons,h1]at J
 exact J
theorem yi4 (w:Wld) (l:List Ord) (wd:ByteArray) (ws:List ByteArray) (R:Right w) (hll:l.length≤100) (hl:ws.length≤65536) (hsz:∀s∈ws,s.size≤65536) :
 Spec Tryz.prog 9 [.ptr 0 0 0,.c (.sl 1 ((wd::ws).map zge))] [za9 w 1,zbc l] (S (zmi (doneV w l wd ws))) [za9 (zxc w (doneV w l wd ws)) 2,.dead,zbc (zxd l (doneV w l wd ws))]:=by
 have D:=yj1 w l wd ws R hll hl hsz
 have K:=z7y w l wd ws R hll hsz
 refine⟨zdi rfl rfl rfl,Nat.le_of_ble_eq_true rfl,fun w0 F β vs M hv=>?_⟩
 refine calls_of_wp_defers Tryz.func9 rfl ?_
 have C:=zk1 (fn:=Tryz.f9) (nt:=12) M hv rfl
 refine wp_seq (wp_mono (zug (H:=⟨w0,inB β,F,β,2,12⟩) (s:=⟨[(0,.ptr 0 0 0),(1,.c (.sl 1 ((wd::ws).map zge)))],[(0,za9 w 1),(1,zbc l)],2⟩)
  (Q:=fun e' s=>e' = .normal∧s=⟨[(4,.ptr 2 0 0),(0,.ptr 0 0 0),(1,.c (.sl 1 ((wd::ws).map zge)))],[(2,zmf ByteArray.empty),(0,za9 w 1),(1,zbc l)],3⟩) [] ?_ (fun s h=>by simp at h) rfl C (by
  refine ztl ?_
  (try(refine xst ?_;try exact xtI)))) ?_)
 ·intro o ho
  have ho:o ∈ [_]:=ho
  simp only[List.mem_cons,List.not_mem_nil,or_false]at ho
  subst ho;(intro a w w' d h;first|exact zfr _ _ _ _ h|exact zif _ _ _ _ h|(simp[execOp]at h;done))
 rintro e1 a1 w1 ⟨hd1,s1,F1,β1,C1,rfl,rfl⟩
 rw[zl4 hd1]at C1
 have hp:=C1.G (.tmp 4)
 generalize hpv:a1.eval (.tmp 4)=p at hp
 have hn1:a1.tmps.size=12:=C1.nt
 have hv5:(a1.put (some 5) (.func (.func 16) #[] #[p])).eval (.tmp 5) = .func (.func 16) #[] #[p]:=z0n _ _ _ (by omega)
 obtain⟨F2,β2,C2⟩:=C1.step (zbq C1.m _ (x := .undef) (v := .func (.func 16) #[] #[p]) (by simp only[RelA])) (d:=some 5) (show 5<12 by decide)
 have hv4:(a1.put (some 5) (.func (.func 16) #[] #[p])).eval (.tmp 4)=p:=by rw[yjw _ _ _ _ (by decide)];exact hpv
 have hd2:(a1.put (some 5) (.func (.func 16) #[] #[p])).defers = []:=hd1
 refine wp_seq (wp_region_list (ye8 rfl (.func (.func 16) #[] #[p]) (w':=w1) (by rw[←hpv];simp[execOp,Instr.makeFunc]) ?_))
 generalize a1.put (some 5) (.func (.func 16) #[] #[p])=a2 at *
 refine ye9 rfl { target := .fn (.func 16) #[p],args := #[] } (w':=w1) ?_ ?_
 ·simp only[execOp,resolve,hv5,Deferred.ofValue,Sem.run_bind,Sem.run_pure,Result.andThen_ok]
  simp
 show (Code.seq _ _).wp _ _ _ _
 have ha3:({ a2 with defers:=({ target := .fn (.func 16) #[p],args := #[] } : Deferred)::a2.defers } : Act).defers = [{ target := .fn (.func 16) #[p],args := #[] }]:=by rw[hd2]
 generalize ha4:({ a2 with defers:=({ target := .fn (.func 16) #[p],args := #[] } : Deferred)::a2.defers } : Act)=a3 at ha3
 have e3:({ a3 with defers := [] } : Act)=a2:=by rw[←ha4];exact zl4 hd2
 show (Code.seq _ _).wp _ _ a3 _
 have C3:Conc ⟨w0,inB β,F,β2,3,12⟩ ⟨[(5,.undef),(4,.ptr 2 0 0),(0,.ptr 0 0 0),(1,.c (.sl 1 ((wd::ws).map zge)))],[(2,zmf ByteArray.empty),(0,za9 w 1),(1,zbc l)],3⟩ F2 β2 a2 w1:=⟨C2.t,C2.m,C2.nt,C2.d,C2.f,C2.g,fun i bd _ hb=>⟨_,hb⟩,Nat.le_refl _⟩
 have hp2:=C3.G (.tmp 4)
 rw[hv4]at hp2
 have hpp:∀(U F':Nat→Prop) (w':World),U 2→RelA U w' F' β2 (.ptr 2 0 0) p:=fun U F' w' hU=>by
  have hp3:RelA (· < 3) w1 F2 β2 (.ptr 2 0 0) p:=hp2
  simp only[RelA]at hp3 ⊢;exact⟨hU,hp3.2⟩
 rcases hA:doneV w l wd ws with ⟨r,w',l'⟩|e<;>rw[hA]at D K
 ·have D:Spec Tryz.prog 19 [.ptr 0 0 0,.c (.sl 1 ((wd::ws).map zge))] [za9 w 1,zbc l] (.c (.sl 1 r)) [za9 w' 2,.dead,zbc l']:=D
  refine wp_seq (wp_mono (zug (H:=⟨w0,inB β,F,β2,3,12⟩) (s:=⟨[(5,.undef),(4,.ptr 2 0 0),(0,.ptr 0 0 0),(1,.c (.sl 1 ((wd::ws).map zge)))],[(2,zmf ByteArray.empty),(0,za9 w 1),(1,zbc l)],3⟩)
   (Q:=fun e' s=>e' = .normal∧zan s.h 0=za9 w' 4∧zan s.h 1 = .dead∧zan s.h 4=zbc l'∧zan s.h 2=zmf (okT r)∧look s.t 4 = .ptr 2 0 0) _ ?_ (fun s h=>by simp at h) ha3 (by rw[e3];exact C3) (by
   refine ztl ?_
   try refine xst ?_
   refine caM [0,1] D ?_
   try refine xst ?_
   refine⟨by have:=K.1.2;omega,?_⟩
   refine zcn [5] (Spec.hand 0 (yai K.1) (Nat.zero_le _) rfl (by exact WkL.refl _) rfl) (WkL.refl _) rfl (by decide) (by simp[za6]) ?_
   (try(refine xst ?_;try exact xtI)))) ?_)
  ·intro o ho
   have ho:o ∈ [_,_,_,_,_,_,_]:=ho
   simp only[List.mem_cons,List.not_mem_nil,or_false]at ho
   rcases ho with rfl|rfl|rfl|rfl|rfl|rfl|rfl
   all_goals first|exact zw8 (zdi rfl rfl rfl) rfl|(intro a w w' d h;first|exact zfr _ _ _ _ h|exact zif _ _ _ _ h|(simp[execOp]at h;done))|(intro a w w' d h;simp only[execOp,resolve,Sem.run_bind,Sem.run_pure,Result.andThen_ok,invoke,builtin]at h;exact zfr _ _ _ _ h)
  rintro e4 a4 w4 ⟨hd4,s4,F4,β4,C4,rfl,k0,k1,k4,k2,kt⟩
  refine wp_ret ?_
  show Leaves _ _ _ _ a4.defers .returning _
  rw[hd4]
  refine yoi (H:=⟨w0,inB β,F,β,2,12⟩) (c2:=zmf (okT r)) C4 rfl rfl rfl rfl rfl (show 2≤3 by decide) (show 2<3 by decide) C2.e (hpp _ _ _ (by decide)) (by simp) k2 (by simp) rfl rfl (zdi rfl rfl rfl) (yj6 false 0 (by decide) (okT r) .returning .returning (fun c₀ cs hu => .inr ⟨rfl,rfl,by simp[recoverD,hu]⟩) (fun _=>rfl)) ?_
  intro F5 β5 w5 C5
  have hr:zgh Tryz.prog (look s4.t) (zan ((2,zmf (okT r))::s4.h)) [.cell 4 9]=some (True∧True,[S (okT r)]):=by
   simp only[zgh,kt]
   simp(etaStruct := .none)only[push_cast,zad,seval]
  obtain⟨v,hv1,hv2⟩:=z4w C5 (fn:=Tryz.f9) rfl hr ⟨trivial,trivial⟩
  obtain⟨F6,β6,M6,g1,g2,g3⟩:=zxv C5 [0,1,4] (hs' := [za9 w' 2,.dead,zbc l']) rfl (by decide) (by
   simp only[hsW,zan,k0,k1,k4]
   refine⟨?_,trivial,?_,trivial⟩
   ·exact xS
   ·simp(etaStruct := .none)only[push_cast,zad,seval])
  exact⟨v,hv1,v,F6,β6,rfl,M6,relS.2 (relS.1 hv2),g1,g2,g3⟩
 ·have D:z8s Tryz.prog 19 [.ptr 0 0 0,.c (.sl 1 ((wd::ws).map zge))] [za9 w 1,zbc l] (za5 e) [za9 w 1,zbc l]:=D
  refine wp_seq (wp_mono (zug (H:=⟨w0,inB β,F,β2,3,12⟩) (s:=⟨[(5,.undef),(4,.ptr 2 0 0),(0,.ptr 0 0 0),(1,.c (.sl 1 ((wd::ws).map zge)))],[(2,zmf ByteArray.empty),(0,za9 w 1),(1,zbc l)],3⟩)
   (Q:=fun e' s=>e' = .panic [{ v:=za5 e,recovered:=false }]∧zan s.h 0=za9 w 1∧zan s.h 1=zbc l∧s.n=4∧zan s.h 2=zmf ByteArray.empty∧look s.t 4 = .ptr 2 0 0) _ ?_ (fun s h=>by simp at h) ha3 (by rw[e3];exact C3) (by
   refine zfn 3 ?_
   try refine xst ?_
   refine caN [0,1] D ?_
   (try(refine xst ?_;try exact xtI)))) ?_)
  ·intro o ho
   have ho:o ∈ [_,_,_,_,_,_,_]:=ho
   simp only[List.mem_cons,List.not_mem_nil,or_false]at ho
   rcases ho with rfl|rfl|rfl|rfl|rfl|rfl|rfl
   all_goals first|exact zw8 (zdi rfl rfl rfl) rfl|(intro a w w' d h;first|exact zfr _ _ _ _ h|exact zif _ _ _ _ h|(simp[execOp]at h;done))|(intro a w w' d h;simp only[execOp,resolve,Sem.run_bind,Sem.run_pure,Result.andThen_ok,invoke,builtin]at h;exact zfr _ _ _ _ h)
  rintro e4 a4 w4 ⟨hd4,s4,F4,β4,C4,rfl,k0,k1,kn,k2,kt⟩
  show Leaves _ _ _ _ a4.defers (.panicking [{ v:=za5 e,recovered:=false }]) _
  rw[hd4]
  refine yoi (H:=⟨w0,inB β,F,β,2,12⟩) (c2:=zmf (zs2 e)) C4 rfl rfl rfl rfl rfl (show 2≤3 by decide) (show 2<3 by decide) C2.e (hpp _ _ _ (by decide)) (by simp) k2 (by simp) rfl rfl (zdi rfl rfl rfl) (yj6 true e K ByteArray.empty _ (.panicking [{ v:=za5 e,recovered:=true }]) (fun c₀ cs hu => .inl ⟨rfl,by simp[recoverD,hu]⟩) (fun h=>by simp at h)) ?_
  intro F5 β5 w5 C5
  have hr:zgh Tryz.prog (look s4.t) (zan ((2,zmf (zs2 e))::s4.h)) [.cell 4 9]=some (True∧True,[S (zs2 e)]):=by
   simp only[zgh,kt]
   simp(etaStruct := .none)only[push_cast,zad,seval]
  obtain⟨v,hv1,hv2⟩:=z4w C5 (fn:=Tryz.f9) rfl hr ⟨trivial,trivial⟩
  rw[kn]at C5
  obtain⟨F7,β7,C7⟩:=To.moveC (k:=2) (s:=⟨s4.t,(2,zmf (zs2 e))::s4.h,4⟩) 0 9 1 74 6 35 _ (l.map zga) (show zan ((2,zmf (zs2 e))::s4.h) 0=_ by simp only[zan];exact k0) rfl (show zan ((2,zmf (zs2 e))::s4.h) 1=_ by simp only[zan];exact k1) _ _ _ _ _ rfl C5
  obtain⟨F6,β6,M6,g1,g2,g3⟩:=zxv C7 [0,1,4] (hs' := [za9 w 2,.dead,zbc l]) rfl (by decide) (by
   simp only[hsW]
   refine⟨?_,?_,?_,trivial⟩
   ·exact xS1 QB1
   ·exact xS
   ·simp(etaStruct := .none)only[push_cast,zad,seval])
  exact⟨v,hv1,v,F6,β6,rfl,M6,relS.2 (relS.1 hv2),g1,g2,g3⟩
theorem zyn:∀l:List UInt8,l ≠ []→(zcx l).length<l.length
 | [],h=>absurd rfl h
 | b::r,_=>by
  unfold zcx
  have:=znq r
  split<;>simp<;>omega
def zbr (t:List UInt8):List (List UInt8):=if h:t = []then []else za0 t::zbr (zcx t)
termination_by t.length
decreasing_by exact zyn t h
theorem zgm:zbr [] = []:=by rw[zbr];rfl
theorem zjq (t:List UInt8) (h:t ≠ []):zbr t=za0 t::zbr (zcx t):=by rw[zbr,dif_neg h]
theorem zp5:∀t:List UInt8,(10:UInt8)∈t→za2 10 t=za0 t::za2 10 (zcx t)
 | [],h=>by simp at h
 | x::r,h=>by
  conv=>lhs;unfold za2
  unfold za0 zcx
  by_cases e:x=10
  ·rw[if_pos e,if_pos e,if_pos e]
  ·rw[if_neg e,if_neg e,if_neg e]
   have h2:(10:UInt8)∈r:=by
    rcases List.mem_cons.1 h with h|h
    ·exact absurd h.symm e
    ·exact h
   rw[zp5 r h2];rfl
theorem zls:∀t:List UInt8,(10:UInt8)∉t→za0 t=t∧zcx t = []
 | [],_=>⟨rfl,rfl⟩
 | x::r,h=>by
  simp only[List.mem_cons,not_or]at h
  obtain⟨h1,h2⟩:=zls r h.2
  unfold za0 zcx
  rw[if_neg (fun e=>h.1 e.symm),if_neg (fun e=>h.1 e.symm),h1,h2]
  exact⟨rfl,rfl⟩
theorem zh2 (t:List UInt8):zbr t=if (za2 10 t).getLastD [] = []then (za2 10 t).dropLast else za2 10 t:=by
 have key:∀(n:Nat) (t:List UInt8),t.length≤n→zbr t=if (za2 10 t).getLastD [] = []then (za2 10 t).dropLast else za2 10 t:=by
  intro n
  induction n with
  | zero =>
   intro t h
   obtain rfl:t = []:=List.eq_nil_of_length_eq_zero (by omega)
   rw[zgm];rfl
  | succ n ih =>
   intro t h
   by_cases ht:t = []
   ·subst ht;rw[zgm];rfl
   ·rw[zjq t ht]
    by_cases hm:(10:UInt8)∈t
    ·rw[zp5 t hm,ih (zcx t) (by have:=zyn t ht;omega)]
     have hne:=zka 10 (zcx t)
     obtain⟨y,r,hy⟩:∃y r,za2 10 (zcx t)=y::r:=by
      match h:za2 10 (zcx t),hne with
      | y::r,_=>exact⟨y,r,rfl⟩
     rw[hy]
     simp only[List.getLastD_cons]
     split
     ·rfl
     ·rfl
    ·obtain⟨h1,h2⟩:=zls t hm
     rw[zjl 10 t hm,h1,h2,zgm]
     simp[ht]
 exact key t.length t (Nat.le_refl _)
def zde (l:List UInt8):List (List UInt8):=(za2 32 l).filter fun x=>decide (x ≠ [])
def zw2 (s:List (List UInt8) × List UInt8):List (List UInt8):=if s.2 = []then s.1 else s.1 ++ [s.2]
def zrn (s:List (List UInt8) × List UInt8) (b:UInt8):List (List UInt8) × List UInt8:=if b=32 then (zw2 s,[])else (s.1,s.2 ++ [b])
def zn2 (l:List UInt8):List (List UInt8) × List UInt8:=l.foldl zrn ([],[])
theorem z4f (l:List UInt8):zw2 (zn2 l)=zde l:=by
 have key:∀(l:List UInt8) (out:List (List UInt8)) (cur:List UInt8),zw2 (l.foldl zrn (out,cur))=out++((cur++(za2 32 l).headD [])::(za2 32 l).tail).filter fun x=>decide (x ≠ []):=by
  intro l
  induction l with
  | nil =>
   intro out cur
   simp only[List.foldl_nil,za2,List.headD_cons,List.append_nil,List.tail_cons]
   unfold zw2
   by_cases h:cur = []<;>simp[h]
  | cons x r ih =>
   intro out cur
   rw[List.foldl_cons]
   by_cases e:x=32
   ·rw[show zrn (out,cur) x=(zw2 (out,cur),[])from if_pos e,ih]
    subst e
    unfold zw2
    simp only[za2,if_true,List.headD_cons,List.append_nil,List.tail_cons,List.nil_append]
    have:(za2 32 r).headD []::(za2 32 r).tail=za2 32 r:=by
     match h:za2 32 r,zka 32 r with
     | y::q,_=>rfl
    rw[this]
    by_cases h:cur = []<;>simp[h]
   ·rw[show zrn (out,cur) x=(out,cur ++ [x])from if_neg e,ih]
    simp only[za2,if_neg e,List.headD_cons,List.tail_cons,List.append_assoc,List.singleton_append]
 have:=key l [] []
 rw[show l.foldl zrn ([],[])=zn2 l from rfl]at this
 rw[this,List.nil_append,List.nil_append]
 unfold zde
 match h:za2 32 l,zka 32 l with
 | y::q,_=>rfl
theorem zld (l:List UInt8) (b:UInt8):zn2 (l ++ [b])=zrn (zn2 l) b:=by
 unfold zn2;rw[List.foldl_append];rfl
theorem zlb (b:UInt8):∀l:List UInt8,∀x∈za2 b l,x.length≤l.length
 | [],x,h=>by simp[za2]at h;subst h;simp
 | y::r,x,h=>by
  have ih:=zlb b r
  unfold za2 at h
  split at h
  ·rcases List.mem_cons.1 h with rfl|h
   ·simp
   ·have:=ih x h;simp;omega
  ·rcases List.mem_cons.1 h with rfl|h
   ·have:=ih ((za2 b r).headD []) (by
     match h:za2 b r,zka b r with
     | z::q,_=>simp)
    simp only[List.length_cons];omega
   ·have:=ih x (List.mem_of_mem_tail h);simp;omega
theorem zpz {l x:List UInt8} (h:x∈zde l):x ≠ []∧x.length≤l.length:=by
 unfold zde at h
 rw[List.mem_filter]at h
 exact⟨by simpa using h.2,zlb 32 l x h.1⟩
theorem zp0 (l:List UInt8):(zde l).length≤l.length+1:=by
 unfold zde
 have h1:=List.length_filter_le (fun x:List UInt8=>decide (x ≠ [])) (za2 32 l)
 have h2:=zdo 32 l
 have h3:l.count 32≤l.length:=List.count_le_length
 omega
theorem zqu {t:List UInt8} : ∀x∈zbr t,x.length≤t.length:=by
 intro x h
 rw[zh2]at h
 have:x∈za2 10 t:=by
  split at h
  ·exact List.dropLast_subset _ h
  ·exact h
 exact zlb 10 t x this
def z2z (l:List UInt8):Option (List UInt8 × List (List UInt8)):=match zde l with
 | []=>none
 | wd::ws=>if wd.headD 0=35 then none else some (wd,ws)
structure RunS where
 w:Wld
 l:List Ord
 o:List UInt8
noncomputable def lineR (s:RunS) (wd:List UInt8) (ws:List (List UInt8)):RunS :=
 ⟨zxc s.w (doneV s.w s.l (zah wd) (ws.map zah)),zxd s.l (doneV s.w s.l (zah wd) (ws.map zah)),s.o++((zmi (doneV s.w s.l (zah wd) (ws.map zah))).data.toList ++ [10])⟩
noncomputable def stepR (s:RunS) (l:List UInt8):RunS:=match z2z l with
 | none=>s
 | some (wd,ws)=>lineR s wd ws
def ydi:Fld:=⟨8,4,List.replicate 32 0⟩
noncomputable def run0:RunS:=⟨zmh ydi,[],[]⟩
noncomputable def runL (ls:List (List UInt8)):RunS:=ls.foldl stepR run0
structure RunOk (n : Nat) (s : RunS) : Prop where
 w:Right s.w
 l:s.l.length≤100
 o:s.o.length≤n*2000000
theorem zsh {a:Ans} (h:z8x a):(zmi a).size≤1999999:=by
 cases a with
 | ok r w l =>
  obtain⟨h1,h2⟩:=z3j h.1.1
  show (okT r).size≤_
  unfold okT
  rw[zaa]
  have:=zz4 ((okB::r.map yd3).map (·.data.toList)) fun x hx=>by
   obtain⟨s,hs,rfl⟩:=List.mem_map.1 hx
   have e:s.data.toList.length=s.size:=by rw[Array.length_toList];rfl
   rw[e]
   rcases List.mem_cons.1 hs with rfl|hs
   ·decide
   ·exact h2 s hs
  have h3:=h.1.2
  rw[List.length_map,List.length_cons,List.length_map]at this
  omega
 | err e =>
  show (zs2 e).size≤_
  unfold zs2
  have h:zdu e:=h
  have:=Lib.itoa_length_le e h.1 h.2
  rw[show (⟨#[101,114,114,111,114,32]⟩:ByteArray)=zah [101,114,114,111,114,32]from rfl,zbe,zaa,List.length_append]
  simp only[List.length_cons,List.length_nil];omega
theorem bsz (s:ByteArray):s.data.toList.length=s.size:=by rw[Array.length_toList];rfl
theorem zsg {n:Nat} {s:RunS} (h:RunOk n s) {wd:List UInt8} {ws:List (List UInt8)} (hw:∀x∈ws,x.length≤65536):z8x (doneV s.w s.l (zah wd) (ws.map zah)) :=
 z7y s.w s.l (zah wd) (ws.map zah) h.w h.l fun x hx=>by
  obtain⟨y,hy,rfl⟩:=List.mem_map.1 hx
  rw[zaa];exact hw y hy
theorem zz2 {n:Nat} {s:RunS} (h:RunOk n s) {wd:List UInt8} {ws:List (List UInt8)} (hw:∀x∈ws,x.length≤65536):RunOk (n+1) (lineR s wd ws):=by
 have A:=zsg h hw (wd:=wd)
 have hT:=zsh A
 refine⟨?_,?_,?_⟩
 ·show Right (zxc s.w _)
  cases hd:doneV s.w s.l (zah wd) (ws.map zah)with
  | ok r w l=>rw[hd]at A;exact A.2.1
  | err e=>exact h.w
 ·show (zxd s.l _).length≤100
  cases hd:doneV s.w s.l (zah wd) (ws.map zah)with
  | ok r w l=>rw[hd]at A;exact A.2.2
  | err e=>exact h.l
 ·show (s.o++((zmi (doneV s.w s.l (zah wd) (ws.map zah))).data.toList ++ [10])).length≤_
  have:=h.o
  rw[List.length_append,List.length_append,bsz]
  simp only[List.length_cons,List.length_nil]
  omega
theorem zgu (s:RunS) (l:List UInt8):(zde l = []∧stepR s l=s)∨(∃wd ws,zde l=wd::ws∧wd.headD 0=35∧stepR s l=s)∨∃wd ws,zde l=wd::ws∧wd.headD 0≠35∧stepR s l=lineR s wd ws:=by
 unfold stepR z2z
 cases h:zde l with
 | nil=>exact .inl ⟨rfl,rfl⟩
 | cons wd ws =>
  by_cases h2:wd.headD 0=35
  ·exact .inr (.inl ⟨wd,ws,rfl,h2,by simp only[if_pos h2]⟩)
  ·exact .inr (.inr ⟨wd,ws,rfl,h2,by simp only[if_neg h2]⟩)
theorem zrd {l wd:List UInt8} {ws:List (List UInt8)} (h:zde l=wd::ws) (hl:l.length≤65536):wd ≠ []∧wd.length≤65536∧(∀x∈ws,x.length≤65536)∧ws.length≤65536:=by
 have h1:=fun x (hx:x∈zde l)=>zpz hx
 have h2:=zp0 l
 rw[h]at h1 h2
 rw[List.length_cons]at h2
 exact⟨(h1 wd (by simp)).1,by have:=(h1 wd (by simp)).2;omega,fun x hx=>by have:=(h1 x (by simp[hx])).2;omega,by omega⟩
theorem z9g {n:Nat} {s:RunS} (h:RunOk n s) {l:List UInt8} (hl:l.length≤65536):RunOk (n+1) (stepR s l):=by
 have h':RunOk (n+1) s:=⟨h.w,h.l,Nat.le_trans h.o (Nat.mul_le_mul_right _ (Nat.le_succ n))⟩
 rcases zgu s l with ⟨_,e⟩|⟨_,_,_,_,e⟩|⟨wd,ws,hw,_,e⟩<;>rw[e]
 ·exact h'
 ·exact h'
 ·exact zz2 h (zrd hw hl).2.2.1
theorem ygs:zbl ydi=0:=by
 have e:ydi=⟨8,4,[0,0,0,0,0,0,0,0,0,0,0,0,0,0,0,0,0,0,0,0,0,0,0,0,0,0,0,0,0,0,0,0]⟩:=rfl
 rw[e];unfold zbl zds zcb
 simp[zal]
theorem z4k:RunOk 0 run0:=⟨zqn ygs,by simp[run0],by simp[run0]⟩
theorem zt8 (ls:List (List UInt8)) (k:Nat) (h:k<ls.length):runL (ls.take (k+1))=stepR (runL (ls.take k)) (ls.getD k default):=by
 unfold runL
 rw[zak ls k h,List.foldl_append];rfl
theorem z4j (ls:List (List UInt8)) (h:∀l∈ls,l.length≤65536):∀k,k≤ls.length→RunOk k (runL (ls.take k))
 | 0,_=>by rw[List.take_zero];exact z4k
 | k+1,hk=>by
  rw[zt8 ls k (by omega)]
  exact z9g (z4j ls h k (by omega)) (h _ (zax ls k (by omega)))
theorem z5o (n:Int) (h1 : -10<n) (h2:n<10):([[.v (.string ⟨#[45,57]⟩)],[.v (.string ⟨#[45,56]⟩)],[.v (.string ⟨#[45,55]⟩)],[.v (.string ⟨#[45,54]⟩)],[.v (.string ⟨#[45,53]⟩)],[.v (.string ⟨#[45,52]⟩)],[.v (.string ⟨#[45,51]⟩)],[.v (.string ⟨#[45,50]⟩)],[.v (.string ⟨#[45,49]⟩)],[.v (.string ⟨#[48]⟩)],[.v (.string ⟨#[49]⟩)],[.v (.string ⟨#[50]⟩)],[.v (.string ⟨#[51]⟩)],[.v (.string ⟨#[52]⟩)],[.v (.string ⟨#[53]⟩)],[.v (.string ⟨#[54]⟩)],[.v (.string ⟨#[55]⟩)],[.v (.string ⟨#[56]⟩)],[.v (.string ⟨#[57]⟩)]]:List (List PV)).getD (n+9).toNat [] = [.v (.string (zah (Lib.itoa n)))]:=by
 have e:Lib.itoa n=if n<0 then [45,UInt8.ofNat (48+n.natAbs)]else [UInt8.ofNat (48+n.toNat)]:=by
  unfold Lib.itoa
  split
  ·rw[Lib.decDigits_one (by omega)]
  ·rw[Lib.decDigits_one (by omega)]
 rw[e]
 have:n = -9∨n = -8∨n = -7∨n = -6∨n = -5∨n = -4∨n = -3∨n = -2∨n = -1∨n=0∨n=1∨n=2∨n=3∨n=4∨n=5∨n=6∨n=7∨n=8∨n=9:=by omega
 rcases this with rfl|rfl|rfl|rfl|rfl|rfl|rfl|rfl|rfl|rfl|rfl|rfl|rfl|rfl|rfl|rfl|rfl|rfl|rfl<;>rfl
theorem zz7 (n:Int) (h:¬(-10<n∧n<10)):Lib.itoa n=Lib.itoa (n.tdiv 10) ++ [UInt8.ofNat (48+(max (n.tmod 10) (-(n.tmod 10))).toNat)]∧(n.tdiv 10).natAbs<n.natAbs∧(n.tdiv 10).natAbs*10≤n.natAbs ∧ -10<n.tmod 10∧n.tmod 10<10:=by
 have big:∀u:Nat,10≤u→Lib.decDigits u=Lib.decDigits (u/10) ++ [UInt8.ofNat (48+u % 10)]:=fun u hu=>by
  conv=>lhs;rw[Lib.decDigits,dif_neg (by omega)]
 by_cases hn:0≤n
 ·obtain⟨u,rfl⟩:∃u:Nat,n=u:=⟨n.toNat,by omega⟩
  have hq:((u:Int)).tdiv 10=((u/10:Nat):Int):=rfl
  have hr:((u:Int)).tmod 10=((u % 10:Nat):Int):=rfl
  rw[hq,hr,Lib.itoa_nonneg,Lib.itoa_nonneg,big u (by omega)]
  refine⟨?_,by omega,by omega,by omega,by omega⟩
  rw[show (max (((u % 10:Nat):Int)) (-((u % 10:Nat):Int))).toNat=u % 10 from by omega]
 ·obtain⟨u,rfl⟩:∃u:Nat,n = -(u:Int):=⟨n.natAbs,by omega⟩
  have hq:(-(u:Int)).tdiv 10 = -((u/10:Nat):Int):=by rw[Int.neg_tdiv];rfl
  have hr:(-(u:Int)).tmod 10 = -((u % 10:Nat):Int):=by rw[Int.neg_tmod];rfl
  rw[hq,hr,Lib.itoa_neg u (by omega),Lib.itoa_neg (u/10) (by omega),big u (by omega)]
  refine⟨?_,by omega,by omega,by omega,by omega⟩
  rw[show (max (-((u % 10:Nat):Int)) (- -((u % 10:Nat):Int))).toNat=u % 10 from by omega];rfl
theorem yby (d:Nat) (h:d<10):(⟨#[48,49,50,51,52,53,54,55,56,57]⟩:ByteArray).extract d (d+1)=zah [UInt8.ofNat (48+d)]:=by
 have:d=0∨d=1∨d=2∨d=3∨d=4∨d=5∨d=6∨d=7∨d=8∨d=9:=by omega
 rcases this with rfl|rfl|rfl|rfl|rfl|rfl|rfl|rfl|rfl|rfl<;>rfl
theorem yiw:∀(m:Nat) (n:Int),n.natAbs≤m→zdu n→Spec Tryz.prog 32 [I .i64 n] [] (S (zah (Lib.itoa n))) []
 | m,n,hm,hn=>by
  by_cases hs : -10<n∧n<10
  ·have ns:=z5o n hs.1 hs.2
   refine spB Tryz.func32 32 [.tmp 2] Tryz.results32 ?_
   try refine xz1 ns ?_
   refine cI (fun h1=>?_) fun h1=>?_
   ·try refine xz1 ns ?_
    exact xrz rfl
   ·omega
  ·obtain⟨b1,b2,b3,b4,b5⟩:=zz7 n hs
   have ih:Spec Tryz.prog 32 [I .i64 (n.tdiv 10)] [] (S (zah (Lib.itoa (n.tdiv 10)))) []:=by
    cases m with
    | zero=>omega
    | succ m=>exact yiw m _ (by omega) ⟨by omega,by omega⟩
   have hx:(if 0-n.tmod 10>n.tmod 10 then 0-n.tmod 10 else n.tmod 10)=max (n.tmod 10) (-(n.tmod 10)):=by omega
   have hm0:0≤max (n.tmod 10) (-(n.tmod 10))∧max (n.tmod 10) (-(n.tmod 10))<10:=by omega
   have tn:(max (n.tmod 10) (-(n.tmod 10))+1).toNat=(max (n.tmod 10) (-(n.tmod 10))).toNat+1:=by omega
   have hd:=yby (max (n.tmod 10) (-(n.tmod 10))).toNat (by omega)
   have tA:=zbe (Lib.itoa (n.tdiv 10)) [UInt8.ofNat (48+(max (n.tmod 10) (-(n.tmod 10))).toNat)]
   rw[←b1]at tA
   have hil:=Lib.itoa_length_le (n.tdiv 10) (by omega) (by omega)
   have t1:=zaa (Lib.itoa (n.tdiv 10))
   have t2:(zah [UInt8.ofNat (48+(max (n.tmod 10) (-(n.tmod 10))).toNat)]).size=1:=zaa _
   have szD:(⟨#[48,49,50,51,52,53,54,55,56,57]⟩:ByteArray).size=10:=rfl
   generalize hq:n.tdiv 10=q at *
   generalize hr:n.tmod 10=r at *
   generalize hz:max r (-r)=z at *
   refine spB Tryz.func32 32 [.tmp 2] Tryz.results32 ?_
   try refine xz9 hq hr hx tn hd tA t1 t2 szD ?_
   refine cI (fun h1=>?_) fun h1=>?_
   ·omega
   ·try refine xz9 hq hr hx tn hd tA t1 t2 szD ?_
    refine caP (ih) ?_
    try refine xz9 hq hr hx tn hd tA t1 t2 szD ?_
    try refine xz9 hq hr hx tn hd tA t1 t2 szD ?_
    (try(refine⟨by kernel_rfl,?_⟩))
    try refine xz9 hq hr hx tn hd tA t1 t2 szD ?_
    exact xrz rfl
theorem zmg (n:Int) (h:zdu n):Spec Tryz.prog 32 [I .i64 n] [] (S (zah (Lib.itoa n))) []:=yiw n.natAbs n (Nat.le_refl _) h
def dgt (c:UInt8):Prop:=48≤c.toNat∧c.toNat≤57
def zfk (acc:Nat) (l:List UInt8):Nat:=l.foldl (fun a c=>a*10+(c.toNat-48)) acc
theorem zqz (l:List UInt8) (c:UInt8):zfk 0 (l ++ [c])=zfk 0 l*10+(c.toNat-48):=by unfold zfk;rw[List.foldl_append];rfl
theorem zui {a b:Nat} (h:a≤b):10 ^ a≤10 ^ b:=Nat.pow_le_pow_right (by decide) h
theorem zm7:∀(l:List UInt8) (acc j:Nat),acc<10 ^ j→(∀c∈l,dgt c)→zfk acc l<10 ^ (j+l.length)
 | [],acc,j,h,_=>h
 | c::r,acc,j,h,hd=>by
  have hc:=hd c (by simp)
  unfold dgt at hc
  have:=zm7 r (acc*10+(c.toNat-48)) (j+1) (by rw[Nat.pow_succ];omega) fun z hz=>hd z (by simp[hz])
  rw[List.length_cons,show j+(r.length+1)=j+1+r.length from by omega];exact this
theorem zun:∀(l:List UInt8) (acc j:Nat),acc<10 ^ j→j+l.length≤9→(∀c∈l,dgt c)→Lib.parseUintM (2 ^ 32-1) acc l = .ok (zfk acc l)
 | [],acc,j,_,_,_=>rfl
 | c::r,acc,j,h,hj,hd=>by
  have hc:=hd c (by simp)
  unfold dgt at hc
  simp only[List.length_cons]at hj
  have p1:=zui (a:=j) (b:=8) (by omega)
  unfold Lib.parseUintM
  rw[if_pos hc,if_neg (by omega),if_neg (by omega)]
  exact zun r _ (j+1) (by rw[Nat.pow_succ];omega) (by omega) fun z hz=>hd z (by simp[hz])
theorem zum:∀(l:List UInt8) (acc j:Nat),acc<10 ^ j→j+l.length≤9→¬(∀c∈l,dgt c)→Lib.parseUintM (2 ^ 32-1) acc l=Lib.NumEnd.syntax
 | [],acc,j,_,_,h=>absurd (fun c hc=>by simp at hc) h
 | c::r,acc,j,h,hj,hd=>by
  simp only[List.length_cons]at hj
  have p1:=zui (a:=j) (b:=8) (by omega)
  unfold Lib.parseUintM
  by_cases hc:48≤c.toNat∧c.toNat≤57
  ·rw[if_pos hc,if_neg (by omega),if_neg (by omega)]
   exact zum r _ (j+1) (by rw[Nat.pow_succ];omega) (by omega) fun ha=>hd fun z hz=>by
    rcases List.mem_cons.1 hz with rfl|hz
    ·exact hc
    ·exact ha z hz
  ·rw[if_neg hc]
theorem zzh {s:ByteArray} (h:¬(1≤s.size∧s.size≤9)):zjp s=none:=by
 have hsl:s.data.toList.length=s.size:=by rw[Array.length_toList];rfl
 unfold zjp
 by_cases h0:s.size=0
 ·have e:s.data.toList = []:=List.eq_nil_of_length_eq_zero (by omega)
  rw[e];rfl
 ·split
  ·rw[if_neg (by omega)]
  ·rfl
theorem zzg {s:ByteArray} (h:s.size≤9) (hd:¬ ∀c∈s.data.toList,dgt c):zjp s=none:=by
 have hsl:s.data.toList.length=s.size:=by rw[Array.length_toList];rfl
 have hp:Lib.parseUintB 32 s.data.toList=Lib.NumEnd.syntax:=by
  unfold Lib.parseUintB
  split
  ·rfl
  ·exact zum _ 0 0 (by decide) (by omega) hd
 unfold zjp;rw[hp]
theorem zzi {s:ByteArray} (h:1≤s.size∧s.size≤9) (hd:∀c∈s.data.toList,dgt c):zjp s=if zah (Lib.itoa ((zfk 0 s.data.toList:Nat):Int))=s then some (zfk 0 s.data.toList)else none:=by
 have hsl:s.data.toList.length=s.size:=by rw[Array.length_toList];rfl
 have hp:Lib.parseUintB 32 s.data.toList = .ok (zfk 0 s.data.toList):=by
  unfold Lib.parseUintB
  rw[if_neg (fun e=>by rw[e]at hsl;simp at hsl;omega)]
  exact zun _ 0 0 (by decide) (by omega) hd
 unfold zjp;rw[hp,Lib.itoa_nonneg]
 show (if s.size≤9∧zah (Lib.decDigits (zfk 0 s.data.toList))=s then some (zfk 0 s.data.toList)else none)=_
 by_cases e:zah (Lib.decDigits (zfk 0 s.data.toList))=s
 ·rw[if_pos ⟨h.2,e⟩,if_pos e]
 ·rw[if_neg (fun x=>e x.2),if_neg e]
theorem zwz (s:ByteArray) (hs:s.size≤1048576) (h:¬(1≤s.size∧s.size≤9)):Spec Tryz.prog 59 [S s] [] (.tup [I .i64 0,B false]) []:=by
 have hw:zal s.size 1 9=false:=within_f.2 (fun x=>h ⟨by omega,by omega⟩)
 have hb:=zat s.size 1 9
 rw[hw]at hb
 refine spB Tryz.func59 35 [.tmp 2,.tmp 3] Tryz.results59 ?_
 try refine xst ?_
 refine caP (hb) ?_
 try refine xst ?_
 refine cI (fun h1=>?_) fun h1=>?_
 ·try refine xst ?_
  exact xrz rfl
 ·exact absurd h1 (by simp)
theorem zwy (s:ByteArray) (h:1≤s.size∧s.size≤9) (hd:¬ ∀c∈s.data.toList,dgt c):Spec Tryz.prog 59 [S s] [] (.tup [I .i64 0,B false]) []:=by
 have hw:zal s.size 1 9=true:=within_iff.2 ⟨by omega,by omega⟩
 have hb:=zat s.size 1 9
 rw[hw]at hb
 have hsl:s.data.toList.length=s.size:=by rw[Array.length_toList];rfl
 refine spB Tryz.func59 35 [.tmp 2,.tmp 3] Tryz.results59 ?_
 try refine xst ?_
 refine caP (hb) ?_
 try refine xst ?_
 refine cI (fun h1=>?_) fun h1=>?_
 ·exact absurd h1 (by simp)
 ·try refine xst ?_
  refine zay (fun k:Nat=>⟨[(12,I .i64 k),(11,I .i64 s.size),(4,I .i64 (zfk 0 (s.data.toList.take k):Nat)),(0,S s)],[],0⟩) (fun k:Nat=>k≤s.size∧∀c∈s.data.toList.take k,dgt c) (fun k:Nat=>s.size-k) (0) (⟨Nat.zero_le _,fun c hc=>by simp at hc⟩) (To.mk [] rfl rfl List.nodup_nil trivial ?_) ?_
  ·simp(etaStruct := .none)only[push_cast,zad,seval,List.take_zero]
   exact Wk.of rfl
  rintro k ⟨hk,hg⟩
  try refine xst ?_
  refine cI (fun h2=>?_) fun h2=>?_
  ·have hlt:k<s.data.toList.length:=by omega
   have sn:s.data.toList.take (k+1)=s.data.toList.take k ++ [s.data.toList.getD k 0]:=zak s.data.toList k hlt
   have fs:=zqz (s.data.toList.take k) (s.data.toList.getD k 0)
   rw[←sn]at fs
   have fl:=Nat.lt_of_lt_of_le (zm7 (s.data.toList.take k) 0 0 (by decide) hg) (zui (a:=0+(s.data.toList.take k).length) (b:=9) (by rw[List.length_take];omega))
   have hx:(s.data.toList.getD k 0).toNat<256:=UInt8.toNat_lt _
   try refine xst ?_
   refine caP (zat ((s.data.toList.getD k 0).toNat:Nat) 48 57) ?_
   try refine xst ?_
   refine cI (fun h3=>?_) fun h3=>?_
   ·try refine xst ?_
    exact xrz rfl
   ·have hc:dgt (s.data.toList.getD k 0):=by rw[within_iff]at h3;unfold dgt;omega
    have hc':=hc
    unfold dgt at hc'
    have f2:10*((zfk 0 (s.data.toList.take k):Nat):Int)+((s.data.toList.getD k 0).toNat:Nat)-48=((zfk 0 (s.data.toList.take (k+1)):Nat):Int):=by omega
    try refine xz1 f2 ?_
    refine⟨k+1,⟨by omega,fun c hc2=>by rw[sn]at hc2;rcases List.mem_append.1 hc2 with hz|hz;exact hg c hz;rw[List.mem_singleton.1 hz];exact hc⟩,by omega,To.mk [] rfl rfl List.nodup_nil trivial ?_⟩
    ·(try(refine xz1 f2 ?_;try exact xtI))
  ·exact absurd (fun c hc=>hg c (by rw[List.take_of_length_le (by omega)];exact hc)) hd
theorem zw0 (s:ByteArray) (h:1≤s.size∧s.size≤9) (hd:∀c∈s.data.toList,dgt c):Spec Tryz.prog 59 [S s] [] (.tup [I .i64 (zfk 0 s.data.toList:Nat),B (decide (zah (Lib.itoa ((zfk 0 s.data.toList:Nat):Int))=s))]) []:=by
 have hw:zal s.size 1 9=true:=within_iff.2 ⟨by omega,by omega⟩
 have hb:=zat s.size 1 9
 rw[hw]at hb
 have hsl:s.data.toList.length=s.size:=by rw[Array.length_toList];rfl
 have hf:=Nat.lt_of_lt_of_le (zm7 s.data.toList 0 0 (by decide) hd) (zui (b:=9) (by omega))
 refine spB Tryz.func59 35 [.tmp 2,.tmp 3] Tryz.results59 ?_
 try refine xst ?_
 refine caP (hb) ?_
 try refine xst ?_
 refine cI (fun h1=>?_) fun h1=>?_
 ·exact absurd h1 (by simp)
 ·try refine xst ?_
  refine zay (fun k:Nat=>⟨[(12,I .i64 k),(11,I .i64 s.size),(4,I .i64 (zfk 0 (s.data.toList.take k):Nat)),(0,S s)],[],0⟩) (fun k:Nat=>k≤s.size) (fun k:Nat=>s.size-k) (0) (Nat.zero_le _) (To.mk [] rfl rfl List.nodup_nil trivial ?_) ?_
  ·simp(etaStruct := .none)only[push_cast,zad,seval,List.take_zero]
   exact Wk.of rfl
  rintro k hk
  try refine xst ?_
  refine cI (fun h2=>?_) fun h2=>?_
  ·have hlt:k<s.data.toList.length:=by omega
   have sn:s.data.toList.take (k+1)=s.data.toList.take k ++ [s.data.toList.getD k 0]:=zak s.data.toList k hlt
   have fs:=zqz (s.data.toList.take k) (s.data.toList.getD k 0)
   rw[←sn]at fs
   have fl:=Nat.lt_of_lt_of_le (zm7 (s.data.toList.take k) 0 0 (by decide) (fun c hc=>hd c (List.mem_of_mem_take hc))) (zui (a:=0+(s.data.toList.take k).length) (b:=9) (by rw[List.length_take];omega))
   have hx:(s.data.toList.getD k 0).toNat<256:=UInt8.toNat_lt _
   have hc':dgt (s.data.toList.getD k 0):=hd _ (zax s.data.toList k hlt)
   unfold dgt at hc'
   have f2:10*((zfk 0 (s.data.toList.take k):Nat):Int)+((s.data.toList.getD k 0).toNat:Nat)-48=((zfk 0 (s.data.toList.take (k+1)):Nat):Int):=by omega
   try refine xz1 f2 ?_
   refine caP (zat ((s.data.toList.getD k 0).toNat:Nat) 48 57) ?_
   try refine xz1 f2 ?_
   refine cI (fun h3=>?_) fun h3=>?_
   ·rw[within_f]at h3;omega
   ·try refine xz1 f2 ?_
    refine⟨k+1,by omega,by omega,To.mk [] rfl rfl List.nodup_nil trivial ?_⟩
    ·(try(refine xz1 f2 ?_;try exact xtI))
  ·obtain rfl:k=s.size:=by omega
   rw[List.take_of_length_le (by omega)]
   try refine xst ?_
   refine caP (zmg (zfk 0 s.data.toList:Nat) ⟨by omega,by omega⟩) ?_
   try refine xst ?_
   exact xrz rfl
theorem z40 (s:ByteArray) (hs:s.size≤1048576):∃x:Int,Spec Tryz.prog 59 [S s] [] (.tup [I .i64 x,B (decide (zjp s≠none))]) []∧∀u,zjp s=some u→x=u:=by
 by_cases h:1≤s.size∧s.size≤9
 ·by_cases hd:∀c∈s.data.toList,dgt c
  ·refine⟨((zfk 0 s.data.toList:Nat):Int),?_,fun u hu=>?_⟩
   ·have R:=zw0 s h hd
    have e:decide (zah (Lib.itoa ((zfk 0 s.data.toList:Nat):Int))=s)=decide (zjp s≠none):=by
     rw[zzi h hd]
     by_cases e:zah (Lib.itoa ((zfk 0 s.data.toList:Nat):Int))=s
     ·rw[if_pos e,decide_eq_true e,decide_eq_true (by simp)]
     ·rw[if_neg e,decide_eq_false e,decide_eq_false (by simp)]
    rw[e]at R;exact R
   ·rw[zzi h hd]at hu
    split at hu
    ·cases hu;rfl
    ·cases hu
  ·refine⟨0,?_,fun u hu=>by rw[zzg h.2 hd]at hu;cases hu⟩
   have R:=zwy s h hd
   rw[show decide (zjp s≠none)=false from decide_eq_false (by rw[zzg h.2 hd];simp)];exact R
 ·refine⟨0,?_,fun u hu=>by rw[zzh h]at hu;cases hu⟩
  have R:=zwz s hs h
  rw[show decide (zjp s≠none)=false from decide_eq_false (by rw[zzh h];simp)];exact R
theorem zsk (s:List UInt8) (l:List (List UInt8)) (x:List UInt8):Lib.joinTail s (l ++ [x])=Lib.joinTail s l++(s++x):=by
 unfold Lib.joinTail
 simp
theorem z14 (ns:List Int) (k:Nat) (h:k<ns.length):zdb (ns.take (k+1))=if k=0 then Lib.itoa (ns.getD k default)else zdb (ns.take k)++([44]++Lib.itoa (ns.getD k default)):=by
 rw[zak ns k h]
 unfold zdb
 rw[List.map_append,List.map_cons,List.map_nil]
 by_cases hk:k=0
 ·subst hk
  rw[if_pos rfl,List.take_zero,List.map_nil,List.nil_append,Lib.join_cons]
  simp[Lib.joinTail]
 ·rw[if_neg hk]
  obtain⟨y,r,hy⟩:∃y r,ns.take k=y::r:=by
   match h2:ns.take k with
   | []=>have:=congrArg List.length h2;rw[List.length_take,List.length_nil]at this;omega
   | y::r=>exact⟨y,r,rfl⟩
  rw[hy,List.map_cons,List.cons_append,Lib.join_cons,Lib.join_cons,zsk,List.append_assoc]
theorem zjb (e:Int) (h:zdu e):Spec Tryz.prog 25 [I .i64 e] [] (S (zs2 e)) []:=by
 have hb:=Lib.itoa_length_le e h.1 h.2
 have hs:=zaa (Lib.itoa e)
 have hz:(⟨#[101,114,114,111,114,32]⟩:ByteArray).size=6:=rfl
 refine spB Tryz.func25 6 [.tmp 2] Tryz.results25 ?_
 try refine xst ?_
 refine caP (zmg e h) ?_
 try refine xst ?_
 exact zcw yjy rfl
theorem yc1 (ns:List Int) (h:∀n∈ns,zdu n) (hl:ns.length≤1000):Spec Tryz.prog 72 [S ⟨#[44]⟩,.c (.sl 1 (ns.map zao))] [] (S (zah (zdb ns))) []:=by
 have hb:∀k,(zdb (ns.take k)).length≤22000:=fun k=>by
  have:=zg5 (ns.take k) fun n hn=>h n (List.mem_of_mem_take hn)
  rw[List.length_take]at this
  have:=Nat.min_le_right k ns.length
  omega
 refine spB Tryz.func72 26 [.tmp 4] Tryz.results72 ?_
 try refine xst ?_
 refine zay (fun k:Nat=>⟨[(10,I .i64 k),(9,I .i64 ns.length),(8,.c (.sl 1 (ns.map zao))),(5,S (zah (zdb (ns.take k)))),(0,S ⟨#[44]⟩)],[],0⟩) (fun k:Nat=>k≤ns.length) (fun k:Nat=>ns.length-k) (0) (Nat.zero_le _) (To.mk [] rfl rfl List.nodup_nil trivial ?_) ?_
 ·simp(etaStruct := .none)only[push_cast,zad,seval]
  exact Wk.refl _
 rintro k hk
 try refine xst ?_
 refine cI (fun h1=>?_) fun h1=>?_
 ·have hlt:k<ns.length:=by omega
  have hz:(⟨#[44]⟩:ByteArray).size=1:=rfl
  have s3:=zaa (zdb (ns.take k) ++ [44])
  have sn:=z14 ns k hlt
  have hbk:=hb k
  have hbi:=Lib.itoa_length_le _ (h _ (zax ns k hlt)).1 (h _ (zax ns k hlt)).2
  have s1:=zaa (zdb (ns.take k))
  have s2:=zaa (Lib.itoa (ns.getD k default))
  try refine xz2 (gd hlt) zab ?_
  refine cI (fun h2=>?_) fun h2=>?_
  ·have eq:zah (zdb (ns.take k))++⟨#[44]⟩++zah (Lib.itoa (ns.getD k default))=zah (zdb (ns.take (k+1))):=by
    rw[show (⟨#[44]⟩:ByteArray)=zah [44]from rfl,zbe,zbe,sn,if_neg (by omega),List.append_assoc]
   have eq2:zdb (ns.take k)++44::Lib.itoa (ns.getD k default)=zdb (ns.take (k+1)):=by rw[sn,if_neg (by omega)];rfl
   iterate 2(try simp(etaStruct := .none)only[push_cast,zad,seval,zae _ _ _ hlt,zao,show (⟨#[44]⟩:ByteArray)=zah [44]from rfl,zbe,zaa,List.length_append,List.length_cons,List.length_nil];try refine xsu ?_)
   refine caP (zmg _ (h _ (zax ns k hlt))) ?_
   iterate 2(try simp(etaStruct := .none)only[push_cast,zad,seval,zae _ _ _ hlt,zao,show (⟨#[44]⟩:ByteArray)=zah [44]from rfl,zbe,zaa,List.length_append,List.length_cons,List.length_nil];try refine xsu ?_)
   refine⟨k+1,by omega,by omega,To.mk [] rfl rfl List.nodup_nil trivial ?_⟩
   ·(iterate 2((try simp(etaStruct := .none)only[push_cast,zad,seval,zbe,List.append_assoc,List.cons_append,List.nil_append,eq2]);(try(refine xsu ?_;try exact xtI))))
  ·have hk0:k=0:=by omega
   have eq:zah (zdb (ns.take k))++zah (Lib.itoa (ns.getD k default))=zah (zdb (ns.take (k+1))):=by
    rw[zbe,sn,if_pos hk0,hk0];rfl
   try refine xz2 (gd hlt) zab ?_
   refine caP (zmg _ (h _ (zax ns k hlt))) ?_
   try refine xz2 (gd hlt) zab ?_
   refine⟨k+1,by omega,by omega,To.mk [] rfl rfl List.nodup_nil trivial ?_⟩
   ·(try(refine xz1 eq ?_;try exact xtI))
 ·obtain rfl:k=ns.length:=by omega
  rw[List.take_length]
  try refine xst ?_
  exact xrz rfl
abbrev ykt (w:Wld) (l:List Ord):AV := .agg (zhe w ++ [.c (.sl 6 (l.map zga))])
def zpq (f:Fld) (k:Nat):List Int:=(f.p.take k).map fun p=>if p=3 then 10 else 0
theorem z1x (f:Fld) (k:Nat) (h:k<f.p.length):zpq f (k+1)=zpq f k ++ [if f.p.getD k default=3 then 10 else 0]:=by
 unfold zpq
 rw[zak f.p k h,List.map_append];rfl
theorem z57 (f:Fld) (k:Nat) (h:k≤f.p.length):(zpq f k).length=k:=by
 unfold zpq;rw[List.length_map,List.length_take];omega
def wg0 (wd:ByteArray):Bool:=decide (wd=z08)||decide (wd=zhn)||decide (wd=z86)
def wg1 (wd:ByteArray):Bool:=decide (wd=zi8)||decide (wd=znh)
def wg2 (wd:ByteArray):Bool:=decide (wd=zwi)||decide (wd=ztp)
def wg3 (wd:ByteArray):Bool:=decide (wd=ztq)||decide (wd=z87)
def wg4 (wd:ByteArray):Bool:=decide (wd=zl6)||decide (wd=wGo)||decide (wd=zto)||decide (wd=z8y)
def zxy (wd:ByteArray):Int:=if wg0 wd then 0 else if wg1 wd then 1 else if wg2 wd then 2 else if wg3 wd then 3 else if wg4 wd then 4 else if wd=zfa then -2 else -1
theorem yg2 (wd:ByteArray):Spec Tryz.prog 58 [S wd] [] (I .i64 (zxy wd)) []:=by
 generalize hc:zxy wd=c
 unfold zxy at hc
 refine spB Tryz.func58 24 [.tmp 2] Tryz.results58 ?_
 try refine xst ?_
 refine zf1 (fun _u:Unit=>⟨[(3,S wd),(4,B (wg0 wd))],[],0⟩) (fun _u:Unit=>Tr) (fun h1=>?_) (fun h1=>?_) ?_
 ·(try replace h1:=xhh h1)
  try refine xst ?_
  have e:wg0 wd=true:=by simp[wg0,h1]
  have e2:=eq_true h1
  refine⟨(),trI,To.mk [] rfl rfl List.nodup_nil trivial ?_⟩
  ·(try(refine xz2 e e2 ?_;try exact xtI))
 ·(try replace h1:=xhh h1)
  try refine xst ?_
  refine cI (fun h2=>?_) fun h2=>?_
  ·try refine xst ?_
   have e:wg0 wd=true:=by simp[wg0,h2]
   have e2:=eq_true h2
   refine⟨(),trI,To.mk [] rfl rfl List.nodup_nil trivial ?_⟩
   ·(try(refine xz2 e e2 ?_;try exact xtI))
  ·try refine xst ?_
   have e:wg0 wd=decide (wd=z86):=by simp[wg0,h1,h2]
   have e2:=trivial
   refine⟨(),trI,To.mk [] rfl rfl List.nodup_nil trivial ?_⟩
   ·(try(refine xz2 e e2 ?_;try exact xtI))
 ·rintro _ _
  try refine xst ?_
  refine cI (fun h3=>?_) fun h3=>?_
  ·rw[if_pos h3]at hc;subst hc
   try refine xst ?_
   exact xrz rfl
  ·rw[if_neg (by simp[h3])]at hc
   try refine xst ?_
   refine zf1 (fun _u:Unit=>⟨[(3,S wd),(8,B (wg1 wd))],[],0⟩) (fun _u:Unit=>Tr) (fun h4=>?_) (fun h4=>?_) ?_
   ·(try replace h4:=xhh h4)
    try refine xst ?_
    have e:wg1 wd=true:=by simp[wg1,h4]
    have e2:=eq_true h4
    refine⟨(),trI,To.mk [] rfl rfl List.nodup_nil trivial ?_⟩
    ·(try(refine xz2 e e2 ?_;try exact xtI))
   ·(try replace h4:=xhh h4)
    try refine xst ?_
    have e:wg1 wd=decide (wd=znh):=by simp[wg1,h4]
    have e2:=trivial
    refine⟨(),trI,To.mk [] rfl rfl List.nodup_nil trivial ?_⟩
    ·(try(refine xz2 e e2 ?_;try exact xtI))
   ·rintro _ _
    try refine xst ?_
    refine cI (fun h5=>?_) fun h5=>?_
    ·rw[if_pos h5]at hc;subst hc
     try refine xst ?_
     exact xrz rfl
    ·rw[if_neg (by simp[h5])]at hc
     try refine xst ?_
     refine zf1 (fun _u:Unit=>⟨[(3,S wd),(11,B (wg2 wd))],[],0⟩) (fun _u:Unit=>Tr) (fun h6=>?_) (fun h6=>?_) ?_
     ·(try replace h6:=xhh h6)
      try refine xst ?_
      have e:wg2 wd=true:=by simp[wg2,h6]
      have e2:=eq_true h6
      refine⟨(),trI,To.mk [] rfl rfl List.nodup_nil trivial ?_⟩
      ·(try(refine xz2 e e2 ?_;try exact xtI))
     ·(try replace h6:=xhh h6)
      try refine xst ?_
      have e:wg2 wd=decide (wd=ztp):=by simp[wg2,h6]
      have e2:=trivial
      refine⟨(),trI,To.mk [] rfl rfl List.nodup_nil trivial ?_⟩
      ·(try(refine xz2 e e2 ?_;try exact xtI))
     ·rintro _ _
      try refine xst ?_
      refine cI (fun h7=>?_) fun h7=>?_
      ·rw[if_pos h7]at hc;subst hc
       try refine xst ?_
       exact xrz rfl
      ·rw[if_neg (by simp[h7])]at hc
       try refine xst ?_
       refine zf1 (fun _u:Unit=>⟨[(3,S wd),(14,B (wg3 wd))],[],0⟩) (fun _u:Unit=>Tr) (fun h8=>?_) (fun h8=>?_) ?_
       ·(try replace h8:=xhh h8)
        try refine xst ?_
        have e:wg3 wd=true:=by simp[wg3,h8]
        have e2:=eq_true h8
        refine⟨(),trI,To.mk [] rfl rfl List.nodup_nil trivial ?_⟩
        ·(try(refine xz2 e e2 ?_;try exact xtI))
       ·(try replace h8:=xhh h8)
        try refine xst ?_
        have e:wg3 wd=decide (wd=z87):=by simp[wg3,h8]
        have e2:=trivial
        refine⟨(),trI,To.mk [] rfl rfl List.nodup_nil trivial ?_⟩
        ·(try(refine xz2 e e2 ?_;try exact xtI))
       ·rintro _ _
        try refine xst ?_
        refine cI (fun h9=>?_) fun h9=>?_
        ·rw[if_pos h9]at hc;subst hc
         try refine xst ?_
         exact xrz rfl
        ·rw[if_neg (by simp[h9])]at hc
         try refine xst ?_
         refine zf1 (fun _u:Unit=>⟨[(3,S wd),(17,B (wg4 wd))],[],0⟩) (fun _u:Unit=>Tr) (fun h10=>?_) (fun h10=>?_) ?_
         ·(try replace h10:=xhh h10)
          try refine xst ?_
          have e:wg4 wd=true:=by simp[wg4,h10]
          have e2:=eq_true h10
          refine⟨(),trI,To.mk [] rfl rfl List.nodup_nil trivial ?_⟩
          ·(try(refine xz2 e e2 ?_;try exact xtI))
         ·(try replace h10:=xhh h10)
          try refine xst ?_
          refine cI (fun h11=>?_) fun h11=>?_
          ·try refine xst ?_
           have e:wg4 wd=true:=by simp[wg4,h11]
           have e2:=eq_true h11
           refine⟨(),trI,To.mk [] rfl rfl List.nodup_nil trivial ?_⟩
           ·(try(refine xz2 e e2 ?_;try exact xtI))
          ·try refine xst ?_
           refine cI (fun h12=>?_) fun h12=>?_
           ·try refine xst ?_
            have e:wg4 wd=true:=by simp[wg4,h12]
            have e2:=eq_true h12
            refine⟨(),trI,To.mk [] rfl rfl List.nodup_nil trivial ?_⟩
            ·(try(refine xz2 e e2 ?_;try exact xtI))
           ·try refine xst ?_
            have e:wg4 wd=decide (wd=z8y):=by simp[wg4,h10,h11,h12]
            have e2:=trivial
            refine⟨(),trI,To.mk [] rfl rfl List.nodup_nil trivial ?_⟩
            ·(try(refine xz2 e e2 ?_;try exact xtI))
         ·rintro _ _
          try refine xst ?_
          refine cI (fun h13=>?_) fun h13=>?_
          ·rw[if_pos h13]at hc;subst hc
           try refine xst ?_
           exact xrz rfl
          ·rw[if_neg (by simp[h13])]at hc
           try refine xst ?_
           refine cI (fun h14=>?_) fun h14=>?_
           ·rw[if_pos h14]at hc;subst hc
            try refine xst ?_
            exact xrz rfl
           ·rw[if_neg h14]at hc;subst hc
            try refine xst ?_
            exact xrz rfl
theorem yj4 (l:List UInt8) (h:l ≠ []):Lib.cut l [10]=(za0 l,zcx l,decide ((10:UInt8)∈l)):=by
 unfold Lib.cut
 rw[Lib.index_one]
 by_cases hm:(10:UInt8)∈l
 ·obtain⟨h1,h2,_⟩:=zlr l (List.count_pos_iff.2 hm)
  have h3:0≤Lib.indexByte l 10:=by rw[h1];omega
  rw[if_pos h3,h1]
  have e1:l.take (za0 l).length=za0 l:=(congrArg (List.take (za0 l).length) h2).trans (List.take_left' rfl)
  have e2:l.drop ((za0 l).length+1)=zcx l:=(congrArg (List.drop ((za0 l).length+1)) h2).trans (by rw[List.drop_length_add_append];rfl)
  rw[Int.toNat_natCast,e1,show ([10]:List UInt8).length=1 from rfl,e2,decide_eq_true hm]
 ·have h1:¬0≤Lib.indexByte l 10:=fun h0=>hm (by
   obtain⟨h2,_⟩:=Lib.indexByte_some (l:=l) (c:=10) (o:=(Lib.indexByte l 10).toNat) (by omega)
   exact List.mem_of_getElem? h2)
  obtain⟨h2,h3⟩:=zls l hm
  rw[if_neg h1,h2,h3,decide_eq_false hm]
theorem ynr (l:List UInt8) (hl:l.length≤1048576) (h:l ≠ []):Spec Tryz.prog 20 [S (zah l),S ⟨#[10]⟩] [] (.tup [S (zah (za0 l)),S (zah (zcx l)),B (decide ((10:UInt8)∈l))]) [] :=
 zdp (zdi rfl rfl rfl) fun w F β vs g _ hv=>by
  simp only[RelL,RelA,RelP]at hv
  obtain⟨_,_,rfl,⟨rfl,_⟩,_,_,rfl,⟨rfl,_⟩,rfl⟩:=hv
  obtain⟨m,hm⟩:=z7e g
  refine(Tryz.strings_Cut (zah l) ⟨#[10]⟩ m w (by rw[zaa];omega) hm).mono ?_
  rintro e w' ⟨rfl,n,rfl⟩
  have e1:Lib.cut (zah l).data.toList (⟨#[10]⟩:ByteArray).data.toList=(za0 l,zcx l,decide ((10:UInt8)∈l)):=by
   rw[zbo];exact yj4 l h
  rw[e1]
  refine⟨_,rfl,⟨rfl,rfl,rfl,Nat.le_refl _,fun _ _=>rfl⟩,fun U F' β'=>?_⟩
  simp only[RelA,RelL]
  exact⟨_,rfl,_,_,rfl,⟨rfl,rfl⟩,_,_,rfl,⟨rfl,rfl⟩,_,_,rfl,⟨rfl,rfl⟩,rfl⟩
def zw4 (l:List UInt8) (k:Nat):List (List UInt8):=if k≤l.length then (zn2 (l.take k)).1 else zde l
def zjj (l:List UInt8) (k:Nat):List UInt8:=if k≤l.length then (zn2 (l.take k)).2 else []
theorem zyw:∀(n:Nat) (l:List UInt8),l.length=n→(zn2 l).2.length≤n∧(zn2 l).1.length≤n
 | 0,l,h=>by
  obtain rfl:=List.eq_nil_of_length_eq_zero h
  exact⟨Nat.le_refl _,Nat.le_refl _⟩
 | n+1,l,h=>by
  have hl:l.length-1<l.length:=by omega
  have e:l=l.take n ++ [l.getD n default]:=by
   rw[←zak l n (by omega),List.take_of_length_le (by omega)]
  rw[e,zld]
  obtain⟨h1,h2⟩:=zyw n (l.take n) (by rw[List.length_take];omega)
  unfold zrn zw2
  split
  ·split
   ·exact⟨Nat.zero_le _,by simp only;omega⟩
   ·refine⟨Nat.zero_le _,?_⟩
    simp only[List.length_append,List.length_cons,List.length_nil];omega
  ·simp only[List.length_append,List.length_cons,List.length_nil];omega
theorem yab (l:List UInt8) (k:Nat):(zw4 l k).length≤l.length+1∧(zjj l k).length≤l.length:=by
 unfold zw4 zjj
 split
 ·have h:=zyw _ (l.take k) rfl
  have:(l.take k).length≤l.length:=by rw[List.length_take];omega
  omega
 ·exact⟨zp0 l,Nat.zero_le _⟩
theorem ylc (c:UInt8) (n:Nat) (h:n<256):((c.toNat:Nat):Int)=n↔c=UInt8.ofNat n:=by
 constructor
 ·intro e
  have:c.toNat=n:=by omega
  rw[←this];simp
 ·rintro rfl
  simp;omega
theorem z5d (l:List UInt8) (k:Nat) (h:k<l.length) (h2:l.getD k 0≠32):zw4 l (k+1)=zw4 l k∧zjj l (k+1)=zjj l k ++ [l.getD k 0]:=by
 have a1:k+1≤l.length:=h
 have a2:k≤l.length:=Nat.le_of_lt h
 simp only[zw4,zjj,if_pos a1,if_pos a2]
 rw[show l.take (k+1)=l.take k ++ [l.getD k 0]from zak l k h,zld,show zrn (zn2 (l.take k)) (l.getD k 0)=_ from if_neg h2]
 exact⟨rfl,rfl⟩
theorem z5e (l:List UInt8) (k:Nat) (h:k≤l.length) (h2:¬(k<l.length∧l.getD k 0≠32)):zw4 l (k+1)=(if zjj l k = []then zw4 l k else zw4 l k ++ [zjj l k])∧zjj l (k+1) = []:=by
 by_cases hk:k<l.length
 ·have a1:k+1≤l.length:=hk
  have h3:l.getD k 0=32:=by
   by_cases h4:l.getD k 0=32
   ·exact h4
   ·exact absurd ⟨hk,h4⟩ h2
  simp only[zw4,zjj,if_pos a1,if_pos h]
  rw[show l.take (k+1)=l.take k ++ [l.getD k 0]from zak l k hk,zld,show zrn (zn2 (l.take k)) (l.getD k 0)=_ from if_pos h3]
  exact⟨rfl,rfl⟩
 ·obtain rfl:k=l.length:=by omega
  have a1:¬l.length+1≤l.length:=by omega
  simp only[zw4,zjj,if_neg a1,if_pos h,List.take_length]
  rw[←z4f]
  exact⟨rfl,trivial⟩
theorem yip (l:List UInt8):zw4 l 0 = []:=by unfold zw4;rw[if_pos (Nat.zero_le _)];rfl
theorem ydv (l:List UInt8):zjj l 0 = []:=by unfold zjj;rw[if_pos (Nat.zero_le _)];rfl
theorem yco:zah []=(⟨#[]⟩:ByteArray):=rfl
theorem ydu (l:List UInt8) (hl:l.length≤1048576):Spec Tryz.prog 21 [S (zah l)] [] (.c (.sl 1 (((zde l).map zah).map zge))) []:=by
 have tl:=zaa l
 have td:=zbo l
 refine spB Tryz.func21 37 [.tmp 2] Tryz.results21 ?_
 try refine xz2 tl td ?_
 refine zay (fun k:Nat=>⟨[(9,I .i64 k),(8,I .i64 ((l.length:Int)+1)),(4,S (zah (zjj l k))),(3,.own 0),(0,S (zah l))],[(0,.row 9 1 (((zw4 l k).map zah).map zge))],1⟩) (fun k:Nat=>k≤l.length+1) (fun k:Nat=>l.length+1-k) (0) (Nat.zero_le _) ((To.nil 3 9 1 rfl).trans (To.mk [0] rfl rfl (by decide) ?_ ?_)) ?_
 ·exact xS2 yip Qb
 ·simp(etaStruct := .none)only[push_cast,zad,seval,ydv,tl]
  exact Wk.refl _
 rintro k hk
 try refine xz2 tl td ?_
 refine cI (fun h1=>?_) fun h1=>?_
 ·have hlt:k≤l.length:=by omega
  have ok:=yab l k
  try refine xz2 tl td ?_
  refine cI (fun h2=>?_) fun h2=>?_
  ·obtain⟨hk1,hk2⟩:=h2
   have hk':k<l.length:=by rw[←tl];omega
   have hne:l.getD k 0≠32:=fun e=>hk2 (by rw[e];rfl)
   have ob:=z5d l k hk' hne
   have e5:(l.take (k+1)).drop k = [l.getD k 0]:=by
    rw[show l.take (k+1)=l.take k ++ [l.getD k 0]from zak l k hk']
    exact List.drop_left' (by rw[List.length_take];omega)
   have tn:((k:Int)+1).toNat=k+1:=by omega
   try refine xz8 tl td tn zgd e5 zbe zaa yp2 ?_
   refine⟨k+1,by omega,by omega,To.mk [0] rfl rfl (by decide) ?_ ?_⟩
   ·(try(refine xz1 ob.1 ?_;try exact xtI))
   ·(try(refine xz4 ob.2 zgd zbe e5 ?_;try exact xtI))
  ·have hnp:¬(k<l.length∧l.getD k 0≠32):=by
    rintro⟨a1,a2⟩
    rcases h2 with h2|h2
    ·omega
    ·exact a2 ((ylc _ 32 (by decide)).1 h2)
   have ob:=z5e l k hlt hnp
   try refine xz2 tl td ?_
   refine cI (fun h3=>?_) fun h3=>?_
   ·have hw:zjj l k ≠ []:=fun e=>h3 (by rw[e];rfl)
    rw[if_neg hw]at ob
    try refine xz2 tl td ?_
    refine⟨k+1,by omega,by omega,To.mk [2] rfl rfl (by decide) ?_ ?_⟩
    ·(try(refine xz3 ob.1 zaf QB0 ?_;try exact xtI))
    ·(try(refine xz3 ob.2 tl yco ?_;try exact xtI))
   ·have hw:zjj l k = []:=by
     have:=congrArg ByteArray.size h3
     rw[zaa]at this
     exact List.eq_nil_of_length_eq_zero this
    rw[if_pos hw]at ob
    try refine xz2 tl td ?_
    refine⟨k+1,by omega,by omega,To.mk [0] rfl rfl (by decide) ?_ ?_⟩
    ·(try(refine xz1 ob.1 ?_;try exact xtI))
    ·(try(refine xz3 ob.2 tl yco ?_;try exact xtI))
 ·obtain rfl:k=l.length+1:=by omega
  have eo:zw4 l (l.length+1)=zde l:=by unfold zw4;rw[if_neg (by omega)]
  try refine xz2 tl td ?_
  exact xrz rfl
theorem yc2 (f:Fld) (hl:f.p.length≤10000):Spec Tryz.prog 12 [ziq f] [] (ykt (zmh f) []) []:=by
 refine spB Tryz.func12 29 [.cell 2 52] Tryz.results12 ?_
 try refine xst ?_
 refine zay (fun k:Nat=>⟨[(13,I .i64 k),(12,I .i64 f.p.length),(11,.c (.sl 1 (f.p.map zao))),(3,.ptr 1 0 0),(2,.ptr 0 0 0)],[(0,.blk 52 [I .i64 0,I .i64 0,.c (.v (.slice none 0 0)),.c (.v (.slice none 0 0)),.c (.v (.slice none 0 0)),.c (.v (.slice none 0 0)),.c (.v (.slice none 0 0)),I .i64 0,I .i64 0,.c (.v (.slice none 0 0))]),(1,.blk 52 [I .i64 f.w,I .i64 f.h,.c (.sl 1 (f.p.map zao)),.c (.v (.slice none 0 0)),.c (.v (.slice none 0 0)),.own 2,.c (.v (.slice none 0 0)),I .i64 1,I .i64 0,.c (.v (.slice none 0 0))]),(2,.row 3 1 ((zpq f k).map zao))],3⟩) (fun k:Nat=>k≤f.p.length) (fun k:Nat=>f.p.length-k) (0) (Nat.zero_le _) ((To.nilC 2 5 3 1 52 _ rfl rfl).trans (To.mk [1,2,3] rfl rfl (by decide) ?_ ?_)) ?_
 ·simp(etaStruct := .none)only[push_cast,zad,seval,List.set_cons_succ,List.set_cons_zero]
  simp[zpq]
 ·exact xS
 rintro k hk
 try refine xst ?_
 refine cI (fun h1=>?_) fun h1=>?_
 ·have hlt:k<f.p.length:=by omega
  have ml:=z57 f k hk
  have ms:=z1x f k hlt
  try refine xz2 (gd hlt) zab ?_
  refine cI (fun h2=>?_) fun h2=>?_
  ·rw[if_pos h2]at ms
   try refine xz2 (gd hlt) zab ?_
   refine⟨k+1,by omega,by omega,To.mk [0,1,4] rfl rfl (by decide) ?_ ?_⟩
   ·(try(refine xz3 ms zab yol ?_;try exact xtI))
   ·(try(refine xz2 (gd hlt) zab ?_;try exact xtI))
  ·rw[if_neg h2]at ms
   try refine xz2 (gd hlt) zab ?_
   refine⟨k+1,by omega,by omega,To.mk [0,1,4] rfl rfl (by decide) ?_ ?_⟩
   ·(try(refine xz3 ms zab yol ?_;try exact xtI))
   ·(try(refine xz2 (gd hlt) zab ?_;try exact xtI))
 ·obtain rfl:k=f.p.length:=by omega
  have me:zpq f f.p.length=f.p.map fun p=>if p=3 then 10 else 0:=by unfold zpq;rw[List.take_length]
  try refine xst ?_
  refine zi1 rfl (Wk.agg ⟨Wk.refl _,Wk.refl _,Wk.refl _,Wk.nil _,Wk.nil _,Wk.of (by rw[show (zmh f).mines=zpq f f.p.length from me.symm];rfl),Wk.nil _,Wk.refl _,Wk.refl _,Wk.nil _,trivial⟩)
end Go.Proofs.YtgggemkjaccbhaaGreatDoor
namespace Go.Proofs.YtgggemkjaccbhaaGreatDoor
set_option linter.all false
open Go.RowKit
set_option maxRecDepth 100000
set_option maxHeartbeats 4000000
theorem zvx {wd:ByteArray} : zxy wd = -2↔wd=zfa:=by
 constructor
 ·intro h
  unfold zxy at h
  split at h
  ·simp at h
  split at h
  ·simp at h
  split at h
  ·simp at h
  split at h
  ·simp at h
  split at h
  ·simp at h
  split at h
  ·assumption
  ·simp at h
 ·rintro rfl;decide
theorem yn9 {α : Type} {l:List α} (h:l.length=2):∃a b,l = [a,b]:=by
 match l,h with
 | [a,b],_=>exact⟨a,b,rfl⟩
theorem ypp {α : Type} {l:List α} (h:l.length=3):∃a b c,l = [a,b,c]:=by
 match l,h with
 | [a,b,c],_=>exact⟨a,b,c,rfl⟩
theorem ym8 {α : Type} {l:List α} (h:l.length=4):∃a b c d,l = [a,b,c,d]:=by
 match l,h with
 | [a,b,c,d],_=>exact⟨a,b,c,d,rfl⟩
theorem ya3 (wd:ByteArray) (n:List Nat) (hn:zkg wd=true→n.length=yad wd):Spec Tryz.prog 23 [S wd,.c (.sl 1 (n.map nmP))] [] (.tup [zmu (if zkg wd=true then zqj wd n else ⟨0,0,0,⟨0,0⟩,0⟩),B (zkg wd)]) []:=by
 generalize hO:(if zkg wd=true then zqj wd n else (⟨0,0,0,⟨0,0⟩,0⟩:Ord))=o
 generalize hb:zkg wd=b at *
 refine spB Tryz.func23 70 [.cell 4 74,.tmp 5] Tryz.results23 ?_
 try refine xz2 zas zwd ?_
 refine cI (fun h1=>?_) fun h1=>?_
 ·obtain rfl:wd=z87:=h1
  obtain rfl:b=true:=hb.symm
  obtain⟨x,y,z,rfl⟩:=ypp ((hn rfl).trans (by decide))
  obtain rfl:o=⟨x,1,y,⟨0,0⟩,z⟩:=by rw[←hO,if_pos rfl];unfold zqj;rw[if_pos rfl];rfl
  try refine xz2 zas zwd ?_
  (try(refine⟨by kernel_rfl,?_⟩))
  try refine xz2 zas zwd ?_
  exact xrz rfl
 ·try refine xz2 zas zwd ?_
  refine cI (fun h2=>?_) fun h2=>?_
  ·obtain rfl:wd=wGo:=h2
   obtain rfl:b=true:=hb.symm
   obtain⟨x,y,z,u,rfl⟩:=ym8 ((hn rfl).trans (by decide))
   obtain rfl:o=⟨x,2,y,⟨z,u⟩,0⟩:=by rw[←hO,if_pos rfl];unfold zqj;rw[if_neg (by decide),if_pos rfl];rfl
   try refine xz2 zas zwd ?_
   (try(refine⟨by kernel_rfl,?_⟩))
   try refine xz2 zas zwd ?_
   exact xrz rfl
  ·try refine xz2 zas zwd ?_
   refine cI (fun h3=>?_) fun h3=>?_
   ·obtain rfl:wd=zto:=h3
    obtain rfl:b=true:=hb.symm
    obtain⟨x,y,z,u,rfl⟩:=ym8 ((hn rfl).trans (by decide))
    obtain rfl:o=⟨x,3,y,⟨z,u⟩,0⟩:=by rw[←hO,if_pos rfl];unfold zqj;rw[if_neg (by decide),if_neg (by decide),if_pos rfl];rfl
    try refine xz2 zas zwd ?_
    (try(refine⟨by kernel_rfl,?_⟩))
    try refine xz2 zas zwd ?_
    exact xrz rfl
   ·try refine xz2 zas zwd ?_
    refine cI (fun h4=>?_) fun h4=>?_
    ·obtain rfl:wd=zwi:=h4
     obtain rfl:b=true:=hb.symm
     obtain⟨x,y,rfl⟩:=yn9 ((hn rfl).trans (by decide))
     obtain rfl:o=⟨x,4,y,⟨0,0⟩,0⟩:=by rw[←hO,if_pos rfl];unfold zqj;rw[if_neg (by decide),if_neg (by decide),if_neg (by decide),if_pos rfl];rfl
     try refine xz2 zas zwd ?_
     (try(refine⟨by kernel_rfl,?_⟩))
     try refine xz2 zas zwd ?_
     exact xrz rfl
    ·try refine xz2 zas zwd ?_
     refine cI (fun h5=>?_) fun h5=>?_
     ·obtain rfl:wd=ztp:=h5
      obtain rfl:b=true:=hb.symm
      obtain⟨x,y,rfl⟩:=yn9 ((hn rfl).trans (by decide))
      obtain rfl:o=⟨x,5,0,⟨0,0⟩,y⟩:=by rw[←hO,if_pos rfl];unfold zqj;rw[if_neg (by decide),if_neg (by decide),if_neg (by decide),if_neg (by decide)];rfl
      try refine xz2 zas zwd ?_
      (try(refine⟨by kernel_rfl,?_⟩))
      try refine xz2 zas zwd ?_
      exact xrz rfl
     ·obtain rfl:b=false:=by rw[←hb];simp[zkg,h1,h2,h3,h4,h5]
      obtain rfl:o=⟨0,0,0,⟨0,0⟩,0⟩:=by rw[←hO,if_neg (by simp)]
      try refine xz2 zas zwd ?_
      exact xrz rfl
def lok (wd:ByteArray) (ws:List ByteArray):Prop:=(wd=zfa∧ws.length=1)∨(wd≠zfa∧zxy wd=(ws.length:Nat)∧∀s∈ws,zjp s≠none)
section
open Classical
noncomputable def lokB (wd:ByteArray) (ws:List ByteArray):Bool:=decide (lok wd ws)
end
def zi3 (wd:ByteArray) (ws:List ByteArray):List Nat:=if wd=zfa then []else ws.map za8
theorem ymy {l m:List ByteArray} {x:ByteArray} (e:l=m ++ [x]) (h:∀s∈m,zjp s≠none) (hx:zjp x≠none):∀s∈l,zjp s≠none:=by
 intro s hs
 rw[e,List.mem_append]at hs
 rcases hs with hs|hs
 ·exact h s hs
 ·rw[List.mem_singleton]at hs;rw[hs];exact hx
theorem yfp (wd:ByteArray) (ws:List ByteArray) (hl:ws.length≤65536) (hs:∀s∈ws,s.size≤65536):Spec Tryz.prog 22 [.c (.sl 1 ((wd::ws).map zge))] [] (.tup [.c (.sl 1 (if lokB wd ws=true then (zi3 wd ws).map nmP else [])),B (lokB wd ws)]) []:=by
 have hlb:lokB wd ws=true↔lok wd ws:=by unfold lokB;simp
 generalize hr:(if lokB wd ws=true then (zi3 wd ws).map nmP else [])=r
 generalize lokB wd ws=b at *
 refine spB Tryz.func22 44 [.tmp 2,.tmp 3] Tryz.results22 ?_
 try refine xz2 zaf zph ?_
 refine caP (yg2 wd) ?_
 try refine xz2 zaf zph ?_
 refine cI (fun h1=>?_) fun h1=>?_
 ·rw[zvx]at h1
  subst h1
  obtain rfl:r = []:=by rw[←hr];simp[zi3]
  obtain rfl:b=decide ((ws.length:Int)+1=2):=by
   rw[Bool.eq_iff_iff,hlb,decide_eq_true_iff]
   unfold lok
   constructor
   ·rintro (⟨_,h⟩|⟨h,_⟩)
    ·omega
    ·exact absurd rfl h
   ·intro h;exact .inl ⟨rfl,by omega⟩
  try refine xz2 zaf zph ?_
  exact xrz rfl
 ·rw[zvx]at h1
  try refine xz2 zaf zph ?_
  refine cI (fun h2=>?_) fun h2=>?_
  ·have hb:¬lok wd ws:=by
    rintro (⟨h,_⟩|⟨_,h,_⟩)
    ·exact h1 h
    ·omega
   rw[←hlb]at hb
   obtain rfl:b=false:=by simpa using hb
   obtain rfl:r = []:=by rw[←hr];simp
   try refine xz2 zaf zph ?_
   exact xrz rfl
  ·try refine xz2 zaf zph ?_
   refine zay (fun k:Nat=>⟨[(27,I .i64 k),(26,I .i64 ws.length),(25,.c (.sl 1 (ws.map zge))),(5,.own 0)],[(0,.row 3 1 (((ws.take k).map za8).map nmP))],1⟩) (fun k:Nat=>k≤ws.length∧∀s∈ws.take k,zjp s≠none) (fun k:Nat=>ws.length-k) (0) (⟨Nat.zero_le _,by simp⟩) ((To.nil 5 3 1 rfl).trans (To.mk [0] rfl rfl (by decide) ?_ ?_)) ?_
   ·exact xS
   ·exact xS
   rintro k ⟨hk,hg⟩
   try refine xz2 zaf zph ?_
   refine cI (fun h3=>?_) fun h3=>?_
   ·have hlt:k<ws.length:=by omega
    have sn:=zak ws k hlt
    have hsz:=hs _ (zax ws k hlt)
    have tl:(ws.take k).length=k:=by rw[List.length_take];omega
    obtain⟨x,RS,hx⟩:=z40 (ws.getD k default) (by omega)
    try refine xz5 zaf (gd hlt) zaf tl zph ?_
    refine caP (RS) ?_
    try refine xz5 zaf (gd hlt) zaf tl zph ?_
    refine cI (fun h4=>?_) fun h4=>?_
    ·have hb:¬lok wd ws:=by
      rintro (⟨h,_⟩|⟨_,_,h⟩)
      ·exact h1 h
      ·exact h _ (zax ws k hlt) (by simpa using h4)
     rw[←hlb]at hb
     obtain rfl:b=false:=by simpa using hb
     obtain rfl:r = []:=by rw[←hr];simp
     try refine xz5 zaf (gd hlt) zaf tl zph ?_
     exact xrz rfl
    ·have h4:zjp (ws.getD k default)≠none:=by simpa using h4
     obtain⟨u,hu⟩:=Option.ne_none_iff_exists'.1 h4
     have ev:x=(za8 (ws.getD k default):Nat):=by rw[hx u hu];unfold za8;rw[hu];rfl
     try refine xz5 zaf (gd hlt) zaf tl zph ?_
     refine⟨k+1,⟨by omega,ymy sn hg h4⟩,by omega,To.mk [2] rfl rfl (by decide) ?_ ?_⟩
     ·(try(refine xz4 sn zas ev QB0 ?_;try exact xtI))
     ·(try(refine xz5 zaf (gd hlt) zaf tl zph ?_;try exact xtI))
   ·obtain rfl:k=ws.length:=by omega
    rw[List.take_length]at hg
    have hb:lok wd ws := .inr ⟨h1,by omega,hg⟩
    rw[←hlb]at hb
    obtain rfl:=hb
    obtain rfl:r=(ws.map za8).map nmP:=by rw[←hr,if_pos rfl];unfold zi3;rw[if_neg h1]
    rw[List.take_length]
    try refine xz2 zaf zph ?_
    exact xrz rfl
end Go.Proofs.YtgggemkjaccbhaaGreatDoor
namespace Go.Proofs.YtgggemkjaccbhaaGreatDoor
set_option linter.all false
open Go.RowKit
set_option maxRecDepth 100000
set_option maxHeartbeats 4000000
abbrev yla (w:Wld):List PV := [pI w.f.w,pI w.f.h,.sl 1 (w.f.p.map zao),.sl 2 (w.bases.map zbk),.sl 1 (w.stocks.map zao),.sl 1 (w.mines.map zao),.sl 7 (w.troops.map zch),pI w.next,pI w.now]
theorem z4c (w:Wld) (o c:Cel) (r:Int) (hf:zbl w.f=0) (ho:inF w.f o=true) (hc:inF w.f c=true):Spec Tryz.prog 98 [zeu o,I .i64 r,.fel 2 [zbk c] 0 0,.fel 9 [yla w] 0 0] [] (B (zgw w.f o r c)) []:=by
 have h1:=inF_iff.1 ho
 have h2:=inF_iff.1 hc
 have hfo:=za4 hf
 have e1:(o.x-c.x).natAbs=(c.x-o.x).natAbs:=by omega
 have e2:(o.y-c.y).natAbs=(c.y-o.y).natAbs:=by omega
 have e3:((if ((c.y-o.y).natAbs:Int)>((c.x-o.x).natAbs:Int)then ((c.y-o.y).natAbs:Int)else ((c.x-o.x).natAbs:Int))≤r)=(max ((c.x-o.x).natAbs:Int) ((c.y-o.y).natAbs:Int)≤r):=by
  congr 1;split<;>omega
 refine spB Tryz.func98 27 [.tmp 6] Tryz.results98 ?_
 try refine xy1 zag ?_
 refine zdc [some 7,some 8,some 9,some 10,some 11,some 12,some 13,some 14,some 15,some 16,some 17,some 18,some 19,some 20,some 21,some 22,some 23,some 24,some 25,some 26,some 6] rfl ?_
 intro Oq lq Rq hlq hdq hRq
 subst hlq
 iterate 4(refine zby fun rq hrq=>?_;(try(refine xy3 hdq zag Qb0 ?_;try exact xtI));subst hrq)
 refine zby fun rq hrq=>?_
 try refine xy3 hdq zag Qb0 ?_
 refine caP (zps o.x c.x (by omega) (by omega)) ?_
 try refine xy3 hdq zag Qb0 ?_
 subst hrq
 iterate 4(refine zby fun rq hrq=>?_;(try(refine xy3 hdq zag Qb0 ?_;try exact xtI));subst hrq)
 refine zby fun rq hrq=>?_
 try refine xy3 hdq zag Qb0 ?_
 refine caP (zps o.y c.y (by omega) (by omega)) ?_
 try refine xy3 hdq zag Qb0 ?_
 subst hrq
 iterate 8(refine zby fun rq hrq=>?_;(try(refine xy3 hdq zag Qb0 ?_;try exact xtI));subst hrq)
 refine zby fun rq hrq=>?_
 try refine xy3 hdq zag Qb0 ?_
 refine gcP (fun hcc=>z6g w.f o c hf ho hc) ?_
 try refine xy3 hdq zag Qb0 ?_
 subst hrq
 iterate 2(refine zby fun rq hrq=>?_;(try(refine xy3 hdq zag Qb0 ?_;try exact xtI));subst hrq)
 refine zv9 ?_
 subst hRq
 clear hdq Oq
 refine zv8 (by kernel_rfl) ?_
 try refine xy1 zag ?_
 exact yom yeg e1 (And.intro e2 e3) rfl
abbrev scH (w:Wld) (p:Int) (c:Cel):List Chunk := [.blk 3 [I .i64 p],.blk 168 [.clo (.func 98) [] [.ptr 2 0 0,.ptr 3 0 0]],.blk 72 [I .i64 c.x,I .i64 c.y],.blk 32 (zhe w)]
def scP (w:Wld) (p:Int) (c:Cel) (t:Trp):Bool:=decide (t.owner=p)&&zgw w.f t.c 5 c
theorem yh7 (w:Wld) (p:Int) (c:Cel) (t:Trp) (hf:zbl w.f=0) (ht:inF w.f t.c=true) (hc:inF w.f c=true):Spec Tryz.prog 101 [z3p t,.ptr 0 0 0,.ptr 1 0 0] (scH w p c) (B (scP w p c t)) (scH w p c):=by
 refine spB Tryz.func101 15 [.tmp 4] Tryz.results101 ?_
 try refine xst ?_
 refine zhj (fun hcc=>z4c w t.c c 5 hf ht hc) (WkL.refl _) rfl xG ?_
 try refine xst ?_
 refine zb9 [0,1,2,3] rfl rfl (by decide) ⟨?_,?_,?_,?_,trivial⟩ trivial ?_<;>simp(etaStruct := .none)only[push_cast,zad,seval,scP]
theorem ymq (w:Wld) (p:Int) (c:Cel)(l:List Trp) (hl:l.length≤1000000) (hf:zbl w.f=0) (hc:inF w.f c=true) (hn:∀t∈l,inF w.f t.c=true): Spec Tryz.prog 139 [.c (.sl 7 (l.map zch)),.clo (.func 101) [] [.ptr 0 0 0,.ptr 1 0 0]] (scH w p c) (I .i64 (zg6 (scP w p c) l)) (scH w p c):=by
 refine spB Tryz.func139 19 [.tmp 4] Tryz.results139 ?_
 try refine xst ?_
 refine zay (fun k:Nat=>⟨[(8,I .i64 k),(7,I .i64 l.length),(1,.clo (.func 101) [] [.ptr 0 0 0,.ptr 1 0 0]),(0,.c (.sl 7 (l.map zch)))],[(0,.blk 3 [I .i64 p]),(1,.blk 168 [.clo (.func 98) [] [.ptr 2 0 0,.ptr 3 0 0]]),(2,.blk 72 [I .i64 c.x,I .i64 c.y]),(3,.blk 32 (zhe w))],4⟩) (fun k:Nat=>k≤l.length∧∀j (hj:j<l.length),j<k→(scP w p c) l[j]=false) (fun k:Nat=>l.length-k) (0) (⟨Nat.zero_le _,fun j _ h=>absurd h (Nat.not_lt_zero _)⟩) (To.mk [0,1,2,3] rfl rfl (by decide) ?_ ?_) ?_
 ·exact xS
 ·exact xS
 rintro k ⟨hk,hno⟩
 try refine xst ?_
 refine cI (fun h1=>?_) fun h1=>?_
 ·have hlt:k<l.length:=by omega
  try refine xz2 (gd hlt) zac ?_
  refine caM [0,1,2,3] (yh7 w p c (l.getD k default) hf (hn _ (zax l k hlt)) hc) ?_
  try refine xz2 (gd hlt) zac ?_
  refine cI (fun h2=>?_) fun h2=>?_
  ·have e:=zfw (scP w p c) l k hlt (by rw[←zaq l k hlt];exact h2) hno
   rw[e]
   try refine xz2 (gd hlt) zac ?_
   refine zb9 [0,1,2,3] rfl rfl (by decide) ⟨?_,?_,?_,?_,trivial⟩ trivial ?_<;>exact xS
  ·have hno2:∀j (hj:j<l.length),j<k+1→(scP w p c) l[j]=false:=fun j hj h=>by
    rcases Nat.lt_or_ge j k with h3|h3
    ·exact hno j hj h3
    ·obtain rfl:j=k:=by omega
     rw[←zaq l j hj];exact h2
   try refine xz2 (gd hlt) zac ?_
   refine⟨k+1,⟨by omega,hno2⟩,by omega,To.mk [0,1,2,3] rfl rfl (by decide) ?_ ?_⟩
   ·(try(refine xz2 (gd hlt) zac ?_;try exact xtI))
   ·(try(refine xz2 (gd hlt) zac ?_;try exact xtI))
 ·have e:=zer (scP w p c) l (fun j hj=>hno j hj (by omega))
  rw[e]
  try refine xst ?_
  refine zb9 [0,1,2,3] rfl rfl (by decide) ⟨?_,?_,?_,?_,trivial⟩ trivial ?_<;>exact xS
theorem yif (w:Wld) (p:Int) (c:Cel) (l:List Trp) (hl:l.length≤1000000) (hf:zbl w.f=0) (hc:inF w.f c=true) (hn:∀t∈l,inF w.f t.c=true):Spec Tryz.prog 95 [.c (.sl 7 (l.map zch)),.clo (.func 101) [] [.ptr 0 0 0,.ptr 1 0 0]] (scH w p c) (B (l.any (scP w p c))) (scH w p c):=by
 refine spB Tryz.func95 9 [.tmp 4] Tryz.results95 ?_
 try refine xst ?_
 refine caM [0,1,2,3] (ymq w p c l hl hf hc hn) ?_
 try refine xst ?_
 refine zb9 [0,1,2,3] rfl rfl (by decide) ⟨?_,?_,?_,?_,trivial⟩ trivial ?_<;>simp(etaStruct := .none)only[push_cast,zad,seval,zkp]
theorem z4d (w:Wld) (p:Int) (c:Cel) (hw:Right w) (hp:0≤p∧p<w.bases.length) (hc:inF w.f c=true):Spec Tryz.prog 74 [zcf w,I .i64 p,zeu c] [] (B (z9a w p c)) []:=by
 obtain⟨q,rfl⟩:∃q:Nat,p=q:=Int.eq_ofNat_of_zero_le hp.1
 have hqb:q<w.bases.length:=by omega
 have hbs:=(ground_iff.1 (hw.base q hqb).1).1
 have hnt:=hw.nt
 have hto:∀t∈w.troops,inF w.f t.c=true:=fun t ht=>by
  obtain⟨i,hi,rfl⟩:=mem_getD.1 ht
  exact(ground_iff.1 (hw.trp i hi).at_).1
 refine spB Tryz.func74 20 [.tmp 6] Tryz.results74 ?_
 try refine xz2 (gd hqb) zag ?_
 refine zc0 (z4c w (w.bases.getD q default) c 3 hw.f hbs hc) (WkL.refl _) rfl ?_
 try refine xz2 (gd hqb) zag ?_
 (try(refine⟨by kernel_rfl,?_⟩))
 try refine xz2 (gd hqb) zag ?_
 refine cI (fun h1=>?_) fun h1=>?_
 ·have e:z9a w q c=true:=by unfold z9a ycn;rw[Int.toNat_natCast,h1];rfl
  rw[e]
  try refine xz2 (gd hqb) zag ?_
  exact xrz rfl
 ·have e:z9a w q c=w.troops.any (scP w q c):=by unfold z9a ycn;rw[Int.toNat_natCast,h1,List.take_length];rfl
  rw[e]
  try refine xz2 (gd hqb) zag ?_
  refine caM [1,3,2,0] (yif w q c w.troops (by omega) hw.f hc hto) ?_
  try refine xz2 (gd hqb) zag ?_
  exact xrz rfl
theorem yat (w:Wld) (p:Int) (hl:zd4 w):Spec Tryz.prog 73 [zcf w,I .i64 p] [] (I .i64 (zef w p)) []:=by
 refine spB Tryz.func73 18 [.tmp 4] Tryz.results73 ?_
 try refine xst ?_
 refine caP (zia w hl) ?_
 try refine xst ?_
 refine cI (fun h1=>?_) fun h1=>?_
 ·have e:zef w p=zap w:=by unfold zef;rw[if_pos h1]
  try refine xst ?_
  exact zcw e rfl
 ·have hw:=zdz h1
  have hnb:=hw.nb
  try refine xst ?_
  refine caP (zat p 0 ((w.bases.length:Int)-1)) ?_
  try refine xst ?_
  refine cI (fun h2=>?_) fun h2=>?_
  ·have e:zef w p=7:=by unfold zef;rw[if_neg (by simp[h1]),if_pos h2]
   rw[e]
   try refine xst ?_
   exact zcw e rfl
  ·have e:zef w p=0:=by unfold zef;rw[if_neg (by simp[h1]),if_neg (by rw[h2];decide)]
   rw[e]
   try refine xst ?_
   exact zcw e rfl
end Go.Proofs.YtgggemkjaccbhaaGreatDoor
