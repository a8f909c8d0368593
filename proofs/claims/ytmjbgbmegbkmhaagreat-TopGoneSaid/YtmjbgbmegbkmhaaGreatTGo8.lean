/- Lemmas for the proof of topGone.proved. -/
import Derived.Test.YtmjbgbmegbkmhaaGreatTGo7
namespace Go.Proofs.YtmjbgbmegbkmhaaGreat
set_option linter.all false
open Go.RowKit
set_option maxRecDepth 100000
theorem yhi (n:Nat) (hn:n<4294967296):Spec Tryz.prog 61 [I .u32 n] [] (I .i64 (pcK n 32:Nat)) [] :=
 zhh (zi7 Tryz.func61 rfl rfl) [.int .u32 n] _ rfl fun w=>(yaj n w hn).mono fun e w' ⟨h1,h2⟩=>⟨h1,h2▸(Below.refl _ _).drew⟩
theorem z1m (n:Nat) (hn:n<4294967296):Spec Tryz.prog 154 [I .u32 n] [] (I .i64 (pcK n 32:Nat)) []:=by
 refine spB Tryz.func154 5 [.tmp 2] Tryz.results154 ?_
 simp(etaStruct := .none)only[push_cast,zab,seval]
 refine zdz (yhi n hn) (WkL.refl _) ?_
 simp(etaStruct := .none)only[push_cast,zab,seval]
 exact zcj rfl trivial (Wk.refl _)
def ziu (n:Nat):List PV := [.v (.int .u32 n)]
theorem yhu (n:Nat):ziu n = [.v (.int .u32 n)]:=rfl
theorem z9t (F:FuncId) (a b:List AV) (l:List Nat) (p:Nat→Bool) (hl:l.length≤9223372036854775807) (hp:∀n∈l,Spec Tryz.prog F (a ++ [I .u32 n]++b) [] (B (p n)) []) (ha:∀h,cvL [] h a=a) (hb:∀h,cvL [] h b=b) :
 Spec Tryz.prog 155 [.c (.sl 1 (l.map ziu)),.clo (.func F) a b] [] (I .i64 (zjc p l)) []:=by
 refine spB Tryz.func155 19 [.tmp 4] Tryz.results155 ?_
 simp(etaStruct := .none)only[push_cast,zab,seval]
 refine zay (fun k:Nat=>⟨[(8,I .i64 k),(7,I .i64 l.length),(0,.c (.sl 1 (l.map ziu))),(1,.clo (.func F) a b)],[],0⟩) (fun k=>k≤l.length∧∀j (hj:j<l.length),j<k→p l[j]=false) (fun k=>l.length-k) 0 ⟨Nat.zero_le _,fun j _ h=>by omega⟩ (To.mk [] rfl rfl List.nodup_nil trivial ?_) ?_
 ·simp(etaStruct := .none)only[push_cast,zab,seval,ha,hb]
 ·rintro k ⟨hk,hn⟩
  simp(etaStruct := .none)only[push_cast,zab,seval]
  refine zau (fun h => ?_) (fun h => ?_)
  ·have hlt:k<l.length:=by simpa using h
   simp(etaStruct := .none)only[push_cast,zab,seval,zb9 _ _ _ hlt,ziu]
   repeat with_reducible refine obA ?_
   refine zdz (hp _ (List.getElem_mem hlt)) (by simp only[zdu,ha,hb,cvL,cv];exact WkL.refl _) ?_
   simp(etaStruct := .none)only[push_cast,zab,seval]
   refine zau (fun h => ?_) (fun h => ?_)
   ·simp(etaStruct := .none)only[push_cast,zab,seval]
    exact zcj rfl trivial (Wk.of (by rw[zdq p l k hlt h hn];rfl))
   ·simp(etaStruct := .none)only[push_cast,zab,seval]
    refine⟨k+1,⟨by omega,fun j hj hjk => ?_⟩,by omega,To.mk [] rfl rfl List.nodup_nil trivial ?_⟩
    ·by_cases e:j=k
     ·subst e;exact h
     ·exact hn j hj (by omega)
    ·simp(etaStruct := .none)only[push_cast,zab,seval,ha,hb]
     simp(disch:=omega)only[zak,za7,tdv,tmd]
  ·have hge:k=l.length:=by simp at h;omega
   subst hge
   simp(etaStruct := .none)only[push_cast,zab,seval]
   exact zcj rfl trivial (Wk.of (by rw[zct p l (fun j hj=>hn j hj hj)];rfl))
end Go.Proofs.YtmjbgbmegbkmhaaGreat
namespace Go.Proofs.YtmjbgbmegbkmhaaGreat
set_option linter.all false
open Go.RowKit
theorem zje (n:Int) (h1:0≤n) (h2:n<4294967296):IntKind.u32.wrap n=n:=by
 unfold IntKind.wrap
 simp only[IntKind.bits,IntKind.signed,Bool.false_and,Bool.false_eq_true,if_false]
 show n % (2 ^ 32:Int)=n
 omega
theorem z7m (a b:Nat) (ha:a<4294967296) (hb:b<4294967296):bits .and .u32 (a:Int) (b:Int)=((a &&& b:Nat):Int):=by
 show IntKind.u32.wrap ((BitVec.ofInt 32 (a:Int) &&& BitVec.ofInt 32 (b:Int)).toNat:Nat)=_
 rw[BitVec.toNat_and,BitVec.ofInt_natCast,BitVec.ofInt_natCast,BitVec.toNat_ofNat,BitVec.toNat_ofNat,Nat.mod_eq_of_lt (show a<2 ^ 32 by omega),Nat.mod_eq_of_lt (show b<2 ^ 32 by omega)]
 have:a &&& b≤a:=Nat.and_le_left
 exact zje _ (by omega) (by omega)
theorem yhz (a b:Nat) (ha:a<4294967296) (hb:b<4294967296):bits .or .u32 (a:Int) (b:Int)=((a ||| b:Nat):Int):=by
 show IntKind.u32.wrap ((BitVec.ofInt 32 (a:Int) ||| BitVec.ofInt 32 (b:Int)).toNat:Nat)=_
 rw[BitVec.toNat_or,BitVec.ofInt_natCast,BitVec.ofInt_natCast,BitVec.toNat_ofNat,BitVec.toNat_ofNat,Nat.mod_eq_of_lt (show a<2 ^ 32 by omega),Nat.mod_eq_of_lt (show b<2 ^ 32 by omega)]
 have:a ||| b<2 ^ 32:=Nat.or_lt_two_pow (by omega) (by omega)
 exact zje _ (by omega) (by omega)
theorem zmz (a b:Nat) (ha:a<4294967296) (hb:b<4294967296):bits .andNot .u32 (a:Int) (b:Int)=((a &&& (4294967295-b):Nat):Int):=by
 show IntKind.u32.wrap ((BitVec.ofInt 32 (a:Int) &&& ~~~(BitVec.ofInt 32 (b:Int))).toNat:Nat)=_
 rw[BitVec.toNat_and,BitVec.toNat_not,BitVec.ofInt_natCast,BitVec.ofInt_natCast,BitVec.toNat_ofNat,BitVec.toNat_ofNat,Nat.mod_eq_of_lt (show a<2 ^ 32 by omega),Nat.mod_eq_of_lt (show b<2 ^ 32 by omega)]
 have:a &&& (2 ^ 32-1-b)≤a:=Nat.and_le_left
 exact zje _ (by omega) (by omega)
theorem z47 (m k B:Nat) (hk:k≤B):(m:Int).fdiv (2 ^ min k B)=((m/2 ^ k:Nat):Int):=by
 rw[Nat.min_eq_left hk,Int.fdiv_eq_ediv_of_nonneg _ (Int.le_of_lt (Int.pow_pos (by decide)))]
 simp
theorem z55 (k:Nat) (hk:k<32):IntKind.u32.wrap (1*2 ^ min k IntKind.u32.bits)=((2 ^ k:Nat):Int):=by
 obtain⟨h1,h2⟩:=zwr k hk
 rw[show IntKind.u32.bits=32 from rfl,Nat.min_eq_left (by omega),Int.one_mul]
 have:((2:Int) ^ k)=((2 ^ k:Nat):Int):=by simp
 rw[this,zje _ (by omega) (by omega)]
theorem zx4 (m k:Nat) (hk:k<32):(m:Int).fdiv (2 ^ min k IntKind.u32.bits)=((m/2 ^ k:Nat):Int):=z47 m k _ (by show k≤32;omega)
theorem z2p (m k:Nat) (hm:m<4294967296) (hk:k<32):decide (bits .and .u32 ((m:Int).fdiv (2 ^ min k IntKind.u32.bits)) 1=1)=zci m k:=by
 rw[zx4 m k hk]
 have h1:m/2 ^ k≤m:=Nat.div_le_self _ _
 have:=z7m (m/2 ^ k) 1 (by omega) (by omega)
 rw[show ((1:Nat):Int)=1 from rfl]at this
 rw[this,Nat.and_one_is_mod]
 unfold zci
 rw[Bool.eq_iff_iff]
 simp only[decide_eq_true_eq,beq_iff_eq]
 omega
end Go.Proofs.YtmjbgbmegbkmhaaGreat
namespace Go.Proofs.YtmjbgbmegbkmhaaGreat
set_option linter.all false
open Go.RowKit
set_option maxRecDepth 100000
abbrev eV (m:Nat) (l:List Nat):AV := .agg [I .u32 m,.c (.sl 1 (l.map ziu))]
theorem yhj (n:Nat) (k:Int) (hn:n<4294967296):Spec Tryz.prog 156 ([] ++ [I .u32 n] ++ [.fel 1 [[.v (.int .i64 k)]] 0 0]) [] (B (decide (k≤(pcK n 32:Nat)))) []:=by
 refine spB Tryz.func156 8 [.tmp 3] Tryz.results156 ?_
 try refine xst ?_
 refine caP (z1m n hn) ?_
 try refine xst ?_
 (try(refine⟨by kernel_rfl,?_⟩))
 try refine xst ?_
 exact xrz rfl
def z8p (m:Nat) (l:List Nat):Int:=zjc (fun s=>decide (((pcK m 32:Nat):Int)/2+1≤(pcK s 32:Nat))) l
theorem zif (m:Nat) (l:List Nat) (hm:m<4294967296) (hl:l.length≤9223372036854775807) (hs:∀s∈l,s<4294967296):Spec Tryz.prog 124 [eV m l] [] (I .i64 (z8p m l)) []:=by
 have hp:=zy8 m 32
 refine spB Tryz.func124 13 [.tmp 2] Tryz.results124 ?_
 try refine xst ?_
 refine zdz (z1m m hm) (WkL.refl _) ?_
 try refine xst ?_
 refine zcl (z9t _ [] [.fel 1 [[.v (.int .i64 ((pcK m 32:Nat)/2+1))]] 0 0] l (fun s=>decide (((pcK m 32:Nat):Int)/2+1≤(pcK s 32:Nat))) hl (fun s hss=>yhj s _ (hs s hss)) (fun _=>rfl) (fun _=>rfl)) (WkL.refl _) rfl ?_
 try refine xst ?_
 exact zcj rfl trivial (Wk.refl _)
theorem zno (m:Nat) (l:List Nat) (k:Int) (hm:m<4294967296):Spec Tryz.prog 127 [eV m l,I .i64 k] [] (B (decide (0≤k∧k<16)&&zci m k.toNat)) []:=by
 refine spB Tryz.func127 19 [.tmp 4] Tryz.results127 ?_
 try refine xst ?_
 refine zcj rfl trivial (Wk.of (congrArg B ?_))
 by_cases h:0≤k∧k<16
 ·obtain⟨K,rfl⟩:=Int.eq_ofNat_of_zero_le h.1
  have:=z2p m K hm (by omega)
  simp only[Int.toNat_natCast,this,h,decide_true,Bool.true_and,decide_eq_true h.1,decide_eq_true h.2,and_self]
 ·rw[decide_eq_false h]
  rcases Int.lt_or_le k 0 with h1|h1
  ·simp;omega
  ·simp;omega
theorem yiy (m:Nat) (hm:m<4294967296):(m:Int).fdiv (2 ^ min 16 IntKind.u32.bits)=((m/65536:Nat):Int):=by
 have:=zx4 m 16 (by omega)
 simpa using this
theorem z5v (m k s:Nat) (hm:m<4294967296) (hs:s<4294967296) (hk:k<32) :
 (!decide (bits .andNot .u32 (s:Int) (m:Int)=0)||decide (bits .and .u32 ((s:Int).fdiv (2 ^ min k IntKind.u32.bits)) 1=1)||(!decide ((s:Int)=0)&&decide (bits .and .u32 ((m:Int).fdiv (2 ^ min k IntKind.u32.bits)) 1=0)))=z5w m k s:=by
 have e:decide (bits .and .u32 ((m:Int).fdiv (2 ^ min k IntKind.u32.bits)) 1=0) = !zci m k:=by
  rw[zx4 m k hk]
  have h1:m/2 ^ k≤m:=Nat.div_le_self _ _
  have:=z7m (m/2 ^ k) 1 (by omega) (by omega)
  rw[show ((1:Nat):Int)=1 from rfl]at this
  rw[this,Nat.and_one_is_mod]
  unfold zci
  rw[Bool.eq_iff_iff]
  simp only[decide_eq_true_eq,Bool.not_eq_true',beq_eq_false_iff_ne]
  omega
 rw[z2p s k hs hk,e,zmz s m hs hm]
 unfold z5w
 rw[Bool.eq_iff_iff]
 simp
theorem zua (m:Nat) (l:List Nat):decide (0≤z8p m l)=(zm1 m l).isSome:=by
 unfold z8p zjc zm1
 have e:(fun s=>decide (((pcK m 32:Nat):Int)/2+1≤(pcK s 32:Nat)))=z6d m:=by
  funext s;unfold z6d;rw[Bool.eq_iff_iff];simp only[decide_eq_true_eq];omega
 rw[e]
 cases l.findIdx? (z6d m)<;>simp
theorem z1r (m:Nat) (l:List Nat) (hm:m<4294967296) (hl:l.length≤9223372036854775807) (hs:∀s∈l,s<4294967296):Spec Tryz.prog 74 [eV m l] [] (I .i64 (za2 m l)) []:=by
 have e16:=yiy m hm
 refine spB Tryz.func74 54 [.tmp 2] Tryz.results74 ?_
 try refine xst ?_
 refine cI (fun h1 => ?_) fun h1 => ?_
 ·have h':m=0∨65535<m:=by omega
  have e:za2 m l=1:=by unfold za2;rw[if_pos h']
  try refine xst ?_
  exact zcj rfl trivial (Wk.of (by rw[e];rfl))
 ·have h':¬(m=0∨65535<m):=by omega
  try refine xst ?_
  refine cI (fun h2 => ?_) fun h2 => ?_
  ·have e:za2 m l=4:=by unfold za2;rw[if_neg h',if_pos (by omega)]
   try refine xst ?_
   exact zcj rfl trivial (Wk.of (by rw[e];rfl))
  ·have h2':l.length=16:=by omega
   try refine xst ?_
   refine zay (fun k:Nat=>⟨[(21,I .i64 k),(20,I .i64 l.length),(19,.c (.sl 1 (l.map ziu))),(1,.ptr 0 0 0)],[(0,.blk 38 [I .u32 m,.c (.sl 1 (l.map ziu))])],1⟩) (fun k:Nat=>k≤16∧∀j,j<k→z5w m j (l.getD j 0)=false) (fun k:Nat=>16-k) (0) (⟨by omega,fun j h=>by omega⟩) (To.mk [0] rfl rfl (by decide) ?_ ?_) ?_
   ·simp(etaStruct := .none)only[push_cast,zab,seval]
   ·simp(etaStruct := .none)only[push_cast,zab,seval]
   rintro k ⟨hk,hn⟩
   try refine xst ?_
   refine zau (fun h3 => ?_) (fun h3 => ?_)
   ·(try replace h3:=xhh h3)
    have hlt:k<l.length:=by omega
    have hsk:l[k]<4294967296:=hs _ (List.getElem_mem hlt)
    have hbt:=z5v m k l[k] hm hsk (by omega)
    iterate 2(try simp(etaStruct := .none)only[push_cast,zab,seval,zb9 _ _ _ hlt,ziu];try refine xsu ?_)
    rw[hbt]
    refine cI (fun h4 => ?_) fun h4 => ?_
    ·have hany:(List.range 16).any (fun k=>z5w m k (l.getD k 0))=true:=List.any_eq_true.2 ⟨k,by simp;omega,by rw[zsl _ _ _ hlt];exact h4⟩
     have e:za2 m l=4:=by unfold za2;rw[if_neg h',if_neg (by omega),if_pos hany]
     iterate 2(try simp(etaStruct := .none)only[push_cast,zab,seval,zb9 _ _ _ hlt,ziu];try refine xsu ?_)
     exact zcj rfl trivial (Wk.of (by rw[e];rfl))
    ·iterate 2(try simp(etaStruct := .none)only[push_cast,zab,seval,zb9 _ _ _ hlt,ziu];try refine xsu ?_)
     refine⟨k+1,⟨by omega,fun j hj=>by
 by_cases e:j=k
 ·subst e;rw[zsl _ _ _ hlt];exact h4
 ·exact hn j (by omega)⟩, by omega, To.mk [0] rfl rfl (by decide) ?_ ?_⟩
     ·(iterate 2((try simp(etaStruct := .none)only[push_cast,zab,seval,zb9 _ _ _ hlt,ziu]);(try(refine xsu ?_;try exact xtI))))
     ·(iterate 2((try simp(etaStruct := .none)only[push_cast,zab,seval,zb9 _ _ _ hlt,ziu]);(try(refine xsu ?_;try exact xtI))))
   ·(try replace h3:=xhh h3)
    have hge:k=16:=by omega
    subst hge
    have hbad:¬((List.range 16).any (fun k=>z5w m k (l.getD k 0))=true):=by
     simp only[Bool.not_eq_true,List.any_eq_false]
     intro j hj
     rw[hn j (by simpa using hj)]
    have hon:=zua m l
    try refine xst ?_
    refine caP (zif m l hm hl hs) ?_
    try refine xst ?_
    rw[hon]
    refine cI (fun h5 => ?_) fun h5 => ?_
    ·have e:za2 m l=4:=by unfold za2;rw[if_neg h',if_neg (by omega),if_neg hbad,if_pos h5]
     try refine xst ?_
     exact zcj rfl trivial (Wk.of (by rw[e];rfl))
    ·have e:za2 m l=0:=by unfold za2;rw[if_neg h',if_neg (by omega),if_neg hbad,if_neg (by rw[h5];decide)]
     try refine xst ?_
     exact zcj rfl trivial (Wk.of (by rw[e];rfl))
def zib (f:Nat→Nat) (i:Nat) (g:List Nat):List Nat:=(g.take i).map f++g.drop i
theorem zkm (f:Nat→Nat) (i:Nat) (g:List Nat):(zib f i g).length=g.length:=by simp[zib];omega
theorem ych (f:Nat→Nat) (g:List Nat):zib f 0 g=g:=by simp[zib]
theorem zza (f:Nat→Nat) (i:Nat) (g:List Nat) (h:g.length≤i):zib f i g=g.map f:=by simp[zib,List.take_of_length_le h,List.drop_of_length_le h]
theorem z3q (f:Nat→Nat) (i:Nat) (g:List Nat) (h:i<g.length):(zib f i g)[i]'(by rw[zkm];exact h)=g[i]:=by
 unfold zib
 rw[List.getElem_append_right (by simp;omega)]
 simp[Nat.min_eq_left (Nat.le_of_lt h)]
theorem zy9 (f:Nat→Nat) (i:Nat) (g:List Nat) (h:i<g.length):(zib f i g).set i (f g[i])=zib f (i+1) g:=by
 unfold zib
 rw[List.set_append_right _ _ (by simp;omega)]
 rw[List.length_map,List.length_take,Nat.min_eq_left (Nat.le_of_lt h),Nat.sub_self,List.drop_eq_getElem_cons h,List.set_cons_zero,List.take_succ_eq_append_getElem h,List.map_append,List.append_assoc]
 rfl
theorem zrs (l:List Nat) (i:Nat) (x:Int) (n:Nat) (h:x=n):(l.map ziu).set i [.v (.int .u32 x)]=(l.set i n).map ziu:=by rw[h,List.map_set];rfl
theorem z1o (n k:Nat) (hn:n<4294967296) (hk:k<32):bits .andNot .u32 (n:Int) (IntKind.u32.wrap (1*2 ^ min k IntKind.u32.bits))=(clr n k:Nat):=by
 have:=zwr k hk
 rw[z55 k hk,zmz n (2 ^ k) hn (by omega),z18 n k hn hk]
theorem yak (l:List Nat) (hl:l.length≤1000000000) (h0:l ≠ []):Spec Tryz.prog 72 [.c (.sl 1 (l.map ziu))] [] (.own 0) [.row 35 1 (l.map ziu)]:=by
 refine spB Tryz.func72 8 [.tmp 2] Tryz.results72 ?_
 try refine xst ?_
 intro b hb
 try refine xst ?_
 refine zau (fun h => ?_) (fun h => ?_)
 ·exact absurd (List.map_eq_nil_iff.1 (hb h)) h0
 ·try refine xst ?_
  refine zb6 [1] rfl rfl (by decide) ⟨?_,trivial⟩ trivial ?_
  ·simp(etaStruct := .none)only[push_cast,zab,seval]
  ·simp(etaStruct := .none)only[push_cast,zab,seval]
theorem z9i (m k:Nat) (l:List Nat) (hm:m<4294967296) (hk:k<16) (hkl:k<l.length) (hl:l.length≤1000000000) (hs:∀s∈l,s<4294967296) :
 Spec Tryz.prog 128 [.ptr 0 0 0,I .i64 k] [.blk 38 [I .u32 m,.own 1],.row 35 1 (l.map ziu)] .undef [.blk 38 [I .u32 (clr m k:Nat),.own 1],.row 35 1 ((lv l k).map ziu)]:=by
 refine spB Tryz.func128 40 [] Tryz.results128 ?_
 try refine xz1 (z1o m k hm (by omega)) ?_
 have hlen:(l.set k 0).length=l.length:=by simp
 refine zay (fun i:Nat=>⟨[(25,I .i64 i),(24,I .i64 l.length),(1,I .i64 k),(0,.ptr 0 0 0)],[(0,.blk 38 [I .u32 (clr m k:Nat),.own 1]),(1,.row 35 1 ((zib (clr · k) i (l.set k 0)).map ziu))],2⟩) (fun i=>i≤l.length) (fun i=>l.length-i) 0 (Nat.zero_le _) (To.mk [0,1] rfl rfl (by decide) ?_ ?_) ?_
 ·simp(etaStruct := .none)only[push_cast,zab,seval,ych]
  exact zrs l k 0 0 rfl
 ·(iterate 2((try simp(etaStruct := .none)only[push_cast,zab,seval,List.length_set]);(try(refine xsu ?_;try exact xtI))))
 ·rintro i hi
  have hg:∀s∈l.set k 0,s<4294967296:=fun s hh=>by rcases List.mem_or_eq_of_mem_set hh with h|h;exact hs s h;omega
  try refine xst ?_
  refine zau (fun h => ?_) (fun h => ?_)
  ·have hlt:i<(l.set k 0).length:=by simpa using h
   have hlp:i<(zib (clr · k) i (l.set k 0)).length:=by rw[zkm];exact hlt
   have hu:=z1o (l.set k 0)[i] k (hg _ (List.getElem_mem hlt)) (by omega)
   iterate 2(try simp(etaStruct := .none)only[push_cast,zab,seval,zb9 _ _ _ hlp,ziu,zkm,z3q _ i _ hlt,hu];try refine xsu ?_)
   refine⟨i+1,by omega,by omega,To.mk [0,1] rfl rfl (by decide) ?_ ?_⟩
   ·try refine xst ?_
    rw[zrs _ _ _ _ rfl,zy9 _ i _ hlt]
   ·(try(refine xst ?_;try exact xtI))
  ·have hge:i=l.length:=by simp at h;omega
   try refine xst ?_
   refine zb6 [0,1] rfl rfl (by decide) ⟨?_,?_,trivial⟩ trivial ?_
   ·(try(refine xst ?_;try exact xtI))
   ·iterate 2(try simp(etaStruct := .none)only[push_cast,zab,seval,zza _ _ _ (show (l.set k 0).length≤i by omega)];try refine xsu ?_)
    unfold lv
    rfl
   ·try refine xst ?_
    exact Wk.undef _
theorem zsa (m:Nat) (b:Int) (hm:m<65536):(decide (0≤b∧b<16)&&zci m b.toNat)=zg9 m b:=by
 by_cases h:0≤b∧b<16
 ·obtain⟨k,rfl⟩:=Int.eq_ofNat_of_zero_le h.1
  rw[zsk m k (by omega),decide_eq_true h];rfl
 ·rw[zsj m b hm h,decide_eq_false h];rfl
theorem z3v (m:Nat) (l:List Nat) (k:Nat) (h:zm1 m l=some k):z8p m l=k:=by
 have e:(fun s=>decide (((pcK m 32:Nat):Int)/2+1≤(pcK s 32:Nat)))=z6d m:=by
  funext s;unfold z6d;rw[Bool.eq_iff_iff];simp only[decide_eq_true_eq];omega
 unfold z8p zjc
 unfold zm1 at h
 rw[e,h]
theorem z8o (m:Nat) (l:List Nat) (h:zm1 m l=none):z8p m l<0:=by
 have:=zua m l
 rw[h]at this
 simpa using this
theorem z0q (m:Nat) (b:Int) (hm:m<65536) (h:zg9 m b=true):∃k:Nat,b=k∧k<16∧zci m k=true:=by
 by_cases hb:0≤b∧b<16
 ·obtain⟨k,rfl⟩:=Int.eq_ofNat_of_zero_le hb.1
  exact⟨k,rfl,by omega,by rw[←zsk m k (by omega)];exact h⟩
 ·rw[zsj m b hm hb]at h;simp at h
theorem yd7 {m:Nat} {g:List Nat} {b a:Int} (h:za2 m g≠0):zcc m g b a=((0,[]),false,za2 m g):=by unfold zcc;rw[if_pos h]
theorem yd6 {m:Nat} {g:List Nat} {b a:Int} (h:za2 m g=0) (h2:(zg9 m b&&zg9 m a)=false):zcc m g b a=((0,[]),false,7):=by unfold zcc;rw[if_neg (fun x=>x h),if_pos h2]
theorem yd4 {m:Nat} {g:List Nat} {b a:Int} (h:za2 m g=0) (h2:¬(zg9 m b&&zg9 m a)=false) (h3:b=a):zcc m g b a=((0,[]),false,1):=by unfold zcc;rw[if_neg (fun x=>x h),if_neg h2,if_pos h3]
theorem yd5 {m:Nat} {g:List Nat} {b a:Int} (h:za2 m g=0) (h2:¬(zg9 m b&&zg9 m a)=false) (h3:b≠a) (h4:zci (g.getD a.toNat 0) b.toNat=true):zcc m g b a=((0,[]),false,8):=by unfold zcc;rw[if_neg (fun x=>x h),if_neg h2,if_neg h3,if_pos h4]
theorem yd3 {m:Nat} {g:List Nat} {b a:Int} (h:za2 m g=0) (h2:¬(zg9 m b&&zg9 m a)=false) (h3:b≠a) (h4:¬zci (g.getD a.toNat 0) b.toNat=true):zcc m g b a=(zll 16 m (g.set a.toNat (g.getD a.toNat 0+2 ^ b.toNat)),!zci (zll 16 m (g.set a.toNat (g.getD a.toNat 0+2 ^ b.toNat))).1 a.toNat,0):=by unfold zcc;rw[if_neg (fun x=>x h),if_neg h2,if_neg h3,if_neg h4]
theorem yd2 (m:Nat) (l:List Nat) (b a:Int) (hm:m<4294967296) (hl:l.length≤9223372036854775807) (hs:∀s∈l,s<4294967296) :
 Spec Tryz.prog 79 [eV m l,I .i64 b,I .i64 a] [] (.tup [eV (zcc m l b a).1.1 (zcc m l b a).1.2,B (zcc m l b a).2.1,I .i64 (zcc m l b a).2.2]) []:=by
 refine spB Tryz.func79 71 [.cell 6 38,.tmp 7,.tmp 8] Tryz.results79 ?_
 try refine xst ?_
 refine zdz (z1r m l hm hl hs) (WkL.refl _) ?_
 try refine xst ?_
 refine zau (fun h => ?_) (fun h => ?_)
 ·have h1:za2 m l≠0:=by simpa using h
  try refine xst ?_
  refine zau (fun _ => ?_) (fun h'=>absurd (h.symm.trans h') (by decide))
  try refine xst ?_
  rw[yd7 h1]
  exact zcj rfl ⟨rfl,trivial⟩ (Wk.tup ⟨Wk.agg ⟨Wk.refl _,Wk.nil 1,trivial⟩,Wk.refl _,Wk.refl _,trivial⟩)
 have h1:za2 m l=0:=by simpa using h
 obtain⟨⟨r1,r2⟩,r3,r4,r5⟩:=zf2 m l h1
 try refine xst ?_
 refine zdz (zno m l b hm) (WkL.refl _) ?_
 try refine xst ?_
 rw[zsa m b (by omega)]
 refine zu9 (fun _=>zno m l a hm) (WkL.refl _) (fun hc => ?_) ?_
 ·have hx:zg9 m b=true:=by simpa using hc
  rw[←zsa m b (by omega)]at hx
  (try simp(etaStruct := .none)only[push_cast,zab,seval])
  simpa using hx
 rw[zsa m a (by omega)]
 try refine xst ?_
 have fin:∀(v:Int) (_:v≠0),True:=fun _ _=>trivial
 refine zau (fun h => ?_) (fun h => ?_)
 ·have h2:(zg9 m b&&zg9 m a)=false:=by revert h;cases zg9 m b<;>cases zg9 m a<;>decide
  try refine xst ?_
  refine zau (fun _ => ?_) (fun h'=>absurd h' (by decide))
  try refine xst ?_
  rw[yd6 h1 h2]
  exact zcj rfl ⟨rfl,trivial⟩ (Wk.tup ⟨Wk.agg ⟨Wk.refl _,Wk.nil 1,trivial⟩,Wk.refl _,Wk.refl _,trivial⟩)
 have h2:zg9 m b=true∧zg9 m a=true:=by revert h;cases zg9 m b<;>cases zg9 m a<;>decide
 have h2':¬(zg9 m b&&zg9 m a)=false:=by rw[h2.1,h2.2];decide
 obtain⟨B',rfl,hB,bB⟩:=z0q m b (by omega) h2.1
 obtain⟨A',rfl,hA,bA⟩:=z0q m a (by omega) h2.2
 try refine xst ?_
 refine zau (fun h => ?_) (fun h => ?_)
 ·have h3:(B':Int)=(A':Int):=by simpa using h
  try refine xst ?_
  refine zau (fun _ => ?_) (fun h'=>absurd h' (by decide))
  try refine xst ?_
  rw[yd4 h1 h2' h3]
  exact zcj rfl ⟨rfl,trivial⟩ (Wk.tup ⟨Wk.agg ⟨Wk.refl _,Wk.nil 1,trivial⟩,Wk.refl _,Wk.refl _,trivial⟩)
 have h3:(B':Int)≠(A':Int):=by simpa using h
 have hlt:A'<l.length:=by omega
 have hg:l[A']<4294967296:=hs _ (List.getElem_mem hlt)
 have hgd:l.getD A' 0=l[A']:=zsl _ _ _ hlt
 iterate 2(try simp(etaStruct := .none)only[push_cast,zab,seval,zb9 _ _ _ hlt,ziu,z2p l[A'] B' hg (by omega)];try refine xsu ?_)
 refine zau (fun h => ?_) (fun h => ?_)
 ·try refine xst ?_
  refine zau (fun _ => ?_) (fun h'=>absurd h' (by decide))
  try refine xst ?_
  rw[yd5 h1 h2' h3 (by rw[Int.toNat_natCast,Int.toNat_natCast,hgd];exact h)]
  exact zcj rfl ⟨rfl,trivial⟩ (Wk.tup ⟨Wk.agg ⟨Wk.refl _,Wk.nil 1,trivial⟩,Wk.refl _,Wk.refl _,trivial⟩)
 obtain⟨o1,o2⟩:=zzg l[A'] B' hg (by omega) h
 have hp:=zwr B' (by omega)
 rw[yd3 h1 h2' h3 (by rw[Int.toNat_natCast,Int.toNat_natCast,hgd,h];decide)]
 rw[Int.toNat_natCast,Int.toNat_natCast,hgd]
 try refine xst ?_
 refine zau (fun h'=>absurd h' (by simp[h1])) (fun _ => ?_)
 try refine xst ?_
 refine zfj [] (yak l (by omega) (by intro e;rw[e]at r3;simp at r3)) (WkL.refl _) rfl List.nodup_nil (by simp[zbu]) ?_
 have hor:bits .or .u32 (l[A']:Int) ((2:Int) ^ B')=(l[A']:Int)+2 ^ B':=by
  have:=yhz l[A'] (2 ^ B') hg (show 2 ^ B'<4294967296 by omega)
  rw[o1]at this
  push_cast at this
  exact this
 iterate 2(try simp(etaStruct := .none)only[push_cast,zab,seval,zb9 _ _ _ hlt,ziu,z55 B' (show B'<32 by omega),hor];try refine xsu ?_)
 rw[zrs l A' _ (l[A']+2 ^ B') (by push_cast;rfl)]
 have hgl:(l.set A' (l[A']+2 ^ B')).length=16:=by rw[List.length_set];exact r3
 have hgs:∀s∈l.set A' (l[A']+2 ^ B'),s<4294967296:=fun s hh=>by
  rcases List.mem_or_eq_of_mem_set hh with h|h
  ·exact hs s h
  ·rw[h];exact o2
 generalize l.set A' (l[A']+2 ^ B')=g0 at hgl hgs ⊢
 refine zcl (zif m g0 hm (by omega) hgs) (WkL.refl _) rfl ?_
 try refine xst ?_
 refine zay (fun p:Nat × List Nat=>⟨[(10,I .i64 (z8p p.1 p.2)),(3,.ptr 0 0 0),(6,.ptr 1 0 0),(2,I .i64 A')],[(0,.blk 38 [I .u32 p.1,.own 2]),(1,.blk 38 [I .u32 0,.c (.v (.slice none 0 0))]),(2,.row 35 1 (p.2.map ziu))],3⟩) (fun p=>(p.1≤m∧p.2.length=16∧∀s∈p.2,s<4294967296)∧∃n,nz p.2≤n∧zll 16 m g0=zll n p.1 p.2) (fun p=>nz p.2) (m,g0) ⟨⟨Nat.le_refl _,hgl,hgs⟩,16,by rw[←hgl];exact ycr g0,rfl⟩ (To.mk [0,1,2] rfl rfl (by decide) ?_ ?_) ?_
 ·simp(etaStruct := .none)only[push_cast,zab,seval]
 ·simp(etaStruct := .none)only[push_cast,zab,seval]
 rintro⟨m',g⟩ ⟨⟨q1,q2,q3⟩,n,q4,q5⟩
 simp only at q1 q2 q3 q4
 try refine xst ?_
 cases hT:zm1 m' g with
 | none =>
  have hn:=z8o m' g hT
  refine zau (fun h=>absurd h (by simp;omega)) (fun _ => ?_)
  rw[z3f _ _ _ hT]at q5
  rw[q5]
  try refine xst ?_
  refine zcl (zno m' g A' (by omega)) (WkL.refl _) rfl ?_
  have mm:(decide (0≤(A':Int)∧(A':Int)<16)&&zci m' (A':Int).toNat)=zci m' A':=by rw[Int.toNat_natCast,decide_eq_true (by omega)];rfl
  rw[mm]
  try refine xst ?_
  (try refine⟨by kernel_rfl,?_⟩)
  exact zcj rfl ⟨rfl,trivial⟩ (Wk.refl _)
 | some k =>
  have hk:=z3v m' g k hT
  obtain⟨k1,k2,k3⟩:=zhd m' g k hT
  obtain⟨n',j1,j2⟩:=z3e n m' g k hT q4
  rw[hk]
  refine zau (fun _ => ?_) (fun h=>absurd h (by simp))
  try refine xst ?_
  refine zfj [0,2] (z9i m' k g (by omega) (by omega) k1 (by omega) q3) (WkL.refl _) rfl (by decide) (by simp[zbu]) ?_
  try refine xst ?_
  have hc:=zmr m' k
  have hls:∀s∈lv g k,s<4294967296:=fun s hh=>by
   unfold lv at hh
   obtain⟨u,hu,rfl⟩:=List.mem_map.1 hh
   have hu2:u<4294967296:=by
    rcases List.mem_or_eq_of_mem_set hu with h|h
    ·exact q3 u h
    ·omega
   exact Nat.lt_of_le_of_lt (zmr u k) hu2
  refine zcl (zif (clr m' k) (lv g k) (by omega) (by rw[zup];omega) hls) (WkL.refl _) rfl ?_
  try refine xst ?_
  refine⟨(clr m' k,lv g k),⟨⟨by simp only;omega,by simp only;rw[zup];omega,hls⟩,n',j1,by rw[q5,j2]⟩,z31 g k k1 k3,To.mk [0,1,2] rfl rfl (by decide) ?_ ?_⟩
  ·simp(etaStruct := .none)only[push_cast,zab,seval]
  ·simp(etaStruct := .none)only[push_cast,zab,seval]
end Go.Proofs.YtmjbgbmegbkmhaaGreat
namespace Go.Proofs.YtmjbgbmegbkmhaaGreat
set_option linter.all false
open Go.RowKit
set_option maxRecDepth 100000
set_option maxHeartbeats 1000000
structure Hst where
 sty:Sty
 seats:List Sea
 m:Nat
 ag:List Nat
 most:Int
deriving Inhabited
abbrev zoq (h:Hst):List AV := [I .i64 h.sty.start.f.w,I .i64 h.sty.start.f.h,.c (.sl 1 (h.sty.start.f.p.map zac)),.c (.sl 2 (h.sty.start.bases.map za6)),.c (.sl 1 (h.sty.start.stocks.map zac)),.c (.sl 1 (h.sty.start.mines.map zac)),.c (.sl 7 (h.sty.start.troops.map zat)),I .i64 h.sty.start.next,I .i64 h.sty.start.now,.c (.sl 1 (h.sty.turns.map zdp)),.c (.sl 3 (h.seats.map zbs)),I .u32 h.m,.c (.sl 1 (h.ag.map ziu)),I .i64 h.most]
abbrev zw7 (h:Hst):AV := .agg (zoq h)
structure HstL (h : Hst) : Prop where
 s:StyL h.sty
 l:h.seats.length≤9223372036854775807
 a:∀s∈h.seats,zfp s
 m:h.m<4294967296
 g:h.ag.length≤9223372036854775807
 e:∀s∈h.ag,s<4294967296
def zfe (h:Hst) (i:Nat):Bool:=decide ((h.seats.getD i default).gone = !zci h.m i)
def zrb (WR:Cel→List Int) (h:Hst):Int:=if zrr WR h.sty≠0 then zrr WR h.sty else if za0 h.seats≠0 then za0 h.seats else if za2 h.m h.ag≠0 then za2 h.m h.ag else if ¬(1≤h.most∧h.most≤100)then 1 else
 if h.seats.length≠h.sty.start.bases.length∨h.m/2 ^ h.seats.length≠0 then 4 else if (List.range h.seats.length).all (zfe h)then 0 else 4
theorem zsi (n:Int):Spec Tryz.prog 27 [I .i64 n] [] (B (decide (1≤n)&&decide (n≤100))) []:=by
 refine spB Tryz.func27 9 [.tmp 2] Tryz.results27 ?_
 try refine xst ?_
 exact xrz rfl
theorem z56 (m k:Nat) (hm:m<4294967296) (hk:k<32):decide (bits .and .u32 ((m:Int).fdiv (2 ^ min k IntKind.u32.bits)) 1=0) = !zci m k:=by
 rw[zx4 m k hk]
 have h1:m/2 ^ k≤m:=Nat.div_le_self _ _
 have:=z7m (m/2 ^ k) 1 (by omega) (by omega)
 rw[show ((1:Nat):Int)=1 from rfl]at this
 rw[this,Nat.and_one_is_mod]
 unfold zci
 rw[Bool.eq_iff_iff]
 simp only[decide_eq_true_eq,Bool.not_eq_true',beq_eq_false_iff_ne]
 omega
theorem ybq (m k:Nat) (hm:m<4294967296) (hk:k<32):(m:Int).fdiv (2 ^ min k IntKind.u32.bits)=((m/2 ^ k:Nat):Int):=zx4 m k hk
theorem zjs (h:Hst) (WR:Cel→List Int) (hWR:∀a,zap h.sty.start.f [a] (WR a)) (hl:HstL h):Spec Tryz.prog 31 [zw7 h] [] (I .i64 (zrb WR h)) []:=by
 have S1:=zys h.sty WR hWR hl.s
 have S2:=zdl h.seats hl.l hl.a
 have S3:=z1r h.m h.ag hl.m hl.g hl.e
 have eH:zrb WR h=if zrr WR h.sty≠0 then zrr WR h.sty else if za0 h.seats≠0 then za0 h.seats else if za2 h.m h.ag≠0 then za2 h.m h.ag else if ¬(1≤h.most∧h.most≤100)then 1 else if h.seats.length≠h.sty.start.bases.length∨h.m/2 ^ h.seats.length≠0 then 4 else if (List.range h.seats.length).all (zfe h)then 0 else 4:=rfl
 have h8:za0 h.seats=0→h.seats.length≤8:=fun h0=>(zb1 h0).2.1
 have hm:=hl.m
 generalize zrb WR h=E at *
 generalize zrr WR h.sty=e1 at *
 generalize za0 h.seats=e2 at *
 generalize za2 h.m h.ag=e3 at *
 refine spB Tryz.func31 66 [.tmp 2] Tryz.results31 ?_
 (iterate 2((try simp(etaStruct := .none)only[push_cast,seval]);(try(refine xsu ?_;try exact xtI))))
 refine zbk [some 7,some 8,some 9,some 10,some 11,some 12,some 13,some 14,some 15,some 16,some 17] rfl ?_
 intro Oq lq Rq hlq hdq hRq
 subst hlq
 iterate 2(refine zax fun rq hrq => ?_;(iterate 2((try simp(etaStruct := .none)only[push_cast,seval,hdq,id]);(try(refine xsu ?_;try exact xtI))));subst hrq)
 refine zax fun rq hrq => ?_
 (iterate 2((try simp(etaStruct := .none)only[push_cast,seval,hdq,id]);(try(refine xsu ?_;try exact xtI))))
 refine caP (S1) ?_
 (iterate 2((try simp(etaStruct := .none)only[push_cast,seval,hdq,id]);(try(refine xsu ?_;try exact xtI))))
 subst hrq
 iterate 2(refine zax fun rq hrq => ?_;(iterate 2((try simp(etaStruct := .none)only[push_cast,seval,hdq,id]);(try(refine xsu ?_;try exact xtI))));subst hrq)
 refine zax fun rq hrq => ?_
 (iterate 2((try simp(etaStruct := .none)only[push_cast,seval,hdq,id]);(try(refine xsu ?_;try exact xtI))))
 refine caP (S2) ?_
 (iterate 2((try simp(etaStruct := .none)only[push_cast,seval,hdq,id]);(try(refine xsu ?_;try exact xtI))))
 subst hrq
 iterate 2(refine zax fun rq hrq => ?_;(iterate 2((try simp(etaStruct := .none)only[push_cast,seval,hdq,id]);(try(refine xsu ?_;try exact xtI))));subst hrq)
 refine zax fun rq hrq => ?_
 (iterate 2((try simp(etaStruct := .none)only[push_cast,seval,hdq,id]);(try(refine xsu ?_;try exact xtI))))
 refine caP (S3) ?_
 (iterate 2((try simp(etaStruct := .none)only[push_cast,seval,hdq,id]);(try(refine xsu ?_;try exact xtI))))
 subst hrq
 iterate 2(refine zax fun rq hrq => ?_;(iterate 2((try simp(etaStruct := .none)only[push_cast,seval,hdq,id]);(try(refine xsu ?_;try exact xtI))));subst hrq)
 refine zlu ?_
 subst hRq
 clear hdq Oq
 refine zlt (by kernel_rfl) ?_
 (iterate 2((try simp(etaStruct := .none)only[push_cast,seval]);(try(refine xsu ?_;try exact xtI))))
 refine zay (fun k:Nat=>⟨[(17,I .i64 k),(16,.agg [I .i64 e1,I .i64 e2,I .i64 e3]),(1,.ptr 0 0 0)],[(0,.blk 40 (zoq h))],1⟩) (fun k:Nat=>k≤3∧(1≤k→e1=0)∧(2≤k→e2=0)∧(3≤k→e3=0)) (fun k:Nat=>3-k) (0) (⟨by omega,by omega,by omega,by omega⟩) (To.mk [0] rfl rfl (by decide) ?_ ?_) ?_
 ·simp(etaStruct := .none)only[push_cast,zab,seval]
 ·simp(etaStruct := .none)only[push_cast,zab,seval]
 rintro k ⟨hk,k1,k2,k3⟩
 (iterate 2((try simp(etaStruct := .none)only[push_cast,seval]);(try(refine xsu ?_;try exact xtI))))
 refine cI (fun h1 => ?_) fun h1 => ?_
 ·obtain⟨e,hx,he⟩:∃e:Int,([I .i64 e1,I .i64 e2,I .i64 e3]:List AV)[k]? = some (I .i64 e)∧(k=0∧e=e1∨k=1∧e=e2∨k=2∧e=e3):=by
   have:k=0∨k=1∨k=2:=by omega
   rcases this with rfl|rfl|rfl
   ·exact⟨e1,rfl,by omega⟩
   ·exact⟨e2,rfl,by omega⟩
   ·exact⟨e3,rfl,by omega⟩
  (iterate 2((try simp(etaStruct := .none)only[push_cast,seval,hx,Int.toNat_natCast,Nat.mul_one]);(try(refine xsu ?_;try exact xtI))))
  refine cI (fun h2 => ?_) fun h2 => ?_
  ·have eE:E=e:=by
    rw[eH]
    rcases he with ⟨a,rfl⟩|⟨a,rfl⟩|⟨a,rfl⟩
    ·rw[if_pos h2]
    ·rw[if_neg (fun x=>x (k1 (by omega))),if_pos h2]
    ·rw[if_neg (fun x=>x (k1 (by omega))),if_neg (fun x=>x (k2 (by omega))),if_pos h2]
   (iterate 2((try simp(etaStruct := .none)only[push_cast,seval,hx,Int.toNat_natCast,Nat.mul_one]);(try(refine xsu ?_;try exact xtI))))
   exact zcj rfl trivial (Wk.of (by rw[eE];rfl))
  ·(iterate 2((try simp(etaStruct := .none)only[push_cast,seval,hx,Int.toNat_natCast,Nat.mul_one]);(try(refine xsu ?_;try exact xtI))))
   refine⟨k+1,⟨by omega,fun _=>by omega,fun _=>by omega,fun _=>by omega⟩,by omega,To.mk [0] rfl rfl (by decide) ?_ ?_⟩
   ·(iterate 2((try simp(etaStruct := .none)only[push_cast,seval,hx,Int.toNat_natCast,Nat.mul_one]);(try(refine xsu ?_;try exact xtI))))
   ·(iterate 2((try simp(etaStruct := .none)only[push_cast,seval,hx,Int.toNat_natCast,Nat.mul_one]);(try(refine xsu ?_;try exact xtI))))
 ·have z1:=k1 (by omega)
  have z2:=k2 (by omega)
  have z3:=k3 (by omega)
  have h8:=h8 z2
  rw[if_neg (fun x=>x z1),if_neg (fun x=>x z2),if_neg (fun x=>x z3)]at eH
  have hsh:=ybq h.m h.seats.length hm (by omega)
  (iterate 2((try simp(etaStruct := .none)only[push_cast,seval]);(try(refine xsu ?_;try exact xtI))))
  refine caP (zsi h.most) ?_
  (iterate 2((try simp(etaStruct := .none)only[push_cast,seval]);(try(refine xsu ?_;try exact xtI))))
  refine cI (fun h3 => ?_) fun h3 => ?_
  ·have eE:E=1:=by rw[eH,if_pos (by omega)]
   (iterate 2((try simp(etaStruct := .none)only[push_cast,seval]);(try(refine xsu ?_;try exact xtI))))
   exact zcj rfl trivial (Wk.of (by rw[eE];rfl))
  ·rw[if_neg (by omega)]at eH
   (iterate 2((try simp(etaStruct := .none)only[push_cast,seval]);(try(refine xsu ?_;try exact xtI))))
   refine cI (fun h4 => ?_) fun h4 => ?_
   ·have eE:E=4:=by
     rw[eH,if_pos]
     have:=Int.natCast_eq_zero (n:=h.m/2 ^ h.seats.length)
     generalize h.m/2 ^ h.seats.length=z at *
     omega
    (iterate 2((try simp(etaStruct := .none)only[push_cast,seval]);(try(refine xsu ?_;try exact xtI))))
    exact zcj rfl trivial (Wk.of (by rw[eE];rfl))
   ·rw[if_neg (by generalize h.m/2 ^ h.seats.length=z at *;omega)]at eH
    (iterate 2((try simp(etaStruct := .none)only[push_cast,seval]);(try(refine xsu ?_;try exact xtI))))
    refine zay (fun k:Nat=>⟨[(50,I .i64 k),(49,I .i64 h.seats.length),(48,.c (.sl 3 (h.seats.map zbs))),(1,.ptr 0 0 0)],[(0,.blk 40 (zoq h))],1⟩) (fun k:Nat=>k≤h.seats.length∧∀j,j<k→zfe h j=true) (fun k:Nat=>h.seats.length-k) (0) (⟨Nat.zero_le _,fun j hj=>by omega⟩) (To.mk [0] rfl rfl (by decide) ?_ ?_) ?_
    ·simp(etaStruct := .none)only[push_cast,zab,seval]
    ·simp(etaStruct := .none)only[push_cast,zab,seval]
    rintro k ⟨hk2,hn⟩
    (iterate 2((try simp(etaStruct := .none)only[push_cast,seval]);(try(refine xsu ?_;try exact xtI))))
    refine cI (fun h5 => ?_) fun h5 => ?_
    ·have hlt:k<h.seats.length:=by omega
     have hub:=z56 h.m k hm (by omega)
     (iterate 2((try simp(etaStruct := .none)only[push_cast,seval,zaa _ _ _ hlt,zbs,hub]);(try(refine xsu ?_;try exact xtI))))
     refine zbk [some 55,some 56,some 57,some 58,some 59,some 60,some 61,some 62,some 63,some 64] rfl ?_
     intro Oq lq Rq hlq hdq hRq
     subst hlq
     iterate 10(refine zax fun rq hrq => ?_;(iterate 2((try simp(etaStruct := .none)only[push_cast,seval,hdq,id,zaa _ _ _ hlt,zbs,hub]);(try(refine xsu ?_;try exact xtI))));subst hrq)
     refine zlu ?_
     subst hRq
     clear hdq Oq
     refine zlt (by kernel_rfl) ?_
     (iterate 2((try simp(etaStruct := .none)only[push_cast,seval,zaa _ _ _ hlt,zbs,hub]);(try(refine xsu ?_;try exact xtI))))
     refine cI (fun h6 => ?_) fun h6 => ?_
     ·have eE:E=4:=by
       rw[eH,if_neg]
       intro ha
       have hx:=List.all_eq_true.1 ha k (List.mem_range.2 hlt)
       unfold zfe at hx
       exact h6 (of_decide_eq_true hx)
      (iterate 2((try simp(etaStruct := .none)only[push_cast,seval,zaa _ _ _ hlt,zbs,hub]);(try(refine xsu ?_;try exact xtI))))
      exact zcj rfl trivial (Wk.of (by rw[eE];rfl))
     ·have hnn:∀j,j<k+1→zfe h j=true:=fun j hj=>by
       rcases Nat.lt_or_ge j k with hx|hx
       ·exact hn j hx
       ·rw[show j=k by omega];unfold zfe;rw[decide_eq_true h6]
      (iterate 2((try simp(etaStruct := .none)only[push_cast,seval,zaa _ _ _ hlt,zbs,hub]);(try(refine xsu ?_;try exact xtI))))
      refine⟨k+1,⟨by omega,hnn⟩,by omega,To.mk [0] rfl rfl (by decide) ?_ ?_⟩
      ·(iterate 2((try simp(etaStruct := .none)only[push_cast,seval,zaa _ _ _ hlt,zbs,hub]);(try(refine xsu ?_;try exact xtI))))
      ·simp(etaStruct := .none)only[push_cast,zab,seval]
    ·have eE:E=0:=by
      rw[eH,if_pos]
      rw[List.all_eq_true]
      intro j hj
      exact hn j (by have:=List.mem_range.1 hj;omega)
     (iterate 2((try simp(etaStruct := .none)only[push_cast,seval]);(try(refine xsu ?_;try exact xtI))))
     exact zcj rfl trivial (Wk.of (by rw[eE];rfl))
end Go.Proofs.YtmjbgbmegbkmhaaGreat
namespace Go.Proofs.YtmjbgbmegbkmhaaGreat
set_option linter.all false
open Go.RowKit
set_option maxRecDepth 100000
set_option maxHeartbeats 2000000
structure HstB (h : Hst) : Prop where
 p:h.sty.start.f.p.length≤17592186044415
 b:h.sty.start.bases.length≤8796093022207
 s:h.sty.start.stocks.length≤17592186044415
 m:h.sty.start.mines.length≤17592186044415
 t:h.sty.start.troops.length≤2513169434916
 u:∀l∈h.sty.turns,l.length≤2932031007402
 n:h.sty.turns.length≤5864062014800
 w:∀s∈h.seats,s.waits.length≤2932031007402
 l:h.seats.length≤3518437208780
 g:h.ag.length≤35184372088831
theorem z2r (l:List Nat) (hl:l.length≤35184372088831):Spec Tryz.prog 72 [.c (.sl 1 (l.map ziu))] [] (.c (.sl 1 (l.map ziu))) []:=by
 refine spB Tryz.func72 8 [.tmp 2] Tryz.results72 ?_
 try refine xst ?_
 intro b hb
 try refine xst ?_
 refine zau (fun h => ?_) (fun h => ?_)
 ·try refine xst ?_
  exact zcj rfl trivial (by rw[hb h];exact Wk.nil _)
 ·try refine xst ?_
  exact zcj rfl trivial (Wk.refl _)
abbrev ydj:List AV := [I .i64 0,I .i64 0,.c (.v (.slice none 0 0)),.c (.v (.slice none 0 0)),.c (.v (.slice none 0 0)),.c (.v (.slice none 0 0)),.c (.v (.slice none 0 0)),I .i64 0,I .i64 0,.c (.v (.slice none 0 0)),.c (.v (.slice none 0 0)),I .u32 0,.c (.v (.slice none 0 0)),I .i64 0]
theorem zhw (h:Hst) (hb:HstB h):Spec Tryz.prog 30 [zw7 h] [] (zw7 h) []:=by
 refine spB Tryz.func30 105 [.cell 2 40] Tryz.results30 ?_
 have hbn:=hb.n
 have hbl:=hb.l
 (iterate 2((try simp(etaStruct := .none)only[push_cast,seval]);(try(refine xsu ?_;try exact xtI))))
 refine zbk [some 12,some 13,some 14,some 15,some 16,some 17,some 18,some 19,some 20,some 21,some 22,some 23,some 24,some 25,some 26,some 27,some 28,some 29,some 30,some 31,some 32,some 33,none,some 34,some 35,none,some 36,some 37,none] rfl ?_
 intro Oq lq Rq hlq hdq hRq
 subst hlq
 iterate 8(refine zax fun rq hrq => ?_;(iterate 2((try simp(etaStruct := .none)only[push_cast,seval,hdq,id]);(try(refine xsu ?_;try exact xtI))));subst hrq)
 refine zax fun rq hrq => ?_
 (iterate 2((try simp(etaStruct := .none)only[push_cast,seval,hdq,id]);(try(refine xsu ?_;try exact xtI))))
 refine caP (ze5 h.sty.start.f.p hb.p) ?_
 (iterate 2((try simp(etaStruct := .none)only[push_cast,seval,hdq,id]);(try(refine xsu ?_;try exact xtI))))
 subst hrq
 iterate 4(refine zax fun rq hrq => ?_;(iterate 2((try simp(etaStruct := .none)only[push_cast,seval,hdq,id]);(try(refine xsu ?_;try exact xtI))));subst hrq)
 refine zax fun rq hrq => ?_
 (iterate 2((try simp(etaStruct := .none)only[push_cast,seval,hdq,id]);(try(refine xsu ?_;try exact xtI))))
 refine caP (zoi h.sty.start.bases hb.b) ?_
 (iterate 2((try simp(etaStruct := .none)only[push_cast,seval,hdq,id]);(try(refine xsu ?_;try exact xtI))))
 subst hrq
 iterate 4(refine zax fun rq hrq => ?_;(iterate 2((try simp(etaStruct := .none)only[push_cast,seval,hdq,id]);(try(refine xsu ?_;try exact xtI))));subst hrq)
 refine zax fun rq hrq => ?_
 (iterate 2((try simp(etaStruct := .none)only[push_cast,seval,hdq,id]);(try(refine xsu ?_;try exact xtI))))
 refine caP (ze5 h.sty.start.stocks hb.s) ?_
 (iterate 2((try simp(etaStruct := .none)only[push_cast,seval,hdq,id]);(try(refine xsu ?_;try exact xtI))))
 subst hrq
 iterate 10(refine zax fun rq hrq => ?_;(iterate 2((try simp(etaStruct := .none)only[push_cast,seval,hdq,id]);(try(refine xsu ?_;try exact xtI))));subst hrq)
 refine zlu ?_
 subst hRq
 clear hdq Oq
 refine zlt (by kernel_rfl) ?_
 (iterate 2((try simp(etaStruct := .none)only[push_cast,seval]);(try(refine xsu ?_;try exact xtI))))
 refine zbk [some 38,some 39,some 40,some 41,some 42,some 43,some 44,some 45,some 46,some 47,some 48,some 49,some 50,some 51,none,some 52,some 53,none] rfl ?_
 intro Oq lq Rq hlq hdq hRq
 subst hlq
 iterate 6(refine zax fun rq hrq => ?_;(iterate 2((try simp(etaStruct := .none)only[push_cast,seval,hdq,id]);(try(refine xsu ?_;try exact xtI))));subst hrq)
 refine zax fun rq hrq => ?_
 (iterate 2((try simp(etaStruct := .none)only[push_cast,seval,hdq,id]);(try(refine xsu ?_;try exact xtI))))
 refine caP (ze5 h.sty.start.mines hb.m) ?_
 (iterate 2((try simp(etaStruct := .none)only[push_cast,seval,hdq,id]);(try(refine xsu ?_;try exact xtI))))
 subst hrq
 iterate 4(refine zax fun rq hrq => ?_;(iterate 2((try simp(etaStruct := .none)only[push_cast,seval,hdq,id]);(try(refine xsu ?_;try exact xtI))));subst hrq)
 refine zax fun rq hrq => ?_
 (iterate 2((try simp(etaStruct := .none)only[push_cast,seval,hdq,id]);(try(refine xsu ?_;try exact xtI))))
 refine caP (ztd h.sty.start.troops hb.t) ?_
 (iterate 2((try simp(etaStruct := .none)only[push_cast,seval,hdq,id]);(try(refine xsu ?_;try exact xtI))))
 subst hrq
 iterate 6(refine zax fun rq hrq => ?_;(iterate 2((try simp(etaStruct := .none)only[push_cast,seval,hdq,id]);(try(refine xsu ?_;try exact xtI))));subst hrq)
 refine zlu ?_
 subst hRq
 clear hdq Oq
 refine zlt (by kernel_rfl) ?_
 (iterate 2((try simp(etaStruct := .none)only[push_cast,seval]);(try(refine xsu ?_;try exact xtI))))
 refine zay (fun k:Nat=>⟨[(63,I .i64 k),(62,I .i64 h.sty.turns.length),(61,.c (.sl 1 (h.sty.turns.map zdp))),(4,.own 2),(2,.ptr 1 0 0),(1,.ptr 0 0 0)],[(0,.blk 40 (zoq h)),(1,.blk 40 ydj),(2,.row 53 1 ((h.sty.turns.take k).map zdp))],3⟩) (fun k:Nat=>k≤h.sty.turns.length) (fun k:Nat=>h.sty.turns.length-k) (0) (Nat.zero_le _) (To.mk [0,1,190] rfl rfl (by decide) ?_ ?_) ?_
 ·simp(etaStruct := .none)only[push_cast,zab,seval,List.take_zero,List.map_nil]
 ·simp(etaStruct := .none)only[push_cast,zab,seval]
 rintro k hk
 (iterate 2((try simp(etaStruct := .none)only[push_cast,seval]);(try(refine xsu ?_;try exact xtI))))
 refine cI (fun h1 => ?_) fun h1 => ?_
 ·have hlt:k<h.sty.turns.length:=by omega
  have ts:=zaq h.sty.turns k hlt
  have hlk:(h.sty.turns.take k).length=k:=by rw[List.length_take];omega
  have hln:=hb.u (h.sty.turns.getD k default) (za1 _ _ hlt)
  (iterate 2((try simp(etaStruct := .none)only[push_cast,seval,zaa _ _ _ hlt,zdp]);(try(refine xsu ?_;try exact xtI))))
  refine caP (zhp (h.sty.turns.getD k default) hln) ?_
  (iterate 2((try simp(etaStruct := .none)only[push_cast,seval,zaa _ _ _ hlt,zdp]);(try(refine xsu ?_;try exact xtI))))
  refine⟨k+1,by omega,by omega,To.mk [0,1,4] rfl rfl (by decide) ?_ ?_⟩
  ·(iterate 2((try simp(etaStruct := .none)only[push_cast,seval,ts,List.map_append,zdp]);(try(refine xsu ?_;try exact xtI))))
  ·(iterate 2((try simp(etaStruct := .none)only[push_cast,seval,zaa _ _ _ hlt,zdp]);(try(refine xsu ?_;try exact xtI))))
 ·obtain rfl:k=h.sty.turns.length:=by omega
  (iterate 2((try simp(etaStruct := .none)only[push_cast,seval,List.take_length]);(try(refine xsu ?_;try exact xtI))))
  refine zay (fun k:Nat=>⟨[(80,I .i64 k),(79,I .i64 h.seats.length),(78,.c (.sl 3 (h.seats.map zbs))),(7,.own 3),(4,.own 2),(2,.ptr 1 0 0),(1,.ptr 0 0 0)],[(0,.blk 40 (zoq h)),(1,.blk 40 ydj),(2,.row 53 1 (h.sty.turns.map zdp)),(3,.row 169 3 ((h.seats.take k).map zbs))],4⟩) (fun k:Nat=>k≤h.seats.length) (fun k:Nat=>h.seats.length-k) (0) (Nat.zero_le _) (To.mk [0,1,2,3] rfl rfl (by decide) ?_ ?_) ?_
  ·simp(etaStruct := .none)only[push_cast,zab,seval,List.take_length,List.take_zero,List.map_nil]
  ·simp(etaStruct := .none)only[push_cast,zab,seval]
  rintro k hk2
  (iterate 2((try simp(etaStruct := .none)only[push_cast,seval,List.take_length]);(try(refine xsu ?_;try exact xtI))))
  refine cI (fun h2 => ?_) fun h2 => ?_
  ·have hlt:k<h.seats.length:=by omega
   have ts:=zaq h.seats k hlt
   have hlk:(h.seats.take k).length=k:=by rw[List.length_take];omega
   have hln:=hb.w (h.seats.getD k default) (za1 _ _ hlt)
   (iterate 2((try simp(etaStruct := .none)only[push_cast,seval,List.take_length,zaa _ _ _ hlt,zbs]);(try(refine xsu ?_;try exact xtI))))
   refine caP (zhp (h.seats.getD k default).waits hln) ?_
   (iterate 2((try simp(etaStruct := .none)only[push_cast,seval,List.take_length,zaa _ _ _ hlt,zbs]);(try(refine xsu ?_;try exact xtI))))
   refine⟨k+1,by omega,by omega,To.mk [0,1,2,6] rfl rfl (by decide) ?_ ?_⟩
   ·(iterate 2((try simp(etaStruct := .none)only[push_cast,seval,ts,List.map_append,zbs]);(try(refine xsu ?_;try exact xtI))))
   ·(iterate 2((try simp(etaStruct := .none)only[push_cast,seval,List.take_length,zaa _ _ _ hlt,zbs]);(try(refine xsu ?_;try exact xtI))))
  ·obtain rfl:k=h.seats.length:=by omega
   (iterate 2((try simp(etaStruct := .none)only[push_cast,seval,List.take_length,List.take_length]);(try(refine xsu ?_;try exact xtI))))
   refine caP (z2r h.ag hb.g) ?_
   (iterate 2((try simp(etaStruct := .none)only[push_cast,seval,List.take_length,List.take_length]);(try(refine xsu ?_;try exact xtI))))
   exact xrz rfl
end Go.Proofs.YtmjbgbmegbkmhaaGreat
namespace Go.Proofs.YtmjbgbmegbkmhaaGreat
set_option linter.all false
open Go.RowKit
set_option maxRecDepth 100000
set_option maxHeartbeats 1000000
def z8a (s:Sea):List PV := [.undef,pI s.late,pB s.gone]
theorem yhq (s:Sea):z8a s = [.undef,pI s.late,pB s.gone]:=rfl
def waP (s:Sea):List (List PV):=s.waits.map zdg
theorem ybn (l:List Sea) (i:Nat) (hi:i<l.length):(l.map waP).getD i []=(l.getD i default).waits.map zdg:=by simp[waP,hi]
theorem z7l (l:List Sea) (i:Nat) (w:List Ord) (hi:i<l.length):unN 0 6 (l.map z8a) ((l.map waP).set i (w.map zdg))=(l.set i ⟨w,(l.getD i default).late,(l.getD i default).gone⟩).map zbs:=by
 apply List.ext_getElem?
 intro j
 unfold unN
 rw[List.getElem?_zipWith,List.getElem?_map,List.getElem?_map,List.getElem?_set,List.getElem?_set]
 by_cases hij:i=j
 ·subst hij
  simp[hi,z8a,zbs]
 ·rw[if_neg hij,if_neg hij,List.getElem?_map]
  cases l[j]? <;> simp[z8a,zbs,waP]
def zpd (l:List Sea) (o:Ord):Int :=
 if za0 l≠0 then za0 l else if zef o≠0 then zef o else if (l.length:Int)≤o.by_ then 7 else if (l.getD o.by_.toNat default).gone=true then 9 else if (l.getD o.by_.toNat default).waits.length=50 then 6 else 0
def ztr (l:List Sea) (o:Ord):List Sea:=l.set o.by_.toNat ⟨(l.getD o.by_.toNat default).waits ++ [o],(l.getD o.by_.toNat default).late,(l.getD o.by_.toNat default).gone⟩
def zgj (l:List Sea) (p:Int):List Sea:=l.set p.toNat ⟨[],0,true⟩
def PvLe (p q:PV):Prop:=p=q∨(p = .v (.slice none 0 0)∧∃s,q = .sl s [])
inductive RowLe : List PV → List PV → Prop where
 | nil:RowLe [] []
 | cons {p q:PV} {r s:List PV} : PvLe p q→RowLe r s→RowLe (p::r) (q::s)
inductive RowsLe : List (List PV) → List (List PV) → Prop where
 | nil:RowsLe [] []
 | cons {p q:List PV} {r s:List (List PV)} : RowLe p q→RowsLe r s→RowsLe (p::r) (q::s)
theorem RowLe.len {a b:List PV} (h:RowLe a b):a.length=b.length:=by
 induction h with
 | nil=>rfl
 | cons _ _ ih=>simp[ih]
theorem RowsLe.len {a b:List (List PV)} (h:RowsLe a b):a.length=b.length:=by
 induction h with
 | nil=>rfl
 | cons _ _ ih=>simp[ih]
theorem PvLe.run {w:World} {F:Nat→Prop} {p q:PV} {u:Value} (h:PvLe p q) (hr:RelP w F p u):RelP w F q u:=by
 rcases h with rfl|⟨rfl,s,rfl⟩
 ·exact hr
 ·simp only[RelP]at hr ⊢
  exact⟨none,0,hr.1,Nat.le_refl _,Nat.zero_le _,.inl trivial⟩
theorem RowLe.run {w:World} {F:Nat→Prop} {b:Nat} {xs ys:List PV} (h:RowLe xs ys):∀ {o:Nat},RelC w F b o xs→RelC w F b o ys:=by
 induction h with
 | nil=>intro o hr;exact hr
 | cons hp _ ih =>
  intro o hr
  simp only[RelC]at hr ⊢
  obtain⟨⟨u,h1,h2⟩,h3⟩:=hr
  exact⟨⟨u,h1,hp.run h2⟩,ih h3⟩
theorem RowsLe.run {w:World} {F:Nat→Prop} {b sz:Nat} {xs ys:List (List PV)} (h:RowsLe xs ys):∀ {o:Nat},RelE w F b sz o xs→RelE w F b sz o ys:=by
 induction h with
 | nil=>intro o hr;exact hr
 | cons hp _ ih =>
  intro o hr
  simp only[RelE]at hr ⊢
  exact⟨by rw[←hp.len];exact hr.1,hp.run hr.2.1,ih hr.2.2⟩
theorem Wk.rows {sz:Nat} {xs ys:List (List PV)} (h:RowsLe xs ys):Wk (.c (.sl sz xs)) (.c (.sl sz ys)):=fun _ _ _ _ v hv=>by
 simp only[RelA,RelP]at hv ⊢
 obtain⟨a,c,rfl,h1,h2,h3⟩:=hv
 rw[h.len]at h1 ⊢
 refine⟨a,c,rfl,h1,h2,?_⟩
 rcases h3 with rfl|⟨b,o,rfl,hb,hE⟩
 ·exact .inl (List.eq_nil_of_length_eq_zero h.len.symm)
 ·exact .inr ⟨b,o,rfl,hb,h.run hE⟩
theorem RowsLe.rep {x y:List PV} (h:RowLe x y):∀n,RowsLe (List.replicate n x) (List.replicate n y)
 | 0 => .nil
 | n+1=>by rw[List.replicate_succ,List.replicate_succ];exact .cons h (RowsLe.rep h n)
theorem z27:RowLe [.v (.slice none 0 0),.v (.int .i64 0),.v (.bool false)] (zbs ⟨[],0,false⟩) := .cons (.inr ⟨rfl,6,rfl⟩) (.cons (.inl rfl) (.cons (.inl rfl) .nil))
theorem RowLe.refl:∀a:List PV,RowLe a a
 | [] => .nil
 | _::r => .cons (.inl rfl) (RowLe.refl r)
theorem RowsLe.refl:∀a:List (List PV),RowsLe a a
 | [] => .nil
 | _::r => .cons (RowLe.refl _) (RowsLe.refl r)
theorem RowsLe.set {x y:List PV} (h:RowLe x y):∀(l:List (List PV)) (i:Nat),RowsLe (l.set i x) (l.set i y)
 | [],_ => .nil
 | _::r,0 => .cons h (RowsLe.refl r)
 | _::r,i+1 => .cons (RowLe.refl _) (RowsLe.set h r i)
theorem z28:RowLe [.v (.slice none 0 0),.v (.int .i64 0),.v (.bool true)] (zbs ⟨[],0,true⟩) := .cons (.inr ⟨rfl,6,rfl⟩) (.cons (.inl rfl) (.cons (.inl rfl) .nil))
theorem zw4 (l:List Sea) (p:Int):(zgj l p).map zbs=(l.map zbs).set p.toNat (zbs ⟨[],0,true⟩):=by unfold zgj;rw[List.map_set]
theorem yb0 (n:Int) (h:1≤n∧n≤8):Spec Tryz.prog 28 [I .i64 n] [] (.tup [.c (.sl 3 ((List.replicate n.toNat (⟨[],0,false⟩:Sea)).map zbs)),I .i64 0]) []:=by
 refine spB Tryz.func28 12 [.tmp 2,.tmp 3] Tryz.results28 ?_
 try refine xst ?_
 refine cI (fun h1 => ?_) fun h1 => ?_
 ·omega
 ·try refine xst ?_
  refine zcj rfl (by repeat' (first|exact trivial|exact rfl|omega|refine⟨?_,?_⟩)) (Wk.tup ⟨?_,?_,trivial⟩)
  ·refine Wk.rows ?_
   simp only[List.map_replicate]
   exact RowsLe.rep z27 _
  ·exact Wk.refl _
theorem ybz (l:List Sea) (hl:l.length≤100000) (hs:∀s∈l,zfp s) (i:Nat) (hi:i<l.length):Spec Tryz.prog 76 [.c (.sl 3 (l.map zbs))] [] (.own 0) [.nst 169 3 0 48 6 (l.map z8a) (l.map waP) (some (i,1)),.row 48 6 ((l.getD i default).waits.map zdg)]:=by
 refine spB Tryz.func76 25 [.tmp 2] Tryz.results76 ?_
 iterate 2(try simp(etaStruct := .none)only[push_cast,zab,seval,List.length_take,List.length_map];try refine xsu ?_)
 refine zay (fun k:Nat=>⟨[(11,I .i64 k),(10,I .i64 l.length),(9,.c (.sl 3 (l.map zbs))),(3,.own 0)],[(0,.nst 169 3 0 48 6 ((l.take k).map z8a) ((l.take k).map waP) none)],1⟩) (fun k:Nat=>k≤l.length) (fun k:Nat=>l.length-k) (0) (Nat.zero_le _) ((To.nst 0 169 3 0 48 6 [] rfl (by decide) (by simp)).trans (To.mk [0] rfl rfl (by decide) ?_ ?_)) ?_
 ·simp(etaStruct := .none)only[push_cast,zab,seval]
 ·simp(etaStruct := .none)only[push_cast,zab,seval]
 rintro k hk
 iterate 2(try simp(etaStruct := .none)only[push_cast,zab,seval,List.length_take,List.length_map];try refine xsu ?_)
 refine cI (fun h1 => ?_) fun h1 => ?_
 ·have hlt:k<l.length:=by omega
  iterate 2(try simp(etaStruct := .none)only[push_cast,zab,seval,List.length_take,List.length_map,zaa _ _ _ hlt,zbs];try refine xsu ?_)
  have ts:=zaq l k hlt
  refine caM [] ((zze (l.getD k default).waits (hs _ (by rw[zad _ _ hlt];exact List.getElem_mem hlt))).keep) ?_
  iterate 2(try simp(etaStruct := .none)only[push_cast,zab,seval,List.length_take,List.length_map,zaa _ _ _ hlt,zbs];try refine xsu ?_)
  refine⟨k+1,by omega,by omega,To.mk [4] rfl rfl (by decide) ?_ ?_⟩
  ·(iterate 2((try simp(etaStruct := .none)only[push_cast,zab,seval,ts,List.map_append,z8a,waP]);(try(refine xsu ?_;try exact xtI))))
  ·(iterate 2((try simp(etaStruct := .none)only[push_cast,zab,seval,List.length_take,List.length_map,zaa _ _ _ hlt,zbs]);(try(refine xsu ?_;try exact xtI))))
 ·obtain rfl:k=l.length:=by omega
  iterate 2(try simp(etaStruct := .none)only[push_cast,zab,seval,List.length_take,List.length_map];try refine xsu ?_)
  refine zpm (To.open 0 i 169 3 0 48 6 _ _ rfl (by simpa using hi)) (zb6 [0,1] rfl rfl (by decide) ⟨?_,?_,trivial⟩ trivial ?_)
  ·simp(etaStruct := .none)only[push_cast,zab,seval,List.take_length]
  ·simp(etaStruct := .none)only[push_cast,zab,seval,List.take_length,ybn l i hi]
  ·simp(etaStruct := .none)only[push_cast,zab,seval]
theorem z7x (l:List Sea) (o:Ord) (hl:l.length≤9223372036854775807) (hs:∀s∈l,zfp s) (h:zpd l o=0):Spec Tryz.prog 32 [.c (.sl 3 (l.map zbs)),zni o] [] (.tup [.c (.sl 3 ((ztr l o).map zbs)),I .i64 0]) []:=by
 have SC:=zdl l hl hs
 have OC:=ze0 o
 unfold zpd at h
 split at h
 ·rename_i h';exact absurd h h'
 rename_i hE
 have hE:za0 l=0:=by simpa using hE
 split at h
 ·rename_i h';exact absurd h h'
 rename_i hO
 have hO:zef o=0:=by simpa using hO
 split at h
 ·simp at h
 rename_i hby
 split at h
 ·simp at h
 rename_i hg
 split at h
 ·simp at h
 rename_i hw
 have hb0:=(zey hO).1.1
 have hlt:o.by_.toNat<l.length:=by omega
 have hl8:=(zb1 hE).2.1
 have hwl:(l.getD o.by_.toNat default).waits.length≤50:=(zb1 hE).2.2.1 _ (by rw[zad _ _ hlt];exact List.getElem_mem hlt)
 rw[hE]at SC
 rw[hO]at OC
 refine spB Tryz.func32 58 [.tmp 4,.tmp 5] Tryz.results32 ?_
 try refine xst ?_
 refine caP (SC) ?_
 try refine xst ?_
 refine cI (fun h1 => ?_) fun h1 => ?_
 ·try refine xst ?_
  refine caP (OC) ?_
  try refine xst ?_
  refine cI (fun h2 => ?_) fun h2 => ?_
  ·simp at h2
  ·try refine xst ?_
   refine cI (fun h3 => ?_) fun h3 => ?_
   ·omega
   ·try refine xz2 (gd hlt) zca ?_
    refine cI (fun h4 => ?_) fun h4 => ?_
    ·exact absurd h4 hg
    ·try refine xz2 (gd hlt) zca ?_
     refine cI (fun h5 => ?_) fun h5 => ?_
     ·omega
     ·try refine xz2 (gd hlt) zca ?_
      refine cI (fun h6 => ?_) fun h6 => ?_
      ·simp at h6
      ·try refine xz2 (gd hlt) zca ?_
       refine caM [] (ybz l (by omega) hs o.by_.toNat hlt) ?_
       try refine xz2 (gd hlt) zca ?_
       (try(refine⟨by kernel_rfl,?_⟩))
       try refine xz2 (gd hlt) zca ?_
       refine zpm (To.close 1 _ _ _ _ _ _ _ _ _ _ rfl rfl) (zpm (To.frzN 1 _ _ _ _ _ _ _ rfl) (zcj rfl (by repeat' (first|exact trivial|exact rfl|omega|refine⟨?_,?_⟩)) (Wk.tup ⟨Wk.of ?_,Wk.refl _,trivial⟩)))
       have ha:∀x,x=zdg o→(l.getD o.by_.toNat default).waits.map zdg ++ [x]=((l.getD o.by_.toNat default).waits ++ [o]).map zdg:=by rintro _ rfl;simp
       show AV.c (.sl 3 _)=_
       rw[ha]
       ·rw[z7l l _ _ hlt];rfl
       ·rfl
 ·simp at h1
theorem zwd (l:List Sea) (o:Ord):zpd l o=0∨(za0 l≠0∧zpd l o=za0 l)∨(za0 l=0∧zef o≠0∧zpd l o=zef o)∨(za0 l=0∧zef o=0∧(l.length:Int)≤o.by_∧zpd l o=7) ∨
 (za0 l=0∧zef o=0∧¬(l.length:Int)≤o.by_∧(l.getD o.by_.toNat default).gone=true∧zpd l o=9) ∨
 (za0 l=0∧zef o=0∧¬(l.length:Int)≤o.by_∧(l.getD o.by_.toNat default).gone=false∧(l.getD o.by_.toNat default).waits.length=50∧zpd l o=6):=by
 unfold zpd
 split
 ·rename_i h;exact .inr (.inl ⟨h,rfl⟩)
 rename_i h1
 split
 ·rename_i h;exact .inr (.inr (.inl ⟨by simpa using h1,h,rfl⟩))
 rename_i h2
 split
 ·rename_i h;exact .inr (.inr (.inr (.inl ⟨by simpa using h1,by simpa using h2,h,rfl⟩)))
 rename_i h3
 split
 ·rename_i h;exact .inr (.inr (.inr (.inr (.inl ⟨by simpa using h1,by simpa using h2,h3,h,rfl⟩))))
 rename_i h4
 split
 ·rename_i h;exact .inr (.inr (.inr (.inr (.inr ⟨by simpa using h1,by simpa using h2,h3,by simpa using h4,h,rfl⟩))))
 ·exact .inl rfl
theorem z74 (l:List Sea) (o:Ord) (hl:l.length≤9223372036854775807) (hs:∀s∈l,zfp s) (h:za0 l≠0):Spec Tryz.prog 32 [.c (.sl 3 (l.map zbs)),zni o] [] (.tup [.c (.sl 3 (([]:List Sea).map zbs)),I .i64 (za0 l)]) []:=by
 have SC:=zdl l hl hs
 refine spB Tryz.func32 58 [.tmp 4,.tmp 5] Tryz.results32 ?_
 try refine xst ?_
 refine caP (SC) ?_
 try refine xst ?_
 refine cI (fun h1 => ?_) fun h1 => ?_
 ·exact absurd h1 h
 ·try refine xst ?_
  refine cI (fun h2 => ?_) fun h2 => ?_
  ·try refine xst ?_
   refine cI (fun h3 => ?_) fun h3 => ?_
   ·try refine xst ?_
    exact xrz rfl
   ·exact absurd h3 h
  ·exact absurd h2 h
theorem z73 (l:List Sea) (o:Ord) (hl:l.length≤9223372036854775807) (hs:∀s∈l,zfp s) (hE:za0 l=0) (h:zef o≠0):Spec Tryz.prog 32 [.c (.sl 3 (l.map zbs)),zni o] [] (.tup [.c (.sl 3 (([]:List Sea).map zbs)),I .i64 (zef o)]) []:=by
 have SC:=zdl l hl hs
 have OC:=ze0 o
 rw[hE]at SC
 refine spB Tryz.func32 58 [.tmp 4,.tmp 5] Tryz.results32 ?_
 try refine xst ?_
 refine caP (SC) ?_
 try refine xst ?_
 refine cI (fun h1 => ?_) fun h1 => ?_
 ·try refine xst ?_
  refine caP (OC) ?_
  try refine xst ?_
  refine cI (fun h2 => ?_) fun h2 => ?_
  ·try refine xst ?_
   refine cI (fun h3 => ?_) fun h3 => ?_
   ·try refine xst ?_
    exact xrz rfl
   ·exact absurd h3 h
  ·exact absurd h2 h
 ·simp at h1
theorem z71 (l:List Sea) (o:Ord) (hl:l.length≤9223372036854775807) (hs:∀s∈l,zfp s) (hE:za0 l=0) (hO:zef o=0) (h:(l.length:Int)≤o.by_):Spec Tryz.prog 32 [.c (.sl 3 (l.map zbs)),zni o] [] (.tup [.c (.sl 3 (([]:List Sea).map zbs)),I .i64 7]) []:=by
 have SC:=zdl l hl hs
 have OC:=ze0 o
 rw[hE]at SC
 rw[hO]at OC
 refine spB Tryz.func32 58 [.tmp 4,.tmp 5] Tryz.results32 ?_
 try refine xst ?_
 refine caP (SC) ?_
 try refine xst ?_
 refine cI (fun h1 => ?_) fun h1 => ?_
 ·try refine xst ?_
  refine caP (OC) ?_
  try refine xst ?_
  refine cI (fun h2 => ?_) fun h2 => ?_
  ·simp at h2
  ·try refine xst ?_
   refine cI (fun h3 => ?_) fun h3 => ?_
   ·try refine xst ?_
    refine cI (fun h4 => ?_) fun h4 => ?_
    ·try refine xst ?_
     exact xrz rfl
    ·simp at h4
   ·omega
 ·simp at h1
theorem z7z (l:List Sea) (o:Ord) (hl:l.length≤9223372036854775807) (hs:∀s∈l,zfp s) (hE:za0 l=0) (hO:zef o=0) (h:¬(l.length:Int)≤o.by_) (hg:(l.getD o.by_.toNat default).gone=true):Spec Tryz.prog 32 [.c (.sl 3 (l.map zbs)),zni o] [] (.tup [.c (.sl 3 (([]:List Sea).map zbs)),I .i64 9]) []:=by
 have SC:=zdl l hl hs
 have OC:=ze0 o
 rw[hE]at SC
 rw[hO]at OC
 have hb0:=(zey hO).1.1
 have hlt:o.by_.toNat<l.length:=by omega
 refine spB Tryz.func32 58 [.tmp 4,.tmp 5] Tryz.results32 ?_
 try refine xst ?_
 refine caP (SC) ?_
 try refine xst ?_
 refine cI (fun h1 => ?_) fun h1 => ?_
 ·try refine xst ?_
  refine caP (OC) ?_
  try refine xst ?_
  refine cI (fun h2 => ?_) fun h2 => ?_
  ·simp at h2
  ·try refine xst ?_
   refine cI (fun h3 => ?_) fun h3 => ?_
   ·omega
   ·try refine xz2 (gd hlt) zca ?_
    refine cI (fun h4 => ?_) fun h4 => ?_
    ·try refine xz2 (gd hlt) zca ?_
     refine cI (fun h5 => ?_) fun h5 => ?_
     ·try refine xz2 (gd hlt) zca ?_
      exact xrz rfl
     ·simp at h5
    ·rw[hg]at h4;simp at h4
 ·simp at h1
theorem z7y (l:List Sea) (o:Ord) (hl:l.length≤9223372036854775807) (hs:∀s∈l,zfp s) (hE:za0 l=0) (hO:zef o=0) (h:¬(l.length:Int)≤o.by_) (hg:(l.getD o.by_.toNat default).gone=false) (hw:(l.getD o.by_.toNat default).waits.length=50):Spec Tryz.prog 32 [.c (.sl 3 (l.map zbs)),zni o] [] (.tup [.c (.sl 3 (([]:List Sea).map zbs)),I .i64 6]) []:=by
 have SC:=zdl l hl hs
 have OC:=ze0 o
 rw[hE]at SC
 rw[hO]at OC
 have hb0:=(zey hO).1.1
 have hlt:o.by_.toNat<l.length:=by omega
 refine spB Tryz.func32 58 [.tmp 4,.tmp 5] Tryz.results32 ?_
 try refine xst ?_
 refine caP (SC) ?_
 try refine xst ?_
 refine cI (fun h1 => ?_) fun h1 => ?_
 ·try refine xst ?_
  refine caP (OC) ?_
  try refine xst ?_
  refine cI (fun h2 => ?_) fun h2 => ?_
  ·simp at h2
  ·try refine xst ?_
   refine cI (fun h3 => ?_) fun h3 => ?_
   ·omega
   ·try refine xz2 (gd hlt) zca ?_
    refine cI (fun h4 => ?_) fun h4 => ?_
    ·rw[hg]at h4;simp at h4
    ·try refine xz2 (gd hlt) zca ?_
     refine cI (fun h5 => ?_) fun h5 => ?_
     ·try refine xz2 (gd hlt) zca ?_
      refine cI (fun h6 => ?_) fun h6 => ?_
      ·try refine xz2 (gd hlt) zca ?_
       exact xrz rfl
      ·simp at h6
     ·omega
 ·simp at h1
theorem yby (l:List Sea) (o:Ord) (hl:l.length≤9223372036854775807) (hs:∀s∈l,zfp s):Spec Tryz.prog 32 [.c (.sl 3 (l.map zbs)),zni o] [] (.tup [.c (.sl 3 ((if zpd l o=0 then ztr l o else []).map zbs)),I .i64 (zpd l o)]) []:=by
 rcases zwd l o with h|⟨h1,h⟩|⟨h1,h2,h⟩|⟨h1,h2,h3,h⟩|⟨h1,h2,h3,h4,h⟩|⟨h1,h2,h3,h4,h5,h⟩
 ·rw[if_pos h];rw[h];exact z7x l o hl hs h
 ·rw[if_neg (by omega),h];exact z74 l o hl hs h1
 ·rw[if_neg (by omega),h];exact z73 l o hl hs h1 h2
 ·rw[if_neg (by omega),h];exact z71 l o hl hs h1 h2 h3
 ·rw[if_neg (by omega),h];exact z7z l o hl hs h1 h2 h3 h4
 ·rw[if_neg (by omega),h];exact z7y l o hl hs h1 h2 h3 h4 h5
theorem zyo (l:List Sea) (p:Int) (hl:l.length≤9223372036854775807) (hs:∀s∈l,zfp s) (hE:za0 l=0) (hp:¬(p<0∨(l.length:Int)≤p)) (hg:(l.getD p.toNat default).gone=false):Spec Tryz.prog 80 [.c (.sl 3 (l.map zbs)),I .i64 p] [] (.tup [.c (.sl 3 ((zgj l p).map zbs)),I .i64 0]) []:=by
 have SC:=zdl l hl hs
 rw[hE]at SC
 have hl8:=(zb1 hE).2.1
 have hlt:p.toNat<l.length:=by omega
 refine spB Tryz.func80 37 [.tmp 4,.tmp 5] Tryz.results80 ?_
 try refine xst ?_
 refine caP (SC) ?_
 try refine xst ?_
 refine cI (fun h1 => ?_) fun h1 => ?_
 ·simp at h1
 ·try refine xst ?_
  refine cI (fun h2 => ?_) fun h2 => ?_
  ·omega
  ·try refine xz2 (gd hlt) zca ?_
   refine cI (fun h3 => ?_) fun h3 => ?_
   ·rw[hg]at h3;simp at h3
   ·try refine xz2 (gd hlt) zca ?_
    refine cI (fun h4 => ?_) fun h4 => ?_
    ·simp at h4
    ·try refine xz2 (gd hlt) zca ?_
     refine caM [] (z6h l (by omega) hs) ?_
     try refine xz2 (gd hlt) zca ?_
     refine zcj rfl (by repeat' (first|exact trivial|exact rfl|omega|refine⟨?_,?_⟩)) (Wk.tup ⟨?_,Wk.refl _,trivial⟩)
     show Wk (AV.c (.sl 3 _)) _
     rw[zw4]
     exact Wk.rows (RowsLe.set z28 _ _)
theorem zr0 {s:ByteArray} {n:Int} {U:Nat→Prop} {w:World} {F:Nat→Prop} {β : Nat→Option Bind} : RelA U w F β (.tup [S s,I .i64 n]) (.tuple #[.string s,.int .i64 n]):=by
 simp only[RelA]
 refine⟨_,rfl,?_⟩
 simp[RelL,RelA,RelP,Value.oneCell']
theorem z6n {w:World} {U F:Nat→Prop} {β : Nat→Option Bind} {x:Value} {vs:List Value} (h:RelL U w F β [.c (.v x)] vs):vs = [x]:=by
 obtain⟨u,rfl,hu⟩:=ztz h
 simp only[RelP]at hu
 rw[hu.1]
theorem zld:∀xs:List Int,xs.flatMap z5a=xs.map (Value.int .i64)
 | []=>rfl
 | a::r=>by simp[z5a,zld r]
theorem z2z {P:Program} {f:FuncId} (hf:zgn P f) (x:Value) (xs:List Int) (e:Int) (T:TypeId) (h:∀w:World,Calls P f #[x] w fun en w'=>(∃v,en = .returned (.tuple #[v,.int .i64 e])∧∃n,w'.ownsRow w.heap.size T 1 v n (xs.flatMap z5a))∧Below w.heap.size w w'):Spec P f [.c (.v x)] [] (.tup [.c (.sl 1 (xs.map zac)),I .i64 e]) []:=by
 refine⟨hf,Nat.le_refl _,fun w F β vs M hv => ?_⟩
 obtain rfl:=z6n hv
 refine(h w).mono ?_
 rintro en w' ⟨⟨v,rfl,n,hlen,hrow⟩,hb⟩
 have hn:n=xs.length:=by
  rw[zld,List.length_map]at hlen
  omega
 subst hn
 have go:∀G:Nat→Prop,(∀b,G b→w.heap.size≤b∧b<w'.heap.size)→RelP w' (fun b=>F b∨G b) (.sl 1 (xs.map zac)) v→∃v_1 F' β',Ending.returned (.tuple #[v,.int .i64 e]) = .returned v_1∧MemOk w (inB β) (· < ([]:List Chunk).length) F' β' (nth []) w'∧RelA (· < ([]:List Chunk).length) w' F' β' (.tup [.c (.sl 1 (xs.map zac)),I .i64 e]) v_1∧(∀b,F b→F' b)∧(∀b,F' b→F b∨w.heap.size≤b∨inB β b)∧∀i bd,i<([]:List Chunk).length → β' i=some bd→∃bs,β i=some ⟨bd.v,bd.b,bd.n,bd.sz,bs⟩:=by
  intro G hG hr
  obtain⟨S1,S2⟩:=M.step (w':=w') (h':=nth []) (β' := β) (F':=fun b=>F b∨G b) (U':=(· < 0)) (fun _=>False) (fun _ _=>rfl) (fun _ _=>rfl) hb.os hb.tape hb.output hb.size (fun b h _=>hb.block b h) (fun _ h=>h) (fun _ h => .inl h)
   (fun b h=>by
    rcases h with h|h
    ·exact⟨Nat.lt_of_lt_of_le (M.fin b h) hb.size,.inl h⟩
    ·exact⟨(hG b h).2,.inr (.inl (hG b h).1)⟩) (fun _ _ h=>h.elim) (fun _ _ h=>h.elim) (fun _ _ _ _ _ h=>h.elim) (fun _ _ h=>h.elim)
  refine⟨_,fun b=>F b∨G b,β,rfl,S1,?_,fun _ h => .inl h,fun b h => ?_,fun _ _ _ h=>⟨_,h⟩⟩
  ·simp only[RelA]
   refine⟨_,rfl,?_⟩
   simp only[RelL,RelA]
   exact⟨v,_,rfl,hr,_,_,rfl,by simp[RelP,Value.oneCell'],rfl⟩
  ·rcases h with h|h
   ·exact .inl h
   ·exact .inr (.inl (hG b h).1)
 rcases hrow with ⟨rfl,h0⟩|⟨g,cap,cur,rfl,h1,h2,h3,h4,h5,h6⟩
 ·refine go (fun _=>False) (fun _ h=>h.elim) ?_
  obtain rfl:xs = []:=List.eq_nil_of_length_eq_zero h0
  simp only[RelP]
  exact⟨none,0,rfl,Nat.le_refl _,Nat.zero_le _,.inl rfl⟩
 ·refine go (fun b=>b=g) (fun b hbg=>by subst hbg;exact⟨h1,(Array.getElem?_eq_some_iff.1 h2).1⟩) ?_
  simp only[RelP]
  refine⟨some ⟨g,0,none⟩,cap,by rw[List.length_map],by rwa [List.length_map],h4,.inr ⟨g,0,rfl,.inr rfl,RelE.of fun i cs hi => ?_⟩⟩
  rw[List.getElem?_map]at hi
  cases hx:xs[i]? with
  | none=>rw[hx]at hi;simp at hi
  | some z =>
   rw[hx]at hi
   have hi':zac z=cs:=by simpa using hi
   subst hi'
   refine⟨rfl,?_⟩
   unfold zac
   simp only[RelC,and_true,Nat.mul_one,Nat.zero_add,RelP]
   refine⟨_,?_,rfl,rfl⟩
   have hlt:i<xs.length:=(List.getElem?_eq_some_iff.1 hx).1
   have e1:(cur.toList.take (xs.length*1))[i]? = some (.int .i64 z):=by
    rw[h6]
    rw[zld,List.getElem?_map,hx];rfl
   rw[List.getElem?_take,if_pos (by omega)]at e1
   unfold World.cell?
   simp only[h2]
   simpa using e1
theorem yai (s:ByteArray) (hs:s.size≤140737488351232):Spec Tryz.prog 35 [S s] [] (.tup [S (zcp s).1,I .i64 (zcp s).2]) [] :=
 ztm (zi7 Tryz.func35 (by kernel_rfl) rfl) _ _ (.tuple #[.string (zcp s).1,.int .i64 (zcp s).2]) (fun _ _ _ _=>zr0) fun w F β vs hF hv=>by
  obtain rfl:=z6n hv
  exact z3x s w hs
theorem z4y (s:ByteArray) (hs:s.size≤140737488351232):Spec Tryz.prog 36 [S s] [] (.tup [.c (.sl 1 ((gaR s).1.map zac)),I .i64 (gaR s).2]) [] :=
 z2z (zi7 Tryz.func36 (by kernel_rfl) rfl) _ _ _ 3 fun w=>zxa s w hs
theorem zww (s:ByteArray):(zcp s).1.size≤s.size:=by
 unfold zcp
 split
 ·exact Nat.zero_le _
 ·split
  ·simp only[ByteArray.size_extract];omega
  ·exact Nat.zero_le _
theorem z1b:∀(n:Nat) (s:ByteArray) (out:List Int),(gaF n s out).1.length≤out.length+n
 | 0,s,out=>by unfold gaF;split<;>simp
 | n+1,s,out=>by
  unfold gaF
  split
  ·have:=z1b n (zf6 s).2.1 (out ++ [z2o (zf6 s).1]);simp at this;omega
  ·simp
theorem z1a (s:ByteArray):(gaR s).1.length≤1000:=by
 unfold gaR
 split
 ·split
  ·rename_i h;have:=z1b (zf6 s).1 (zf6 s).2.1 [];simp at this;omega
  ·simp
 ·simp
def zwv (o:Ord):List Int := [o.by_,o.kind,o.who,o.c.x,o.c.y,o.what]
def zcv (l:List Ord):List Int:=l.flatMap zwv
theorem zeo:∀l:List Ord,(zcv l).length=6*l.length
 | []=>rfl
 | o::r=>by
  have:=zeo r
  unfold zcv at this ⊢
  rw[List.flatMap_cons,List.length_append,this,List.length_cons]
  simp only[zwv,List.length_cons,List.length_nil];omega
theorem zwu (l:List Ord) (k:Nat) (h:k<l.length):zcv (l.take (k+1))=zcv (l.take k)++zwv (l.getD k default):=by
 unfold zcv
 rw[zaq l k h,List.flatMap_append];simp
theorem zub:∀(l:List Ord) (k j:Nat),k<l.length→j<6→(zcv l)[6*k+j]? = (zwv (l.getD k default))[j]?
 | [],k,j,h,_=>by simp at h
 | o::r,0,j,_,hj=>by
  unfold zcv
  rw[List.flatMap_cons,Nat.mul_zero,Nat.zero_add,List.getElem?_append_left (by simp[zwv];omega)];rfl
 | o::r,k+1,j,h,hj=>by
  have ih:=zub r k j (by simpa using h) hj
  unfold zcv at ih ⊢
  rw[List.flatMap_cons,List.getElem?_append_right (by simp[zwv];omega)]
  rw[show 6*(k+1)+j-(zwv o).length=6*k+j from by simp[zwv];omega,ih]
  simp
theorem z8r {o:Ord} (h:zef o=0):∀x∈zwv o,I64 x:=by
 obtain⟨h1,h2,h3,h4,h5,_⟩:=zey h
 intro x hx
 simp only[zwv,List.mem_cons,List.not_mem_nil,or_false]at hx
 unfold I64
 rcases hx with rfl|rfl|rfl|rfl|rfl|rfl<;>omega
theorem zuc {l:List Ord} (h:∀o∈l,zef o=0):∀x∈zcv l,I64 x:=by
 intro x hx
 unfold zcv at hx
 obtain⟨o,ho,hx⟩:=List.mem_flatMap.1 hx
 exact z8r (h o ho) x hx
def zcm (l:List Ord):ByteArray:=zgs ⟨(paK (zcv l) (6*l.length)).toArray⟩
def zha (l:List Ord):ByteArray × Int:=if zc0 l≠0 then (⟨#[]⟩,zc0 l)else (zcm l,0)
theorem z3s {l:List Ord} (h:l.length≤100):paR (zcv l)=(⟨(paK (zcv l) (6*l.length)).toArray⟩,0):=by
 unfold paR
 rw[zeo,if_neg (by omega)]
theorem zjv (l:List Ord) (h:l.length≤100):(zcm l).size≤10000:=by
 unfold zcm
 rw[zl4,zok]
 have:=zko (zcv l) (6*l.length)
 omega
theorem yag (s:ByteArray) (hs:s.size≤140737488351232):Spec Tryz.prog 63 [S s] [] (S (zgs s)) [] :=
 zhh (zi7 Tryz.func63 (by kernel_rfl) rfl) [.string s] (.string (zgs s)) rfl fun w=>zna s w hs
theorem z3u (l:List Ord) (hl:l.length≤9223372036854775807):Spec Tryz.prog 19 [.c (.sl 6 (l.map zdg))] [] (.tup [S (zha l).1,I .i64 (zha l).2]) []:=by
 have OA:=zue l hl
 by_cases h0:zc0 l=0
 ·obtain⟨hl100,hok⟩:=zex h0
  have hV:zha l=(zcm l,0):=if_neg (by simp[h0])
  have PA:=zt3 (zcv l) (zuc hok) (by rw[zeo];omega)
  rw[z3s hl100]at PA
  have hsz:=zko (zcv l) (6*l.length)
  have CS:=yag ⟨(paK (zcv l) (6*l.length)).toArray⟩ (by rw[zok];omega)
  have hw:zgs ⟨(paK (zcv l) (6*l.length)).toArray⟩=zcm l:=rfl
  rw[hw]at CS
  rw[hV]
  rw[h0]at OA
  clear hV hsz hw
  simp only at PA
  generalize (⟨(paK (zcv l) (6*l.length)).toArray⟩:ByteArray)=T at *
  refine spB Tryz.func19 49 [.tmp 2,.tmp 3] Tryz.results19 ?_
  try refine xst ?_
  refine caP (OA) ?_
  try refine xst ?_
  refine cI (fun h1 => ?_) fun h1 => ?_
  ·simp at h1
  ·try refine xst ?_
   refine zay (fun k:Nat=>⟨[(17,I .i64 k),(16,I .i64 l.length),(15,.c (.sl 6 (l.map zdg))),(5,.own 0)],[(0,.row 3 1 ((zcv (l.take k)).map zac))],1⟩) (fun k:Nat=>k≤l.length) (fun k:Nat=>l.length-k) (0) (Nat.zero_le _) ((To.nil 5 3 1 rfl).trans (To.mk [0] rfl rfl (by decide) ?_ ?_)) ?_
   ·simp(etaStruct := .none)only[push_cast,zab,seval,zcv,List.take_zero,List.flatMap_nil,List.map_nil]
   ·simp(etaStruct := .none)only[push_cast,zab,seval]
   rintro k hk
   try refine xst ?_
   refine cI (fun h2 => ?_) fun h2 => ?_
   ·have hlt:k<l.length:=by omega
    have hS:=zwu l k hlt
    have hSl:=zeo (l.take k)
    have hSk:(l.take k).length≤k:=List.length_take_le _ _
    try refine xz2 (gd hlt) zbg ?_
    refine⟨k+1,by omega,by omega,To.mk [3] rfl rfl (by decide) ?_ ?_⟩
    ·(iterate 2((try simp(etaStruct := .none)only[push_cast,zab,seval,hS,List.map_append,zwv,List.map_cons,List.map_nil,zac]);(try(refine xsu ?_;try exact xtI))))
    ·(try(refine xz2 (gd hlt) zbg ?_;try exact xtI))
   ·obtain rfl:k=l.length:=by omega
    iterate 2(try simp(etaStruct := .none)only[push_cast,zab,seval,List.take_length];try refine xsu ?_)
    refine zcl (PA) (WkL.refl _) rfl ?_
    iterate 2(try simp(etaStruct := .none)only[push_cast,zab,seval,List.take_length];try refine xsu ?_)
    refine cI (fun h3 => ?_) fun h3 => ?_
    ·simp at h3
    ·iterate 2(try simp(etaStruct := .none)only[push_cast,zab,seval,List.take_length];try refine xsu ?_)
     refine caP (CS) ?_
     iterate 2(try simp(etaStruct := .none)only[push_cast,zab,seval,List.take_length];try refine xsu ?_)
     exact xrz rfl
 ·have hV:zha l=(⟨#[]⟩,zc0 l):=if_pos h0
  rw[hV]
  generalize zc0 l=e at *
  refine spB Tryz.func19 49 [.tmp 2,.tmp 3] Tryz.results19 ?_
  try refine xst ?_
  refine caP (OA) ?_
  try refine xst ?_
  refine cI (fun h1 => ?_) fun h1 => ?_
  ·try refine xst ?_
   exact xrz rfl
  ·exact absurd h1 h0
end Go.Proofs.YtmjbgbmegbkmhaaGreat
namespace Go.Proofs.YtmjbgbmegbkmhaaGreat
set_option linter.all false
open Go.RowKit
set_option maxRecDepth 100000
set_option maxHeartbeats 800000
theorem z3b (l:List Sea) (most:Int) (hl:l.length≤9223372036854775807) (hs:∀s∈l,zfp s) (h0:za0 l=0) (hm:1≤most∧most≤100) :
 Spec Tryz.prog 77 [.c (.sl 3 (l.map zbs)),I .i64 most] [] (.tup [.c (.sl 3 ((zcg most l).2.map zbs)),.c (.sl 6 ((zcg most l).1.map zdg)),I .i64 0]) []:=by
 obtain⟨h1,h8,hw50,hr⟩:=zb1 h0
 have hlate:∀k,k<l.length→0≤(l.getD k default).late∧(l.getD k default).late≤1000000:=fun k hk=>(znb (hr k hk)).1
 have CS:=zdl l hl hs
 rw[h0]at CS
 refine spB Tryz.func77 102 [.tmp 4,.tmp 5,.tmp 6] Tryz.results77 ?_
 try refine xst ?_
 refine caP (CS) ?_
 try refine xst ?_
 refine cI (fun h1 => ?_) fun h1 => ?_
 ·simp at h1
 ·try refine xst ?_
  refine cI (fun h2 => ?_) fun h2 => ?_
  ·omega
  ·try refine xst ?_
   refine caM [] (z6h l (by omega) hs) ?_
   try refine xst ?_
   refine zay (fun k:Nat=>⟨[(29,I .i64 k),(28,I .i64 l.length),(1,I .i64 most),(0,.own 0)],[(0,.row 169 3 ((zgc zbj k l).map zbs))],1⟩) (fun k:Nat=>k≤l.length) (fun k:Nat=>l.length-k) (0) (Nat.zero_le _) (To.mk [0] rfl rfl (by decide) ?_ ?_) ?_
   ·simp(etaStruct := .none)only[push_cast,zab,seval,z8n]
   ·simp(etaStruct := .none)only[push_cast,zab,seval]
   rintro k hk
   try refine xst ?_
   refine cI (fun h3 => ?_) fun h3 => ?_
   ·have hlt:k<l.length:=by omega
    have hltp:k<(zgc zbj k l).length:=by rw[zce];exact hlt
    have pg:=zws zbj k l hlt
    have hla:=hlate k hlt
    iterate 2(try simp(etaStruct := .none)only[push_cast,zab,seval,zaa _ _ _ hltp,zce,pg,zbs];try refine xsu ?_)
    refine cI (fun h4 => ?_) fun h4 => ?_
    ·have e:zbj (l.getD k default)=⟨(l.getD k default).waits,0,(l.getD k default).gone⟩:=by unfold zbj;rw[if_pos (by omega)]
     iterate 2(try simp(etaStruct := .none)only[push_cast,zab,seval,zaa _ _ _ hltp,zce,pg,zbs];try refine xsu ?_)
     refine⟨k+1,by omega,by omega,To.mk [0] rfl rfl (by decide) ?_ ?_⟩
     ·try refine xst ?_
      first
      | (rw[zic _ _ _ hlt,List.map_set,e];rfl)
      | rw[zid _ _ _ hlt e]
     ·(iterate 2((try simp(etaStruct := .none)only[push_cast,zab,seval,zaa _ _ _ hltp,zce,pg,zbs]);(try(refine xsu ?_;try exact xtI))))
    ·iterate 2(try simp(etaStruct := .none)only[push_cast,zab,seval,zaa _ _ _ hltp,zce,pg,zbs];try refine xsu ?_)
     refine cI (fun h5 => ?_) fun h5 => ?_
     ·have e:zbj (l.getD k default)=⟨(l.getD k default).waits,min ((l.getD k default).late+1) 1000000,(l.getD k default).gone⟩:=by unfold zbj;rw[if_neg (by omega),if_neg (by rw[h5];simp)]
      have em:(if 1000000<(l.getD k default).late+1 then 1000000 else (l.getD k default).late+1)=min ((l.getD k default).late+1) 1000000:=by split<;>omega
      iterate 2(try simp(etaStruct := .none)only[push_cast,zab,seval,zaa _ _ _ hltp,zce,pg,zbs,em];try refine xsu ?_)
      refine⟨k+1,by omega,by omega,To.mk [0] rfl rfl (by decide) ?_ ?_⟩
      ·try refine xst ?_
       first
       | (rw[zic _ _ _ hlt,List.map_set,e];rfl)
       | rw[zid _ _ _ hlt e]
      ·(iterate 2((try simp(etaStruct := .none)only[push_cast,zab,seval,zaa _ _ _ hltp,zce,pg,zbs,em]);(try(refine xsu ?_;try exact xtI))))
     ·have e:zbj (l.getD k default)=l.getD k default:=by unfold zbj;rw[if_neg (by omega),if_pos h5]
      iterate 2(try simp(etaStruct := .none)only[push_cast,zab,seval,zaa _ _ _ hltp,zce,pg,zbs];try refine xsu ?_)
      refine⟨k+1,by omega,by omega,To.mk [0] rfl rfl (by decide) ?_ ?_⟩
      ·try refine xst ?_
       first
       | (rw[zic _ _ _ hlt,List.map_set,e];rfl)
       | rw[zid _ _ _ hlt e]
      ·(iterate 2((try simp(etaStruct := .none)only[push_cast,zab,seval,zaa _ _ _ hltp,zce,pg,zbs]);(try(refine xsu ?_;try exact xtI))))
   ·obtain rfl:k=l.length:=by omega
    have S0L:(l.map zbj).length=l.length:=by simp
    have S0s:∀s∈l.map zbj,zfp s:=fun s hh=>by obtain⟨t,ht,rfl⟩:=List.mem_map.1 hh;exact hs t ht
    iterate 2(try simp(etaStruct := .none)only[push_cast,zab,seval,zbc];try refine xsu ?_)
    refine zay (fun x:(List Ord × List Sea) × Bool=>⟨[(11,B x.2),(10,.own 1),(1,I .i64 most),(0,.own 0)],[(0,.row 169 3 (x.1.2.map zbs)),(1,.row 48 6 (x.1.1.map zdg))],2⟩) (fun x:(List Ord × List Sea) × Bool=>(∃n,x.1=itS most n ([],l.map zbj))∧x.1.1.length≤100∧x.1.2.length=l.length∧(∀s∈x.1.2,zfp s)∧(x.2=false→tkS most x.1.1 x.1.2=x.1)) (fun x:(List Ord × List Sea) × Bool=>ya6 x.1.2+(if x.2 then 1 else 0)) ((([],l.map zbj),true)) (⟨⟨0,rfl⟩,by simp,by simp,S0s,fun h=>by simp at h⟩) ((To.nil 10 48 6 rfl).trans (To.mk [0,1] rfl rfl (by decide) ?_ ?_)) ?_
    ·simp(etaStruct := .none)only[push_cast,zab,seval]
    ·simp(etaStruct := .none)only[push_cast,zab,seval]
    rintro⟨⟨out,S⟩,again⟩ ⟨⟨n,hit⟩,q1,q2,q3,q4⟩
    simp only at hit q1 q2 q3 q4
    iterate 2(try simp(etaStruct := .none)only[push_cast,zab,seval,zbc];try refine xsu ?_)
    refine zau (fun h6 => ?_) (fun h6 => ?_)
    ·(try replace h6:=xhh h6)
     obtain rfl:again=true:=h6
     iterate 2(try simp(etaStruct := .none)only[push_cast,zab,seval,zbc,q2];try refine xsu ?_)
     refine zay (fun y:Nat × (List Ord × List Sea) × Bool=>⟨[(64,I .i64 y.1),(63,I .i64 l.length),(11,B y.2.2),(10,.own 1),(1,I .i64 most),(0,.own 0)],[(0,.row 169 3 (y.2.1.2.map zbs)),(1,.row 48 6 (y.2.1.1.map zdg))],2⟩) (fun y:Nat × (List Ord × List Sea) × Bool=>y.1≤l.length∧y.2.1.2.length=l.length∧tkS most out S=((tkS most y.2.1.1 (y.2.1.2.drop y.1)).1,y.2.1.2.take y.1++(tkS most y.2.1.1 (y.2.1.2.drop y.1)).2)∧y.2.2=decide (out.length<y.2.1.1.length)∧out.length≤y.2.1.1.length∧y.2.1.1.length≤100∧∀s∈y.2.1.2,zfp s) (fun y:Nat × (List Ord × List Sea) × Bool=>l.length-y.1) ((0,(out,S),false)) (⟨Nat.zero_le _,q2,by simp,by simp,Nat.le_refl _,q1,q3⟩) (To.mk [0,1] rfl rfl (by decide) ?_ ?_) ?_
     ·simp(etaStruct := .none)only[push_cast,zab,seval]
     ·simp(etaStruct := .none)only[push_cast,zab,seval]
     rintro⟨i,⟨o,R⟩,ag⟩ ⟨p1,p2,p3,p4,p5,p6,p7⟩
     simp only at p1 p2 p3 p4 p5 p6 p7
     iterate 2(try simp(etaStruct := .none)only[push_cast,zab,seval,zbc,q2];try refine xsu ?_)
     refine zau (fun h7 => ?_) (fun h7 => ?_)
     ·(try replace h7:=xhh h7)
      have hlt:i<R.length:=by omega
      have hw:=p7 _ (za1 R i hlt)
      have dr:=yac R i hlt
      iterate 2(try simp(etaStruct := .none)only[push_cast,zab,seval,zbc,q2,zaa _ _ _ hlt,zbs];try refine xsu ?_)
      refine zau (fun h8 => ?_) (fun h8 => ?_)
      ·(try replace h8:=xhh h8)
       have hw0:0<(R.getD i default).waits.length:=by omega
       have ed:List.drop 1 (List.map zdg (R.getD i default).waits)=((R.getD i default).waits.drop 1).map zdg:=by rw[List.map_drop]
       iterate 2(try simp(etaStruct := .none)only[push_cast,zab,seval,zbc,q2,zaa _ _ _ hlt,zbs,zaa _ _ _ hw0,zdg,ed];try refine xsu ?_)
       (try(refine⟨by kernel_rfl,?_⟩))
       iterate 2(try simp(etaStruct := .none)only[push_cast,zab,seval,zbc,q2,zaa _ _ _ hlt,zbs,zaa _ _ _ hw0,zdg,ed];try refine xsu ?_)
       refine⟨(i+1,(o ++ [(R.getD i default).waits.getD 0 default],R.set i ⟨(R.getD i default).waits.drop 1,(R.getD i default).late,(R.getD i default).gone⟩),true),⟨by simp only;omega,by simp only[List.length_set];exact p2,by
 simp only
 rw[p3,dr,List.drop_set_of_lt (by omega),List.take_set,zaq R i hlt]
 simp only[tkS]
 rw[if_pos ⟨hw0,by omega⟩,List.set_append_right _ _ (by simp;omega)]
 simp [Nat.min_eq_left (Nat.le_of_lt hlt)], by simp; omega, by simp; omega, by simp; omega, z3a p7 (by unfold zfp at hw ⊢; simp only [List.length_drop]; omega)⟩, by simp only; omega, To.mk [0, 38] rfl rfl (by decide) ?_ ?_⟩
       ·iterate 2(try simp(etaStruct := .none)only[push_cast,zab,seval,List.map_set,List.map_append];try refine xsu ?_)
        exact⟨rfl,rfl⟩
       ·(iterate 2((try simp(etaStruct := .none)only[push_cast,zab,seval,zbc,q2,zaa _ _ _ hlt,zbs,zaa _ _ _ hw0,zdg,ed]);(try(refine xsu ?_;try exact xtI))))
      ·(try replace h8:=xhh h8)
       iterate 2(try simp(etaStruct := .none)only[push_cast,zab,seval,zbc,q2,zaa _ _ _ hlt,zbs];try refine xsu ?_)
       refine⟨(i+1,(o,R),ag),⟨by simp only;omega,p2,by
 simp only
 have hc:¬(0<(R.getD i default).waits.length∧(o.length:Int)<most):=by omega
 rw[p3,dr,zaq R i hlt]
 simp only[tkS]
 rw[if_neg hc]
 simp, p4, p5, p6, p7⟩, by simp only; omega, To.mk [0, 1] rfl rfl (by decide) ?_ ?_⟩
       ·(iterate 2((try simp(etaStruct := .none)only[push_cast,zab,seval,zbc,q2,zaa _ _ _ hlt,zbs]);(try(refine xsu ?_;try exact xtI))))
       ·(iterate 2((try simp(etaStruct := .none)only[push_cast,zab,seval,zbc,q2,zaa _ _ _ hlt,zbs]);(try(refine xsu ?_;try exact xtI))))
     ·(try replace h7:=xhh h7)
      obtain rfl:i=l.length:=by omega
      have pe:tkS most out S=(o,R):=by
       rw[p3,List.drop_eq_nil_of_le (by omega),List.take_of_length_le (by omega)];simp[tkS]
      iterate 2(try simp(etaStruct := .none)only[push_cast,zab,seval,zbc,q2];try refine xsu ?_)
      refine⟨((o,R),ag),⟨⟨n+1,by rw[zjq,←hit];exact pe.symm⟩,p6,p2,p7,fun ha=>by
 have hlen:o.length=out.length:=by
  simp only at ha
  rw[p4]at ha
  have:=of_decide_eq_false ha
  omega
 have:=zte most S out (by rw[pe];exact hlen)
 rw[pe]at this
 obtain⟨rfl,rfl⟩:=Prod.mk.inj this
 exact pe⟩,by
 have hsum:=zro most S out
 rw[pe]at hsum
 simp only at hsum ⊢
 rw[p4]
 by_cases hh:out.length<o.length
 ·rw[decide_eq_true hh];simp;omega
 ·rw [decide_eq_false hh]; simp; omega, To.mk [0, 1] rfl rfl (by decide) ?_ ?_⟩
      ·(iterate 2((try simp(etaStruct := .none)only[push_cast,zab,seval,zbc,q2]);(try(refine xsu ?_;try exact xtI))))
      ·(iterate 2((try simp(etaStruct := .none)only[push_cast,zab,seval,zbc,q2]);(try(refine xsu ?_;try exact xtI))))
    ·(try replace h6:=xhh h6)
     have hz:=q4 h6
     have ec:zcg most l=(out,S):=by
      have h9:tkS most (itS most n ([],l.map zbj)).1 (itS most n ([],l.map zbj)).2=itS most n ([],l.map zbj):=by rw[←hit];exact hz
      rw[z5n hw50 h9,←hit]
     iterate 2(try simp(etaStruct := .none)only[push_cast,zab,seval,zbc];try refine xsu ?_)
     exact zcj rfl trivial (by rw[ec];exact Wk.refl _)
end Go.Proofs.YtmjbgbmegbkmhaaGreat
namespace Go.Proofs.YtmjbgbmegbkmhaaGreat
set_option linter.all false
open Go.RowKit
set_option maxRecDepth 100000
def zq8 (w:Wld) (n:Int):Int:=if zao w≠0 then zao w else if w.bases.length=0∨¬(1≤n∧n≤100)then 1 else 0
def zq7 (w:Wld) (n:Int):Hst:=if zq8 w n=0 then ⟨⟨w,[]⟩,List.replicate w.bases.length ⟨[],0,false⟩,2 ^ w.bases.length-1,List.replicate 16 0,n⟩else default
def zbr (h:Hst):List Ord:=(zcg h.most h.seats).1
def zgr (WR:Cel→List Int) (h:Hst):Int:=if zff WR h.sty (zbr h)≠0 then zff WR h.sty (zbr h)else (zha (zbr h)).2
def zm8 (WR:Cel→List Int) (h:Hst):ByteArray:=if zff WR h.sty (zbr h)≠0 then ⟨#[]⟩else (zha (zbr h)).1
def zi9 (WR:Cel→List Int) (h:Hst):Hst:=if zff WR h.sty (zbr h)≠0 then h else { h with seats:=(zcg h.most h.seats).2,sty:=zge WR h.sty (zbr h) }
def zqm (m m':Nat) (k:Nat):Bool:=zci m k && !zci m' k
def zb4 (m m':Nat) (l:List Sea):Nat→List Sea
 | 0=>l
 | k+1=>if zqm m m' k then zgj (zb4 m m' l k) k else zb4 m m' l k
def zs2 (h:Hst) (b a:Int):Int:=(zcc h.m h.ag b a).2.2
def zs1 (h:Hst) (b a:Int):Hst:=if zs2 h b a≠0 then h else { h with seats:=zb4 h.m (zcc h.m h.ag b a).1.1 h.seats h.seats.length,m:=(zcc h.m h.ag b a).1.1,ag:=(zcc h.m h.ag b a).1.2 }
theorem zc3 (m m':Nat) (l:List Sea):∀k,(zb4 m m' l k).length=l.length
 | 0=>rfl
 | k+1=>by
  unfold zb4
  split
  ·unfold zgj;rw[List.length_set,zc3 m m' l k]
  ·exact zc3 m m' l k
theorem zqc (m m':Nat) (l:List Sea) (j:Nat):∀k,k≤j→(zb4 m m' l k).getD j default=l.getD j default
 | 0,_=>rfl
 | k+1,h=>by
  have ih:=zqc m m' l j k (by omega)
  unfold zb4
  split
  ·unfold zgj
   rw[List.getD_eq_getElem?_getD,List.getElem?_set_ne (by omega),←List.getD_eq_getElem?_getD];exact ih
  ·exact ih
theorem z29 (i:Int):zpb ⟨[],0,true⟩ i=true:=by simp[zpb,zl5,zaj]
theorem zwb {l:List Sea} (h:za0 l=0) (p:Nat) (hp:p<l.length):za0 (zgj l p)=0:=by
 obtain⟨h1,h2,h3,h4⟩:True∧(1≤l.length∧l.length≤8)∧(∀s∈l,s.waits.length≤50)∧∀i,i<l.length→zpb (l.getD i default) i=true:=by
  unfold za0 at h
  split at h
  ·omega
  split at h
  ·omega
  split at h
  ·rename_i a1 a2 a3
   refine⟨trivial,by omega,fun s hs => ?_,fun i hi=>List.all_eq_true.1 a3 i (List.mem_range.2 hi)⟩
   exact Nat.not_lt.1 fun hx=>a2 (List.any_eq_true.2 ⟨s,hs,decide_eq_true hx⟩)
  ·omega
 unfold za0 zgj
 rw[List.length_set,if_neg (by omega),if_neg,if_pos]
 ·rw[List.all_eq_true]
  intro i hi
  have hi:=List.mem_range.1 hi
  rw[List.getD_eq_getElem?_getD,List.getElem?_set]
  by_cases hpi:(p:Int).toNat=i
  ·rw[if_pos hpi,if_pos (by rw[hpi];exact hi)];exact z29 _
  ·rw[if_neg hpi,←List.getD_eq_getElem?_getD];exact h4 i hi
 ·rw[List.any_eq_true]
  rintro⟨s,hs,hx⟩
  rw[decide_eq_true_iff]at hx
  rcases List.mem_or_eq_of_mem_set hs with e|e
  ·have:=h3 s e;omega
  ·subst e;simp at hx
theorem zd8 {m m':Nat} {l:List Sea} (h:za0 l=0):∀k,k≤l.length→za0 (zb4 m m' l k)=0
 | 0,_=>h
 | k+1,hk=>by
  have ih:=zd8 (m:=m) (m':=m') h k (by omega)
  unfold zb4
  split
  ·exact zwb ih k (by rw[zc3];omega)
  ·exact ih
theorem yb4 {l:List Sea} (h:za0 l=0):∀s∈l,zfp s:=fun s hs=>by
 unfold zfp
 have:=(zb1 h).2.2.1 s hs;omega
end Go.Proofs.YtmjbgbmegbkmhaaGreat
namespace Go.Proofs.YtmjbgbmegbkmhaaGreat
set_option linter.all false
open Go.RowKit
set_option maxRecDepth 100000
set_option maxHeartbeats 2000000
theorem ygp (b:Nat) (h8:b≤8):IntKind.u32.wrap (IntKind.u32.wrap (2 ^ min b IntKind.u32.bits)-1)=((2 ^ b-1:Nat):Int):=by
 have:b=0∨b=1∨b=2∨b=3∨b=4∨b=5∨b=6∨b=7∨b=8:=by omega
 rcases this with rfl|rfl|rfl|rfl|rfl|rfl|rfl|rfl|rfl<;>decide
theorem z9x (w:Wld) (n:Int) (WR:Cel→List Int) (hWR:∀a,zap w.f [a] (WR a)) (hl:zfm w) (hE:zq8 w n=0) (hw:Right w) (h0:0<w.bases.length) (h8:w.bases.length≤8) (hn:1≤n∧n≤100):Spec Tryz.prog 7 [zdf w,I .i64 n] [] (.tup [zw7 (zq7 w n),I .i64 0]) []:=by
 have V:=zj2 w [] WR hWR hl (fun _ h=>by simp at h)
 have v0:zdx WR [] w=0:=by unfold zdx;rw[if_neg (by simp),if_neg (fun hn=>hn hw.e)];rfl
 rw[v0,show zgt WR [] w=w from if_pos v0]at V
 have eH:zq7 w n=⟨⟨w,[]⟩,List.replicate w.bases.length ⟨[],0,false⟩,2 ^ w.bases.length-1,List.replicate 16 0,n⟩:=if_pos hE
 rw[eH]
 refine spB Tryz.func7 49 [.cell 4 40,.tmp 5] Tryz.results7 ?_
 (iterate 2((try simp(etaStruct := .none)only[push_cast,seval]);(try(refine xsu ?_;try exact xtI))))
 refine zdz (V) (by exact⟨Wk.refl _,Wk.nil _,trivial⟩) ?_
 (iterate 2((try simp(etaStruct := .none)only[push_cast,seval]);(try(refine xsu ?_;try exact xtI))))
 refine cI (fun h1 => ?_) fun h1 => ?_
 ·simp at h1
 ·(iterate 2((try simp(etaStruct := .none)only[push_cast,seval]);(try(refine xsu ?_;try exact xtI))))
  refine gcP (fun hcc=>zsi n) ?_
  (iterate 2((try simp(etaStruct := .none)only[push_cast,seval]);(try(refine xsu ?_;try exact xtI))))
  refine cI (fun h2 => ?_) fun h2 => ?_
  ·omega
  ·(iterate 2((try simp(etaStruct := .none)only[push_cast,seval]);(try(refine xsu ?_;try exact xtI))))
   refine caP (yb0 w.bases.length (by omega)) ?_
   (iterate 2((try simp(etaStruct := .none)only[push_cast,seval]);(try(refine xsu ?_;try exact xtI))))
   refine zbk [some 38,some 39,some 40,some 41,some 42,some 11,none] rfl ?_
   intro Oq lq Rq hlq hdq hRq
   subst hlq
   iterate 7(refine zax fun rq hrq => ?_;(iterate 2((try simp(etaStruct := .none)only[push_cast,seval,hdq,id]);(try(refine xsu ?_;try exact xtI))));subst hrq)
   refine zlu ?_
   subst hRq
   clear hdq Oq
   refine zlt (by kernel_rfl) ?_
   (iterate 2((try simp(etaStruct := .none)only[push_cast,seval]);(try(refine xsu ?_;try exact xtI))))
   refine zcj rfl (by repeat' (first|exact trivial|exact rfl|refine⟨?_,?_⟩)) (Wk.tup ⟨Wk.agg ⟨Wk.refl _,Wk.refl _,Wk.refl _,Wk.refl _,Wk.refl _,Wk.refl _,Wk.refl _,Wk.refl _,Wk.refl _,Wk.nil _,Wk.of ?_,Wk.of ?_,Wk.of ?_,Wk.refl _,trivial⟩,Wk.refl _,trivial⟩)
   ·rfl
   ·show AV.c (.v (.int .u32 (IntKind.u32.wrap (IntKind.u32.wrap (1*2 ^ min w.bases.length IntKind.u32.bits)-1))))=_
    rw[Int.one_mul,ygp w.bases.length h8]
   ·rfl
theorem yb1 (h:Hst) (WR:Cel→List Int) (hWR:∀a,zap h.sty.start.f [a] (WR a)) (hl:HstL h) (h0:za0 h.seats=0) (hm:1≤h.most∧h.most≤100) (hlen:(zbr h).length≤9223372036854775807):Spec Tryz.prog 33 [.ptr 0 0 0] [.blk 40 (zoq h)] (.tup [S (zm8 WR h),I .i64 (zgr WR h)]) [.blk 40 (zoq (zi9 WR h))]:=by
 have C1:=z3b h.seats h.most hl.l hl.a h0 hm
 have C2:=z77 h.sty (zbr h) WR hWR hl.s hlen
 have C3:=z3u (zbr h) hlen
 refine spB Tryz.func33 48 [.tmp 2,.tmp 3] Tryz.results33 ?_
 (iterate 2((try simp(etaStruct := .none)only[push_cast,seval]);(try(refine xsu ?_;try exact xtI))))
 refine zbk [some 9,some 10,some 11,some 12,some 13,some 14,some 15,some 16,some 17,some 8,some 18,some 19,some 20,some 4,some 5,some 6] rfl ?_
 intro Oq lq Rq hlq hdq hRq
 subst hlq
 iterate 8(refine zax fun rq hrq => ?_;(iterate 2((try simp(etaStruct := .none)only[push_cast,seval,hdq,id]);(try(refine xsu ?_;try exact xtI))));subst hrq)
 refine zax fun rq hrq => ?_
 (iterate 2((try simp(etaStruct := .none)only[push_cast,seval,hdq,id]);(try(refine xsu ?_;try exact xtI))))
 refine caP (C1) ?_
 (iterate 2((try simp(etaStruct := .none)only[push_cast,seval,hdq,id]);(try(refine xsu ?_;try exact xtI))))
 subst hrq
 iterate 7(refine zax fun rq hrq => ?_;(iterate 2((try simp(etaStruct := .none)only[push_cast,seval,hdq,id]);(try(refine xsu ?_;try exact xtI))));subst hrq)
 refine zlu ?_
 subst hRq
 clear hdq Oq
 refine zlt (by kernel_rfl) ?_
 (iterate 2((try simp(etaStruct := .none)only[push_cast,seval]);(try(refine xsu ?_;try exact xtI))))
 refine cI (fun h1 => ?_) fun h1 => ?_
 ·simp at h1
 ·(iterate 2((try simp(etaStruct := .none)only[push_cast,seval]);(try(refine xsu ?_;try exact xtI))))
  refine caP (C2) ?_
  (iterate 2((try simp(etaStruct := .none)only[push_cast,seval]);(try(refine xsu ?_;try exact xtI))))
  refine cI (fun h2 => ?_) fun h2 => ?_
  ·have eT:zm8 WR h=⟨#[]⟩:=by unfold zm8;rw[if_pos h2]
   have eE:zgr WR h=zff WR h.sty (zbr h):=by unfold zgr;rw[if_pos h2]
   have eH:zi9 WR h=h:=by unfold zi9;rw[if_pos h2]
   rw[eT,eE,eH]
   (iterate 2((try simp(etaStruct := .none)only[push_cast,seval]);(try(refine xsu ?_;try exact xtI))))
   refine zb6 [0] rfl rfl (by decide) ⟨?_,trivial⟩ (by repeat' (first|exact trivial|exact rfl|refine⟨?_,?_⟩)) ?_<;>first|exact Wk.refl _|exact wkc|(try simp(etaStruct := .none)only[push_cast,zab,seval])
  ·have eT:zm8 WR h=(zha (zbr h)).1:=by unfold zm8;rw[if_neg (by simpa using h2)]
   have eE:zgr WR h=(zha (zbr h)).2:=by unfold zgr;rw[if_neg (by simpa using h2)]
   have eH:zi9 WR h = { h with seats:=(zcg h.most h.seats).2,sty:=zge WR h.sty (zbr h) }:=by unfold zi9;rw[if_neg (by simpa using h2)]
   rw[eT,eE,eH]
   (iterate 2((try simp(etaStruct := .none)only[push_cast,seval]);(try(refine xsu ?_;try exact xtI))))
   refine zbk [some 36,some 37,some 38,some 39,some 40,some 41,none,some 42,some 43,none] rfl ?_
   intro Oq lq Rq hlq hdq hRq
   subst hlq
   iterate 10(refine zax fun rq hrq => ?_;(iterate 2((try simp(etaStruct := .none)only[push_cast,seval,hdq,id]);(try(refine xsu ?_;try exact xtI))));subst hrq)
   refine zlu ?_
   subst hRq
   clear hdq Oq
   refine zlt (by kernel_rfl) ?_
   (iterate 2((try simp(etaStruct := .none)only[push_cast,seval]);(try(refine xsu ?_;try exact xtI))))
   refine caP (C3) ?_
   (iterate 2((try simp(etaStruct := .none)only[push_cast,seval]);(try(refine xsu ?_;try exact xtI))))
   refine zb6 [0] rfl rfl (by decide) ⟨?_,trivial⟩ (by repeat' (first|exact trivial|exact rfl|refine⟨?_,?_⟩)) ?_<;>first|exact Wk.refl _|exact wkc|(try simp(etaStruct := .none)only[push_cast,zab,seval])
theorem ydl (w:Wld) (n:Int) (WR:Cel→List Int) (hWR:∀a,zap w.f [a] (WR a)) (hl:zfm w) (h:zao w≠0):Spec Tryz.prog 7 [zdf w,I .i64 n] [] (.tup [zw7 default,I .i64 (zao w)]) []:=by
 have V:=zj2 w [] WR hWR hl (fun _ h=>by simp at h)
 have v0:zdx WR [] w=zao w:=by unfold zdx;rw[if_neg (by simp),if_pos h]
 rw[v0]at V
 refine spB Tryz.func7 49 [.cell 4 40,.tmp 5] Tryz.results7 ?_
 (iterate 2((try simp(etaStruct := .none)only[push_cast,seval]);(try(refine xsu ?_;try exact xtI))))
 refine zdz (V) (by exact⟨Wk.refl _,Wk.nil _,trivial⟩) ?_
 (iterate 2((try simp(etaStruct := .none)only[push_cast,seval]);(try(refine xsu ?_;try exact xtI))))
 refine cI (fun h1 => ?_) fun h1 => ?_
 ·(iterate 2((try simp(etaStruct := .none)only[push_cast,seval]);(try(refine xsu ?_;try exact xtI))))
  exact xrz rfl
 ·exact absurd h1 h
theorem ydm (w:Wld) (n:Int) (WR:Cel→List Int) (hWR:∀a,zap w.f [a] (WR a)) (hl:zfm w) (hw:Right w) (h:w.bases.length=0∨¬(1≤n∧n≤100)):Spec Tryz.prog 7 [zdf w,I .i64 n] [] (.tup [zw7 default,I .i64 1]) []:=by
 have V:=zj2 w [] WR hWR hl (fun _ h=>by simp at h)
 have v0:zdx WR [] w=0:=by unfold zdx;rw[if_neg (by simp),if_neg (fun hn=>hn hw.e)];rfl
 rw[v0,show zgt WR [] w=w from if_pos v0]at V
 refine spB Tryz.func7 49 [.cell 4 40,.tmp 5] Tryz.results7 ?_
 (iterate 2((try simp(etaStruct := .none)only[push_cast,seval]);(try(refine xsu ?_;try exact xtI))))
 refine zdz (V) (by exact⟨Wk.refl _,Wk.nil _,trivial⟩) ?_
 (iterate 2((try simp(etaStruct := .none)only[push_cast,seval]);(try(refine xsu ?_;try exact xtI))))
 refine cI (fun h1 => ?_) fun h1 => ?_
 ·simp at h1
 ·(iterate 2((try simp(etaStruct := .none)only[push_cast,seval]);(try(refine xsu ?_;try exact xtI))))
  refine gcP (fun hcc=>zsi n) ?_
  (iterate 2((try simp(etaStruct := .none)only[push_cast,seval]);(try(refine xsu ?_;try exact xtI))))
  refine cI (fun h2 => ?_) fun h2 => ?_
  ·(iterate 2((try simp(etaStruct := .none)only[push_cast,seval]);(try(refine xsu ?_;try exact xtI))))
   exact xrz rfl
  ·omega
theorem z0o (w:Wld) (n:Int) (WR:Cel→List Int) (hWR:∀a,zap w.f [a] (WR a)) (hl:zfm w):Spec Tryz.prog 7 [zdf w,I .i64 n] [] (.tup [zw7 (zq7 w n),I .i64 (zq8 w n)]) []:=by
 by_cases h:zao w=0
 ·have hw:=zdm h
  by_cases h2:w.bases.length=0∨¬(1≤n∧n≤100)
  ·have e:zq8 w n=1:=by unfold zq8;rw[if_neg (fun x=>x h),if_pos h2]
   have e2:zq7 w n=default:=by unfold zq7;rw[e];rfl
   rw[e,e2]
   exact ydm w n WR hWR hl hw h2
  ·have e:zq8 w n=0:=by unfold zq8;rw[if_neg (fun x=>x h),if_neg h2]
   have:=z9x w n WR hWR hl e hw (by omega) hw.nb (by omega)
   rwa [e]
 ·have e:zq8 w n=zao w:=by unfold zq8;rw[if_pos h]
  have e2:zq7 w n=default:=by unfold zq7;rw[e,if_neg h]
  rw[e,e2]
  exact ydl w n WR hWR hl h
theorem zli (n k:Nat):zci n k=n.testBit k:=by
 unfold zci
 rw[Nat.testBit_eq_decide_div_mod_eq,Bool.eq_iff_iff]
 simp
theorem z0x (m n k:Nat) (hm:m<4294967296) (hn:n<4294967296) (hk:k<32):decide (bits .and .u32 ((bits .andNot .u32 (m:Int) (n:Int)).fdiv (2 ^ min k IntKind.u32.bits)) 1=1)=zqm m n k:=by
 rw[zmz m n hm hn]
 have hle:m &&& (4294967295-n)≤m:=Nat.and_le_left
 rw[z2p _ k (by omega) hk]
 unfold zqm
 rw[zli,zli,zli,Nat.testBit_and]
 have h2:=Nat.testBit_two_pow_sub_succ (n:=32) (x:=n) (by omega) k
 rw[show (2 ^ 32-(n+1):Nat)=4294967295-n by omega]at h2
 rw[h2,decide_eq_true (by omega),Bool.true_and]
theorem z6j:∀(n m:Nat) (g:List Nat),(zll n m g).1≤m
 | 0,_,_=>Nat.le_refl _
 | n+1,m,g=>by
  unfold zll
  split
  ·exact Nat.le_refl _
  ·exact Nat.le_trans (z6j n _ _) (zmr _ _)
theorem zvr (m:Nat) (g:List Nat) (b a:Int):(zcc m g b a).1.1≤m:=by
 unfold zcc
 repeat' split
 all_goals first|exact Nat.zero_le _|exact z6j _ _ _
theorem z91 (h:Hst) (b a:Int) (hl:HstL h) (h0:za0 h.seats=0) (hg:∀i,i<h.seats.length→zfe h i=true):Spec Tryz.prog 34 [.ptr 0 0 0,I .i64 b,I .i64 a] [.blk 40 (zoq h)] (I .i64 (zs2 h b a)) [.blk 40 (zoq (zs1 h b a))]:=by
 have C:=yd2 h.m h.ag b a hl.m hl.g hl.e
 have hv:=zvr h.m h.ag b a
 have hm:=hl.m
 have h8:=(zb1 h0).2.1
 unfold zs1 zs2
 generalize zcc h.m h.ag b a=V at *
 obtain⟨⟨m',g'⟩,x,e⟩:=V
 simp only at hv C ⊢
 refine spB Tryz.func34 62 [.tmp 6] Tryz.results34 ?_
 (iterate 2((try simp(etaStruct := .none)only[push_cast,seval]);(try(refine xsu ?_;try exact xtI))))
 refine caP (C) ?_
 (iterate 2((try simp(etaStruct := .none)only[push_cast,seval]);(try(refine xsu ?_;try exact xtI))))
 refine cI (fun h1 => ?_) fun h1 => ?_
 ·rw[if_pos h1]
  (iterate 2((try simp(etaStruct := .none)only[push_cast,seval]);(try(refine xsu ?_;try exact xtI))))
  refine zb6 [0] rfl rfl (by decide) ⟨?_,trivial⟩ (by repeat' (first|exact trivial|exact rfl|refine⟨?_,?_⟩)) ?_<;>first|exact Wk.refl _|exact wkc|(try simp(etaStruct := .none)only[push_cast,zab,seval])
 ·have h1':e=0:=by simpa using h1
  subst h1'
  rw[if_neg (fun x=>x rfl)]
  have l0:zb4 h.m m' h.seats 0=h.seats:=rfl
  (iterate 2((try simp(etaStruct := .none)only[push_cast,seval]);(try(refine xsu ?_;try exact xtI))))
  refine zay (fun k:Nat=>⟨[(30,I .i64 k),(29,I .i64 h.seats.length),(7,.ptr 1 0 0),(0,.ptr 0 0 0)],[(0,.blk 40 (zoq { h with seats:=zb4 h.m m' h.seats k })),(1,.blk 38 [I .u32 m',.c (.sl 1 (g'.map ziu))])],2⟩) (fun k:Nat=>k≤h.seats.length) (fun k:Nat=>h.seats.length-k) (0) (Nat.zero_le _) (To.mk [0,1] rfl rfl (by decide) ?_ ?_) ?_
  ·simp(etaStruct := .none)only[push_cast,zab,seval,l0]
  ·simp(etaStruct := .none)only[push_cast,zab,seval]
  rintro k hk
  (iterate 2((try simp(etaStruct := .none)only[push_cast,seval]);(try(refine xsu ?_;try exact xtI))))
  refine cI (fun h2 => ?_) fun h2 => ?_
  ·have hlt:k<h.seats.length:=by omega
   have hgt:=z0x h.m m' k hm (by omega) (by omega)
   have hlk:=zc3 h.m m' h.seats k
   have hr:=zd8 (m:=h.m) (m':=m') h0 k (by omega)
   (iterate 2((try simp(etaStruct := .none)only[push_cast,seval,hgt]);(try(refine xsu ?_;try exact xtI))))
   refine zbk [some 33,some 34,some 35,some 36,some 37,some 38,some 39,some 40,some 41,some 42,some 43,some 44] rfl ?_
   intro Oq lq Rq hlq hdq hRq
   subst hlq
   iterate 12(refine zax fun rq hrq => ?_;(iterate 2((try simp(etaStruct := .none)only[push_cast,seval,hdq,id,hgt]);(try(refine xsu ?_;try exact xtI))));subst hrq)
   refine zlu ?_
   subst hRq
   clear hdq Oq
   refine zlt (by kernel_rfl) ?_
   (iterate 2((try simp(etaStruct := .none)only[push_cast,seval,hgt]);(try(refine xsu ?_;try exact xtI))))
   refine cI (fun h3 => ?_) fun h3 => ?_
   ·have hbk:zci h.m k=true:=by
     have h3':=h3
     unfold zqm at h3'
     rw[Bool.and_eq_true]at h3'
     exact h3'.1
    have hgn:((zb4 h.m m' h.seats k).getD k default).gone=false:=by
     rw[zqc _ _ _ _ _ (Nat.le_refl _)]
     have hx:=hg k hlt
     unfold zfe at hx
     rw[of_decide_eq_true hx,hbk];rfl
    have hs:zb4 h.m m' h.seats (k+1)=zgj (zb4 h.m m' h.seats k) k:=if_pos h3
    (iterate 2((try simp(etaStruct := .none)only[push_cast,seval,hgt]);(try(refine xsu ?_;try exact xtI))))
    refine caP (zyo (zb4 h.m m' h.seats k) k (by omega) (yb4 hr) hr (by omega) (by rw[Int.toNat_natCast];exact hgn)) ?_
    (iterate 2((try simp(etaStruct := .none)only[push_cast,seval,hgt]);(try(refine xsu ?_;try exact xtI))))
    refine⟨k+1,by omega,by omega,To.mk [0,1] rfl rfl (by decide) ?_ ?_⟩
    ·(iterate 2((try simp(etaStruct := .none)only[push_cast,seval,hs]);(try(refine xsu ?_;try exact xtI))))
    ·(iterate 2((try simp(etaStruct := .none)only[push_cast,seval,hgt]);(try(refine xsu ?_;try exact xtI))))
   ·have hs:zb4 h.m m' h.seats (k+1)=zb4 h.m m' h.seats k:=if_neg (by rw[h3];decide)
    (iterate 2((try simp(etaStruct := .none)only[push_cast,seval,hgt]);(try(refine xsu ?_;try exact xtI))))
    refine⟨k+1,by omega,by omega,To.mk [0,1] rfl rfl (by decide) ?_ ?_⟩
    ·(iterate 2((try simp(etaStruct := .none)only[push_cast,seval,hs]);(try(refine xsu ?_;try exact xtI))))
    ·(iterate 2((try simp(etaStruct := .none)only[push_cast,seval,hgt]);(try(refine xsu ?_;try exact xtI))))
  ·obtain rfl:k=h.seats.length:=by omega
   (iterate 2((try simp(etaStruct := .none)only[push_cast,seval]);(try(refine xsu ?_;try exact xtI))))
   refine zb6 [0] rfl rfl (by decide) ⟨?_,trivial⟩ (by repeat' (first|exact trivial|exact rfl|refine⟨?_,?_⟩)) ?_<;>first|exact Wk.refl _|exact wkc|(try simp(etaStruct := .none)only[push_cast,zab,seval])
structure Clq where
 kind:Int
 o:Ord
 by_:Int
 at_:Int
deriving Inhabited
abbrev yd1 (c:Clq):AV := .agg [I .i64 c.kind,I .i64 c.o.by_,I .i64 c.o.kind,I .i64 c.o.who,I .i64 c.o.c.x,I .i64 c.o.c.y,I .i64 c.o.what,I .i64 c.by_,I .i64 c.at_]
def doV (WR:Cel→List Int) (h:Hst) (c:Clq):Hst × ByteArray × Int :=
 if c.kind=1 then (if zpd h.seats c.o=0 then ({ h with seats:=ztr h.seats c.o },⟨#[]⟩,0)else (h,⟨#[]⟩,zpd h.seats c.o))
 else if c.kind=2 then (if zgr WR h=0 then (zi9 WR h,zm8 WR h,0)else (h,⟨#[]⟩,zgr WR h))
 else if c.kind=3 then (if zs2 h c.by_ c.at_=0 then (zs1 h c.by_ c.at_,⟨#[]⟩,0)else (h,⟨#[]⟩,zs2 h c.by_ c.at_))
 else (h,⟨#[]⟩,1)
abbrev doA (r:Hst × ByteArray × Int):AV := .tup [zw7 r.1,S r.2.1,I .i64 r.2.2]
theorem yg9 (h:Hst) (c:Clq) (WR:Cel→List Int) (hWR:∀a,zap h.sty.start.f [a] (WR a)) (hl:HstL h) (hb:HstB h) (hE:zrb WR h=0) (hk:c.kind=1):Spec Tryz.prog 9 [zw7 h,yd1 c] [] (doA (doV WR h c)) []:=by
 have C:=zjs h WR hWR hl
 have D:=yby h.seats c.o hl.l hl.a
 have eV:doV WR h c=if zpd h.seats c.o=0 then ({ h with seats:=ztr h.seats c.o },⟨#[]⟩,0)else (h,⟨#[]⟩,zpd h.seats c.o):=by unfold doV;rw[if_pos hk]
 rw[hE]at C
 rw[eV]
 refine spB Tryz.func9 51 [.cell 4 40,.tmp 5,.tmp 6] Tryz.results9 ?_
 try refine xst ?_
 refine caP (zhw h hb) ?_
 try refine xst ?_
 refine caP (C) ?_
 try refine xst ?_
 refine cI (fun h1 => ?_) fun h1 => ?_
 ·simp at h1
 ·try refine xst ?_
  refine cI (fun h2 => ?_) fun h2 => ?_
  ·try refine xst ?_
   refine caP (D) ?_
   try refine xst ?_
   refine cI (fun h3 => ?_) fun h3 => ?_
   ·rw[if_neg h3]
    try refine xst ?_
    exact xrz rfl
   ·rw[if_pos h3,if_pos h3]
    try refine xst ?_
    exact xrz rfl
  ·exact absurd hk h2
theorem yg8 (h:Hst) (c:Clq) (WR:Cel→List Int) (hWR:∀a,zap h.sty.start.f [a] (WR a)) (hl:HstL h) (hb:HstB h) (hE:zrb WR h=0) (h0:za0 h.seats=0) (hm:1≤h.most∧h.most≤100) (hlen:(zbr h).length≤9223372036854775807) (hk:c.kind=2):Spec Tryz.prog 9 [zw7 h,yd1 c] [] (doA (doV WR h c)) []:=by
 have C:=zjs h WR hWR hl
 have D:=yb1 h WR hWR hl h0 hm hlen
 have eV:doV WR h c=if zgr WR h=0 then (zi9 WR h,zm8 WR h,0)else (h,⟨#[]⟩,zgr WR h):=by unfold doV;rw[if_neg (by omega),if_pos hk]
 rw[hE]at C
 rw[eV]
 refine spB Tryz.func9 51 [.cell 4 40,.tmp 5,.tmp 6] Tryz.results9 ?_
 try refine xst ?_
 refine caP (zhw h hb) ?_
 try refine xst ?_
 refine caP (C) ?_
 try refine xst ?_
 refine cI (fun h1 => ?_) fun h1 => ?_
 ·simp at h1
 ·try refine xst ?_
  refine cI (fun h2 => ?_) fun h2 => ?_
  ·omega
  ·try refine xst ?_
   refine cI (fun h3 => ?_) fun h3 => ?_
   ·try refine xst ?_
    refine caM [3] (D) ?_
    try refine xst ?_
    refine cI (fun h4 => ?_) fun h4 => ?_
    ·rw[if_neg h4]
     try refine xst ?_
     exact xrz rfl
    ·rw[if_pos h4]
     try refine xst ?_
     exact xrz rfl
   ·exact absurd hk h3
theorem yg7 (h:Hst) (c:Clq) (WR:Cel→List Int) (hWR:∀a,zap h.sty.start.f [a] (WR a)) (hl:HstL h) (hb:HstB h) (hE:zrb WR h=0) (h0:za0 h.seats=0) (hg:∀i,i<h.seats.length→zfe h i=true) (hk:c.kind=3):Spec Tryz.prog 9 [zw7 h,yd1 c] [] (doA (doV WR h c)) []:=by
 have C:=zjs h WR hWR hl
 have D:=z91 h c.by_ c.at_ hl h0 hg
 have eV:doV WR h c=if zs2 h c.by_ c.at_=0 then (zs1 h c.by_ c.at_,⟨#[]⟩,0)else (h,⟨#[]⟩,zs2 h c.by_ c.at_):=by unfold doV;rw[if_neg (by omega),if_neg (by omega),if_pos hk]
 rw[hE]at C
 rw[eV]
 refine spB Tryz.func9 51 [.cell 4 40,.tmp 5,.tmp 6] Tryz.results9 ?_
 try refine xst ?_
 refine caP (zhw h hb) ?_
 try refine xst ?_
 refine caP (C) ?_
 try refine xst ?_
 refine cI (fun h1 => ?_) fun h1 => ?_
 ·simp at h1
 ·try refine xst ?_
  refine cI (fun h2 => ?_) fun h2 => ?_
  ·omega
  ·try refine xst ?_
   refine cI (fun h3 => ?_) fun h3 => ?_
   ·omega
   ·try refine xst ?_
    refine cI (fun h4 => ?_) fun h4 => ?_
    ·try refine xst ?_
     refine caM [3] (D) ?_
     try refine xst ?_
     refine cI (fun h5 => ?_) fun h5 => ?_
     ·rw[if_neg h5]
      try refine xst ?_
      exact xrz rfl
     ·rw[if_pos h5]
      try refine xst ?_
      exact xrz rfl
    ·exact absurd hk h4
theorem yg6 (h:Hst) (c:Clq) (WR:Cel→List Int) (hWR:∀a,zap h.sty.start.f [a] (WR a)) (hl:HstL h) (hb:HstB h) (hE:zrb WR h=0) (hk:¬(1≤c.kind∧c.kind≤3)):Spec Tryz.prog 9 [zw7 h,yd1 c] [] (doA (doV WR h c)) []:=by
 have C:=zjs h WR hWR hl
 have eV:doV WR h c=(h,⟨#[]⟩,1):=by unfold doV;rw[if_neg (by omega),if_neg (by omega),if_neg (by omega)]
 rw[hE]at C
 rw[eV]
 refine spB Tryz.func9 51 [.cell 4 40,.tmp 5,.tmp 6] Tryz.results9 ?_
 try refine xst ?_
 refine caP (zhw h hb) ?_
 try refine xst ?_
 refine caP (C) ?_
 try refine xst ?_
 refine cI (fun h1 => ?_) fun h1 => ?_
 ·simp at h1
 ·try refine xst ?_
  refine cI (fun h2 => ?_) fun h2 => ?_
  ·omega
  ·try refine xst ?_
   refine cI (fun h3 => ?_) fun h3 => ?_
   ·omega
   ·try refine xst ?_
    refine cI (fun h4 => ?_) fun h4 => ?_
    ·omega
    ·try refine xst ?_
     refine cI (fun h5 => ?_) fun h5 => ?_
     ·try refine xst ?_
      exact xrz rfl
     ·simp at h5
end Go.Proofs.YtmjbgbmegbkmhaaGreat
namespace Go.Proofs.YtmjbgbmegbkmhaaGreat
set_option linter.all false
open Go.RowKit
set_option maxRecDepth 100000
set_option maxHeartbeats 1000000
theorem zms (most:Int) (l:List Sea) (n:Nat):(itS most n ([],l.map zbj)).2.length=l.length∧((itS most n ([],l.map zbj)).1.length:Int)≤max most 0∧((∀s∈l,zfp s)→∀s∈(itS most n ([],l.map zbj)).2,zfp s):=by
 have tkl:∀(m:List Sea) (out:List Ord),(∀s∈m,zfp s)→∀s∈(tkS most out m).2,zfp s:=by
  intro m
  induction m with
  | nil=>intro out _ s hs;simp[tkS]at hs
  | cons x r ih =>
   intro out hm s hs
   unfold tkS at hs
   split at hs
   ·rcases List.mem_cons.1 hs with rfl|hs
    ·have:=hm x (by simp);unfold zfp at this ⊢;simp only[List.length_drop];omega
    ·exact ih _ (fun s h=>hm s (by simp[h])) s hs
   ·rcases List.mem_cons.1 hs with rfl|hs
    ·exact hm _ (by simp)
    ·exact ih _ (fun s h=>hm s (by simp[h])) s hs
 induction n with
 | zero=>exact⟨by simp[itS],by simp[itS];omega,fun h s hs=>by simp only[itS]at hs;obtain⟨t,ht,rfl⟩:=List.mem_map.1 hs;exact h t ht⟩
 | succ n ih =>
  rw[zjq]
  exact⟨by rw[zrq];exact ih.1,zyc most _ _ ih.2.1,fun h=>tkl _ _ (ih.2.2 h)⟩
end Go.Proofs.YtmjbgbmegbkmhaaGreat
namespace Go.Proofs.YtmjbgbmegbkmhaaGreat
set_option linter.all false
open Go.RowKit
set_option maxRecDepth 100000
set_option maxHeartbeats 2000000
theorem zyt:∀(n m:Nat) (g:List Nat),(zll n m g).2.length=g.length
 | 0,_,_=>rfl
 | n+1,m,g=>by
  rw[zll]
  split
  ·rfl
  ·rw[zyt n,zup]
theorem z5p (m:Nat) (xs:List Nat) (b a:Int):(zcc m xs b a).1.2.length≤xs.length:=by
 unfold zcc
 repeat' split
 all_goals(first|(simp;done)|(rw[zyt];simp))
theorem zsh {WR:Cel→List Int} {h:Hst} (hE:zrb WR h=0):za0 h.seats=0∧(1≤h.most∧h.most≤100)∧∀i,i<h.seats.length→zfe h i=true:=by
 unfold zrb at hE
 split at hE
 ·rename_i x;exact absurd hE x
 split at hE
 ·rename_i x;exact absurd hE x
 rename_i h2
 split at hE
 ·rename_i x;exact absurd hE x
 split at hE
 ·omega
 rename_i h4
 split at hE
 ·omega
 split at hE
 ·rename_i ha
  exact⟨by simpa using h2,by omega,fun i hi=>List.all_eq_true.1 ha i (List.mem_range.2 hi)⟩
 ·omega
theorem zo8 (h:Hst) (hm:h.most≤100):(zbr h).length≤100:=by
 have:=(zms h.most h.seats 50).2.1
 unfold zbr zcg
 omega
theorem zoe (most:Int) (l:List Sea):(zcg most l).2.length=l.length∧((∀s∈l,zfp s)→∀s∈(zcg most l).2,zfp s):=by
 have h:=zms most l 50
 unfold zcg
 exact⟨h.1,h.2.2⟩
structure HstS (h : Hst) : Prop where
 s:StyL h.sty
 l:h.seats.length≤9223372036854775807
 a:∀s∈h.seats,zfp s
 g:h.ag.length≤9223372036854775807
theorem HstL.s' {h:Hst} (hl:HstL h):HstS h:=⟨hl.s,hl.l,hl.a,hl.g⟩
theorem ycv (w:Wld) (n:Int) (hl:zfm w) (hb:w.bases.length≤9223372036854775807):HstS (zq7 w n):=by
 unfold zq7
 split
 ·refine⟨⟨hl,fun l h=>by simp at h,Nat.zero_le _⟩,by simp only[List.length_replicate];exact hb,fun s hs => ?_,by simp only[List.length_replicate];omega⟩
  rw[(List.mem_replicate.1 hs).2];exact Nat.zero_le _
 ·exact⟨z6f,Nat.zero_le _,fun s hs=>by exact absurd hs List.not_mem_nil,Nat.zero_le _⟩
theorem yhg {WR:Cel→List Int} {h:Hst} (c:Clq) (hl:HstL h) (hE:zrb WR h=0):HstS (doV WR h c).1:=by
 obtain⟨h0,hm,-⟩:=zsh hE
 have h50:=(zb1 h0).2.2.1
 have h8:=(zb1 h0).2.1
 unfold doV
 split
 ·split
  ·refine⟨hl.s,by simp only[ztr,List.length_set];omega,fun s hs => ?_,hl.g⟩
   rcases List.mem_or_eq_of_mem_set hs with e|e
   ·exact hl.a s e
   ·subst e
    unfold zfp
    simp only[List.length_append,List.length_cons,List.length_nil]
    by_cases hi:c.o.by_.toNat<h.seats.length
    ·have:=h50 _ (za1 h.seats c.o.by_.toNat hi)
     omega
    ·have:(h.seats.getD c.o.by_.toNat default)=default:=by rw[List.getD_eq_getElem?_getD,List.getElem?_eq_none (by omega)];rfl
     rw[this];decide
  ·exact hl.s'
 split
 ·split
  ·unfold zi9
   split
   ·exact hl.s'
   ·have hcl:=zoe h.most h.seats
    have hml:=z88 h.sty (zbr h) WR hl.s (by have:=zo8 h hm.2;omega)
    generalize zcg h.most h.seats=V at *
    generalize zge WR h.sty (zbr h)=M at *
    exact⟨hml,by rw[hcl.1];omega,hcl.2 hl.a,hl.g⟩
  ·exact hl.s'
 split
 ·split
  ·unfold zs1
   split
   ·exact hl.s'
   ·refine⟨hl.s,by show (zb4 _ _ _ _).length≤_;rw[zc3];omega,yb4 (zd8 h0 _ (Nat.le_refl _)),?_⟩
    exact Nat.le_trans (z5p _ _ _ _) hl.g
  ·exact hl.s'
 ·exact hl.s'
theorem z9y (h:Hst) (c:Clq) (WR:Cel→List Int) (hWR:∀a,zap h.sty.start.f [a] (WR a)) (hl:HstL h) (hb:HstB h) (hE:zrb WR h=0):Spec Tryz.prog 9 [zw7 h,yd1 c] [] (doA (doV WR h c)) []:=by
 obtain⟨h0,hm,hg⟩:=zsh hE
 have hlen:(zbr h).length≤9223372036854775807:=by have:=zo8 h hm.2;omega
 by_cases k1:c.kind=1
 ·exact yg9 h c WR hWR hl hb hE k1
 by_cases k2:c.kind=2
 ·exact yg8 h c WR hWR hl hb hE h0 hm hlen k2
 by_cases k3:c.kind=3
 ·exact yg7 h c WR hWR hl hb hE h0 hg k3
 ·exact yg6 h c WR hWR hl hb hE (by omega)
end Go.Proofs.YtmjbgbmegbkmhaaGreat
namespace Go.Proofs.YtmjbgbmegbkmhaaGreat
set_option linter.all false
open Go.RowKit
set_option maxRecDepth 100000
set_option maxHeartbeats 1000000
theorem zyr {s:Sea} {i:Int} (h1:0≤s.late∧s.late≤1000000) (h2:s.gone=true→s.late=0∧s.waits.length=0) (h3:∀o∈s.waits,o.by_=i∧zef o=0):zpb s i=true:=by
 unfold zpb zl5
 simp only[Bool.and_eq_true,Bool.not_eq_true',Bool.or_eq_false_iff,Bool.not_eq_false',within_iff,List.any_eq_false]
 refine⟨⟨h1,?_⟩,fun o ho => ?_⟩
 ·cases hg:s.gone with
  | false=>rfl
  | true =>
   obtain⟨a,b⟩:=h2 hg
   simp[a,b]
 ·obtain⟨a,b⟩:=h3 o ho
  unfold zi2
  simp[a,b]
def SubS (s t:Sea):Prop:=t.late=s.late∧t.gone=s.gone∧t.waits.length≤s.waits.length∧∀o∈t.waits,o∈s.waits
theorem SubS.refl (s:Sea):SubS s s:=⟨rfl,rfl,Nat.le_refl _,fun _ h=>h⟩
theorem SubS.trans {a b c:Sea} (h:SubS a b) (k:SubS b c):SubS a c:=⟨k.1.trans h.1,k.2.1.trans h.2.1,Nat.le_trans k.2.2.1 h.2.2.1,fun o ho=>h.2.2.2 o (k.2.2.2 o ho)⟩
theorem zm3 (most:Int):∀(l:List Sea) (out:List Ord) (k:Nat),SubS (l.getD k default) ((tkS most out l).2.getD k default)
 | [],_,_=>SubS.refl _
 | s::r,out,k=>by
  unfold tkS
  split
  ·cases k with
   | zero=>exact⟨rfl,rfl,by simp,fun o ho=>List.mem_of_mem_drop ho⟩
   | succ k=>exact zm3 most r _ k
  ·cases k with
   | zero=>exact SubS.refl _
   | succ k=>exact zm3 most r _ k
theorem zrp (most:Int):∀(l:List Sea) (out:List Ord),∀o∈(tkS most out l).1,o∈out∨∃k,k<l.length∧o∈(l.getD k default).waits
 | [],out,o,h => .inl h
 | s::r,out,o,h=>by
  unfold tkS at h
  split at h
  ·rename_i hc
   rcases zrp most r _ o h with h|⟨k,hk,h⟩
   ·rcases List.mem_append.1 h with h|h
    ·exact .inl h
    ·refine .inr ⟨0,by simp,?_⟩
     rw[List.mem_singleton.1 h]
     exact za1 _ _ hc.1
   ·exact .inr ⟨k+1,by simp;omega,h⟩
  ·rcases zrp most r _ o h with h|⟨k,hk,h⟩
   ·exact .inl h
   ·exact .inr ⟨k+1,by simp;omega,h⟩
theorem z0f (most:Int):∀(n:Nat) (x:List Ord × List Sea) (k:Nat),SubS (x.2.getD k default) ((itS most n x).2.getD k default)
 | 0,_,_=>SubS.refl _
 | n+1,x,k=>by rw[itS];exact(zm3 most x.2 x.1 k).trans (z0f most n _ k)
theorem z0g (most:Int):∀(n:Nat) (x:List Ord × List Sea),∀o∈(itS most n x).1,o∈x.1∨∃k,k<x.2.length∧o∈(x.2.getD k default).waits
 | 0,x,o,h => .inl h
 | n+1,x,o,h=>by
  rw[itS]at h
  rcases z0g most n _ o h with h|⟨k,hk,h⟩
  ·exact zrp most x.2 x.1 o h
  ·have hl:=zrq most x.2 x.1
   exact .inr ⟨k,by rw[←hl];exact hk,(zm3 most x.2 x.1 k).2.2.2 o h⟩
theorem z0d (l:List Sea) (k:Nat) (hk:k<l.length):(l.map zbj).getD k default=zbj (l.getD k default):=by
 simp[hk]
theorem zqz (most:Int) (l:List Sea) (k:Nat) (hk:k<l.length):SubS (zbj (l.getD k default)) ((zcg most l).2.getD k default):=by
 have:=z0f most 50 ([],l.map zbj) k
 rw[show (([],l.map zbj):List Ord × List Sea).2=l.map zbj from rfl,z0d l k hk]at this
 exact this
theorem z1n (most:Int) (l:List Sea):∀o∈(zcg most l).1,∃k,k<l.length∧o∈(l.getD k default).waits:=fun o h=>by
 unfold zcg at h
 rcases z0g most 50 _ o h with h|⟨k,hk,h⟩
 ·exact absurd h List.not_mem_nil
 ·have hk:k<l.length:=by simpa using hk
  refine⟨k,hk,?_⟩
  rw[show (([],l.map zbj):List Ord × List Sea).2=l.map zbj from rfl,z0d l k hk]at h
  exact h
theorem zsy {most:Int} {l:List Sea} (h:za0 l=0):za0 (zcg most l).2=0:=by
 obtain⟨h1,h2,h3,h4⟩:=zb1 h
 have hl:=(zoe most l).1
 have CS:=zqz most l
 generalize zcg most l=V at *
 unfold za0
 rw[if_neg (by omega),if_neg,if_pos]
 ·rw[List.all_eq_true]
  intro i hi
  have hi:=List.mem_range.1 hi
  have hi':i<l.length:=by omega
  obtain⟨a,b,c,d⟩:=CS i hi'
  obtain⟨r1,r2,r3⟩:=znb (h4 i hi')
  refine zyr ?_ ?_ ?_
  ·rw[a];unfold zbj;simp only
   split
   ·decide
   ·split
    ·exact r1
    ·omega
  ·intro hg
   rw[b]at hg
   obtain⟨q1,q2⟩:=r2 hg
   have hg':(l.getD i default).gone=true:=hg
   have hw:(zbj (l.getD i default)).waits.length=0:=q2
   refine⟨?_,by omega⟩
   rw[a];unfold zbj;simp only
   rw[if_neg (by omega),if_pos hg'];exact q1
  ·intro o ho
   exact r3 o (d o ho)
 ·rw[List.any_eq_true]
  rintro⟨s,hs,hx⟩
  rw[decide_eq_true_iff]at hx
  obtain⟨i,hi,rfl⟩:=List.getElem_of_mem hs
  have hi':i<l.length:=by omega
  obtain⟨a,b,c,d⟩:=CS i hi'
  have hc:V.2.getD i default=V.2[i]:=zad _ _ hi
  rw[hc]at c
  have h5:(zbj (l.getD i default)).waits.length≤50:=h3 (l.getD i default) (za1 l i hi')
  omega
theorem zxj (most:Int) (l:List Sea) (k:Nat) (hk:k<l.length):((zcg most l).2.getD k default).gone=(l.getD k default).gone:=(zqz most l k hk).2.1
theorem z5m {h:Hst} (h0:za0 h.seats=0) (hg:∀i,i<h.seats.length→zfe h i=true):∀o∈zbr h,∃k:Nat,k<8∧o.by_=(k:Int)∧zci h.m k=true:=fun o ho=>by
 obtain⟨h1,h2,h3,h4⟩:=zb1 h0
 obtain⟨k,hk,hw⟩:=z1n h.most h.seats o ho
 obtain⟨r1,r2,r3⟩:=znb (h4 k hk)
 refine⟨k,by omega,(r3 o hw).1,?_⟩
 have hx:=hg k hk
 unfold zfe at hx
 have hx:=of_decide_eq_true hx
 cases hb:zci h.m k with
 | true=>rfl
 | false =>
  rw[hb]at hx
  have:=(r2 hx).2
  have hp:=List.length_pos_of_mem hw
  omega
theorem zlf (n k j:Nat) (hn:n<4294967296) (hk:k<32) (hj:j<32):zci (clr n k) j=(zci n j && !decide (j=k)):=by
 rw[←z18 n k hn hk,zf9,zf9,Nat.testBit_and,show 4294967295-2 ^ k=2 ^ 32-(2 ^ k+1)from by omega,Nat.testBit_two_pow_sub_succ (by have:=(zwr k hk).2;omega),Nat.testBit_two_pow,decide_eq_true hj,Bool.true_and]
 congr 2
 rw[decide_eq_decide];omega
structure VInv (m : Nat) (g : List Nat) : Prop where
 p:0<m
 l:m≤65535
 n:g.length=16
 e:∀s∈g,s<4294967296
 b:∀k j,k<16→j<32→zci (g.getD k 0) j=true→zci m k=true∧zci m j=true∧j≠k
theorem zml {g:List Nat} (h:∀s∈g,s<4294967296) (k:Nat):g.getD k 0<4294967296:=by
 rcases Nat.lt_or_ge k g.length with hk|hk
 ·rw[List.getD_eq_getElem?_getD,List.getElem?_eq_getElem hk];exact h _ (List.getElem_mem _)
 ·rw[List.getD_eq_getElem?_getD,List.getElem?_eq_none hk];decide
theorem z7h {m:Nat} {g:List Nat} (h:za2 m g=0) (hg:∀s∈g,s<4294967296):VInv m g:=by
 obtain⟨h1,h2,h3,h4⟩:=zf2 m g h
 refine⟨h1.1,h1.2,h2,hg,fun k j hk hj hb => ?_⟩
 have hs:=zml hg k
 have hn:=not_congr (z15 m k (g.getD k 0) (by omega) hs (by omega))
 rw[h3 k hk]at hn
 have hx:=hn.1 (by decide)
 have hr:ybe m k (g.getD k 0) j=false:=by
  rcases hq:ybe m k (g.getD k 0) j with _|_
  ·rfl
  ·exact absurd ⟨j,hj,hq⟩ hx
 unfold ybe at hr
 rw[hb]at hr
 simp only[Bool.true_and,Bool.or_eq_false_iff,Bool.not_eq_false',decide_eq_false_iff_not]at hr
 exact⟨hr.1.1,hr.1.2,hr.2⟩
theorem z83 {m:Nat} {g:List Nat} (h:VInv m g) (ht:zm1 m g=none):za2 m g=0:=by
 unfold za2
 rw[if_neg (by have:=h.p;have:=h.l;omega),if_neg (fun x=>x h.n),if_neg,if_neg]
 ·rw[ht];decide
 ·rw[List.any_eq_true]
  rintro⟨k,hk,hb⟩
  have hk:=List.mem_range.1 hk
  obtain⟨j,hj,hr⟩:=(z15 m k (g.getD k 0) (by have:=h.l;omega) (zml h.e k) (by omega)).1 hb
  unfold ybe at hr
  rw[Bool.and_eq_true]at hr
  obtain⟨a,b,c⟩:=h.b k j hk hj hr.1
  rw[a,b]at hr
  simp[c]at hr
theorem ycw {s:Nat} (h:s≠0) (hs:s<4294967296):∃j,j<32∧zci s j=true:=by
 obtain⟨j,hj⟩:=Nat.exists_testBit_of_ne_zero h
 refine⟨j,?_,by rw[zf9];exact hj⟩
 rcases Nat.lt_or_ge j 32 with h|h
 ·exact h
 ·rw[Nat.testBit_lt_two_pow (Nat.lt_of_lt_of_le hs (show 2 ^ 32≤2 ^ j from Nat.pow_le_pow_right (by decide) h))]at hj
  exact absurd hj (by decide)
theorem yat {s j:Nat} (h:zci s j=true):0<s:=by
 rcases Nat.eq_zero_or_pos s with rfl|h1
 ·unfold zci at h;simp at h
 ·exact h1
theorem ygy (g:List Nat) (k i:Nat):(lv g k).getD i 0=if i=k then 0 else clr (g.getD i 0) k:=by
 unfold lv
 rw[List.getD_eq_getElem?_getD,List.getElem?_map,List.getElem?_set]
 by_cases h:k=i
 ·rw[if_pos h,if_pos h.symm]
  split<;>simp[zod]
 ·rw[if_neg h,if_neg (fun x=>h x.symm),List.getD_eq_getElem?_getD]
  cases g[i]? <;> simp[zod]
theorem z7i {m:Nat} {g:List Nat} {k:Nat} (h:VInv m g) (ht:zm1 m g=some k):VInv (clr m k) (lv g k):=by
 obtain⟨hk,_,h0⟩:=zhd m g k ht
 have hk16:k<16:=by have:=h.n;omega
 have hm:m<4294967296:=by have:=h.l;omega
 have hgk:g.getD k 0=g[k]:=by rw[List.getD_eq_getElem?_getD,List.getElem?_eq_getElem hk];rfl
 obtain⟨j,hj,hb⟩:=ycw (s:=g.getD k 0) (by rw[hgk];exact h0) (zml h.e k)
 obtain⟨b1,b2,b3⟩:=h.b k j hk16 hj hb
 refine⟨?_,Nat.le_trans (zmr _ _) h.l,by rw[zup];exact h.n,fun s hs => ?_,fun i q hi hq hb => ?_⟩
 ·refine yat (j:=j) ?_
  rw[zlf m k j hm (by omega) hj,b2,decide_eq_false b3];rfl
 ·unfold lv at hs
  obtain⟨t,ht,rfl⟩:=List.mem_map.1 hs
  refine Nat.lt_of_le_of_lt (zmr _ _) ?_
  rcases List.mem_or_eq_of_mem_set ht with e|e
  ·exact h.e t e
  ·rw[e];decide
 ·rw[ygy]at hb
  split at hb
  ·unfold zci at hb;simp at hb
  ·rename_i hik
   rw[zlf _ k q (zml h.e i) (by omega) hq,Bool.and_eq_true]at hb
   obtain⟨c1,c2⟩:=hb
   have c2:¬q=k:=by simpa using c2
   obtain⟨d1,d2,d3⟩:=h.b i q hi hq c1
   rw[zlf m k i hm (by omega) (by omega),zlf m k q hm (by omega) hq,d1,d2,decide_eq_false hik,decide_eq_false c2]
   exact⟨rfl,rfl,d3⟩
theorem zs9:∀(n m:Nat) (g:List Nat),VInv m g→nz g≤n→VInv (zll n m g).1 (zll n m g).2∧zm1 (zll n m g).1 (zll n m g).2=none∧∀j,j<32→zci (zll n m g).1 j=true→zci m j=true
 | 0,m,g,h,hn=>by
  refine⟨h,?_,fun j _ hj=>hj⟩
  show zm1 m g=none
  cases ht:zm1 m g with
  | none=>rfl
  | some k =>
   obtain⟨hk,_,h0⟩:=zhd m g k ht
   have:=z31 g k hk h0
   omega
 | n+1,m,g,h,hn=>by
  rw[zll]
  cases ht:zm1 m g with
  | none=>exact⟨h,ht,fun j _ hj=>hj⟩
  | some k =>
   obtain⟨hk,_,h0⟩:=zhd m g k ht
   have hz:=z31 g k hk h0
   have hk16:k<16:=by have:=h.n;omega
   obtain⟨a,b,c⟩:=zs9 n (clr m k) (lv g k) (z7i h ht) (by omega)
   refine⟨a,b,fun j hj hb => ?_⟩
   have:=c j hj hb
   rw[zlf m k j (by have:=h.l;omega) (by omega) hj,Bool.and_eq_true]at this
   exact this.1
theorem z8s {n k j:Nat} (hn:n<4294967296) (hk:k<32) (hb:zci n k=false) (h:zci (n+2 ^ k) j=true):zci n j=true∨j=k:=by
 rw[←(zzg n k hn hk hb).1,zf9,Nat.testBit_or,Nat.testBit_two_pow,Bool.or_eq_true,decide_eq_true_iff]at h
 rw[zf9]
 rcases h with h|h
 ·exact .inl h
 ·exact .inr h.symm
theorem z2m {m:Nat} {g:List Nat} {a b:Nat} (h:VInv m g) (ha:a<16) (hb:b<32) (hma:zci m a=true) (hmb:zci m b=true) (hne:b≠a) (h0:zci (g.getD a 0) b=false):VInv m (g.set a (g.getD a 0+2 ^ b)):=by
 refine⟨h.p,h.l,by rw[List.length_set];exact h.n,fun s hs => ?_,fun k j hk hj hb' => ?_⟩
 ·rcases List.mem_or_eq_of_mem_set hs with e|e
  ·exact h.e s e
  ·rw[e];exact(zzg _ b (zml h.e a) hb h0).2
 ·rw[List.getD_eq_getElem?_getD,List.getElem?_set]at hb'
  by_cases hka:a=k
  ·rw[if_pos hka,if_pos (by rw[h.n];exact ha)]at hb'
   subst hka
   rcases z8s (zml h.e a) hb h0 hb' with x|x
   ·exact h.b a j hk hj x
   ·subst x;exact⟨hma,hmb,hne⟩
  ·rw[if_neg hka,←List.getD_eq_getElem?_getD]at hb'
   exact h.b k j hk hj hb'
theorem z0r {m:Nat} {a:Int} (hm:m≤65535) (h:zg9 m a=true):∃k:Nat,k<16∧a=(k:Int)∧zci m k=true:=by
 by_cases h1:0≤a∧a<16
 ·refine⟨a.toNat,by omega,by omega,?_⟩
  rw[←zsk m a.toNat (by omega),show ((a.toNat:Nat):Int)=a by omega];exact h
 ·rw[zsj m a (by omega) h1]at h
  exact absurd h (by decide)
theorem zxl {m:Nat} {g:List Nat} {b a:Int} (hg:∀s∈g,s<4294967296) (h:(zcc m g b a).2.2=0):za2 (zcc m g b a).1.1 (zcc m g b a).1.2=0∧(zcc m g b a).1.1<4294967296∧(∀s∈(zcc m g b a).1.2,s<4294967296)∧(zcc m g b a).1.2.length=16∧∀j,j<32→zci (zcc m g b a).1.1 j=true→zci m j=true:=by
 unfold zcc at h ⊢
 split at h
 ·rename_i x;exact absurd h x
 rename_i h1
 have h1:za2 m g=0:=by simpa using h1
 rw[if_neg (fun x=>x h1)]
 have I:=z7h h1 hg
 split at h
 ·exact absurd h (by decide)
 rename_i h2
 rw[if_neg h2]
 have h2:(zg9 m b&&zg9 m a)=true:=by simpa using h2
 rw[Bool.and_eq_true]at h2
 obtain⟨kb,hkb,rfl,hb⟩:=z0r I.l h2.1
 obtain⟨ka,hka,rfl,ha⟩:=z0r I.l h2.2
 split at h
 ·exact absurd h (by decide)
 rename_i h3
 rw[if_neg h3]
 split at h
 ·exact absurd h (by decide)
 rename_i h4
 rw[if_neg h4]
 rw[Int.toNat_natCast,Int.toNat_natCast]at *
 have J:=z2m (a:=ka) (b:=kb) I hka (by omega) ha hb (by omega) (by simpa using h4)
 have hz:=ycr (g.set ka (g.getD ka 0+2 ^ kb))
 rw[J.n]at hz
 obtain⟨a1,a2,a3⟩:=zs9 16 m _ J hz
 exact⟨z83 a1 a2,Nat.lt_of_le_of_lt a1.l (by decide),a1.e,a1.n,a3⟩
theorem zjr {WR:Cel→List Int} {h:Hst} (hE:zrb WR h=0):zrr WR h.sty=0∧za0 h.seats=0∧za2 h.m h.ag=0∧(1≤h.most∧h.most≤100)∧h.seats.length=h.sty.start.bases.length∧h.m/2 ^ h.seats.length=0∧∀i,i<h.seats.length→zfe h i=true:=by
 have hE0:=hE
 unfold zrb at hE
 split at hE
 ·rename_i x;exact absurd hE x
 rename_i h1
 split at hE
 ·rename_i x;exact absurd hE x
 split at hE
 ·rename_i x;exact absurd hE x
 rename_i h3
 split at hE
 ·omega
 split at hE
 ·omega
 rename_i h5
 have hx:h.seats.length=h.sty.start.bases.length∧h.m/2 ^ h.seats.length=0:=by
  rw[not_or,Decidable.not_not,Decidable.not_not]at h5;exact h5
 obtain⟨a,b,c⟩:=zsh hE0
 exact⟨by simpa using h1,a,by simpa using h3,b,hx.1,hx.2,c⟩
theorem znz {WR:Cel→List Int} {h:Hst} (a:zrr WR h.sty=0) (b:za0 h.seats=0) (c:za2 h.m h.ag=0) (d:1≤h.most∧h.most≤100) (e:h.seats.length=h.sty.start.bases.length) (f:h.m/2 ^ h.seats.length=0) (g:∀i,i<h.seats.length→zfe h i=true):zrb WR h=0:=by
 unfold zrb
 rw[if_neg (fun x=>x a),if_neg (fun x=>x b),if_neg (fun x=>x c),if_neg (fun x=>x d),if_neg (by rw[not_or,Decidable.not_not,Decidable.not_not];exact⟨e,f⟩),if_pos]
 rw[List.all_eq_true]
 exact fun i hi=>g i (List.mem_range.1 hi)
theorem zme {WR:Cel→List Int} {s:Sty} {l:List Ord} (h:zff WR s l=0):zrr WR s=0∧s.turns.length≤199∧zbq l (zgb WR s.turns s.start)=0∧zge WR s l=⟨s.start,s.turns ++ [l]⟩∧zrr WR (zge WR s l)=0:=by
 have hs:zge WR s l=⟨s.start,s.turns ++ [l]⟩:=if_pos h
 unfold zff at h
 split at h
 ·rename_i x;exact absurd h x
 rename_i h1
 have h1:zrr WR s=0:=by simpa using h1
 split at h
 ·omega
 rename_i h2
 rw[show zgt WR s.turns s.start=zgb WR s.turns s.start from if_pos h1]at h
 refine⟨h1,by omega,h,hs,?_⟩
 rw[hs]
 obtain⟨k1,k2,k3⟩:=zhj h1
 show zdx WR (s.turns ++ [l]) s.start=0
 unfold zdx
 rw[if_neg (by rw[List.length_append];simp;omega),if_neg (fun hn=>hn k2.e),zjk,if_neg (fun x=>x k3),zg8,if_neg (fun x=>x h)]
 rfl
structure HOk (WR : Cel → List Int) (h : Hst) : Prop where
 e:zrb WR h=0
 l:HstL h
theorem yaf {a b k:Nat} (h:a≤b) (hb:b/2 ^ k=0):a/2 ^ k=0:=by
 have:=Nat.div_le_div_right (c:=2 ^ k) h
 exact Nat.le_zero.1 (Nat.le_trans this (Nat.le_of_eq hb))
theorem zk2 (m m':Nat) (l:List Sea) (j:Nat) (hj:j<l.length):∀k,k≤l.length→((zb4 m m' l k).getD j default).gone=if j<k∧zqm m m' j=true then true else (l.getD j default).gone
 | 0,_=>by rw[if_neg (by omega)];rfl
 | k+1,hk=>by
  have ih:=zk2 m m' l j hj k (by omega)
  have hlen:=zc3 m m' l k
  unfold zb4
  split
  ·rename_i hg
   unfold zgj
   rw[List.getD_eq_getElem?_getD,List.getElem?_set,Int.toNat_natCast]
   by_cases h:k=j
   ·rw[if_pos h,if_pos (by omega),if_pos ⟨by omega,h▸hg⟩];rfl
   ·rw[if_neg h,←List.getD_eq_getElem?_getD,ih]
    by_cases h2:zqm m m' j=true
    ·by_cases h3:j<k
     ·rw[if_pos ⟨h3,h2⟩,if_pos ⟨by omega,h2⟩]
     ·rw[if_neg (fun x=>h3 x.1),if_neg (fun x=>h3 (by omega))]
    ·rw[if_neg (fun x=>h2 x.2),if_neg (fun x=>h2 x.2)]
  ·rename_i hg
   rw[ih]
   by_cases h2:zqm m m' j=true
   ·by_cases h3:j<k
    ·rw[if_pos ⟨h3,h2⟩,if_pos ⟨by omega,h2⟩]
    ·have:j≠k:=fun x=>hg (x▸h2)
     rw[if_neg (fun x=>h3 x.1),if_neg (fun x=>h3 (by omega))]
   ·rw[if_neg (fun x=>h2 x.2),if_neg (fun x=>h2 x.2)]
theorem z26 {l:List Sea} {o:Ord} (h:zpd l o=0):za0 (ztr l o)=0∧(ztr l o).length=l.length∧∀j,((ztr l o).getD j default).gone=(l.getD j default).gone:=by
 have hl:(ztr l o).length=l.length:=by unfold ztr;rw[List.length_set]
 have hg:∀j,((ztr l o).getD j default).gone=(l.getD j default).gone:=fun j=>by
  unfold ztr
  rw[List.getD_eq_getElem?_getD,List.getElem?_set]
  by_cases hj:o.by_.toNat=j
  ·rw[if_pos hj]
   split
   ·subst hj;rfl
   ·rename_i hn;rw[List.getD_eq_getElem?_getD,List.getElem?_eq_none (by omega)]
  ·rw[if_neg hj,←List.getD_eq_getElem?_getD]
 refine⟨?_,hl,hg⟩
 unfold zpd at h
 split at h
 ·rename_i x;exact absurd h x
 rename_i h1
 have h1:za0 l=0:=by simpa using h1
 split at h
 ·rename_i x;exact absurd h x
 rename_i h2
 have h2:zef o=0:=by simpa using h2
 split at h
 ·omega
 rename_i h3
 split at h
 ·omega
 rename_i h4
 split at h
 ·omega
 rename_i h5
 obtain⟨s1,s2,s3,s4⟩:=zb1 h1
 have hb:=(zey h2).1
 have hi:o.by_.toNat<l.length:=by omega
 have hw:(l.getD o.by_.toNat default).waits.length≤50:=s3 _ (za1 l _ hi)
 unfold za0
 rw[hl,if_neg (by omega),if_neg,if_pos]
 ·rw[List.all_eq_true]
  intro i hi2
  have hi2:=List.mem_range.1 hi2
  unfold ztr
  rw[List.getD_eq_getElem?_getD,List.getElem?_set]
  by_cases hj:o.by_.toNat=i
  ·rw[if_pos hj,if_pos (by omega)]
   obtain⟨r1,r2,r3⟩:=znb (s4 _ hi)
   refine zyr r1 (fun hg => ?_) (fun x hx => ?_)
   ·exact absurd hg h4
   ·rcases List.mem_append.1 hx with hx|hx
    ·have:=r3 x hx;rw[hj]at this;exact this
    ·rw[List.mem_singleton.1 hx];exact⟨by omega,h2⟩
  ·rw[if_neg hj,←List.getD_eq_getElem?_getD];exact s4 i hi2
 ·rw[List.any_eq_true]
  rintro⟨s,hs,hx⟩
  rw[decide_eq_true_iff]at hx
  unfold ztr at hs
  rcases List.mem_or_eq_of_mem_set hs with e|e
  ·have:=s3 s e;omega
  ·subst e
   simp only[List.length_append,List.length_cons,List.length_nil]at hx
   omega
theorem HOk.step {WR:Cel→List Int} {h:Hst} (c:Clq) (H:HOk WR h):HOk WR (doV WR h c).1∧(doV WR h c).1.sty.start=h.sty.start:=by
 obtain⟨hE,hl⟩:=H
 obtain⟨e1,e2,e3,e4,e5,e6,e7⟩:=zjr hE
 have L:=yhg (WR:=WR) c hl hE
 unfold doV at L ⊢
 split
 ·rename_i hk
  rw[if_pos hk]at L
  split
  ·rename_i h1
   rw[if_pos h1]at L
   obtain⟨s1,s2,s3⟩:=z26 h1
   refine⟨⟨znz e1 s1 e3 e4 (by rw[s2];exact e5) (by rw[s2];exact e6) (fun i hi => ?_),L.s,L.l,L.a,hl.m,L.g,hl.e⟩,rfl⟩
   have:=e7 i (by rw[←s2];exact hi)
   unfold zfe at this ⊢
   simp only
   rw[s3];exact this
  ·exact⟨⟨hE,hl⟩,rfl⟩
 rename_i hk1
 rw[if_neg hk1]at L
 split
 ·rename_i hk
  rw[if_pos hk]at L
  split
  ·rename_i h1
   rw[if_pos h1]at L
   have hm:zff WR h.sty (zbr h)=0:=by
    unfold zgr at h1
    split at h1
    ·exact h1
    ·rename_i x;simpa using x
   have eH:zi9 WR h = { h with seats:=(zcg h.most h.seats).2,sty:=zge WR h.sty (zbr h) }:=by unfold zi9;rw[if_neg (fun x=>x hm)]
   obtain⟨m1,m2,m3,m4,m5⟩:=zme hm
   have hcl:=(zoe h.most h.seats).1
   rw[eH]at L ⊢
   have hcr:=zsy (most:=h.most) e2
   have hcg:=zxj h.most h.seats
   generalize zcg h.most h.seats=V at *
   refine⟨⟨znz m5 hcr e3 e4 ?_ ?_ (fun i hi => ?_),L.s,L.l,L.a,hl.m,L.g,hl.e⟩,?_⟩
   ·show V.2.length=(zge WR h.sty (zbr h)).start.bases.length
    rw[m4,hcl];exact e5
   ·show h.m/2 ^ V.2.length=0
    rw[hcl];exact e6
   ·have hi:i<h.seats.length:=by rw[←hcl];exact hi
    have:=e7 i hi
    unfold zfe at this ⊢
    simp only
    rw[hcg i hi];exact this
   ·show (zge WR h.sty (zbr h)).start=_
    rw[m4]
  ·exact⟨⟨hE,hl⟩,rfl⟩
 rename_i hk2
 rw[if_neg hk2]at L
 split
 ·rename_i hk
  rw[if_pos hk]at L
  split
  ·rename_i h1
   rw[if_pos h1]at L
   have h1':(zcc h.m h.ag c.by_ c.at_).2.2=0:=h1
   obtain⟨v1,v2,v3,v4,v5⟩:=zxl hl.e h1'
   have hle:=zvr h.m h.ag c.by_ c.at_
   unfold zs1 at L ⊢
   rw[if_neg (fun x=>x h1)]at L ⊢
   generalize zcc h.m h.ag c.by_ c.at_=V at *
   have hln:=zc3 h.m V.1.1 h.seats h.seats.length
   refine⟨⟨znz e1 (zd8 e2 _ (Nat.le_refl _)) v1 e4 ?_ ?_ (fun i hi => ?_),L.s,L.l,L.a,v2,L.g,v3⟩,rfl⟩
   ·show (zb4 h.m V.1.1 h.seats h.seats.length).length=_
    rw[hln];exact e5
   ·show V.1.1/2 ^ (zb4 h.m V.1.1 h.seats h.seats.length).length=0
    rw[hln];exact yaf hle e6
   ·have hi:i<h.seats.length:=by rw[←hln];exact hi
    have h8:=(zb1 e2).2.1
    have hx:=e7 i hi
    unfold zfe at hx ⊢
    have hx:=of_decide_eq_true hx
    rw[decide_eq_true_iff]
    show ((zb4 h.m V.1.1 h.seats h.seats.length).getD i default).gone = !zci V.1.1 i
    rw[zk2 h.m V.1.1 h.seats i hi _ (Nat.le_refl _)]
    have v5:=v5 i (by omega)
    unfold zqm
    rw[hx]
    cases hb:zci h.m i<;>cases hb':zci V.1.1 i
    ·simp
    ·rw[hb,hb']at v5;exact absurd (v5 rfl) (by decide)
    ·simp[hi]
    ·simp
  ·exact⟨⟨hE,hl⟩,rfl⟩
 ·exact⟨⟨hE,hl⟩,rfl⟩
theorem HOk.b {WR:Cel→List Int} {h:Hst} (H:HOk WR h):HstB h:=by
 obtain⟨e1,e2,e3,e4,e5,e6,e7⟩:=zjr H.e
 obtain⟨s1,s2,s3,s4⟩:=zb1 e2
 obtain⟨k1,k2,k3⟩:=zhj e1
 have kl:=zkf _ k3
 have hr:=k2
 obtain⟨v1,v2,-⟩:=zf2 _ _ e3
 obtain⟨l1,l2,l3,l4,l5⟩:=hr.l
 have hp:=hr.places
 have:=hr.ml
 have:=hr.sl
 have:=hr.nb
 have:=hr.nt
 exact⟨by omega,by omega,by omega,by omega,by omega,fun l hl=>by have:=kl l hl;omega,by omega,fun s hs=>by have:=s3 s hs;omega,by omega,by omega⟩
def zzf (c:List Int):Ord:=⟨c.getD 0 default,c.getD 1 default,c.getD 2 default,⟨c.getD 3 default,c.getD 4 default⟩,c.getD 5 default⟩
def zgh (ns:List Int) (k:Nat):List Ord:=(List.range k).map fun i=>zzf (zhn ns 6 i)
theorem zmc (ns:List Int) (k:Nat):(zgh ns k).length=k:=by simp[zgh]
def zd1 (s:ByteArray):List Ord × Int :=
 if (zcp s).2≠0 then ([],(zcp s).2)
 else if (gaR (zcp s).1).2≠0 then ([],(gaR (zcp s).1).2)
 else if (gaR (zcp s).1).1.length % 6≠0 then ([],4)
 else if zc0 (zgh (gaR (zcp s).1).1 ((gaR (zcp s).1).1.length/6))≠0 then ([],zc0 (zgh (gaR (zcp s).1).1 ((gaR (zcp s).1).1.length/6)))
 else (zgh (gaR (zcp s).1).1 ((gaR (zcp s).1).1.length/6),0)
theorem yal (xs:List Int) (m:Nat) (hm:1≤m):Spec Tryz.prog 37 [.c (.sl 1 (xs.map zac)),I .i64 m] [] (.clo (.func 83) [] [.fel 1 [[.sl 1 (xs.map zac)]] 0 0,.fel 1 [[.v (.int .i64 m)]] 0 0]) []:=by
 refine spB Tryz.func37 9 [.tmp 4] Tryz.results37 ?_
 try refine xst ?_
 refine cI (fun h1 => ?_) fun h1 => ?_
 ·omega
 ·try refine xst ?_
  exact xrz rfl
theorem six {c:List Int} (h:c.length=6):∃a0 a1 a2 a3 a4 a5,c = [a0,a1,a2,a3,a4,a5]:=by
 match c,h with
 | [a0,a1,a2,a3,a4,a5],_=>exact⟨a0,a1,a2,a3,a4,a5,rfl⟩
theorem z6p (s:ByteArray) (hs:s.size≤140737488351232):Spec Tryz.prog 10 [S s] [] (.tup [.c (.sl 6 ((zd1 s).1.map zdg)),I .i64 (zd1 s).2]) []:=by
 obtain⟨r,hr⟩:∃r,r=zd1 s:=⟨_,rfl⟩
 rw[←hr]
 have hsz:=zww s
 have hO:=yai s hs
 unfold zd1 at hr
 generalize zcp s=o at *
 obtain⟨t,eo⟩:=o
 have hG:=z4y t (by simp at hsz;omega)
 have hgl:=z1a t
 simp only at hr hO
 generalize gaR t=g at *
 obtain⟨ns,eg⟩:=g
 simp only at hr hG hgl
 refine spB Tryz.func10 61 [.tmp 2,.tmp 3] Tryz.results10 ?_
 try refine xst ?_
 refine caP (hO) ?_
 try refine xst ?_
 refine cI (fun h1 => ?_) fun h1 => ?_
 ·rw[if_pos h1]at hr;subst hr
  try refine xst ?_
  exact xrz rfl
 ·rw[if_neg (fun hn=>hn h1)]at hr
  try refine xst ?_
  refine caP (hG) ?_
  try refine xst ?_
  refine cI (fun h2 => ?_) fun h2 => ?_
  ·rw[if_pos h2]at hr;subst hr
   try refine xst ?_
   exact xrz rfl
  ·rw[if_neg (fun hn=>hn h2)]at hr
   try refine xst ?_
   refine cI (fun h3 => ?_) fun h3 => ?_
   ·rw[if_pos (by omega)]at hr;subst hr
    try refine xst ?_
    exact xrz rfl
   ·rw[if_neg (by omega)]at hr
    have hq:ns.length=ns.length/6*6:=by omega
    try refine xst ?_
    refine caP (yal ns 6 (by decide)) ?_
    try refine xst ?_
    refine z8i (by kernel_rfl) rfl (zxk ns 6 (ns.length/6) (by decide) (by decide) hq (by omega)) [(6,.ptr 0 0 0)] 1 2 (fun pre => [(0,.blk 53 [.own 1]),(1,.row 48 6 ((pre.map zzf).map zdg))]) ((To.nilC 0 0 48 6 53 _ rfl rfl).trans (To.mk [0,1] rfl rfl (by decide) ?_ ?_)) (by decide) (by decide) (by decide) (fun pre=>by exact zzt rfl) (by kernel_rfl) (by decide) (by decide) (fun pre x hpl hpr hx => ?_) ?_
    ·simp(etaStruct := .none)only[push_cast,zab,seval,List.set_cons_zero,List.map_nil]
    ·simp(etaStruct := .none)only[push_cast,zab,seval]
    ·skip
     obtain⟨a0,a1,a2,a3,a4,a5,rfl⟩:=six hx
     simp only[List.length_map,List.length_range]at hpl
     iterate 2(try simp(etaStruct := .none)only[push_cast,zab,seval,z3j,zac,List.map_cons,List.map_nil];try refine xsu ?_)
     (try(refine⟨by kernel_rfl,?_⟩))
     iterate 2(try simp(etaStruct := .none)only[push_cast,zab,seval,z3j,zac,List.map_cons,List.map_nil];try refine xsu ?_)
     refine To.mk [0,90] rfl rfl (by decide) ?_ ?_
     ·(iterate 2((try simp(etaStruct := .none)only[push_cast,zab,seval,z3j,List.map_append,List.map_cons,List.map_nil,zdg,zzf,List.getD_cons_zero,List.getD_cons_succ]);(try(refine xsu ?_;try exact xtI))))
     ·(iterate 2((try simp(etaStruct := .none)only[push_cast,zab,seval,z3j,zac,List.map_cons,List.map_nil]);(try(refine xsu ?_;try exact xtI))))
    simp only[show ((List.range (ns.length/6)).map (zhn ns 6)).map zzf=zgh ns (ns.length/6)from by unfold zgh;rw[List.map_map];rfl]
    try refine xst ?_
    refine zcl (zue (zgh ns (ns.length/6)) (by rw[zmc];omega)) (WkL.refl _) rfl ?_
    try refine xst ?_
    refine cI (fun h4 => ?_) fun h4 => ?_
    ·rw[if_pos h4]at hr;subst hr;clear hq
     try refine xst ?_
     exact xrz rfl
    ·rw[if_neg (fun hn=>hn h4)]at hr;subst hr;clear hq
     try refine xst ?_
     exact xrz rfl
theorem zy6 (s:ByteArray):(zd1 s).1.length≤1000:=by
 unfold zd1
 have:=z1a (zcp s).1
 repeat' split
 all_goals simp[zmc]
 omega
abbrev bsL (l:List UInt8):ByteArray:=⟨l.toArray⟩
theorem zg7 (l:List UInt8) (a b:Nat):(bsL l).extract a b=bsL ((l.take b).drop a):=by
 apply ByteArray.ext
 rw[ByteArray.data_extract]
 show l.toArray.extract a b=((l.take b).drop a).toArray
 rw[List.extract_toArray,List.extract_eq_drop_take,List.drop_take]
theorem yao (l k:List UInt8):bsL l++bsL k=bsL (l++k):=by
 apply ByteArray.ext
 rw[ByteArray.data_append]
 show l.toArray++k.toArray=(l++k).toArray
 rw[List.append_toArray]
theorem z2q (n:Nat) (h:n<128):(UInt8.ofNat n).toNat=n:=za5 _ (by omega)
theorem zmb:∀(f n:Nat),n<128 ^ (f+1)→vals (zbz f n)=n
 | 0,n,h=>by
  have h:n<128:=by simpa using h
  simp only[zbz,vals,List.foldr_cons,List.foldr_nil,z2q n h];omega
 | f+1,n,h=>by
  rw[zbz]
  split
  ·rename_i hn
   simp only[vals,List.foldr_cons,List.foldr_nil,z2q n hn];omega
  ·have ih:=zmb f (n/128) (by rw[Nat.pow_succ]at h;omega)
   have e:(UInt8.ofNat (128+n % 128)).toNat=128+n % 128:=za5 _ (by omega)
   show (UInt8.ofNat (128+n % 128)).toNat % 128+128*vals (zbz f (n/128))=n
   rw[e,ih];omega
theorem zpu:∀(f n:Nat) (r:List UInt8),n<128 ^ (f+1)→(zbz f n++r).findIdx? (fun b=>b<128)=some ((zbz f n).length-1)
 | 0,n,r,h=>by
  have h:n<128:=by simpa using h
  have e:(decide (UInt8.ofNat n<128))=true:=by rw[decide_eq_true_iff,UInt8.lt_iff_toNat_lt,z2q n h];exact h
  simp[zbz,List.findIdx?_cons,e]
 | f+1,n,r,h=>by
  rw[zbz]
  split
  ·rename_i hn
   have e:(decide (UInt8.ofNat n<128))=true:=by rw[decide_eq_true_iff,UInt8.lt_iff_toNat_lt,z2q n hn];exact hn
   simp[List.findIdx?_cons,e]
  ·have ih:=zpu f (n/128) r (by rw[Nat.pow_succ]at h;omega)
   have e:(UInt8.ofNat (128+n % 128)).toNat=128+n % 128:=za5 _ (by omega)
   have e2:(decide (UInt8.ofNat (128+n % 128)<128))=false:=by
    rw[decide_eq_false_iff_not,UInt8.lt_iff_toNat_lt,e]
    show ¬128+n % 128<128
    omega
   have hl:=zho f (n/128)
   rw[List.cons_append,List.findIdx?_cons,e2,ih]
   simp only[Bool.false_eq_true,if_false,Option.map_some,List.length_cons]
   congr 1;omega
theorem zqn (n:Nat) (r:List UInt8) (h:n<18446744073709551616):zf6 (bsL (zgd n++r))=(n,bsL r,0):=by
 have hp:n<128 ^ (9+1):=Nat.lt_of_lt_of_le h (by decide)
 have hh:=zpu 9 n r hp
 have hv:=zmb 9 n hp
 have hl:=zho 9 n
 have ht:(zbz 9 n++r).take (zbz 9 n).length=zbz 9 n:=List.take_left
 have hd:(zbz 9 n++r).drop (zbz 9 n).length=r:=List.drop_left
 have e1:(zbz 9 n).length-1+1=(zbz 9 n).length:=by omega
 show zf6 (bsL (zbz 9 n++r))=_
 have hT:zlo (bsL (zbz 9 n++r)) (zbz 9 n).length=n:=by
  unfold zlo
  show vals ((zbz 9 n++r).take _) % _=n
  rw[ht,hv,Nat.mod_eq_of_lt h]
 rw[zu7 (i:=(zbz 9 n).length-1) hh,e1,hT,if_pos]
 ·congr 2
  rw[show (bsL (zbz 9 n++r)).size=(zbz 9 n++r).length from by show (zbz 9 n++r).toArray.size=_;simp,zg7,List.take_length,hd]
 ·refine⟨by omega,?_⟩
  rw[zg7,ht,List.drop_zero];rfl
theorem z2n (n:Int):z2o (zfv n)=n:=by
 unfold z2o zfv
 split<;>split<;>omega
theorem zva:∀(xs out:List Int),(∀x∈xs,I64 x)→gaF xs.length (bsL (xs.flatMap paN)) out=(out++xs,0)
 | [],out,_=>by
  rw[List.length_nil,gaF,show bsL (List.flatMap paN [])=⟨#[]⟩from rfl,if_pos rfl,List.append_nil]
 | x::xs,out,h=>by
  have g:=zqn (zfv x) (xs.flatMap paN) (zvc x (h x (by simp)))
  have ih:=zva xs (out ++ [x]) (fun y hy=>h y (by simp[hy]))
  rw[List.length_cons,gaF,List.flatMap_cons]
  show (if (zf6 (bsL (zgd (zfv x)++xs.flatMap paN))).2.2=0 then _ else _)=_
  rw[show paN x=zgd (zfv x)from rfl,g,if_pos rfl]
  simp only
  rw[z2n,ih,List.append_assoc,List.singleton_append]
theorem z40 (xs:List Int) (hl:xs.length≤1000) (h:∀x∈xs,I64 x):gaR (bsL (paK xs xs.length))=(xs,0):=by
 have g:=zqn xs.length ((xs.take xs.length).flatMap paN) (by omega)
 unfold gaR
 rw[show paK xs xs.length=zgd xs.length++(xs.take xs.length).flatMap paN from rfl,g,if_pos rfl]
 simp only
 rw[if_pos hl,List.take_length,zva xs [] h,List.nil_append]
theorem zzj (l:List UInt8):zcp (zgs (bsL l))=(bsL l,0):=by
 have hs:=zl4 (bsL l)
 have hx:(zgs (bsL l)).extract 0 ((zgs (bsL l)).size-4)=bsL l:=by
  rw[hs,Nat.add_sub_cancel]
  have e:zgs (bsL l)=bsL (l++zkc (z5g 0 l)):=yao _ _
  have e2:(bsL l).size=l.length:=by show l.toArray.size=_;simp
  rw[e,e2,zg7,List.take_left,List.drop_zero]
 unfold zcp
 rw[if_neg (by omega),hx,if_pos rfl]
theorem zr4 {l:List Ord} (i:Nat) (h:i<l.length):zzf (zhn (zcv l) 6 i)=l.getD i default:=by
 have hp:zhn (zcv l) 6 i=zwv (l.getD i default):=by
  apply List.ext_getElem?
  intro j
  have hlen:(zhn (zcv l) 6 i).length=6:=by
   have:=zeo l
   unfold zhn
   rw[List.length_take,List.length_drop];omega
  by_cases hj:j<6
  ·rw[←zub l i j h hj]
   unfold zhn
   rw[List.getElem?_take,if_pos hj,List.getElem?_drop]
   congr 1;omega
  ·rw[List.getElem?_eq_none (by omega),List.getElem?_eq_none (by simp[zwv];omega)]
 rw[hp];rfl
theorem zwo {α : Type} [Inhabited α] (l:List α):(List.range l.length).map (fun i=>l.getD i default)=l:=by
 apply List.ext_getElem
 ·simp
 ·intro i h1 h2
  simp at h1
  simp[h1]
theorem zpw (l:List Ord):zgh (zcv l) l.length=l:=by
 have h:zgh (zcv l) l.length=(List.range l.length).map (fun i=>l.getD i default) :=
  List.map_congr_left fun i hi=>zr4 i (List.mem_range.1 hi)
 rw[h,zwo]
theorem zl8 (l:List Ord) (h:zc0 l=0):zd1 (zcm l)=(l,0):=by
 obtain⟨h100,hok⟩:=zex h
 have hn:=zeo l
 have hg:=z40 (zcv l) (by omega) (zuc hok)
 rw[hn]at hg
 have ho:zcp (zcm l)=(bsL (paK (zcv l) (6*l.length)),0):=zzj _
 unfold zd1
 rw[ho]
 simp only
 rw[hg]
 simp only
 rw[hn,Nat.mul_mod_right,Nat.mul_div_cancel_left _ (by decide),zpw,h]
 rfl
def zft (WR:Cel→List Int):List ByteArray→Wld→Wld
 | [],w=>w
 | s::r,w=>if (zd1 s).2≠0∨zbq (zd1 s).1 w≠0 then w else zft WR r (zev WR w (zd1 s).1)
def zfu (WR:Cel→List Int):List ByteArray→Wld→Nat
 | [],_=>0
 | s::r,w=>if (zd1 s).2≠0∨zbq (zd1 s).1 w≠0 then 0 else zfu WR r (zev WR w (zd1 s).1)+1
theorem z5b (l:List ByteArray) (k:Nat) (h:k<l.length):l.drop k=l.getD k default::l.drop (k+1):=by
 rw[zad _ _ h];exact List.drop_eq_getElem_cons h
theorem z42 (w:Wld) (l:List ByteArray) (WR:Cel→List Int) (hWR:∀a,zap w.f [a] (WR a)) (hw:Right w) (hll:l.length≤200) (hs:∀s∈l,s.size≤140737488351232):Spec Tryz.prog 20 [zdf w,.c (.sl 1 (l.map ybx))] [] (.tup [zdf (zft WR l w),I .i64 (zfu WR l w),I .i64 0]) []:=by
 have V:=zj2 w [] WR hWR hw.l (fun _ h=>by simp at h)
 have v0:zdx WR [] w=0:=by unfold zdx;rw[if_neg (by simp),if_neg (fun hn=>hn hw.e)];rfl
 rw[v0,show zgt WR [] w=w from if_pos v0]at V
 refine spB Tryz.func20 61 [.cell 4 28,.tmp 5,.tmp 6] Tryz.results20 ?_
 try refine xst ?_
 refine cI (fun h1 => ?_) fun h1 => ?_
 ·omega
 ·try refine xst ?_
  refine zdz (V) (by exact⟨Wk.refl _,Wk.nil _,trivial⟩) ?_
  try refine xst ?_
  refine cI (fun h2 => ?_) fun h2 => ?_
  ·simp at h2
  ·try refine xst ?_
   refine zay (fun x:Nat × Wld=>⟨[(31,I .i64 x.1),(30,I .i64 l.length),(29,.c (.sl 1 (l.map ybx))),(4,.ptr 1 0 0),(2,.ptr 0 0 0),(1,.c (.sl 1 (l.map ybx)))],[(0,.blk 28 (zop x.2)),(1,.blk 28 ybj)],2⟩) (fun x:Nat × Wld=>x.1≤l.length∧Right x.2∧x.2.f=w.f∧zft WR l w=zft WR (l.drop x.1) x.2∧zfu WR l w=x.1+zfu WR (l.drop x.1) x.2) (fun x:Nat × Wld=>l.length-x.1) ((0,w)) (⟨Nat.zero_le _,hw,rfl,rfl,by simp⟩) (To.mk [0,1] rfl rfl (by decide) ?_ ?_) ?_
   ·simp(etaStruct := .none)only[push_cast,zab,seval]
   ·simp(etaStruct := .none)only[push_cast,zab,seval]
   rintro⟨k,y⟩ ⟨hk,hR,hf,hW,hK⟩
   simp only at hk hR hf hW hK
   try refine xst ?_
   refine cI (fun h3 => ?_) fun h3 => ?_
   ·have hlt:k<l.length:=by omega
    rw[z5b l k hlt]at hW hK
    have hsz:=hs (l.getD k default) (za1 _ _ hlt)
    generalize hsk:l.getD k default=s at *
    have RD:=z6p s hsz
    have hrl:=zy6 s
    have hWk:∀a,zap y.f [a] (WR a):=by intro a;rw[hf];exact hWR a
    have TT:=zrj y (zd1 s).1 WR hWk hR.l (by omega)
    rw[zft]at hW
    rw[zfu]at hK
    try refine xz3 (gd hlt) hsk zhg ?_
    refine caP (RD) ?_
    try refine xz3 (gd hlt) hsk zhg ?_
    refine cI (fun h4 => ?_) fun h4 => ?_
    ·rw[if_pos (.inl h4)]at hW hK
     rw[hW,hK]
     clear hW hK hf hWk
     try refine xz3 (gd hlt) hsk zhg ?_
     exact xrz rfl
    ·try refine xz3 (gd hlt) hsk zhg ?_
     refine caP (TT) ?_
     try refine xz3 (gd hlt) hsk zhg ?_
     refine cI (fun h5 => ?_) fun h5 => ?_
     ·rw[if_pos (.inr h5)]at hW hK
      rw[hW,hK]
      clear hW hK hf hWk
      try refine xz3 (gd hlt) hsk zhg ?_
      exact xrz rfl
     ·have e0:zbq (zd1 s).1 y=0:=by simpa using h5
      have hTW:zow WR y (zd1 s).1=zev WR y (zd1 s).1:=if_pos e0
      have hRT:=zia hR hWk (zd1 s).1 (zm0 e0).2
      rw[if_neg (fun hn=>hn.elim (fun hh=>hh h4) fun hh=>hh e0)]at hW hK
      try refine xz3 (gd hlt) hsk zhg ?_
      refine⟨(k+1,zow WR y (zd1 s).1),⟨by simp only;omega,by rw[hTW];exact hRT,by rw[hTW,zri];exact hf,by rw[hTW];exact hW,by rw[hTW,hK];simp only;omega⟩,by simp only;omega,To.mk [0,1] rfl rfl (by decide) ?_ ?_⟩
      ·(try(refine xz3 (gd hlt) hsk zhg ?_;try exact xtI))
      ·(try(refine xz3 (gd hlt) hsk zhg ?_;try exact xtI))
   ·obtain rfl:k=l.length:=by omega
    rw[List.drop_length]at hW hK
    rw[show zft WR l w=y from hW,show zfu WR l w=l.length from hK]
    clear hW hK hf
    try refine xst ?_
    exact xrz rfl
theorem zh7 {l:List Ord} {w:Wld} (h:zbq l w=0):zc0 l=0:=by
 unfold zbq at h
 split at h
 ·rename_i x;exact absurd h x
 ·rename_i x
  exact(zem (by simpa using x)).1
theorem zmm (WR:Cel→List Int):∀(ts:List (List Ord)) (w:Wld),zg8 WR ts w=0→zft WR (ts.map zcm) w=zgb WR ts w∧zfu WR (ts.map zcm) w=ts.length
 | [],_,_=>⟨rfl,rfl⟩
 | o::r,w,h=>by
  rw[zg8]at h
  split at h
  ·rename_i x;exact absurd h x
  ·rename_i x
   have h0:zbq o w=0:=Decidable.not_not.1 x
   obtain⟨a,b⟩:=zmm WR r _ h
   have hr:=zl8 o (zh7 h0)
   have hc:¬((zd1 (zcm o)).2≠0∨zbq (zd1 (zcm o)).1 w≠0):=by
    rw[hr];simp[h0]
   rw[List.map_cons,zft,zfu,if_neg hc,if_neg hc,hr]
   exact⟨a,by rw[show zev WR w (o,(0:Int)).1=zev WR w o from rfl,b,List.length_cons]⟩
structure Told (WR : Cel → List Int) (w : Wld) (s : Hst × List ByteArray) : Prop where
 o:HOk WR s.1
 w:s.1.sty.start=w
 t:s.2=s.1.sty.turns.map zcm
theorem zyq {WR:Cel→List Int} {h:Hst} (h0:zgr WR h=0):zff WR h.sty (zbr h)=0∧zc0 (zbr h)=0∧zm8 WR h=zcm (zbr h)∧(zi9 WR h).sty=⟨h.sty.start,h.sty.turns ++ [zbr h]⟩:=by
 have hm:zff WR h.sty (zbr h)=0:=by
  unfold zgr at h0
  split at h0
  ·exact h0
  ·rename_i x;simpa using x
 obtain⟨m1,m2,m3,m4,m5⟩:=zme hm
 have ho:=zh7 m3
 refine⟨hm,ho,?_,?_⟩
 ·unfold zm8
  rw[if_neg (fun x=>x hm)]
  unfold zha
  rw[if_neg (fun x=>x ho)]
 ·unfold zi9
  rw[if_neg (fun x=>x hm)]
  exact m4
theorem zob {WR:Cel→List Int} {h:Hst} {c:Clq} (h0:(doV WR h c).2.2=0):(c.kind=2∧zgr WR h=0∧(doV WR h c).2.1=zcm (zbr h)∧(doV WR h c).1.sty.turns=h.sty.turns ++ [zbr h])∨(c.kind≠2∧(doV WR h c).1.sty=h.sty):=by
 unfold doV at h0 ⊢
 split
 ·rename_i k
  rw[if_pos k]at h0
  refine .inr ⟨by omega,?_⟩
  split<;>rfl
 ·rename_i k1
  rw[if_neg k1]at h0
  split
  ·rename_i k
   rw[if_pos k]at h0
   by_cases hs:zgr WR h=0
   ·rw[if_pos hs]
    obtain⟨a,b,c,d⟩:=zyq hs
    exact .inl ⟨k,hs,c,by rw[d]⟩
   ·rw[if_neg hs]at h0;exact absurd h0 hs
  ·rename_i k2
   refine .inr ⟨k2,?_⟩
   split
   ·split
    ·unfold zs1;split<;>rfl
    ·rfl
   ·rfl
theorem Told.step {WR:Cel→List Int} {w:Wld} {s:Hst × List ByteArray} (T:Told WR w s) (c:Clq):Told WR w (if (doV WR s.1 c).2.2≠0 then s else ((doV WR s.1 c).1,if c.kind=2 then s.2 ++ [(doV WR s.1 c).2.1]else s.2)):=by
 split
 ·exact T
 ·rename_i x
  have h0:(doV WR s.1 c).2.2=0:=Decidable.not_not.1 x
  obtain⟨a,b⟩:=T.o.step c
  refine⟨a,b.trans T.w,?_⟩
  simp only
  rcases zob h0 with ⟨k,_,e1,e2⟩|⟨k,e⟩
  ·rw[if_pos k,e1,e2,List.map_append,T.t];rfl
  ·rw[if_neg k,e,T.t]
theorem yhd {b:Nat} {P:Nat→Prop} (hb:1≤b∧b≤8) (h:P 1∧P 2∧P 3∧P 4∧P 5∧P 6∧P 7∧P 8):P b:=by
 have h8:b=1∨b=2∨b=3∨b=4∨b=5∨b=6∨b=7∨b=8:=by omega
 obtain⟨p1,p2,p3,p4,p5,p6,p7,p8⟩:=h
 rcases h8 with rfl|rfl|rfl|rfl|rfl|rfl|rfl|rfl<;>assumption
theorem zzv {b:Nat} (hb:1≤b∧b≤8):za0 (List.replicate b ⟨[],0,false⟩)=0∧za2 (2 ^ b-1) (List.replicate 16 0)=0∧(2 ^ b-1)/2 ^ b=0∧2 ^ b-1<4294967296∧∀i,i<b→zci (2 ^ b-1) i=true:=by
 refine yhd (P:=fun b=>za0 (List.replicate b ⟨[],0,false⟩)=0∧za2 (2 ^ b-1) (List.replicate 16 0)=0∧(2 ^ b-1)/2 ^ b=0∧2 ^ b-1<4294967296∧∀i,i<b→zci (2 ^ b-1) i=true) hb ?_
 refine⟨?_,?_,?_,?_,?_,?_,?_,?_⟩<;>refine⟨by kernel_rfl,by kernel_rfl,by decide,by decide,by decide⟩
theorem zzw {w:Wld} {n:Int} {WR:Cel→List Int} (hE:zq8 w n=0):HOk WR (zq7 w n)∧(zq7 w n).sty=⟨w,[]⟩:=by
 have eH:zq7 w n=⟨⟨w,[]⟩,List.replicate w.bases.length ⟨[],0,false⟩,2 ^ w.bases.length-1,List.replicate 16 0,n⟩:=if_pos hE
 unfold zq8 at hE
 split at hE
 ·rename_i x;exact absurd hE x
 rename_i h1
 have hw:=zdm (Decidable.not_not.1 h1)
 split at hE
 ·omega
 rename_i h2
 have hn:=hw.nb
 have hb:1≤w.bases.length∧w.bases.length≤8:=by omega
 obtain⟨n1,n2,n3,n4,n5⟩:=zzv hb
 refine⟨⟨?_,?_⟩,by rw[eH]⟩
 ·rw[eH]
  refine znz ?_ n1 n2 (by simp only;omega) (by simp) (by rw[List.length_replicate];exact n3) ?_
  ·show zdx WR [] w=0
   unfold zdx;rw[if_neg (by simp),if_neg (fun hn=>hn hw.e)];rfl
  ·intro i hi
   have hi:i<w.bases.length:=by simpa using hi
   unfold zfe
   simp only
   rw[List.getD_eq_getElem?_getD,List.getElem?_replicate,if_pos hi,n5 i hi];rfl
 ·have S:=ycv w n hw.l (by omega)
  refine⟨S.s,S.l,S.a,?_,S.g,?_⟩
  ·rw[eH];exact n4
  ·rw[eH]
   intro s hs
   rw[(List.mem_replicate.1 hs).2];decide
end Go.Proofs.YtmjbgbmegbkmhaaGreat
namespace Go.Proofs.YtmjbgbmegbkmhaaGreat
set_option linter.all false
open Go.RowKit
set_option maxRecDepth 100000
set_option maxHeartbeats 2000000
def smallW:Wld:=⟨⟨3,1,[0,0,3]⟩,[⟨0,0⟩],[20],[0,0,9],[⟨1,0,1,⟨1,0⟩,10,0⟩],2,0⟩
theorem zyk:Spec Tryz.prog 29 [] [] (zdf smallW) []:=by
 refine spB Tryz.func29 11 [.cell 0 28] Tryz.results29 ?_
 try refine xst ?_
 exact xrz rfl
def zih:Ord:=⟨0,3,1,⟨2,0⟩,0⟩
def ygg:Clq:=⟨1,zih,0,0⟩
def z23:Clq:=⟨2,default,0,0⟩
def zto:Hst:=⟨⟨smallW,[]⟩,[⟨[],0,false⟩],1,List.replicate 16 0,5⟩
def zwe:Hst:=⟨⟨smallW,[]⟩,[⟨[zih],0,false⟩],1,List.replicate 16 0,5⟩
def toldW:Wld:=⟨⟨3,1,[0,0,3]⟩,[⟨0,0⟩],[20],[0,0,8],[⟨1,0,1,⟨1,0⟩,10,1⟩],2,1⟩
theorem ztn:zao smallW=0:=by kernel_rfl
theorem zo6:zq8 smallW 5=0:=by kernel_rfl
theorem zyl:zq7 smallW 5=zto:=by kernel_rfl
theorem yb9 (WR:Cel→List Int):doV WR zto ygg=(zwe,⟨#[]⟩,0):=by kernel_rfl
theorem yb8:zbr zwe = [zih]:=by kernel_rfl
theorem z6e (WR:Cel→List Int):zbq [zih] smallW=0:=by kernel_rfl
theorem ybu (WR:Cel→List Int):zev WR smallW [zih]=toldW:=by kernel_rfl
theorem z21:zfm smallW:=(zdm ztn).l
theorem zym (WR:Cel→List Int):HOk WR zto:=by
 have:=(zzw (WR:=WR) zo6).1
 rwa [zyl]at this
theorem zj3:toldW.troops.length=1:=rfl
theorem zj4:toldW.troops.map zat = [[pI 1,pI 0,pI 1,pI 1,pI 0,pI 10,pI 1]]:=rfl
theorem zsd:Spec Tryz.prog 8 [] [] (B true) []:=by
 obtain⟨WR,hWR⟩:=ybh smallW.f
 have N:=z0o smallW 5 WR hWR z21
 rw[zyl,zo6]at N
 have H0:=zym WR
 have D1:=z9y zto ygg WR hWR H0.l H0.b H0.e
 have H1:=(H0.step ygg).1
 rw[yb9]at D1 H1
 have D2:=z9y zwe z23 WR hWR H1.l H1.b H1.e
 have e2:(doV WR zwe z23).2.2=0:=by kernel_rfl
 have t2:(doV WR zwe z23).2.1=zcm [zih]:=by
  rcases zob e2 with ⟨_,_,a,_⟩|⟨a,_⟩
  ·rw[a,yb8]
  ·exact absurd rfl a
 have ho:=zh7 (z6e WR)
 have FW:=z42 smallW [zcm [zih]] WR hWR (zdm ztn) (by decide) (fun s hs=>by
  rw[List.mem_singleton.1 hs]
  have:=zjv [zih] (by decide)
  omega)
 obtain⟨f1,f2⟩:=zmm WR [[zih]] smallW (by unfold zg8;rw[if_neg (fun x=>x (z6e WR))];rfl)
 rw[show ([[zih]]:List (List Ord)).map zcm = [zcm [zih]]from rfl]at f1 f2
 rw[f1,f2,show zgb WR [[zih]] smallW=toldW from ybu WR]at FW
 generalize doV WR zwe z23=V at *
 obtain⟨h',t,e⟩:=V
 simp only at e2 t2
 subst e2 t2
 clear f1 f2 ho H0 H1
 generalize zcm [zih]=T at *
 refine spB Tryz.func8 72 [.tmp 0] Tryz.results8 ?_
 (iterate 2((try simp(etaStruct := .none)only[push_cast,seval,zj3,zj4,List.getD_cons_zero]);(try(refine xsu ?_;try exact xtI))))
 refine caP (zyk) ?_
 (iterate 2((try simp(etaStruct := .none)only[push_cast,seval,zj3,zj4,List.getD_cons_zero]);(try(refine xsu ?_;try exact xtI))))
 refine caP (N) ?_
 (iterate 2((try simp(etaStruct := .none)only[push_cast,seval,zj3,zj4,List.getD_cons_zero]);(try(refine xsu ?_;try exact xtI))))
 refine caP (D1) ?_
 (iterate 2((try simp(etaStruct := .none)only[push_cast,seval,zj3,zj4,List.getD_cons_zero]);(try(refine xsu ?_;try exact xtI))))
 refine caP (D2) ?_
 (iterate 2((try simp(etaStruct := .none)only[push_cast,seval,zj3,zj4,List.getD_cons_zero]);(try(refine xsu ?_;try exact xtI))))
 refine caP (zyk) ?_
 (iterate 2((try simp(etaStruct := .none)only[push_cast,seval,zj3,zj4,List.getD_cons_zero]);(try(refine xsu ?_;try exact xtI))))
 refine zfj [2] (Spec.hand 0 FW (Nat.zero_le _) rfl (by exact WkL.refl _) rfl) (WkL.refl _) rfl (by decide) (by simp[zbu]) ?_
 (iterate 2((try simp(etaStruct := .none)only[push_cast,seval,zj3,zj4,List.getD_cons_zero]);(try(refine xsu ?_;try exact xtI))))
 exact xrz rfl
def zlw (c:Clq):List PV := [pI c.kind,pI c.o.by_,pI c.o.kind,pI c.o.who,pI c.o.c.x,pI c.o.c.y,pI c.o.what,pI c.by_,pI c.at_]
def goP (m:Nat) (o:Ord):Bool := !zci m o.by_.toNat
theorem z92 (h:Hst) (o:Ord) (hm:h.m<4294967296) (ho:0≤o.by_∧o.by_<8):Spec Tryz.prog 12 [zni o,.ptr 0 0 0] [.blk 40 (zoq h)] (B (goP h.m o)) [.blk 40 (zoq h)]:=by
 obtain⟨k,hk⟩:∃k:Nat,o.by_=(k:Int):=Int.eq_ofNat_of_zero_le ho.1
 have hub:=z56 h.m k hm (by omega)
 have hgo:goP h.m o = !zci h.m k:=by unfold goP;rw[hk,Int.toNat_natCast]
 rw[hgo]
 refine spB Tryz.func12 12 [.tmp 3] Tryz.results12 ?_
 try refine xz2 hk hub ?_
 refine zb6 [0] rfl rfl (by decide) ⟨?_,trivial⟩ trivial ?_<;>simp(etaStruct := .none)only[push_cast,zab,seval,hk,hub]
theorem yha (h:Hst)(l:List Ord) (hl:l.length≤1000000) (hm:h.m<4294967296) (hn:∀o∈l,0≤o.by_∧o.by_<8): Spec Tryz.prog 39 [.c (.sl 6 (l.map zdg)),.clo (.func 12) [] [.ptr 0 0 0]] ([.blk 40 (zoq h)]) (I .i64 (zjc (goP h.m) l)) ([.blk 40 (zoq h)]):=by
 refine spB Tryz.func39 19 [.tmp 4] Tryz.results39 ?_
 try refine xst ?_
 refine zay (fun k:Nat=>⟨[(8,I .i64 k),(7,I .i64 l.length),(1,.clo (.func 12) [] [.ptr 0 0 0]),(0,.c (.sl 6 (l.map zdg)))],[(0,.blk 40 (zoq h))],1⟩) (fun k:Nat=>k≤l.length∧∀j (hj:j<l.length),j<k→(goP h.m) l[j]=false) (fun k:Nat=>l.length-k) (0) (⟨Nat.zero_le _,fun j _ h=>absurd h (Nat.not_lt_zero _)⟩) (To.mk [0] rfl rfl (by decide) ?_ ?_) ?_
 ·simp(etaStruct := .none)only[push_cast,zab,seval]
 ·simp(etaStruct := .none)only[push_cast,zab,seval]
 rintro k ⟨hk,hno⟩
 try refine xst ?_
 refine cI (fun h1 => ?_) fun h1 => ?_
 ·have hlt:k<l.length:=by omega
  try refine xz2 (gd hlt) zbg ?_
  refine caM [0] (z92 h (l.getD k default) hm (hn _ (za1 l k hlt))) ?_
  try refine xz2 (gd hlt) zbg ?_
  refine cI (fun h2 => ?_) fun h2 => ?_
  ·have e:=zdq (goP h.m) l k hlt (by rw[←zad l k hlt];exact h2) hno
   rw[e]
   try refine xz2 (gd hlt) zbg ?_
   refine zb6 [0] rfl rfl (by decide) ⟨?_,trivial⟩ trivial ?_<;>simp(etaStruct := .none)only[push_cast,zab,seval]
  ·have hno2:∀j (hj:j<l.length),j<k+1→(goP h.m) l[j]=false:=fun j hj h=>by
    rcases Nat.lt_or_ge j k with h3|h3
    ·exact hno j hj h3
    ·obtain rfl:j=k:=by omega
     rw[←zad l j hj];exact h2
   try refine xz2 (gd hlt) zbg ?_
   refine⟨k+1,⟨by omega,hno2⟩,by omega,To.mk [0] rfl rfl (by decide) ?_ ?_⟩
   ·(try(refine xz2 (gd hlt) zbg ?_;try exact xtI))
   ·(try(refine xz2 (gd hlt) zbg ?_;try exact xtI))
 ·have e:=zct (goP h.m) l (fun j hj=>hno j hj (by omega))
  rw[e]
  try refine xst ?_
  refine zb6 [0] rfl rfl (by decide) ⟨?_,trivial⟩ trivial ?_<;>simp(etaStruct := .none)only[push_cast,zab,seval]
theorem ydq (h:Hst) (l:List Ord) (hl:l.length≤1000000) (hm:h.m<4294967296) (hn:∀o∈l,0≤o.by_∧o.by_<8):Spec Tryz.prog 11 [.c (.sl 6 (l.map zdg)),.clo (.func 12) [] [.ptr 0 0 0]] [.blk 40 (zoq h)] (B (l.any (goP h.m))) [.blk 40 (zoq h)]:=by
 refine spB Tryz.func11 9 [.tmp 4] Tryz.results11 ?_
 try refine xst ?_
 refine caM [0] (yha h l hl hm hn) ?_
 try refine xst ?_
 refine zb6 [0] rfl rfl (by decide) ⟨?_,trivial⟩ trivial ?_<;>simp(etaStruct := .none)only[push_cast,zab,seval,ze4]
theorem zx9 (w:Wld) (n:Int) (cs:List Clq) (WR:Cel→List Int) (hWR:∀a,zap w.f [a] (WR a)) (hl:zfm w) (hcl:cs.length≤9223372036854775807) (h0:zq8 w n=0) (h100:cs.length≤100):Spec Tryz.prog 3 [zdf w,I .i64 n,.c (.sl 9 (cs.map zlw))] [] (B true) []:=by
 have N1:=z0o w n WR hWR hl
 obtain⟨HO,HS⟩:=zzw (WR:=WR) h0
 have HS1:(zq7 w n).sty.start=w:=by rw[HS]
 rw[h0]at N1
 generalize zq7 w n=M at *
 clear HS
 refine spB Tryz.func3 70 [.tmp 6] Tryz.results3 ?_
 (iterate 2((try simp(etaStruct := .none)only[push_cast,seval]);(try(refine xsu ?_;try exact xtI))))
 refine caP (N1) ?_
 (iterate 2((try simp(etaStruct := .none)only[push_cast,seval]);(try(refine xsu ?_;try exact xtI))))
 refine caP (zsd) ?_
 (iterate 2((try simp(etaStruct := .none)only[push_cast,seval]);(try(refine xsu ?_;try exact xtI))))
 refine cI (fun h1 => ?_) fun h1 => ?_
 ·omega
 ·(iterate 2((try simp(etaStruct := .none)only[push_cast,seval]);(try(refine xsu ?_;try exact xtI))))
  refine zay (fun x:Nat × Hst=>⟨[(36,I .i64 x.1),(35,I .i64 cs.length),(34,.c (.sl 9 (cs.map zlw))),(7,.ptr 0 0 0)],[(0,.blk 40 (zoq x.2))],1⟩) (fun x:Nat × Hst=>x.1≤cs.length∧HOk WR x.2∧x.2.sty.start=w) (fun x:Nat × Hst=>cs.length-x.1) ((0,M)) (⟨Nat.zero_le _,HO,HS1⟩) (To.mk [1] rfl rfl (by decide) ?_ ?_) ?_
  ·simp(etaStruct := .none)only[push_cast,zab,seval]
  ·simp(etaStruct := .none)only[push_cast,zab,seval]
  rintro⟨k,h⟩ ⟨hk,H,hs⟩
  simp only at hk H hs
  (iterate 2((try simp(etaStruct := .none)only[push_cast,seval]);(try(refine xsu ?_;try exact xtI))))
  refine cI (fun h2 => ?_) fun h2 => ?_
  ·have hlt:k<cs.length:=by omega
   generalize hc:cs.getD k default=c at *
   have D:=z9y h c WR (by rw[hs];exact hWR) H.l H.b H.e
   obtain⟨S1,S2⟩:=H.step c
   have TX:=zob (WR:=WR) (h:=h) (c:=c)
   obtain⟨e1,e2,e3,e4,e5,e6,e7⟩:=zjr H.e
   have CB:=z5m e2 e7
   have hm:=H.l.m
   generalize doV WR h c=V at *
   obtain⟨h',t,e⟩:=V
   simp only at S1 S2 TX
   (iterate 2((try simp(etaStruct := .none)only[push_cast,seval,zaa _ _ _ hlt,hc,zlw]);(try(refine xsu ?_;try exact xtI))))
   refine caP (D) ?_
   (iterate 2((try simp(etaStruct := .none)only[push_cast,seval,zaa _ _ _ hlt,hc,zlw]);(try(refine xsu ?_;try exact xtI))))
   refine cI (fun h3 => ?_) fun h3 => ?_
   ·(iterate 2((try simp(etaStruct := .none)only[push_cast,seval,zaa _ _ _ hlt,hc,zlw]);(try(refine xsu ?_;try exact xtI))))
    refine⟨(k+1,h),⟨by simp only;omega,H,hs⟩,by simp only;omega,To.mk [0] rfl rfl (by decide) ?_ ?_⟩
    ·(iterate 2((try simp(etaStruct := .none)only[push_cast,seval,zaa _ _ _ hlt,hc,zlw]);(try(refine xsu ?_;try exact xtI))))
    ·(iterate 2((try simp(etaStruct := .none)only[push_cast,seval,zaa _ _ _ hlt,hc,zlw]);(try(refine xsu ?_;try exact xtI))))
   ·have TX:=TX (by simpa using h3)
    (iterate 2((try simp(etaStruct := .none)only[push_cast,seval,zaa _ _ _ hlt,hc,zlw]);(try(refine xsu ?_;try exact xtI))))
    refine cI (fun h4 => ?_) fun h4 => ?_
    ·obtain⟨he,hsh,ht,-⟩:c.kind=2∧zgr WR h=0∧t=zcm (zbr h)∧h'.sty.turns=h.sty.turns ++ [zbr h]:=by
      rcases TX with a|a
      ·exact a
      ·exact absurd h4 a.1
     have ho:=(zyq hsh).2.1
     have hll:=(zex ho).1
     have RD:=z6p t (by rw[ht];have:=zjv (zbr h) hll;omega)
     rw[ht,zl8 _ ho]at RD
     have hany:(zbr h).any (goP h.m)=false:=by
      rw[List.any_eq_false]
      intro o hoo
      obtain⟨j,hj,hb,hbit⟩:=CB o hoo
      unfold goP
      rw[hb,Int.toNat_natCast,hbit];decide
     have hby:∀o∈zbr h,0≤o.by_∧o.by_<8:=fun o hoo=>by
      obtain⟨j,hj,hb,-⟩:=CB o hoo
      omega
     subst ht
     generalize zbr h=sl at *
     (iterate 2((try simp(etaStruct := .none)only[push_cast,seval,zaa _ _ _ hlt,hc,zlw]);(try(refine xsu ?_;try exact xtI))))
     refine caP (RD) ?_
     (iterate 2((try simp(etaStruct := .none)only[push_cast,seval,zaa _ _ _ hlt,hc,zlw]);(try(refine xsu ?_;try exact xtI))))
     refine yds rfl ?_ ?_
     ·first|trivial|((try simp(etaStruct := .none)only[push_cast,zab,seval]);(try simp_all))
     refine zfj [0] (ydq h sl (by omega) hm hby) (WkL.refl _) rfl (by decide) (by simp[zbu]) ?_
     (iterate 2((try simp(etaStruct := .none)only[push_cast,seval,zaa _ _ _ hlt,hc,zlw]);(try(refine xsu ?_;try exact xtI))))
     refine cI (fun h5 => ?_) fun h5 => ?_
     ·rw[hany]at h5;exact absurd h5 (by decide)
     ·(iterate 2((try simp(etaStruct := .none)only[push_cast,seval,zaa _ _ _ hlt,hc,zlw]);(try(refine xsu ?_;try exact xtI))))
      refine⟨(k+1,h'),⟨by simp only;omega,S1,S2.trans hs⟩,by simp only;omega,To.mk [0] rfl rfl (by decide) ?_ ?_⟩
      ·(iterate 2((try simp(etaStruct := .none)only[push_cast,seval,zaa _ _ _ hlt,hc,zlw]);(try(refine xsu ?_;try exact xtI))))
      ·(iterate 2((try simp(etaStruct := .none)only[push_cast,seval,zaa _ _ _ hlt,hc,zlw]);(try(refine xsu ?_;try exact xtI))))
    ·(iterate 2((try simp(etaStruct := .none)only[push_cast,seval,zaa _ _ _ hlt,hc,zlw]);(try(refine xsu ?_;try exact xtI))))
     refine⟨(k+1,h'),⟨by simp only;omega,S1,S2.trans hs⟩,by simp only;omega,To.mk [0] rfl rfl (by decide) ?_ ?_⟩
     ·(iterate 2((try simp(etaStruct := .none)only[push_cast,seval,zaa _ _ _ hlt,hc,zlw]);(try(refine xsu ?_;try exact xtI))))
     ·(iterate 2((try simp(etaStruct := .none)only[push_cast,seval,zaa _ _ _ hlt,hc,zlw]);(try(refine xsu ?_;try exact xtI))))
  ·have hm0:¬(h.m:Int)=0:=by have:=(zf2 _ _ (zjr H.e).2.2.1).1.1;omega
   (iterate 2((try simp(etaStruct := .none)only[push_cast,seval]);(try(refine xsu ?_;try exact xtI))))
   exact zcj rfl trivial (Wk.of (by show AV.c (.v (.bool (!decide ((h.m:Int)=0))))=_;rw[decide_eq_false hm0];rfl))
theorem zx8 (w:Wld) (n:Int) (cs:List Clq) (WR:Cel→List Int) (hWR:∀a,zap w.f [a] (WR a)) (hl:zfm w) (hcl:cs.length≤9223372036854775807) (h0:¬(zq8 w n=0∧cs.length≤100)):Spec Tryz.prog 3 [zdf w,I .i64 n,.c (.sl 9 (cs.map zlw))] [] (B true) []:=by
 have N1:=z0o w n WR hWR hl
 generalize zq7 w n=M at *
 generalize zq8 w n=e at *
 refine spB Tryz.func3 70 [.tmp 6] Tryz.results3 ?_
 (iterate 2((try simp(etaStruct := .none)only[push_cast,seval]);(try(refine xsu ?_;try exact xtI))))
 refine caP (N1) ?_
 (iterate 2((try simp(etaStruct := .none)only[push_cast,seval]);(try(refine xsu ?_;try exact xtI))))
 refine caP (zsd) ?_
 (iterate 2((try simp(etaStruct := .none)only[push_cast,seval]);(try(refine xsu ?_;try exact xtI))))
 refine cI (fun h1 => ?_) fun h1 => ?_
 ·(iterate 2((try simp(etaStruct := .none)only[push_cast,seval]);(try(refine xsu ?_;try exact xtI))))
  refine caP (zsd) ?_
  (iterate 2((try simp(etaStruct := .none)only[push_cast,seval]);(try(refine xsu ?_;try exact xtI))))
  exact xrz rfl
 ·omega
end Go.Proofs.YtmjbgbmegbkmhaaGreat
namespace Go.Proofs.YtmjbgbmegbkmhaaGreat
set_option linter.all false
open Go.RowKit Go.ChangeShapes Go.WideShapes Go.ChangeAt
def RelCs (w:World) (ps:List PV) (cs:List Value):Prop:=∀(j:Nat) p u,ps[j]? = some p→cs[j]? = some u→RelP w (· < w.heap.size) p u
theorem RelCs.nil {w:World} : RelCs w [] []:=fun j p u h=>by simp at h
theorem RelCs.cons {w:World} {p:PV} {u:Value} {ps:List PV} {cs:List Value} (h:RelP w (· < w.heap.size) p u) (h':RelCs w ps cs):RelCs w (p::ps) (u::cs):=by
 intro j q v h1 h2
 cases j with
 | zero=>simp at h1 h2;subst h1 h2;exact h
 | succ j=>exact h' j q v (by simpa using h1) (by simpa using h2)
theorem RelCs.append {w:World} : ∀ {ps qs:List PV} {cs ds:List Value},ps.length=cs.length→RelCs w ps cs→RelCs w qs ds→RelCs w (ps++qs) (cs++ds)
 | [],_,[],_,_,_,h=>h
 | [],_,_::_,_,hl,_,_=>by simp at hl
 | _::_,_,[],_,hl,_,_=>by simp at hl
 | p::ps,qs,c::cs,ds,hl,h,h'=>by
  refine RelCs.cons (h 0 p c rfl rfl) (RelCs.append (by simpa using hl) (fun j q v h1 h2=>h (j+1) q v (by simpa using h1) (by simpa using h2)) h')
def OpA (P:Program) (T sz:Nat) (w:World) {α : Type} (pv : α → List PV) (ok : α → Prop):Prop :=
 ∃(β : Type) (enc : β → List Value) (okb : β → Prop) (f : β → α),Opens P T sz w enc okb∧∀y,okb y→ok (f y)∧(pv (f y)).length=sz∧(enc y).length=sz∧RelCs w (pv (f y)) (enc y)
section
variable {P : Program} {T : Nat} {w : World}
theorem OpA.i64 (h:P.underlying T=some (.int .i64)):OpA P T 1 w zac zh4 :=
 ⟨_,_,_,id,Opens.i64 h,fun y hy=>⟨hy,rfl,rfl,.cons (zpo rfl) .nil⟩⟩
theorem OpA.u64 (h:P.underlying T=some (.int .u64)):OpA P T 1 w zlp (fun n=>n<18446744073709551616) :=
 ⟨_,_,_,id,Opens.u64 h,fun y hy=>⟨hy,rfl,rfl,.cons (zpo rfl) .nil⟩⟩
def yh0 (n:Nat):List PV := [.v (.int .u32 n)]
theorem OpA.u32 (h:P.underlying T=some (.int .u32)):OpA P T 1 w yh0 (fun n=>n<4294967296) :=
 ⟨_,_,_,id,Opens.u32 h,fun y hy=>⟨hy,rfl,rfl,.cons (zpo rfl) .nil⟩⟩
theorem OpA.bool (h:P.underlying T=some .bool):OpA P T 1 w zet (fun _=>True) :=
 ⟨_,_,_,id,Opens.bool h,fun y hy=>⟨hy,rfl,rfl,.cons (zpo rfl) .nil⟩⟩
theorem OpA.str (h:P.underlying T=some .string):OpA P T 1 w ybx (fun s=>s.size≤140737488351232) :=
 ⟨_,_,_,id,Opens.str h,fun y hy=>⟨hy,rfl,rfl,.cons (zpo rfl) .nil⟩⟩
theorem OpA.map {sz:Nat} {α β : Type} {pv : α → List PV} {ok : α → Prop} {pv' : β → List PV} {ok' : β → Prop} (h:OpA P T sz w pv ok) (f : α → β) (hf:∀x,pv' (f x)=pv x) (hok:∀x,ok x→ok' (f x)):OpA P T sz w pv' ok':=by
 obtain⟨γ,enc,okb,g,h1,h2⟩:=h
 exact⟨γ,enc,okb,fun y=>f (g y),h1,fun y hy=>by obtain⟨a,b,c,d⟩:=h2 y hy;exact⟨hok _ a,by rw[hf];exact b,c,by rw[hf];exact d⟩⟩
theorem OpA.slice {E sz bts:Nat} {α : Type} {pv : α → List PV} {ok : α → Prop} (hT:P.underlying T=some (.slice E)) (hc:P.cellsOf E=sz) (hsz:0<sz) (hby:P.bytesOf E=bts) (hE:OpA P E sz w pv ok) :
 OpA P T 1 w (fun xs:List α => [.sl sz (xs.map pv)]) (fun xs=>(∀x∈xs,ok x)∧xs.length*bts≤140737488351232∧xs.length≤9223372036854775807):=by
 obtain⟨γ,enc,okb,g,h1,h2⟩:=hE
 refine⟨_,_,_,fun s=>s.xs.map g,Opens.slice hT hc hsz hby h1,fun s hs=>⟨⟨?_,?_,?_⟩,rfl,rfl,?_⟩⟩
 ·intro x hx
  obtain⟨y,hy,rfl⟩:=List.mem_map.1 hx
  exact(h2 y (hs.each y hy).1).1
 ·have:=hs.reach
  have h3:s.xs.length*bts≤s.c*bts:=Nat.mul_le_mul_right _ hs.cap
  simp only[List.length_map];omega
 ·have h3:=hs.cap;have h4:=hs.max;unfold maxLen at h4;simp only[List.length_map];omega
 ·refine .cons ?_ .nil
  have:=ycd (pv:=fun y=>pv (g y)) hs fun y hy ho=>by
   obtain⟨_,a,b,d⟩:=h2 y ho
   exact⟨a,d⟩
  simpa[List.map_map,Function.comp_def]using this
def OpAF (P:Program) (w:World) (fs:List Field) (o sz:Nat) {α : Type} (pv : α → List PV) (ok : α → Prop):Prop :=
 ∃(β : Type) (enc : β → List Value) (okb : β → Prop) (f : β → α),OpensF P w fs o sz enc okb∧∀y,okb y→ok (f y)∧(pv (f y)).length=sz∧(enc y).length=sz∧RelCs w (pv (f y)) (enc y)
theorem OpAF.nil {o:Nat} : OpAF P w [] o 0 (fun _:Unit => []) (fun _=>True) :=
 ⟨_,_,_,id,OpensF.nil,fun y hy=>⟨trivial,rfl,rfl,.nil⟩⟩
theorem OpAF.cons {f:Field} {fs:List Field} {o n sz:Nat} {α β : Type} {pv : α → List PV} {ok : α → Prop} {pv' : β → List PV} {ok' : β → Prop}
 (ho:f.offset=o) (hn:P.cellsOf f.type=n) (h:OpA P f.type n w pv ok) (h':OpAF P w fs (o+n) sz pv' ok') :
 OpAF P w (f::fs) o (n+sz) (fun x : α × β => pv x.1++pv' x.2) (fun x=>ok x.1∧ok' x.2):=by
 obtain⟨γ,enc,okb,g,h1,h2⟩:=h
 obtain⟨γ',enc',okb',g',h1',h2'⟩:=h'
 refine⟨_,_,_,fun y=>(g y.1,g' y.2),OpensF.cons ho hn h1 h1',fun y hy => ?_⟩
 obtain⟨a,b,c,d⟩:=h2 y.1 hy.1
 obtain⟨a',b',c',d'⟩:=h2' y.2 hy.2
 exact⟨⟨a,a'⟩,by simp[b,b'],by simp[c,c'],.append (by rw[b,c]) d d'⟩
theorem OpA.struct {sz:Nat} {fs:Array Field} {α : Type} {pv : α → List PV} {ok : α → Prop} (hT:P.underlying T=some (.struct fs)) (hc:P.cellsOf T=sz) (h:OpAF P w fs.toList 0 sz pv ok):OpA P T sz w pv ok:=by
 obtain⟨γ,enc,okb,g,h1,h2⟩:=h
 exact⟨γ,enc,okb,g,Opens.struct hT hc h1,h2⟩
theorem OpA.arg {sz:Nat} {α : Type} {pv : α → List PV} {ok : α → Prop} (h:OpA P T sz w pv ok) {H:Type} {eH:TypeId × Value→H} {v:Value} {d:DataW H} {p:List MemPlace}
 (hT:DataW.Trod eH P w 0 (fun _=>true) true T v d p) {ts:List TypeId} {ds:List (DataW H)} (hz:(DataW.weightsEach P ts ds).all (· ≤ reachBytes)=true) (j:Nat) (h1:ts[j]? = some T) (h2:ds[j]? = some d):∃x : α,ok x∧(pv x).length=v.cells.toList.length∧RelCs w (pv x) v.cells.toList:=by
 obtain⟨γ,enc,okb,g,k1,k2⟩:=h
 obtain⟨y,hy,ho⟩:=Opens.arg k1 hT hz j h1 h2
 obtain⟨a,b,c,e⟩:=k2 y ho
 exact⟨g y,a,by rw[hy,b,c],by rw[hy];exact e⟩
theorem zy5 {p:PV} {v:Value} (hv:v.cells = #[v]) (hr:RelCs w [p] v.cells.toList):RelA (· < 0) w (· < w.heap.size) (fun _=>none) (.c p) v :=
 z6o (hr 0 p v rfl (by rw[hv];rfl))
theorem zl7 {U:Nat→Prop} {β : Nat→Option Bind} : ∀ {ps:List PV} {cs:List Value},ps.length=cs.length→RelCs w ps cs→RelL U w (· < w.heap.size) β (ps.map .c) cs
 | [],[],_,_=>zt0
 | [],_::_,h,_=>by simp at h
 | _::_,[],h,_=>by simp at h
 | p::ps,c::cs,h,hr=>by
  rw[List.map_cons]
  exact zhk (z6o (hr 0 p c rfl rfl)) (zl7 (by simpa using h) fun j q v h1 h2=>hr (j+1) q v (by simpa using h1) (by simpa using h2))
theorem z8h {ps:List PV} {v:Value} {cs:List Value} (hv:v = .agg cs.toArray) (hl:ps.length=v.cells.toList.length) (hr:RelCs w ps v.cells.toList):RelA (· < 0) w (· < w.heap.size) (fun _=>none) (.agg (ps.map .c)) v:=by
 subst hv
 have e:(Value.agg cs.toArray).cells.toList=cs:=rfl
 rw[e]at hl hr
 refine z3m (zl7 hl hr) fun x hx => ?_
 obtain⟨j,hj,rfl⟩:=List.getElem_of_mem hx
 exact(hr j ps[j] cs[j] (by simp) (by simp)).one
theorem zzn {base e:Nat} {v:Value} (ht:P.underlying T=some (.slice e)) (h:Value.okWide P w .any base T v):v.cells = #[v]:=by obtain⟨a,l,c,rfl⟩:=okWide_slice ht h;rfl
theorem z81 {base:Nat} {k:IntKind} {v:Value} (ht:P.underlying T=some (.int k)) (h:Value.okWide P w .any base T v):v.cells = #[v]:=by obtain⟨n,rfl⟩:=okWide_int ht h;rfl
end
end Go.Proofs.YtmjbgbmegbkmhaaGreat
