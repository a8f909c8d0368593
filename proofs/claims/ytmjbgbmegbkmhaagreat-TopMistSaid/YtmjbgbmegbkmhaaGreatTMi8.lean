/- Lemmas for the proof of topMist.proved. -/
import Derived.Test.YtmjbgbmegbkmhaaGreatTMi7
namespace Go.Proofs.YtmjbgbmegbkmhaaGreat
set_option linter.all false
open Go.RowKit
set_option maxRecDepth 100000
set_option maxHeartbeats 1000000
structure Sty where
 start:Wld
 turns:List (List Ord)
 deriving DecidableEq, Inhabited
abbrev ykq (s:Sty):List AV := [I .i64 s.start.f.w,I .i64 s.start.f.h,.c (.sl 1 (s.start.f.p.map zad)),.c (.sl 2 (s.start.bases.map za2)),.c (.sl 1 (s.start.stocks.map zad)),.c (.sl 1 (s.start.mines.map zad)),.c (.sl 7 (s.start.troops.map zat)),I .i64 s.start.next,I .i64 s.start.now,.c (.sl 1 (s.turns.map zd0))]
abbrev yh5:List AV := [I .i64 0,I .i64 0,.c (.v (.slice none 0 0)),.c (.v (.slice none 0 0)),.c (.v (.slice none 0 0)),.c (.v (.slice none 0 0)),.c (.v (.slice none 0 0)),I .i64 0,I .i64 0,.c (.v (.slice none 0 0))]
abbrev yh4 (s:Sty):AV := .agg (ykq s)
structure StyL (s : Sty) : Prop where
 w:ze8 s.start
 t:∀l∈s.turns,l.length≤9223372036854775807
 n:s.turns.length≤9223372036854775807
abbrev zsd (WR:Cel→List Int) (s:Sty):Int:=zd8 WR s.turns s.start
theorem z8u {WR:Cel→List Int} {ts:List (List Ord)} {w:Wld} (hWR:∀a,zas w.f [a] (WR a)) (h:zd8 WR ts w=0):zg9 WR ts w=zgq WR ts w∧Right (zg9 WR ts w)∧∀a,zas (zg9 WR ts w).f [a] (WR a):=by
 have e:zg9 WR ts w=zgq WR ts w:=if_pos h
 obtain⟨_,h2,h3⟩:=zhy h
 rw[e]
 exact⟨rfl,zk4 ts h2 hWR h3,fun a=>by rw[zz9];exact hWR a⟩
theorem zz6 (s:Sty) (WR:Cel→List Int) (hWR:∀a,zas s.start.f [a] (WR a)) (hl:StyL s):Spec Tryz.prog 68 [yh4 s] [] (I .i64 (zsd WR s)) []:=by
 have T:=zkm s.start s.turns WR hWR hl.w hl.t
 refine spB Tryz.func68 16 [.tmp 2] Tryz.results68 ?_
 try refine xst ?_
 refine caP (T) ?_
 try refine xst ?_
 exact xrz rfl
def zfr (WR:Cel→List Int) (s:Sty) (l:List Ord):Int:=if zsd WR s≠0 then zsd WR s else if 199<s.turns.length then 6 else zbo l (zg9 WR s.turns s.start)
def zgu (WR:Cel→List Int) (s:Sty) (l:List Ord):Sty:=if zfr WR s l=0 then ⟨s.start,s.turns ++ [l]⟩else default
theorem zk3 {WR:Cel→List Int} : ∀(ts:List (List Ord)) {w:Wld},zhm WR ts w=0→∀l∈ts,l.length≤100
 | [],_,_,l,hl=>by simp at hl
 | o::r,w,h,l,hl=>by
  rw[zhm]at h
  split at h
  ·rename_i h1;exact absurd h h1
  ·rename_i h1
   have h1:zbo o w=0:=Decidable.not_not.1 h1
   rcases List.mem_cons.1 hl with rfl|hl
   ·have hs:zb4 l w=0:=by unfold zbo at h1;split at h1;rename_i h2;exact absurd h1 h2;rename_i h2;simpa using h2
    exact(zgg (zez hs).1).1
   ·exact zk3 r h l hl
theorem z9p (s:Sty) (l:List Ord) (WR:Cel→List Int) (hWR:∀a,zas s.start.f [a] (WR a)) (hl:StyL s) (hll:l.length≤9223372036854775807):Spec Tryz.prog 78 [yh4 s,.c (.sl 6 (l.map zd4))] [] (.tup [yh4 (zgu WR s l),I .i64 (zfr WR s l)]) []:=by
 have T:=zkm s.start s.turns WR hWR hl.w hl.t
 have hn:=hl.n
 refine spB Tryz.func78 79 [.cell 4 32,.tmp 5] Tryz.results78 ?_
 try refine xst ?_
 refine caP (T) ?_
 try refine xst ?_
 refine cI (fun h1 => ?_) fun h1 => ?_
 ·have e:zfr WR s l=zsd WR s:=if_pos h1
  have e2:zgu WR s l=default:=if_neg (by rw[e];exact h1)
  rw[e,e2]
  try refine xst ?_
  exact xrz rfl
 ·obtain⟨r1,r2,r3⟩:=z8u hWR h1
  obtain⟨k1,k2,k3⟩:=zhy h1
  try refine xst ?_
  refine cI (fun h2 => ?_) fun h2 => ?_
  ·have e:zfr WR s l=6:=by unfold zfr;rw[if_neg (fun hn=>hn h1),if_pos (by omega)]
   have e2:zgu WR s l=default:=if_neg (by rw[e];decide)
   rw[e,e2]
   try refine xst ?_
   exact xrz rfl
  ·have e:zfr WR s l=zbo l (zg9 WR s.turns s.start):=by unfold zfr;rw[if_neg (fun hn=>hn h1),if_neg (by omega)]
   have U:=zkl (zg9 WR s.turns s.start) l WR r3 r2.l hll
   try refine xst ?_
   refine caP (U) ?_
   try refine xst ?_
   refine cI (fun h3 => ?_) fun h3 => ?_
   ·have e2:zgu WR s l=default:=if_neg (by rw[e];exact h3)
    rw[e,e2]
    try refine xst ?_
    exact xrz rfl
   ·have e2:zgu WR s l=⟨s.start,s.turns ++ [l]⟩:=if_pos (by rw[e];exact h3)
    rw[e,e2,h3]
    have V:=zkm s.start [] WR hWR hl.w (fun _ h=>by simp at h)
    have hl1:l.length≤100:=by
     have hs:zb4 l (zg9 WR s.turns s.start)=0:=by unfold zbo at h3;split at h3;rename_i h1;exact absurd h3 h1;rename_i h1;simpa using h1
     exact(zgg (zez hs).1).1
    have v0:zd8 WR [] s.start=0:=by unfold zd8;rw[if_neg (by simp),if_neg (fun hn=>hn k2.e)];rfl
    rw[v0,show zg9 WR [] s.start=s.start from if_pos v0]at V
    try refine xst ?_
    refine zdl (V) (by exact⟨Wk.refl _,Wk.nil _,trivial⟩) ?_
    try refine xst ?_
    refine zaw (fun k:Nat=>⟨[(59,I .i64 k),(58,I .i64 s.turns.length),(57,.c (.sl 1 (s.turns.map zd0))),(15,.ptr 1 0 0),(4,.ptr 0 0 0),(1,.c (.sl 6 (l.map zd4)))],[(0,.blk 32 yh5),(1,.blk 32 [I .i64 s.start.f.w,I .i64 s.start.f.h,.c (.sl 1 (s.start.f.p.map zad)),.c (.sl 2 (s.start.bases.map za2)),.c (.sl 1 (s.start.stocks.map zad)),.c (.sl 1 (s.start.mines.map zad)),.c (.sl 7 (s.start.troops.map zat)),I .i64 s.start.next,I .i64 s.start.now,.own 2]),(2,.row 53 1 ((s.turns.take k).map zd0))],3⟩) (fun k:Nat=>k≤s.turns.length) (fun k:Nat=>s.turns.length-k) (0) (Nat.zero_le _) ((To.nilC 6 9 53 1 32 _ rfl rfl).trans (To.mk [1,6,7] rfl rfl (by decide) ?_ ?_)) ?_
    ·simp(etaStruct := .none)only[push_cast,zab,seval,List.set_cons_zero,List.set_cons_succ,List.take_zero,List.map_nil]
    ·simp(etaStruct := .none)only[push_cast,zab,seval]
    rintro k hk
    try refine xst ?_
    refine cI (fun h4 => ?_) fun h4 => ?_
    ·have hlt:k<s.turns.length:=by omega
     have hk1:=zk3 s.turns k3 (s.turns.getD k default) (zaz _ _ hlt)
     have htk:=zan s.turns k hlt
     try refine xz2 (gd hlt) zeq ?_
     refine caP (zh3 (s.turns.getD k default) (by omega)) ?_
     try refine xz2 (gd hlt) zeq ?_
     (try(refine⟨by kernel_rfl,?_⟩))
     try refine xz2 (gd hlt) zeq ?_
     refine⟨k+1,by omega,by omega,To.mk [0,1,23] rfl rfl (by decide) ?_ ?_⟩
     ·(iterate 2((try simp(etaStruct := .none)only[push_cast,zab,seval,htk,List.map_append,List.map_cons,List.map_nil,zd0]);(try(refine xsu ?_;try exact xtI))))
     ·(try(refine xz2 (gd hlt) zeq ?_;try exact xtI))
    ·obtain rfl:k=s.turns.length:=by omega
     iterate 2(try simp(etaStruct := .none)only[push_cast,zab,seval,List.take_length,List.map_append,List.map_cons,List.map_nil,zd0];try refine xsu ?_)
     refine caP (zh3 l (by omega)) ?_
     iterate 2(try simp(etaStruct := .none)only[push_cast,zab,seval,List.take_length,List.map_append,List.map_cons,List.map_nil,zd0];try refine xsu ?_)
     (try(refine⟨by kernel_rfl,?_⟩))
     iterate 2(try simp(etaStruct := .none)only[push_cast,zab,seval,List.take_length,List.map_append,List.map_cons,List.map_nil,zd0];try refine xsu ?_)
     have hq:(s.turns ++ [l]).map zd0=s.turns.map zd0 ++ [[.sl 6 (l.map zd4)]]:=by rw[List.map_append];rfl
     refine zb0 rfl (by repeat' (first|exact trivial|exact rfl|refine⟨?_,?_⟩)) (Wk.of ?_)
     show _=AV.tup [.agg [I .i64 s.start.f.w,I .i64 s.start.f.h,.c (.sl 1 (s.start.f.p.map zad)),.c (.sl 2 (s.start.bases.map za2)),.c (.sl 1 (s.start.stocks.map zad)),.c (.sl 1 (s.start.mines.map zad)),.c (.sl 7 (s.start.troops.map zat)),I .i64 s.start.next,I .i64 s.start.now,.c (.sl 1 ((s.turns ++ [l]).map zd0))],I .i64 0]
     rw[hq]
     first|rfl|kernel_rfl
theorem z7w:StyL default:=⟨yc4,fun l (h:l∈([]:List (List Ord)))=>by simp at h,Nat.zero_le _⟩
theorem yau (s:Sty) (l:List Ord) (WR:Cel→List Int) (hl:StyL s) (hll:l.length≤9223372036854775807):StyL (zgu WR s l):=by
 unfold zgu
 split
 ·rename_i h
  have hE:zsd WR s=0:=Decidable.byContradiction fun hn=>by
   unfold zfr at h;rw[if_pos hn]at h;exact hn h
  have hn:=(zhy hE).1
  refine⟨hl.w,fun x hx => ?_,by simp;omega⟩
  rcases List.mem_append.1 hx with hx|hx
  ·exact hl.t x hx
  ·rw[List.mem_singleton]at hx;rw[hx];exact hll
 ·exact z7w
end Go.Proofs.YtmjbgbmegbkmhaaGreat
namespace Go.Proofs.YtmjbgbmegbkmhaaGreat
set_option linter.all false
open Go.RowKit
set_option maxRecDepth 100000
theorem yja (n:Nat) (hn:n<4294967296):Spec Tryz.prog 61 [I .u32 n] [] (I .i64 (pcK n 32:Nat)) [] :=
 zhv (zjp Tryz.func61 rfl rfl) [.int .u32 n] _ rfl fun w=>(yb5 n w hn).mono fun e w' ⟨h1,h2⟩=>⟨h1,h2▸(Below.refl _ _).drew⟩
theorem z23 (n:Nat) (hn:n<4294967296):Spec Tryz.prog 154 [I .u32 n] [] (I .i64 (pcK n 32:Nat)) []:=by
 refine spB Tryz.func154 5 [.tmp 2] Tryz.results154 ?_
 simp(etaStruct := .none)only[push_cast,zab,seval]
 refine zdl (yja n hn) (WkL.refl _) ?_
 simp(etaStruct := .none)only[push_cast,zab,seval]
 exact zb0 rfl trivial (Wk.refl _)
def zjc (n:Nat):List PV := [.v (.int .u32 n)]
theorem yjn (n:Nat):zjc n = [.v (.int .u32 n)]:=rfl
theorem ybg (F:FuncId) (a b:List AV) (l:List Nat) (p:Nat→Bool) (hl:l.length≤9223372036854775807) (hp:∀n∈l,Spec Tryz.prog F (a ++ [I .u32 n]++b) [] (B (p n)) []) (ha:∀h,cvL [] h a=a) (hb:∀h,cvL [] h b=b) :
 Spec Tryz.prog 155 [.c (.sl 1 (l.map zjc)),.clo (.func F) a b] [] (I .i64 (zh9 p l)) []:=by
 refine spB Tryz.func155 19 [.tmp 4] Tryz.results155 ?_
 simp(etaStruct := .none)only[push_cast,zab,seval]
 refine zaw (fun k:Nat=>⟨[(8,I .i64 k),(7,I .i64 l.length),(0,.c (.sl 1 (l.map zjc))),(1,.clo (.func F) a b)],[],0⟩) (fun k=>k≤l.length∧∀j (hj:j<l.length),j<k→p l[j]=false) (fun k=>l.length-k) 0 ⟨Nat.zero_le _,fun j _ h=>by omega⟩ (To.mk [] rfl rfl List.nodup_nil trivial ?_) ?_
 ·simp(etaStruct := .none)only[push_cast,zab,seval,ha,hb]
 ·rintro k ⟨hk,hn⟩
  simp(etaStruct := .none)only[push_cast,zab,seval]
  refine zax (fun h => ?_) (fun h => ?_)
  ·have hlt:k<l.length:=by simpa using h
   simp(etaStruct := .none)only[push_cast,zab,seval,zce _ _ _ hlt,zjc]
   repeat with_reducible refine obA ?_
   refine zdl (hp _ (List.getElem_mem hlt)) (by simp only[zdb,ha,hb,cvL,cv];exact WkL.refl _) ?_
   simp(etaStruct := .none)only[push_cast,zab,seval]
   refine zax (fun h => ?_) (fun h => ?_)
   ·simp(etaStruct := .none)only[push_cast,zab,seval]
    exact zb0 rfl trivial (Wk.of (by rw[zej p l k hlt h hn];rfl))
   ·simp(etaStruct := .none)only[push_cast,zab,seval]
    refine⟨k+1,⟨by omega,fun j hj hjk => ?_⟩,by omega,To.mk [] rfl rfl List.nodup_nil trivial ?_⟩
    ·by_cases e:j=k
     ·subst e;exact h
     ·exact hn j hj (by omega)
    ·simp(etaStruct := .none)only[push_cast,zab,seval,ha,hb]
     simp(disch:=omega)only[zak,zbb,tdv,tmd]
  ·have hge:k=l.length:=by simp at h;omega
   subst hge
   simp(etaStruct := .none)only[push_cast,zab,seval]
   exact zb0 rfl trivial (Wk.of (by rw[zdh p l (fun j hj=>hn j hj hj)];rfl))
end Go.Proofs.YtmjbgbmegbkmhaaGreat
namespace Go.Proofs.YtmjbgbmegbkmhaaGreat
set_option linter.all false
open Go.RowKit
theorem zjw (n:Int) (h1:0≤n) (h2:n<4294967296):IntKind.u32.wrap n=n:=by
 unfold IntKind.wrap
 simp only[IntKind.bits,IntKind.signed,Bool.false_and,Bool.false_eq_true,if_false]
 show n % (2 ^ 32:Int)=n
 omega
theorem z85 (a b:Nat) (ha:a<4294967296) (hb:b<4294967296):bits .and .u32 (a:Int) (b:Int)=((a &&& b:Nat):Int):=by
 show IntKind.u32.wrap ((BitVec.ofInt 32 (a:Int) &&& BitVec.ofInt 32 (b:Int)).toNat:Nat)=_
 rw[BitVec.toNat_and,BitVec.ofInt_natCast,BitVec.ofInt_natCast,BitVec.toNat_ofNat,BitVec.toNat_ofNat,Nat.mod_eq_of_lt (show a<2 ^ 32 by omega),Nat.mod_eq_of_lt (show b<2 ^ 32 by omega)]
 have:a &&& b≤a:=Nat.and_le_left
 exact zjw _ (by omega) (by omega)
theorem yjs (a b:Nat) (ha:a<4294967296) (hb:b<4294967296):bits .or .u32 (a:Int) (b:Int)=((a ||| b:Nat):Int):=by
 show IntKind.u32.wrap ((BitVec.ofInt 32 (a:Int) ||| BitVec.ofInt 32 (b:Int)).toNat:Nat)=_
 rw[BitVec.toNat_or,BitVec.ofInt_natCast,BitVec.ofInt_natCast,BitVec.toNat_ofNat,BitVec.toNat_ofNat,Nat.mod_eq_of_lt (show a<2 ^ 32 by omega),Nat.mod_eq_of_lt (show b<2 ^ 32 by omega)]
 have:a ||| b<2 ^ 32:=Nat.or_lt_two_pow (by omega) (by omega)
 exact zjw _ (by omega) (by omega)
theorem zns (a b:Nat) (ha:a<4294967296) (hb:b<4294967296):bits .andNot .u32 (a:Int) (b:Int)=((a &&& (4294967295-b):Nat):Int):=by
 show IntKind.u32.wrap ((BitVec.ofInt 32 (a:Int) &&& ~~~(BitVec.ofInt 32 (b:Int))).toNat:Nat)=_
 rw[BitVec.toNat_and,BitVec.toNat_not,BitVec.ofInt_natCast,BitVec.ofInt_natCast,BitVec.toNat_ofNat,BitVec.toNat_ofNat,Nat.mod_eq_of_lt (show a<2 ^ 32 by omega),Nat.mod_eq_of_lt (show b<2 ^ 32 by omega)]
 have:a &&& (2 ^ 32-1-b)≤a:=Nat.and_le_left
 exact zjw _ (by omega) (by omega)
theorem z6n (m k B:Nat) (hk:k≤B):(m:Int).fdiv (2 ^ min k B)=((m/2 ^ k:Nat):Int):=by
 rw[Nat.min_eq_left hk,Int.fdiv_eq_ediv_of_nonneg _ (Int.le_of_lt (Int.pow_pos (by decide)))]
 simp
theorem z7m (k:Nat) (hk:k<32):IntKind.u32.wrap (1*2 ^ min k IntKind.u32.bits)=((2 ^ k:Nat):Int):=by
 obtain⟨h1,h2⟩:=zxx k hk
 rw[show IntKind.u32.bits=32 from rfl,Nat.min_eq_left (by omega),Int.one_mul]
 have:((2:Int) ^ k)=((2 ^ k:Nat):Int):=by simp
 rw[this,zjw _ (by omega) (by omega)]
theorem zzh (m k:Nat) (hk:k<32):(m:Int).fdiv (2 ^ min k IntKind.u32.bits)=((m/2 ^ k:Nat):Int):=z6n m k _ (by show k≤32;omega)
theorem z32 (m k:Nat) (hm:m<4294967296) (hk:k<32):decide (bits .and .u32 ((m:Int).fdiv (2 ^ min k IntKind.u32.bits)) 1=1)=zcv m k:=by
 rw[zzh m k hk]
 have h1:m/2 ^ k≤m:=Nat.div_le_self _ _
 have:=z85 (m/2 ^ k) 1 (by omega) (by omega)
 rw[show ((1:Nat):Int)=1 from rfl]at this
 rw[this,Nat.and_one_is_mod]
 unfold zcv
 rw[Bool.eq_iff_iff]
 simp only[decide_eq_true_eq,beq_iff_eq]
 omega
end Go.Proofs.YtmjbgbmegbkmhaaGreat
namespace Go.Proofs.YtmjbgbmegbkmhaaGreat
set_option linter.all false
open Go.RowKit
set_option maxRecDepth 100000
abbrev eV (m:Nat) (l:List Nat):AV := .agg [I .u32 m,.c (.sl 1 (l.map zjc))]
theorem yjb (n:Nat) (k:Int) (hn:n<4294967296):Spec Tryz.prog 156 ([] ++ [I .u32 n] ++ [.fel 1 [[.v (.int .i64 k)]] 0 0]) [] (B (decide (k≤(pcK n 32:Nat)))) []:=by
 refine spB Tryz.func156 8 [.tmp 3] Tryz.results156 ?_
 try refine xst ?_
 refine caP (z23 n hn) ?_
 try refine xst ?_
 (try(refine⟨by kernel_rfl,?_⟩))
 try refine xst ?_
 exact xrz rfl
def yaa (m:Nat) (l:List Nat):Int:=zh9 (fun s=>decide (((pcK m 32:Nat):Int)/2+1≤(pcK s 32:Nat))) l
theorem zix (m:Nat) (l:List Nat) (hm:m<4294967296) (hl:l.length≤9223372036854775807) (hs:∀s∈l,s<4294967296):Spec Tryz.prog 124 [eV m l] [] (I .i64 (yaa m l)) []:=by
 have hp:=z0n m 32
 refine spB Tryz.func124 13 [.tmp 2] Tryz.results124 ?_
 try refine xst ?_
 refine zdl (z23 m hm) (WkL.refl _) ?_
 try refine xst ?_
 refine zcl (ybg _ [] [.fel 1 [[.v (.int .i64 ((pcK m 32:Nat)/2+1))]] 0 0] l (fun s=>decide (((pcK m 32:Nat):Int)/2+1≤(pcK s 32:Nat))) hl (fun s hss=>yjb s _ (hs s hss)) (fun _=>rfl) (fun _=>rfl)) (WkL.refl _) rfl ?_
 try refine xst ?_
 exact zb0 rfl trivial (Wk.refl _)
theorem zof (m:Nat) (l:List Nat) (k:Int) (hm:m<4294967296):Spec Tryz.prog 127 [eV m l,I .i64 k] [] (B (decide (0≤k∧k<16)&&zcv m k.toNat)) []:=by
 refine spB Tryz.func127 19 [.tmp 4] Tryz.results127 ?_
 try refine xst ?_
 refine zb0 rfl trivial (Wk.of (congrArg B ?_))
 by_cases h:0≤k∧k<16
 ·obtain⟨K,rfl⟩:=Int.eq_ofNat_of_zero_le h.1
  have:=z32 m K hm (by omega)
  simp only[Int.toNat_natCast,this,h,decide_true,Bool.true_and,decide_eq_true h.1,decide_eq_true h.2,and_self]
 ·rw[decide_eq_false h]
  rcases Int.lt_or_le k 0 with h1|h1
  ·simp;omega
  ·simp;omega
theorem ykr (m:Nat) (hm:m<4294967296):(m:Int).fdiv (2 ^ min 16 IntKind.u32.bits)=((m/65536:Nat):Int):=by
 have:=zzh m 16 (by omega)
 simpa using this
theorem z7c (m k s:Nat) (hm:m<4294967296) (hs:s<4294967296) (hk:k<32) :
 (!decide (bits .andNot .u32 (s:Int) (m:Int)=0)||decide (bits .and .u32 ((s:Int).fdiv (2 ^ min k IntKind.u32.bits)) 1=1)||(!decide ((s:Int)=0)&&decide (bits .and .u32 ((m:Int).fdiv (2 ^ min k IntKind.u32.bits)) 1=0)))=z7d m k s:=by
 have e:decide (bits .and .u32 ((m:Int).fdiv (2 ^ min k IntKind.u32.bits)) 1=0) = !zcv m k:=by
  rw[zzh m k hk]
  have h1:m/2 ^ k≤m:=Nat.div_le_self _ _
  have:=z85 (m/2 ^ k) 1 (by omega) (by omega)
  rw[show ((1:Nat):Int)=1 from rfl]at this
  rw[this,Nat.and_one_is_mod]
  unfold zcv
  rw[Bool.eq_iff_iff]
  simp only[decide_eq_true_eq,Bool.not_eq_true',beq_eq_false_iff_ne]
  omega
 rw[z32 s k hs hk,e,zns s m hs hm]
 unfold z7d
 rw[Bool.eq_iff_iff]
 simp
theorem zu7 (m:Nat) (l:List Nat):decide (0≤yaa m l)=(znu m l).isSome:=by
 unfold yaa zh9 znu
 have e:(fun s=>decide (((pcK m 32:Nat):Int)/2+1≤(pcK s 32:Nat)))=z7u m:=by
  funext s;unfold z7u;rw[Bool.eq_iff_iff];simp only[decide_eq_true_eq];omega
 rw[e]
 cases l.findIdx? (z7u m)<;>simp
theorem z27 (m:Nat) (l:List Nat) (hm:m<4294967296) (hl:l.length≤9223372036854775807) (hs:∀s∈l,s<4294967296):Spec Tryz.prog 74 [eV m l] [] (I .i64 (za7 m l)) []:=by
 have e16:=ykr m hm
 refine spB Tryz.func74 54 [.tmp 2] Tryz.results74 ?_
 try refine xst ?_
 refine cI (fun h1 => ?_) fun h1 => ?_
 ·have h':m=0∨65535<m:=by omega
  have e:za7 m l=1:=by unfold za7;rw[if_pos h']
  try refine xst ?_
  exact zb0 rfl trivial (Wk.of (by rw[e];rfl))
 ·have h':¬(m=0∨65535<m):=by omega
  try refine xst ?_
  refine cI (fun h2 => ?_) fun h2 => ?_
  ·have e:za7 m l=4:=by unfold za7;rw[if_neg h',if_pos (by omega)]
   try refine xst ?_
   exact zb0 rfl trivial (Wk.of (by rw[e];rfl))
  ·have h2':l.length=16:=by omega
   try refine xst ?_
   refine zaw (fun k:Nat=>⟨[(21,I .i64 k),(20,I .i64 l.length),(19,.c (.sl 1 (l.map zjc))),(1,.ptr 0 0 0)],[(0,.blk 38 [I .u32 m,.c (.sl 1 (l.map zjc))])],1⟩) (fun k:Nat=>k≤16∧∀j,j<k→z7d m j (l.getD j 0)=false) (fun k:Nat=>16-k) (0) (⟨by omega,fun j h=>by omega⟩) (To.mk [0] rfl rfl (by decide) ?_ ?_) ?_
   ·simp(etaStruct := .none)only[push_cast,zab,seval]
   ·simp(etaStruct := .none)only[push_cast,zab,seval]
   rintro k ⟨hk,hn⟩
   try refine xst ?_
   refine zax (fun h3 => ?_) (fun h3 => ?_)
   ·(try replace h3:=xhh h3)
    have hlt:k<l.length:=by omega
    have hsk:l[k]<4294967296:=hs _ (List.getElem_mem hlt)
    have hbt:=z7c m k l[k] hm hsk (by omega)
    iterate 2(try simp(etaStruct := .none)only[push_cast,zab,seval,zce _ _ _ hlt,zjc];try refine xsu ?_)
    rw[hbt]
    refine cI (fun h4 => ?_) fun h4 => ?_
    ·have hany:(List.range 16).any (fun k=>z7d m k (l.getD k 0))=true:=List.any_eq_true.2 ⟨k,by simp;omega,by rw[ztb _ _ _ hlt];exact h4⟩
     have e:za7 m l=4:=by unfold za7;rw[if_neg h',if_neg (by omega),if_pos hany]
     iterate 2(try simp(etaStruct := .none)only[push_cast,zab,seval,zce _ _ _ hlt,zjc];try refine xsu ?_)
     exact zb0 rfl trivial (Wk.of (by rw[e];rfl))
    ·iterate 2(try simp(etaStruct := .none)only[push_cast,zab,seval,zce _ _ _ hlt,zjc];try refine xsu ?_)
     refine⟨k+1,⟨by omega,fun j hj=>by
 by_cases e:j=k
 ·subst e;rw[ztb _ _ _ hlt];exact h4
 ·exact hn j (by omega)⟩, by omega, To.mk [0] rfl rfl (by decide) ?_ ?_⟩
     ·(iterate 2((try simp(etaStruct := .none)only[push_cast,zab,seval,zce _ _ _ hlt,zjc]);(try(refine xsu ?_;try exact xtI))))
     ·(iterate 2((try simp(etaStruct := .none)only[push_cast,zab,seval,zce _ _ _ hlt,zjc]);(try(refine xsu ?_;try exact xtI))))
   ·(try replace h3:=xhh h3)
    have hge:k=16:=by omega
    subst hge
    have hbad:¬((List.range 16).any (fun k=>z7d m k (l.getD k 0))=true):=by
     simp only[Bool.not_eq_true,List.any_eq_false]
     intro j hj
     rw[hn j (by simpa using hj)]
    have hon:=zu7 m l
    try refine xst ?_
    refine caP (zix m l hm hl hs) ?_
    try refine xst ?_
    rw[hon]
    refine cI (fun h5 => ?_) fun h5 => ?_
    ·have e:za7 m l=4:=by unfold za7;rw[if_neg h',if_neg (by omega),if_neg hbad,if_pos h5]
     try refine xst ?_
     exact zb0 rfl trivial (Wk.of (by rw[e];rfl))
    ·have e:za7 m l=0:=by unfold za7;rw[if_neg h',if_neg (by omega),if_neg hbad,if_neg (by rw[h5];decide)]
     try refine xst ?_
     exact zb0 rfl trivial (Wk.of (by rw[e];rfl))
def zit (f:Nat→Nat) (i:Nat) (g:List Nat):List Nat:=(g.take i).map f++g.drop i
theorem zlb (f:Nat→Nat) (i:Nat) (g:List Nat):(zit f i g).length=g.length:=by simp[zit];omega
theorem yd8 (f:Nat→Nat) (g:List Nat):zit f 0 g=g:=by simp[zit]
theorem z0p (f:Nat→Nat) (i:Nat) (g:List Nat) (h:g.length≤i):zit f i g=g.map f:=by simp[zit,List.take_of_length_le h,List.drop_of_length_le h]
theorem z46 (f:Nat→Nat) (i:Nat) (g:List Nat) (h:i<g.length):(zit f i g)[i]'(by rw[zlb];exact h)=g[i]:=by
 unfold zit
 rw[List.getElem_append_right (by simp;omega)]
 simp[Nat.min_eq_left (Nat.le_of_lt h)]
theorem z0o (f:Nat→Nat) (i:Nat) (g:List Nat) (h:i<g.length):(zit f i g).set i (f g[i])=zit f (i+1) g:=by
 unfold zit
 rw[List.set_append_right _ _ (by simp;omega)]
 rw[List.length_map,List.length_take,Nat.min_eq_left (Nat.le_of_lt h),Nat.sub_self,List.drop_eq_getElem_cons h,List.set_cons_zero,List.take_succ_eq_append_getElem h,List.map_append,List.append_assoc]
 rfl
theorem zse (l:List Nat) (i:Nat) (x:Int) (n:Nat) (h:x=n):(l.map zjc).set i [.v (.int .u32 x)]=(l.set i n).map zjc:=by rw[h,List.map_set];rfl
theorem z24 (n k:Nat) (hn:n<4294967296) (hk:k<32):bits .andNot .u32 (n:Int) (IntKind.u32.wrap (1*2 ^ min k IntKind.u32.bits))=(clr n k:Nat):=by
 have:=zxx k hk
 rw[z7m k hk,zns n (2 ^ k) hn (by omega),z3m n k hn hk]
theorem yb6 (l:List Nat) (hl:l.length≤1000000000) (h0:l ≠ []):Spec Tryz.prog 72 [.c (.sl 1 (l.map zjc))] [] (.own 0) [.row 35 1 (l.map zjc)]:=by
 refine spB Tryz.func72 8 [.tmp 2] Tryz.results72 ?_
 try refine xst ?_
 intro b hb
 try refine xst ?_
 refine zax (fun h => ?_) (fun h => ?_)
 ·exact absurd (List.map_eq_nil_iff.1 (hb h)) h0
 ·try refine xst ?_
  refine zcc [1] rfl rfl (by decide) ⟨?_,trivial⟩ trivial ?_
  ·simp(etaStruct := .none)only[push_cast,zab,seval]
  ·simp(etaStruct := .none)only[push_cast,zab,seval]
theorem ya4 (m k:Nat) (l:List Nat) (hm:m<4294967296) (hk:k<16) (hkl:k<l.length) (hl:l.length≤1000000000) (hs:∀s∈l,s<4294967296) :
 Spec Tryz.prog 128 [.ptr 0 0 0,I .i64 k] [.blk 38 [I .u32 m,.own 1],.row 35 1 (l.map zjc)] .undef [.blk 38 [I .u32 (clr m k:Nat),.own 1],.row 35 1 ((lv l k).map zjc)]:=by
 refine spB Tryz.func128 40 [] Tryz.results128 ?_
 try refine xz1 (z24 m k hm (by omega)) ?_
 have hlen:(l.set k 0).length=l.length:=by simp
 refine zaw (fun i:Nat=>⟨[(25,I .i64 i),(24,I .i64 l.length),(1,I .i64 k),(0,.ptr 0 0 0)],[(0,.blk 38 [I .u32 (clr m k:Nat),.own 1]),(1,.row 35 1 ((zit (clr · k) i (l.set k 0)).map zjc))],2⟩) (fun i=>i≤l.length) (fun i=>l.length-i) 0 (Nat.zero_le _) (To.mk [0,1] rfl rfl (by decide) ?_ ?_) ?_
 ·simp(etaStruct := .none)only[push_cast,zab,seval,yd8]
  exact zse l k 0 0 rfl
 ·(iterate 2((try simp(etaStruct := .none)only[push_cast,zab,seval,List.length_set]);(try(refine xsu ?_;try exact xtI))))
 ·rintro i hi
  have hg:∀s∈l.set k 0,s<4294967296:=fun s hh=>by rcases List.mem_or_eq_of_mem_set hh with h|h;exact hs s h;omega
  try refine xst ?_
  refine zax (fun h => ?_) (fun h => ?_)
  ·have hlt:i<(l.set k 0).length:=by simpa using h
   have hlp:i<(zit (clr · k) i (l.set k 0)).length:=by rw[zlb];exact hlt
   have hu:=z24 (l.set k 0)[i] k (hg _ (List.getElem_mem hlt)) (by omega)
   iterate 2(try simp(etaStruct := .none)only[push_cast,zab,seval,zce _ _ _ hlp,zjc,zlb,z46 _ i _ hlt,hu];try refine xsu ?_)
   refine⟨i+1,by omega,by omega,To.mk [0,1] rfl rfl (by decide) ?_ ?_⟩
   ·try refine xst ?_
    rw[zse _ _ _ _ rfl,z0o _ i _ hlt]
   ·(try(refine xst ?_;try exact xtI))
  ·have hge:i=l.length:=by simp at h;omega
   try refine xst ?_
   refine zcc [0,1] rfl rfl (by decide) ⟨?_,?_,trivial⟩ trivial ?_
   ·(try(refine xst ?_;try exact xtI))
   ·iterate 2(try simp(etaStruct := .none)only[push_cast,zab,seval,z0p _ _ _ (show (l.set k 0).length≤i by omega)];try refine xsu ?_)
    unfold lv
    rfl
   ·try refine xst ?_
    exact Wk.undef _
theorem zs1 (m:Nat) (b:Int) (hm:m<65536):(decide (0≤b∧b<16)&&zcv m b.toNat)=zhn m b:=by
 by_cases h:0≤b∧b<16
 ·obtain⟨k,rfl⟩:=Int.eq_ofNat_of_zero_le h.1
  rw[zta m k (by omega),decide_eq_true h];rfl
 ·rw[zs9 m b hm h,decide_eq_false h];rfl
theorem z5b (m:Nat) (l:List Nat) (k:Nat) (h:znu m l=some k):yaa m l=k:=by
 have e:(fun s=>decide (((pcK m 32:Nat):Int)/2+1≤(pcK s 32:Nat)))=z7u m:=by
  funext s;unfold z7u;rw[Bool.eq_iff_iff];simp only[decide_eq_true_eq];omega
 unfold yaa zh9
 unfold znu at h
 rw[e,h]
theorem z99 (m:Nat) (l:List Nat) (h:znu m l=none):yaa m l<0:=by
 have:=zu7 m l
 rw[h]at this
 simpa using this
theorem z17 (m:Nat) (b:Int) (hm:m<65536) (h:zhn m b=true):∃k:Nat,b=k∧k<16∧zcv m k=true:=by
 by_cases hb:0≤b∧b<16
 ·obtain⟨k,rfl⟩:=Int.eq_ofNat_of_zero_le hb.1
  exact⟨k,rfl,by omega,by rw[←zta m k (by omega)];exact h⟩
 ·rw[zs9 m b hm hb]at h;simp at h
theorem yfz {m:Nat} {g:List Nat} {b a:Int} (h:za7 m g≠0):zch m g b a=((0,[]),false,za7 m g):=by unfold zch;rw[if_pos h]
theorem yfy {m:Nat} {g:List Nat} {b a:Int} (h:za7 m g=0) (h2:(zhn m b&&zhn m a)=false):zch m g b a=((0,[]),false,7):=by unfold zch;rw[if_neg (fun x=>x h),if_pos h2]
theorem yfw {m:Nat} {g:List Nat} {b a:Int} (h:za7 m g=0) (h2:¬(zhn m b&&zhn m a)=false) (h3:b=a):zch m g b a=((0,[]),false,1):=by unfold zch;rw[if_neg (fun x=>x h),if_neg h2,if_pos h3]
theorem yfx {m:Nat} {g:List Nat} {b a:Int} (h:za7 m g=0) (h2:¬(zhn m b&&zhn m a)=false) (h3:b≠a) (h4:zcv (g.getD a.toNat 0) b.toNat=true):zch m g b a=((0,[]),false,8):=by unfold zch;rw[if_neg (fun x=>x h),if_neg h2,if_neg h3,if_pos h4]
theorem yfv {m:Nat} {g:List Nat} {b a:Int} (h:za7 m g=0) (h2:¬(zhn m b&&zhn m a)=false) (h3:b≠a) (h4:¬zcv (g.getD a.toNat 0) b.toNat=true):zch m g b a=(zma 16 m (g.set a.toNat (g.getD a.toNat 0+2 ^ b.toNat)),!zcv (zma 16 m (g.set a.toNat (g.getD a.toNat 0+2 ^ b.toNat))).1 a.toNat,0):=by unfold zch;rw[if_neg (fun x=>x h),if_neg h2,if_neg h3,if_neg h4]
theorem yfu (m:Nat) (l:List Nat) (b a:Int) (hm:m<4294967296) (hl:l.length≤9223372036854775807) (hs:∀s∈l,s<4294967296) :
 Spec Tryz.prog 79 [eV m l,I .i64 b,I .i64 a] [] (.tup [eV (zch m l b a).1.1 (zch m l b a).1.2,B (zch m l b a).2.1,I .i64 (zch m l b a).2.2]) []:=by
 refine spB Tryz.func79 71 [.cell 6 38,.tmp 7,.tmp 8] Tryz.results79 ?_
 try refine xst ?_
 refine zdl (z27 m l hm hl hs) (WkL.refl _) ?_
 try refine xst ?_
 refine zax (fun h => ?_) (fun h => ?_)
 ·have h1:za7 m l≠0:=by simpa using h
  try refine xst ?_
  refine zax (fun _ => ?_) (fun h'=>absurd (h.symm.trans h') (by decide))
  try refine xst ?_
  rw[yfz h1]
  exact zb0 rfl ⟨rfl,trivial⟩ (Wk.tup ⟨Wk.agg ⟨Wk.refl _,Wk.nil 1,trivial⟩,Wk.refl _,Wk.refl _,trivial⟩)
 have h1:za7 m l=0:=by simpa using h
 obtain⟨⟨r1,r2⟩,r3,r4,r5⟩:=zir m l h1
 try refine xst ?_
 refine zdl (zof m l b hm) (WkL.refl _) ?_
 try refine xst ?_
 rw[zs1 m b (by omega)]
 refine zv8 (fun _=>zof m l a hm) (WkL.refl _) (fun hc => ?_) ?_
 ·have hx:zhn m b=true:=by simpa using hc
  rw[←zs1 m b (by omega)]at hx
  (try simp(etaStruct := .none)only[push_cast,zab,seval])
  simpa using hx
 rw[zs1 m a (by omega)]
 try refine xst ?_
 have fin:∀(v:Int) (_:v≠0),True:=fun _ _=>trivial
 refine zax (fun h => ?_) (fun h => ?_)
 ·have h2:(zhn m b&&zhn m a)=false:=by revert h;cases zhn m b<;>cases zhn m a<;>decide
  try refine xst ?_
  refine zax (fun _ => ?_) (fun h'=>absurd h' (by decide))
  try refine xst ?_
  rw[yfy h1 h2]
  exact zb0 rfl ⟨rfl,trivial⟩ (Wk.tup ⟨Wk.agg ⟨Wk.refl _,Wk.nil 1,trivial⟩,Wk.refl _,Wk.refl _,trivial⟩)
 have h2:zhn m b=true∧zhn m a=true:=by revert h;cases zhn m b<;>cases zhn m a<;>decide
 have h2':¬(zhn m b&&zhn m a)=false:=by rw[h2.1,h2.2];decide
 obtain⟨B',rfl,hB,bB⟩:=z17 m b (by omega) h2.1
 obtain⟨A',rfl,hA,bA⟩:=z17 m a (by omega) h2.2
 try refine xst ?_
 refine zax (fun h => ?_) (fun h => ?_)
 ·have h3:(B':Int)=(A':Int):=by simpa using h
  try refine xst ?_
  refine zax (fun _ => ?_) (fun h'=>absurd h' (by decide))
  try refine xst ?_
  rw[yfw h1 h2' h3]
  exact zb0 rfl ⟨rfl,trivial⟩ (Wk.tup ⟨Wk.agg ⟨Wk.refl _,Wk.nil 1,trivial⟩,Wk.refl _,Wk.refl _,trivial⟩)
 have h3:(B':Int)≠(A':Int):=by simpa using h
 have hlt:A'<l.length:=by omega
 have hg:l[A']<4294967296:=hs _ (List.getElem_mem hlt)
 have hgd:l.getD A' 0=l[A']:=ztb _ _ _ hlt
 iterate 2(try simp(etaStruct := .none)only[push_cast,zab,seval,zce _ _ _ hlt,zjc,z32 l[A'] B' hg (by omega)];try refine xsu ?_)
 refine zax (fun h => ?_) (fun h => ?_)
 ·try refine xst ?_
  refine zax (fun _ => ?_) (fun h'=>absurd h' (by decide))
  try refine xst ?_
  rw[yfx h1 h2' h3 (by rw[Int.toNat_natCast,Int.toNat_natCast,hgd];exact h)]
  exact zb0 rfl ⟨rfl,trivial⟩ (Wk.tup ⟨Wk.agg ⟨Wk.refl _,Wk.nil 1,trivial⟩,Wk.refl _,Wk.refl _,trivial⟩)
 obtain⟨o1,o2⟩:=z0v l[A'] B' hg (by omega) h
 have hp:=zxx B' (by omega)
 rw[yfv h1 h2' h3 (by rw[Int.toNat_natCast,Int.toNat_natCast,hgd,h];decide)]
 rw[Int.toNat_natCast,Int.toNat_natCast,hgd]
 try refine xst ?_
 refine zax (fun h'=>absurd h' (by simp[h1])) (fun _ => ?_)
 try refine xst ?_
 refine zfv [] (yb6 l (by omega) (by intro e;rw[e]at r3;simp at r3)) (WkL.refl _) rfl List.nodup_nil (by simp[zbw]) ?_
 have hor:bits .or .u32 (l[A']:Int) ((2:Int) ^ B')=(l[A']:Int)+2 ^ B':=by
  have:=yjs l[A'] (2 ^ B') hg (show 2 ^ B'<4294967296 by omega)
  rw[o1]at this
  push_cast at this
  exact this
 iterate 2(try simp(etaStruct := .none)only[push_cast,zab,seval,zce _ _ _ hlt,zjc,z7m B' (show B'<32 by omega),hor];try refine xsu ?_)
 rw[zse l A' _ (l[A']+2 ^ B') (by push_cast;rfl)]
 have hgl:(l.set A' (l[A']+2 ^ B')).length=16:=by rw[List.length_set];exact r3
 have hgs:∀s∈l.set A' (l[A']+2 ^ B'),s<4294967296:=fun s hh=>by
  rcases List.mem_or_eq_of_mem_set hh with h|h
  ·exact hs s h
  ·rw[h];exact o2
 generalize l.set A' (l[A']+2 ^ B')=g0 at hgl hgs ⊢
 refine zcl (zix m g0 hm (by omega) hgs) (WkL.refl _) rfl ?_
 try refine xst ?_
 refine zaw (fun p:Nat × List Nat=>⟨[(10,I .i64 (yaa p.1 p.2)),(3,.ptr 0 0 0),(6,.ptr 1 0 0),(2,I .i64 A')],[(0,.blk 38 [I .u32 p.1,.own 2]),(1,.blk 38 [I .u32 0,.c (.v (.slice none 0 0))]),(2,.row 35 1 (p.2.map zjc))],3⟩) (fun p=>(p.1≤m∧p.2.length=16∧∀s∈p.2,s<4294967296)∧∃n,nz p.2≤n∧zma 16 m g0=zma n p.1 p.2) (fun p=>nz p.2) (m,g0) ⟨⟨Nat.le_refl _,hgl,hgs⟩,16,by rw[←hgl];exact yei g0,rfl⟩ (To.mk [0,1,2] rfl rfl (by decide) ?_ ?_) ?_
 ·simp(etaStruct := .none)only[push_cast,zab,seval]
 ·simp(etaStruct := .none)only[push_cast,zab,seval]
 rintro⟨m',g⟩ ⟨⟨q1,q2,q3⟩,n,q4,q5⟩
 simp only at q1 q2 q3 q4
 try refine xst ?_
 cases hT:znu m' g with
 | none =>
  have hn:=z99 m' g hT
  refine zax (fun h=>absurd h (by simp;omega)) (fun _ => ?_)
  rw[z4t _ _ _ hT]at q5
  rw[q5]
  try refine xst ?_
  refine zcl (zof m' g A' (by omega)) (WkL.refl _) rfl ?_
  have mm:(decide (0≤(A':Int)∧(A':Int)<16)&&zcv m' (A':Int).toNat)=zcv m' A':=by rw[Int.toNat_natCast,decide_eq_true (by omega)];rfl
  rw[mm]
  try refine xst ?_
  (try refine⟨by kernel_rfl,?_⟩)
  exact zb0 rfl ⟨rfl,trivial⟩ (Wk.refl _)
 | some k =>
  have hk:=z5b m' g k hT
  obtain⟨k1,k2,k3⟩:=zhr m' g k hT
  obtain⟨n',j1,j2⟩:=z4s n m' g k hT q4
  rw[hk]
  refine zax (fun _ => ?_) (fun h=>absurd h (by simp))
  try refine xst ?_
  refine zfv [0,2] (ya4 m' k g (by omega) (by omega) k1 (by omega) q3) (WkL.refl _) rfl (by decide) (by simp[zbw]) ?_
  try refine xst ?_
  have hc:=znk m' k
  have hls:∀s∈lv g k,s<4294967296:=fun s hh=>by
   unfold lv at hh
   obtain⟨u,hu,rfl⟩:=List.mem_map.1 hh
   have hu2:u<4294967296:=by
    rcases List.mem_or_eq_of_mem_set hu with h|h
    ·exact q3 u h
    ·omega
   exact Nat.lt_of_le_of_lt (znk u k) hu2
  refine zcl (zix (clr m' k) (lv g k) (by omega) (by rw[zvn];omega) hls) (WkL.refl _) rfl ?_
  try refine xst ?_
  refine⟨(clr m' k,lv g k),⟨⟨by simp only;omega,by simp only;rw[zvn];omega,hls⟩,n',j1,by rw[q5,j2]⟩,z5h g k k1 k3,To.mk [0,1,2] rfl rfl (by decide) ?_ ?_⟩
  ·simp(etaStruct := .none)only[push_cast,zab,seval]
  ·simp(etaStruct := .none)only[push_cast,zab,seval]
end Go.Proofs.YtmjbgbmegbkmhaaGreat
namespace Go.Proofs.YtmjbgbmegbkmhaaGreat
set_option linter.all false
open Go.RowKit
set_option maxRecDepth 100000
set_option maxHeartbeats 1000000
structure Hst where
 sty:Sty
 seats:List Sea
 m:Nat
 ag:List Nat
 most:Int
deriving Inhabited
abbrev z3t (h:Hst):List AV := [I .i64 h.sty.start.f.w,I .i64 h.sty.start.f.h,.c (.sl 1 (h.sty.start.f.p.map zad)),.c (.sl 2 (h.sty.start.bases.map za2)),.c (.sl 1 (h.sty.start.stocks.map zad)),.c (.sl 1 (h.sty.start.mines.map zad)),.c (.sl 7 (h.sty.start.troops.map zat)),I .i64 h.sty.start.next,I .i64 h.sty.start.now,.c (.sl 1 (h.sty.turns.map zd0)),.c (.sl 3 (h.seats.map zbu)),I .u32 h.m,.c (.sl 1 (h.ag.map zjc)),I .i64 h.most]
abbrev zyf (h:Hst):AV := .agg (z3t h)
structure HstL (h : Hst) : Prop where
 s:StyL h.sty
 l:h.seats.length≤9223372036854775807
 a:∀s∈h.seats,zf0 s
 m:h.m<4294967296
 g:h.ag.length≤9223372036854775807
 e:∀s∈h.ag,s<4294967296
def zgp (h:Hst) (i:Nat):Bool:=decide ((h.seats.getD i default).gone = !zcv h.m i)
def zry (WR:Cel→List Int) (h:Hst):Int:=if zsd WR h.sty≠0 then zsd WR h.sty else if za6 h.seats≠0 then za6 h.seats else if za7 h.m h.ag≠0 then za7 h.m h.ag else if ¬(1≤h.most∧h.most≤100)then 1 else
 if h.seats.length≠h.sty.start.bases.length∨h.m/2 ^ h.seats.length≠0 then 4 else if (List.range h.seats.length).all (zgp h)then 0 else 4
theorem zs8 (n:Int):Spec Tryz.prog 27 [I .i64 n] [] (B (decide (1≤n)&&decide (n≤100))) []:=by
 refine spB Tryz.func27 9 [.tmp 2] Tryz.results27 ?_
 try refine xst ?_
 exact xrz rfl
theorem yde (m k:Nat) (hm:m<4294967296) (hk:k<32):decide (bits .and .u32 ((m:Int).fdiv (2 ^ min k IntKind.u32.bits)) 1=0) = !zcv m k:=by
 rw[zzh m k hk]
 have h1:m/2 ^ k≤m:=Nat.div_le_self _ _
 have:=z85 (m/2 ^ k) 1 (by omega) (by omega)
 rw[show ((1:Nat):Int)=1 from rfl]at this
 rw[this,Nat.and_one_is_mod]
 unfold zcv
 rw[Bool.eq_iff_iff]
 simp only[decide_eq_true_eq,Bool.not_eq_true',beq_eq_false_iff_ne]
 omega
theorem ydd (m k:Nat) (hm:m<4294967296) (hk:k<32):(m:Int).fdiv (2 ^ min k IntKind.u32.bits)=((m/2 ^ k:Nat):Int):=zzh m k hk
theorem zkb (h:Hst) (WR:Cel→List Int) (hWR:∀a,zas h.sty.start.f [a] (WR a)) (hl:HstL h):Spec Tryz.prog 31 [zyf h] [] (I .i64 (zry WR h)) []:=by
 have S1:=zz6 h.sty WR hWR hl.s
 have S2:=zdx h.seats hl.l hl.a
 have S3:=z27 h.m h.ag hl.m hl.g hl.e
 have eH:zry WR h=if zsd WR h.sty≠0 then zsd WR h.sty else if za6 h.seats≠0 then za6 h.seats else if za7 h.m h.ag≠0 then za7 h.m h.ag else if ¬(1≤h.most∧h.most≤100)then 1 else if h.seats.length≠h.sty.start.bases.length∨h.m/2 ^ h.seats.length≠0 then 4 else if (List.range h.seats.length).all (zgp h)then 0 else 4:=rfl
 have h8:za6 h.seats=0→h.seats.length≤8:=fun h0=>(zcb h0).2.1
 have hm:=hl.m
 generalize zry WR h=E at *
 generalize zsd WR h.sty=e1 at *
 generalize za6 h.seats=e2 at *
 generalize za7 h.m h.ag=e3 at *
 refine spB Tryz.func31 66 [.tmp 2] Tryz.results31 ?_
 (iterate 2((try simp(etaStruct := .none)only[push_cast,seval]);(try(refine xsu ?_;try exact xtI))))
 refine zbm [some 7,some 8,some 9,some 10,some 11,some 12,some 13,some 14,some 15,some 16,some 17] rfl ?_
 intro Oq lq Rq hlq hdq hRq
 subst hlq
 iterate 2(refine za1 fun rq hrq => ?_;(iterate 2((try simp(etaStruct := .none)only[push_cast,seval,hdq,id]);(try(refine xsu ?_;try exact xtI))));subst hrq)
 refine za1 fun rq hrq => ?_
 (iterate 2((try simp(etaStruct := .none)only[push_cast,seval,hdq,id]);(try(refine xsu ?_;try exact xtI))))
 refine caP (S1) ?_
 (iterate 2((try simp(etaStruct := .none)only[push_cast,seval,hdq,id]);(try(refine xsu ?_;try exact xtI))))
 subst hrq
 iterate 2(refine za1 fun rq hrq => ?_;(iterate 2((try simp(etaStruct := .none)only[push_cast,seval,hdq,id]);(try(refine xsu ?_;try exact xtI))));subst hrq)
 refine za1 fun rq hrq => ?_
 (iterate 2((try simp(etaStruct := .none)only[push_cast,seval,hdq,id]);(try(refine xsu ?_;try exact xtI))))
 refine caP (S2) ?_
 (iterate 2((try simp(etaStruct := .none)only[push_cast,seval,hdq,id]);(try(refine xsu ?_;try exact xtI))))
 subst hrq
 iterate 2(refine za1 fun rq hrq => ?_;(iterate 2((try simp(etaStruct := .none)only[push_cast,seval,hdq,id]);(try(refine xsu ?_;try exact xtI))));subst hrq)
 refine za1 fun rq hrq => ?_
 (iterate 2((try simp(etaStruct := .none)only[push_cast,seval,hdq,id]);(try(refine xsu ?_;try exact xtI))))
 refine caP (S3) ?_
 (iterate 2((try simp(etaStruct := .none)only[push_cast,seval,hdq,id]);(try(refine xsu ?_;try exact xtI))))
 subst hrq
 iterate 2(refine za1 fun rq hrq => ?_;(iterate 2((try simp(etaStruct := .none)only[push_cast,seval,hdq,id]);(try(refine xsu ?_;try exact xtI))));subst hrq)
 refine zml ?_
 subst hRq
 clear hdq Oq
 refine zmk (by kernel_rfl) ?_
 (iterate 2((try simp(etaStruct := .none)only[push_cast,seval]);(try(refine xsu ?_;try exact xtI))))
 refine zaw (fun k:Nat=>⟨[(17,I .i64 k),(16,.agg [I .i64 e1,I .i64 e2,I .i64 e3]),(1,.ptr 0 0 0)],[(0,.blk 40 (z3t h))],1⟩) (fun k:Nat=>k≤3∧(1≤k→e1=0)∧(2≤k→e2=0)∧(3≤k→e3=0)) (fun k:Nat=>3-k) (0) (⟨by omega,by omega,by omega,by omega⟩) (To.mk [0] rfl rfl (by decide) ?_ ?_) ?_
 ·simp(etaStruct := .none)only[push_cast,zab,seval]
 ·simp(etaStruct := .none)only[push_cast,zab,seval]
 rintro k ⟨hk,k1,k2,k3⟩
 (iterate 2((try simp(etaStruct := .none)only[push_cast,seval]);(try(refine xsu ?_;try exact xtI))))
 refine cI (fun h1 => ?_) fun h1 => ?_
 ·obtain⟨e,hx,he⟩:∃e:Int,([I .i64 e1,I .i64 e2,I .i64 e3]:List AV)[k]? = some (I .i64 e)∧(k=0∧e=e1∨k=1∧e=e2∨k=2∧e=e3):=by
   have:k=0∨k=1∨k=2:=by omega
   rcases this with rfl|rfl|rfl
   ·exact⟨e1,rfl,by omega⟩
   ·exact⟨e2,rfl,by omega⟩
   ·exact⟨e3,rfl,by omega⟩
  (iterate 2((try simp(etaStruct := .none)only[push_cast,seval,hx,Int.toNat_natCast,Nat.mul_one]);(try(refine xsu ?_;try exact xtI))))
  refine cI (fun h2 => ?_) fun h2 => ?_
  ·have eE:E=e:=by
    rw[eH]
    rcases he with ⟨a,rfl⟩|⟨a,rfl⟩|⟨a,rfl⟩
    ·rw[if_pos h2]
    ·rw[if_neg (fun x=>x (k1 (by omega))),if_pos h2]
    ·rw[if_neg (fun x=>x (k1 (by omega))),if_neg (fun x=>x (k2 (by omega))),if_pos h2]
   (iterate 2((try simp(etaStruct := .none)only[push_cast,seval,hx,Int.toNat_natCast,Nat.mul_one]);(try(refine xsu ?_;try exact xtI))))
   exact zb0 rfl trivial (Wk.of (by rw[eE];rfl))
  ·(iterate 2((try simp(etaStruct := .none)only[push_cast,seval,hx,Int.toNat_natCast,Nat.mul_one]);(try(refine xsu ?_;try exact xtI))))
   refine⟨k+1,⟨by omega,fun _=>by omega,fun _=>by omega,fun _=>by omega⟩,by omega,To.mk [0] rfl rfl (by decide) ?_ ?_⟩
   ·(iterate 2((try simp(etaStruct := .none)only[push_cast,seval,hx,Int.toNat_natCast,Nat.mul_one]);(try(refine xsu ?_;try exact xtI))))
   ·(iterate 2((try simp(etaStruct := .none)only[push_cast,seval,hx,Int.toNat_natCast,Nat.mul_one]);(try(refine xsu ?_;try exact xtI))))
 ·have z1:=k1 (by omega)
  have z2:=k2 (by omega)
  have z3:=k3 (by omega)
  have h8:=h8 z2
  rw[if_neg (fun x=>x z1),if_neg (fun x=>x z2),if_neg (fun x=>x z3)]at eH
  have hsh:=ydd h.m h.seats.length hm (by omega)
  (iterate 2((try simp(etaStruct := .none)only[push_cast,seval]);(try(refine xsu ?_;try exact xtI))))
  refine caP (zs8 h.most) ?_
  (iterate 2((try simp(etaStruct := .none)only[push_cast,seval]);(try(refine xsu ?_;try exact xtI))))
  refine cI (fun h3 => ?_) fun h3 => ?_
  ·have eE:E=1:=by rw[eH,if_pos (by omega)]
   (iterate 2((try simp(etaStruct := .none)only[push_cast,seval]);(try(refine xsu ?_;try exact xtI))))
   exact zb0 rfl trivial (Wk.of (by rw[eE];rfl))
  ·rw[if_neg (by omega)]at eH
   (iterate 2((try simp(etaStruct := .none)only[push_cast,seval]);(try(refine xsu ?_;try exact xtI))))
   refine cI (fun h4 => ?_) fun h4 => ?_
   ·have eE:E=4:=by
     rw[eH,if_pos]
     have:=Int.natCast_eq_zero (n:=h.m/2 ^ h.seats.length)
     generalize h.m/2 ^ h.seats.length=z at *
     omega
    (iterate 2((try simp(etaStruct := .none)only[push_cast,seval]);(try(refine xsu ?_;try exact xtI))))
    exact zb0 rfl trivial (Wk.of (by rw[eE];rfl))
   ·rw[if_neg (by generalize h.m/2 ^ h.seats.length=z at *;omega)]at eH
    (iterate 2((try simp(etaStruct := .none)only[push_cast,seval]);(try(refine xsu ?_;try exact xtI))))
    refine zaw (fun k:Nat=>⟨[(50,I .i64 k),(49,I .i64 h.seats.length),(48,.c (.sl 3 (h.seats.map zbu))),(1,.ptr 0 0 0)],[(0,.blk 40 (z3t h))],1⟩) (fun k:Nat=>k≤h.seats.length∧∀j,j<k→zgp h j=true) (fun k:Nat=>h.seats.length-k) (0) (⟨Nat.zero_le _,fun j hj=>by omega⟩) (To.mk [0] rfl rfl (by decide) ?_ ?_) ?_
    ·simp(etaStruct := .none)only[push_cast,zab,seval]
    ·simp(etaStruct := .none)only[push_cast,zab,seval]
    rintro k ⟨hk2,hn⟩
    (iterate 2((try simp(etaStruct := .none)only[push_cast,seval]);(try(refine xsu ?_;try exact xtI))))
    refine cI (fun h5 => ?_) fun h5 => ?_
    ·have hlt:k<h.seats.length:=by omega
     have hub:=yde h.m k hm (by omega)
     (iterate 2((try simp(etaStruct := .none)only[push_cast,seval,zaa _ _ _ hlt,zbu,hub]);(try(refine xsu ?_;try exact xtI))))
     refine zbm [some 55,some 56,some 57,some 58,some 59,some 60,some 61,some 62,some 63,some 64] rfl ?_
     intro Oq lq Rq hlq hdq hRq
     subst hlq
     iterate 10(refine za1 fun rq hrq => ?_;(iterate 2((try simp(etaStruct := .none)only[push_cast,seval,hdq,id,zaa _ _ _ hlt,zbu,hub]);(try(refine xsu ?_;try exact xtI))));subst hrq)
     refine zml ?_
     subst hRq
     clear hdq Oq
     refine zmk (by kernel_rfl) ?_
     (iterate 2((try simp(etaStruct := .none)only[push_cast,seval,zaa _ _ _ hlt,zbu,hub]);(try(refine xsu ?_;try exact xtI))))
     refine cI (fun h6 => ?_) fun h6 => ?_
     ·have eE:E=4:=by
       rw[eH,if_neg]
       intro ha
       have hx:=List.all_eq_true.1 ha k (List.mem_range.2 hlt)
       unfold zgp at hx
       exact h6 (of_decide_eq_true hx)
      (iterate 2((try simp(etaStruct := .none)only[push_cast,seval,zaa _ _ _ hlt,zbu,hub]);(try(refine xsu ?_;try exact xtI))))
      exact zb0 rfl trivial (Wk.of (by rw[eE];rfl))
     ·have hnn:∀j,j<k+1→zgp h j=true:=fun j hj=>by
       rcases Nat.lt_or_ge j k with hx|hx
       ·exact hn j hx
       ·rw[show j=k by omega];unfold zgp;rw[decide_eq_true h6]
      (iterate 2((try simp(etaStruct := .none)only[push_cast,seval,zaa _ _ _ hlt,zbu,hub]);(try(refine xsu ?_;try exact xtI))))
      refine⟨k+1,⟨by omega,hnn⟩,by omega,To.mk [0] rfl rfl (by decide) ?_ ?_⟩
      ·(iterate 2((try simp(etaStruct := .none)only[push_cast,seval,zaa _ _ _ hlt,zbu,hub]);(try(refine xsu ?_;try exact xtI))))
      ·simp(etaStruct := .none)only[push_cast,zab,seval]
    ·have eE:E=0:=by
      rw[eH,if_pos]
      rw[List.all_eq_true]
      intro j hj
      exact hn j (by have:=List.mem_range.1 hj;omega)
     (iterate 2((try simp(etaStruct := .none)only[push_cast,seval]);(try(refine xsu ?_;try exact xtI))))
     exact zb0 rfl trivial (Wk.of (by rw[eE];rfl))
end Go.Proofs.YtmjbgbmegbkmhaaGreat
namespace Go.Proofs.YtmjbgbmegbkmhaaGreat
set_option linter.all false
open Go.RowKit
set_option maxRecDepth 100000
set_option maxHeartbeats 2000000
structure HstB (h : Hst) : Prop where
 p:h.sty.start.f.p.length≤17592186044415
 b:h.sty.start.bases.length≤8796093022207
 s:h.sty.start.stocks.length≤17592186044415
 m:h.sty.start.mines.length≤17592186044415
 t:h.sty.start.troops.length≤2513169434916
 u:∀l∈h.sty.turns,l.length≤2932031007402
 n:h.sty.turns.length≤5864062014800
 w:∀s∈h.seats,s.waits.length≤2932031007402
 l:h.seats.length≤3518437208780
 g:h.ag.length≤35184372088831
theorem z34 (l:List Nat) (hl:l.length≤35184372088831):Spec Tryz.prog 72 [.c (.sl 1 (l.map zjc))] [] (.c (.sl 1 (l.map zjc))) []:=by
 refine spB Tryz.func72 8 [.tmp 2] Tryz.results72 ?_
 try refine xst ?_
 intro b hb
 try refine xst ?_
 refine zax (fun h => ?_) (fun h => ?_)
 ·try refine xst ?_
  exact zb0 rfl trivial (by rw[hb h];exact Wk.nil _)
 ·try refine xst ?_
  exact zb0 rfl trivial (Wk.refl _)
abbrev yfa:List AV := [I .i64 0,I .i64 0,.c (.v (.slice none 0 0)),.c (.v (.slice none 0 0)),.c (.v (.slice none 0 0)),.c (.v (.slice none 0 0)),.c (.v (.slice none 0 0)),I .i64 0,I .i64 0,.c (.v (.slice none 0 0)),.c (.v (.slice none 0 0)),I .u32 0,.c (.v (.slice none 0 0)),I .i64 0]
theorem zib (h:Hst) (hb:HstB h):Spec Tryz.prog 30 [zyf h] [] (zyf h) []:=by
 refine spB Tryz.func30 105 [.cell 2 40] Tryz.results30 ?_
 have hbn:=hb.n
 have hbl:=hb.l
 (iterate 2((try simp(etaStruct := .none)only[push_cast,seval]);(try(refine xsu ?_;try exact xtI))))
 refine zbm [some 12,some 13,some 14,some 15,some 16,some 17,some 18,some 19,some 20,some 21,some 22,some 23,some 24,some 25,some 26,some 27,some 28,some 29,some 30,some 31,some 32,some 33,none,some 34,some 35,none,some 36,some 37,none] rfl ?_
 intro Oq lq Rq hlq hdq hRq
 subst hlq
 iterate 8(refine za1 fun rq hrq => ?_;(iterate 2((try simp(etaStruct := .none)only[push_cast,seval,hdq,id]);(try(refine xsu ?_;try exact xtI))));subst hrq)
 refine za1 fun rq hrq => ?_
 (iterate 2((try simp(etaStruct := .none)only[push_cast,seval,hdq,id]);(try(refine xsu ?_;try exact xtI))))
 refine caP (zfh h.sty.start.f.p hb.p) ?_
 (iterate 2((try simp(etaStruct := .none)only[push_cast,seval,hdq,id]);(try(refine xsu ?_;try exact xtI))))
 subst hrq
 iterate 4(refine za1 fun rq hrq => ?_;(iterate 2((try simp(etaStruct := .none)only[push_cast,seval,hdq,id]);(try(refine xsu ?_;try exact xtI))));subst hrq)
 refine za1 fun rq hrq => ?_
 (iterate 2((try simp(etaStruct := .none)only[push_cast,seval,hdq,id]);(try(refine xsu ?_;try exact xtI))))
 refine caP (zo7 h.sty.start.bases hb.b) ?_
 (iterate 2((try simp(etaStruct := .none)only[push_cast,seval,hdq,id]);(try(refine xsu ?_;try exact xtI))))
 subst hrq
 iterate 4(refine za1 fun rq hrq => ?_;(iterate 2((try simp(etaStruct := .none)only[push_cast,seval,hdq,id]);(try(refine xsu ?_;try exact xtI))));subst hrq)
 refine za1 fun rq hrq => ?_
 (iterate 2((try simp(etaStruct := .none)only[push_cast,seval,hdq,id]);(try(refine xsu ?_;try exact xtI))))
 refine caP (zfh h.sty.start.stocks hb.s) ?_
 (iterate 2((try simp(etaStruct := .none)only[push_cast,seval,hdq,id]);(try(refine xsu ?_;try exact xtI))))
 subst hrq
 iterate 10(refine za1 fun rq hrq => ?_;(iterate 2((try simp(etaStruct := .none)only[push_cast,seval,hdq,id]);(try(refine xsu ?_;try exact xtI))));subst hrq)
 refine zml ?_
 subst hRq
 clear hdq Oq
 refine zmk (by kernel_rfl) ?_
 (iterate 2((try simp(etaStruct := .none)only[push_cast,seval]);(try(refine xsu ?_;try exact xtI))))
 refine zbm [some 38,some 39,some 40,some 41,some 42,some 43,some 44,some 45,some 46,some 47,some 48,some 49,some 50,some 51,none,some 52,some 53,none] rfl ?_
 intro Oq lq Rq hlq hdq hRq
 subst hlq
 iterate 6(refine za1 fun rq hrq => ?_;(iterate 2((try simp(etaStruct := .none)only[push_cast,seval,hdq,id]);(try(refine xsu ?_;try exact xtI))));subst hrq)
 refine za1 fun rq hrq => ?_
 (iterate 2((try simp(etaStruct := .none)only[push_cast,seval,hdq,id]);(try(refine xsu ?_;try exact xtI))))
 refine caP (zfh h.sty.start.mines hb.m) ?_
 (iterate 2((try simp(etaStruct := .none)only[push_cast,seval,hdq,id]);(try(refine xsu ?_;try exact xtI))))
 subst hrq
 iterate 4(refine za1 fun rq hrq => ?_;(iterate 2((try simp(etaStruct := .none)only[push_cast,seval,hdq,id]);(try(refine xsu ?_;try exact xtI))));subst hrq)
 refine za1 fun rq hrq => ?_
 (iterate 2((try simp(etaStruct := .none)only[push_cast,seval,hdq,id]);(try(refine xsu ?_;try exact xtI))))
 refine caP (zua h.sty.start.troops hb.t) ?_
 (iterate 2((try simp(etaStruct := .none)only[push_cast,seval,hdq,id]);(try(refine xsu ?_;try exact xtI))))
 subst hrq
 iterate 6(refine za1 fun rq hrq => ?_;(iterate 2((try simp(etaStruct := .none)only[push_cast,seval,hdq,id]);(try(refine xsu ?_;try exact xtI))));subst hrq)
 refine zml ?_
 subst hRq
 clear hdq Oq
 refine zmk (by kernel_rfl) ?_
 (iterate 2((try simp(etaStruct := .none)only[push_cast,seval]);(try(refine xsu ?_;try exact xtI))))
 refine zaw (fun k:Nat=>⟨[(63,I .i64 k),(62,I .i64 h.sty.turns.length),(61,.c (.sl 1 (h.sty.turns.map zd0))),(4,.own 2),(2,.ptr 1 0 0),(1,.ptr 0 0 0)],[(0,.blk 40 (z3t h)),(1,.blk 40 yfa),(2,.row 53 1 ((h.sty.turns.take k).map zd0))],3⟩) (fun k:Nat=>k≤h.sty.turns.length) (fun k:Nat=>h.sty.turns.length-k) (0) (Nat.zero_le _) (To.mk [0,1,190] rfl rfl (by decide) ?_ ?_) ?_
 ·simp(etaStruct := .none)only[push_cast,zab,seval,List.take_zero,List.map_nil]
 ·simp(etaStruct := .none)only[push_cast,zab,seval]
 rintro k hk
 (iterate 2((try simp(etaStruct := .none)only[push_cast,seval]);(try(refine xsu ?_;try exact xtI))))
 refine cI (fun h1 => ?_) fun h1 => ?_
 ·have hlt:k<h.sty.turns.length:=by omega
  have ts:=zan h.sty.turns k hlt
  have hlk:(h.sty.turns.take k).length=k:=by rw[List.length_take];omega
  have hln:=hb.u (h.sty.turns.getD k default) (zaz _ _ hlt)
  (iterate 2((try simp(etaStruct := .none)only[push_cast,seval,zaa _ _ _ hlt,zd0]);(try(refine xsu ?_;try exact xtI))))
  refine caP (zh3 (h.sty.turns.getD k default) hln) ?_
  (iterate 2((try simp(etaStruct := .none)only[push_cast,seval,zaa _ _ _ hlt,zd0]);(try(refine xsu ?_;try exact xtI))))
  refine⟨k+1,by omega,by omega,To.mk [0,1,4] rfl rfl (by decide) ?_ ?_⟩
  ·(iterate 2((try simp(etaStruct := .none)only[push_cast,seval,ts,List.map_append,zd0]);(try(refine xsu ?_;try exact xtI))))
  ·(iterate 2((try simp(etaStruct := .none)only[push_cast,seval,zaa _ _ _ hlt,zd0]);(try(refine xsu ?_;try exact xtI))))
 ·obtain rfl:k=h.sty.turns.length:=by omega
  (iterate 2((try simp(etaStruct := .none)only[push_cast,seval,List.take_length]);(try(refine xsu ?_;try exact xtI))))
  refine zaw (fun k:Nat=>⟨[(80,I .i64 k),(79,I .i64 h.seats.length),(78,.c (.sl 3 (h.seats.map zbu))),(7,.own 3),(4,.own 2),(2,.ptr 1 0 0),(1,.ptr 0 0 0)],[(0,.blk 40 (z3t h)),(1,.blk 40 yfa),(2,.row 53 1 (h.sty.turns.map zd0)),(3,.row 169 3 ((h.seats.take k).map zbu))],4⟩) (fun k:Nat=>k≤h.seats.length) (fun k:Nat=>h.seats.length-k) (0) (Nat.zero_le _) (To.mk [0,1,2,3] rfl rfl (by decide) ?_ ?_) ?_
  ·simp(etaStruct := .none)only[push_cast,zab,seval,List.take_length,List.take_zero,List.map_nil]
  ·simp(etaStruct := .none)only[push_cast,zab,seval]
  rintro k hk2
  (iterate 2((try simp(etaStruct := .none)only[push_cast,seval,List.take_length]);(try(refine xsu ?_;try exact xtI))))
  refine cI (fun h2 => ?_) fun h2 => ?_
  ·have hlt:k<h.seats.length:=by omega
   have ts:=zan h.seats k hlt
   have hlk:(h.seats.take k).length=k:=by rw[List.length_take];omega
   have hln:=hb.w (h.seats.getD k default) (zaz _ _ hlt)
   (iterate 2((try simp(etaStruct := .none)only[push_cast,seval,List.take_length,zaa _ _ _ hlt,zbu]);(try(refine xsu ?_;try exact xtI))))
   refine caP (zh3 (h.seats.getD k default).waits hln) ?_
   (iterate 2((try simp(etaStruct := .none)only[push_cast,seval,List.take_length,zaa _ _ _ hlt,zbu]);(try(refine xsu ?_;try exact xtI))))
   refine⟨k+1,by omega,by omega,To.mk [0,1,2,6] rfl rfl (by decide) ?_ ?_⟩
   ·(iterate 2((try simp(etaStruct := .none)only[push_cast,seval,ts,List.map_append,zbu]);(try(refine xsu ?_;try exact xtI))))
   ·(iterate 2((try simp(etaStruct := .none)only[push_cast,seval,List.take_length,zaa _ _ _ hlt,zbu]);(try(refine xsu ?_;try exact xtI))))
  ·obtain rfl:k=h.seats.length:=by omega
   (iterate 2((try simp(etaStruct := .none)only[push_cast,seval,List.take_length,List.take_length]);(try(refine xsu ?_;try exact xtI))))
   refine caP (z34 h.ag hb.g) ?_
   (iterate 2((try simp(etaStruct := .none)only[push_cast,seval,List.take_length,List.take_length]);(try(refine xsu ?_;try exact xtI))))
   exact xrz rfl
end Go.Proofs.YtmjbgbmegbkmhaaGreat
namespace Go.Proofs.YtmjbgbmegbkmhaaGreat
set_option linter.all false
open Go.RowKit
set_option maxRecDepth 100000
set_option maxHeartbeats 1000000
def z9u (s:Sea):List PV := [.undef,pI s.late,pB s.gone]
theorem yjj (s:Sea):z9u s = [.undef,pI s.late,pB s.gone]:=rfl
def waP (s:Sea):List (List PV):=s.waits.map zd4
theorem yc9 (l:List Sea) (i:Nat) (hi:i<l.length):(l.map waP).getD i []=(l.getD i default).waits.map zd4:=by simp[waP,hi]
theorem z84 (l:List Sea) (i:Nat) (w:List Ord) (hi:i<l.length):unN 0 6 (l.map z9u) ((l.map waP).set i (w.map zd4))=(l.set i ⟨w,(l.getD i default).late,(l.getD i default).gone⟩).map zbu:=by
 apply List.ext_getElem?
 intro j
 unfold unN
 rw[List.getElem?_zipWith,List.getElem?_map,List.getElem?_map,List.getElem?_set,List.getElem?_set]
 by_cases hij:i=j
 ·subst hij
  simp[hi,z9u,zbu]
 ·rw[if_neg hij,if_neg hij,List.getElem?_map]
  cases l[j]? <;> simp[z9u,zbu,waP]
def zp2 (l:List Sea) (o:Ord):Int :=
 if za6 l≠0 then za6 l else if zer o≠0 then zer o else if (l.length:Int)≤o.by_ then 7 else if (l.getD o.by_.toNat default).gone=true then 9 else if (l.getD o.by_.toNat default).waits.length=50 then 6 else 0
def zuo (l:List Sea) (o:Ord):List Sea:=l.set o.by_.toNat ⟨(l.getD o.by_.toNat default).waits ++ [o],(l.getD o.by_.toNat default).late,(l.getD o.by_.toNat default).gone⟩
def zg0 (l:List Sea) (p:Int):List Sea:=l.set p.toNat ⟨[],0,true⟩
def PvLe (p q:PV):Prop:=p=q∨(p = .v (.slice none 0 0)∧∃s,q = .sl s [])
inductive RowLe : List PV → List PV → Prop where
 | nil:RowLe [] []
 | cons {p q:PV} {r s:List PV} : PvLe p q→RowLe r s→RowLe (p::r) (q::s)
inductive RowsLe : List (List PV) → List (List PV) → Prop where
 | nil:RowsLe [] []
 | cons {p q:List PV} {r s:List (List PV)} : RowLe p q→RowsLe r s→RowsLe (p::r) (q::s)
theorem RowLe.len {a b:List PV} (h:RowLe a b):a.length=b.length:=by
 induction h with
 | nil=>rfl
 | cons _ _ ih=>simp[ih]
theorem RowsLe.len {a b:List (List PV)} (h:RowsLe a b):a.length=b.length:=by
 induction h with
 | nil=>rfl
 | cons _ _ ih=>simp[ih]
theorem PvLe.run {w:World} {F:Nat→Prop} {p q:PV} {u:Value} (h:PvLe p q) (hr:RelP w F p u):RelP w F q u:=by
 rcases h with rfl|⟨rfl,s,rfl⟩
 ·exact hr
 ·simp only[RelP]at hr ⊢
  exact⟨none,0,hr.1,Nat.le_refl _,Nat.zero_le _,.inl trivial⟩
theorem RowLe.run {w:World} {F:Nat→Prop} {b:Nat} {xs ys:List PV} (h:RowLe xs ys):∀ {o:Nat},RelC w F b o xs→RelC w F b o ys:=by
 induction h with
 | nil=>intro o hr;exact hr
 | cons hp _ ih =>
  intro o hr
  simp only[RelC]at hr ⊢
  obtain⟨⟨u,h1,h2⟩,h3⟩:=hr
  exact⟨⟨u,h1,hp.run h2⟩,ih h3⟩
theorem RowsLe.run {w:World} {F:Nat→Prop} {b sz:Nat} {xs ys:List (List PV)} (h:RowsLe xs ys):∀ {o:Nat},RelE w F b sz o xs→RelE w F b sz o ys:=by
 induction h with
 | nil=>intro o hr;exact hr
 | cons hp _ ih =>
  intro o hr
  simp only[RelE]at hr ⊢
  exact⟨by rw[←hp.len];exact hr.1,hp.run hr.2.1,ih hr.2.2⟩
theorem Wk.rows {sz:Nat} {xs ys:List (List PV)} (h:RowsLe xs ys):Wk (.c (.sl sz xs)) (.c (.sl sz ys)):=fun _ _ _ _ v hv=>by
 simp only[RelA,RelP]at hv ⊢
 obtain⟨a,c,rfl,h1,h2,h3⟩:=hv
 rw[h.len]at h1 ⊢
 refine⟨a,c,rfl,h1,h2,?_⟩
 rcases h3 with rfl|⟨b,o,rfl,hb,hE⟩
 ·exact .inl (List.eq_nil_of_length_eq_zero h.len.symm)
 ·exact .inr ⟨b,o,rfl,hb,h.run hE⟩
theorem RowsLe.rep {x y:List PV} (h:RowLe x y):∀n,RowsLe (List.replicate n x) (List.replicate n y)
 | 0 => .nil
 | n+1=>by rw[List.replicate_succ,List.replicate_succ];exact .cons h (RowsLe.rep h n)
theorem z4l:RowLe [.v (.slice none 0 0),.v (.int .i64 0),.v (.bool false)] (zbu ⟨[],0,false⟩) := .cons (.inr ⟨rfl,6,rfl⟩) (.cons (.inl rfl) (.cons (.inl rfl) .nil))
theorem RowLe.refl:∀a:List PV,RowLe a a
 | [] => .nil
 | _::r => .cons (.inl rfl) (RowLe.refl r)
theorem RowsLe.refl:∀a:List (List PV),RowsLe a a
 | [] => .nil
 | _::r => .cons (RowLe.refl _) (RowsLe.refl r)
theorem RowsLe.set {x y:List PV} (h:RowLe x y):∀(l:List (List PV)) (i:Nat),RowsLe (l.set i x) (l.set i y)
 | [],_ => .nil
 | _::r,0 => .cons h (RowsLe.refl r)
 | _::r,i+1 => .cons (RowLe.refl _) (RowsLe.set h r i)
theorem z4m:RowLe [.v (.slice none 0 0),.v (.int .i64 0),.v (.bool true)] (zbu ⟨[],0,true⟩) := .cons (.inr ⟨rfl,6,rfl⟩) (.cons (.inl rfl) (.cons (.inl rfl) .nil))
theorem zyc (l:List Sea) (p:Int):(zg0 l p).map zbu=(l.map zbu).set p.toNat (zbu ⟨[],0,true⟩):=by unfold zg0;rw[List.map_set]
theorem ydp (n:Int) (h:1≤n∧n≤8):Spec Tryz.prog 28 [I .i64 n] [] (.tup [.c (.sl 3 ((List.replicate n.toNat (⟨[],0,false⟩:Sea)).map zbu)),I .i64 0]) []:=by
 refine spB Tryz.func28 12 [.tmp 2,.tmp 3] Tryz.results28 ?_
 try refine xst ?_
 refine cI (fun h1 => ?_) fun h1 => ?_
 ·omega
 ·try refine xst ?_
  refine zb0 rfl (by repeat' (first|exact trivial|exact rfl|omega|refine⟨?_,?_⟩)) (Wk.tup ⟨?_,?_,trivial⟩)
  ·refine Wk.rows ?_
   simp only[List.map_replicate]
   exact RowsLe.rep z4l _
  ·exact Wk.refl _
theorem ydo (l:List Sea) (hl:l.length≤100000) (hs:∀s∈l,zf0 s) (i:Nat) (hi:i<l.length):Spec Tryz.prog 76 [.c (.sl 3 (l.map zbu))] [] (.own 0) [.nst 169 3 0 48 6 (l.map z9u) (l.map waP) (some (i,1)),.row 48 6 ((l.getD i default).waits.map zd4)]:=by
 refine spB Tryz.func76 25 [.tmp 2] Tryz.results76 ?_
 iterate 2(try simp(etaStruct := .none)only[push_cast,zab,seval,List.length_take,List.length_map];try refine xsu ?_)
 refine zaw (fun k:Nat=>⟨[(11,I .i64 k),(10,I .i64 l.length),(9,.c (.sl 3 (l.map zbu))),(3,.own 0)],[(0,.nst 169 3 0 48 6 ((l.take k).map z9u) ((l.take k).map waP) none)],1⟩) (fun k:Nat=>k≤l.length) (fun k:Nat=>l.length-k) (0) (Nat.zero_le _) ((To.nst 0 169 3 0 48 6 [] rfl (by decide) (by simp)).trans (To.mk [0] rfl rfl (by decide) ?_ ?_)) ?_
 ·simp(etaStruct := .none)only[push_cast,zab,seval]
 ·simp(etaStruct := .none)only[push_cast,zab,seval]
 rintro k hk
 iterate 2(try simp(etaStruct := .none)only[push_cast,zab,seval,List.length_take,List.length_map];try refine xsu ?_)
 refine cI (fun h1 => ?_) fun h1 => ?_
 ·have hlt:k<l.length:=by omega
  iterate 2(try simp(etaStruct := .none)only[push_cast,zab,seval,List.length_take,List.length_map,zaa _ _ _ hlt,zbu];try refine xsu ?_)
  have ts:=zan l k hlt
  refine caM [] ((z0t (l.getD k default).waits (hs _ (by rw[zac _ _ hlt];exact List.getElem_mem hlt))).keep) ?_
  iterate 2(try simp(etaStruct := .none)only[push_cast,zab,seval,List.length_take,List.length_map,zaa _ _ _ hlt,zbu];try refine xsu ?_)
  refine⟨k+1,by omega,by omega,To.mk [4] rfl rfl (by decide) ?_ ?_⟩
  ·(iterate 2((try simp(etaStruct := .none)only[push_cast,zab,seval,ts,List.map_append,z9u,waP]);(try(refine xsu ?_;try exact xtI))))
  ·(iterate 2((try simp(etaStruct := .none)only[push_cast,zab,seval,List.length_take,List.length_map,zaa _ _ _ hlt,zbu]);(try(refine xsu ?_;try exact xtI))))
 ·obtain rfl:k=l.length:=by omega
  iterate 2(try simp(etaStruct := .none)only[push_cast,zab,seval,List.length_take,List.length_map];try refine xsu ?_)
  refine zmg (To.open 0 i 169 3 0 48 6 _ _ rfl (by simpa using hi)) (zcc [0,1] rfl rfl (by decide) ⟨?_,?_,trivial⟩ trivial ?_)
  ·simp(etaStruct := .none)only[push_cast,zab,seval,List.take_length]
  ·simp(etaStruct := .none)only[push_cast,zab,seval,List.take_length,yc9 l i hi]
  ·simp(etaStruct := .none)only[push_cast,zab,seval]
theorem z9h (l:List Sea) (o:Ord) (hl:l.length≤9223372036854775807) (hs:∀s∈l,zf0 s) (h:zp2 l o=0):Spec Tryz.prog 32 [.c (.sl 3 (l.map zbu)),zpf o] [] (.tup [.c (.sl 3 ((zuo l o).map zbu)),I .i64 0]) []:=by
 have SC:=zdx l hl hs
 have OC:=zfc o
 unfold zp2 at h
 split at h
 ·rename_i h';exact absurd h h'
 rename_i hE
 have hE:za6 l=0:=by simpa using hE
 split at h
 ·rename_i h';exact absurd h h'
 rename_i hO
 have hO:zer o=0:=by simpa using hO
 split at h
 ·simp at h
 rename_i hby
 split at h
 ·simp at h
 rename_i hg
 split at h
 ·simp at h
 rename_i hw
 have hb0:=(zfa hO).1.1
 have hlt:o.by_.toNat<l.length:=by omega
 have hl8:=(zcb hE).2.1
 have hwl:(l.getD o.by_.toNat default).waits.length≤50:=(zcb hE).2.2.1 _ (by rw[zac _ _ hlt];exact List.getElem_mem hlt)
 rw[hE]at SC
 rw[hO]at OC
 refine spB Tryz.func32 58 [.tmp 4,.tmp 5] Tryz.results32 ?_
 try refine xst ?_
 refine caP (SC) ?_
 try refine xst ?_
 refine cI (fun h1 => ?_) fun h1 => ?_
 ·try refine xst ?_
  refine caP (OC) ?_
  try refine xst ?_
  refine cI (fun h2 => ?_) fun h2 => ?_
  ·simp at h2
  ·try refine xst ?_
   refine cI (fun h3 => ?_) fun h3 => ?_
   ·omega
   ·try refine xz2 (gd hlt) zcf ?_
    refine cI (fun h4 => ?_) fun h4 => ?_
    ·exact absurd h4 hg
    ·try refine xz2 (gd hlt) zcf ?_
     refine cI (fun h5 => ?_) fun h5 => ?_
     ·omega
     ·try refine xz2 (gd hlt) zcf ?_
      refine cI (fun h6 => ?_) fun h6 => ?_
      ·simp at h6
      ·try refine xz2 (gd hlt) zcf ?_
       refine caM [] (ydo l (by omega) hs o.by_.toNat hlt) ?_
       try refine xz2 (gd hlt) zcf ?_
       (try(refine⟨by kernel_rfl,?_⟩))
       try refine xz2 (gd hlt) zcf ?_
       refine zmg (To.close 1 _ _ _ _ _ _ _ _ _ _ rfl rfl) (zmg (To.frzN 1 _ _ _ _ _ _ _ rfl) (zb0 rfl (by repeat' (first|exact trivial|exact rfl|omega|refine⟨?_,?_⟩)) (Wk.tup ⟨Wk.of ?_,Wk.refl _,trivial⟩)))
       have ha:∀x,x=zd4 o→(l.getD o.by_.toNat default).waits.map zd4 ++ [x]=((l.getD o.by_.toNat default).waits ++ [o]).map zd4:=by rintro _ rfl;simp
       show AV.c (.sl 3 _)=_
       rw[ha]
       ·rw[z84 l _ _ hlt];rfl
       ·rfl
 ·simp at h1
theorem zxh (l:List Sea) (o:Ord):zp2 l o=0∨(za6 l≠0∧zp2 l o=za6 l)∨(za6 l=0∧zer o≠0∧zp2 l o=zer o)∨(za6 l=0∧zer o=0∧(l.length:Int)≤o.by_∧zp2 l o=7) ∨
 (za6 l=0∧zer o=0∧¬(l.length:Int)≤o.by_∧(l.getD o.by_.toNat default).gone=true∧zp2 l o=9) ∨
 (za6 l=0∧zer o=0∧¬(l.length:Int)≤o.by_∧(l.getD o.by_.toNat default).gone=false∧(l.getD o.by_.toNat default).waits.length=50∧zp2 l o=6):=by
 unfold zp2
 split
 ·rename_i h;exact .inr (.inl ⟨h,rfl⟩)
 rename_i h1
 split
 ·rename_i h;exact .inr (.inr (.inl ⟨by simpa using h1,h,rfl⟩))
 rename_i h2
 split
 ·rename_i h;exact .inr (.inr (.inr (.inl ⟨by simpa using h1,by simpa using h2,h,rfl⟩)))
 rename_i h3
 split
 ·rename_i h;exact .inr (.inr (.inr (.inr (.inl ⟨by simpa using h1,by simpa using h2,h3,h,rfl⟩))))
 rename_i h4
 split
 ·rename_i h;exact .inr (.inr (.inr (.inr (.inr ⟨by simpa using h1,by simpa using h2,h3,by simpa using h4,h,rfl⟩))))
 ·exact .inl rfl
theorem z9m (l:List Sea) (o:Ord) (hl:l.length≤9223372036854775807) (hs:∀s∈l,zf0 s) (h:za6 l≠0):Spec Tryz.prog 32 [.c (.sl 3 (l.map zbu)),zpf o] [] (.tup [.c (.sl 3 (([]:List Sea).map zbu)),I .i64 (za6 l)]) []:=by
 have SC:=zdx l hl hs
 refine spB Tryz.func32 58 [.tmp 4,.tmp 5] Tryz.results32 ?_
 try refine xst ?_
 refine caP (SC) ?_
 try refine xst ?_
 refine cI (fun h1 => ?_) fun h1 => ?_
 ·exact absurd h1 h
 ·try refine xst ?_
  refine cI (fun h2 => ?_) fun h2 => ?_
  ·try refine xst ?_
   refine cI (fun h3 => ?_) fun h3 => ?_
   ·try refine xst ?_
    exact xrz rfl
   ·exact absurd h3 h
  ·exact absurd h2 h
theorem z9l (l:List Sea) (o:Ord) (hl:l.length≤9223372036854775807) (hs:∀s∈l,zf0 s) (hE:za6 l=0) (h:zer o≠0):Spec Tryz.prog 32 [.c (.sl 3 (l.map zbu)),zpf o] [] (.tup [.c (.sl 3 (([]:List Sea).map zbu)),I .i64 (zer o)]) []:=by
 have SC:=zdx l hl hs
 have OC:=zfc o
 rw[hE]at SC
 refine spB Tryz.func32 58 [.tmp 4,.tmp 5] Tryz.results32 ?_
 try refine xst ?_
 refine caP (SC) ?_
 try refine xst ?_
 refine cI (fun h1 => ?_) fun h1 => ?_
 ·try refine xst ?_
  refine caP (OC) ?_
  try refine xst ?_
  refine cI (fun h2 => ?_) fun h2 => ?_
  ·try refine xst ?_
   refine cI (fun h3 => ?_) fun h3 => ?_
   ·try refine xst ?_
    exact xrz rfl
   ·exact absurd h3 h
  ·exact absurd h2 h
 ·simp at h1
theorem z9k (l:List Sea) (o:Ord) (hl:l.length≤9223372036854775807) (hs:∀s∈l,zf0 s) (hE:za6 l=0) (hO:zer o=0) (h:(l.length:Int)≤o.by_):Spec Tryz.prog 32 [.c (.sl 3 (l.map zbu)),zpf o] [] (.tup [.c (.sl 3 (([]:List Sea).map zbu)),I .i64 7]) []:=by
 have SC:=zdx l hl hs
 have OC:=zfc o
 rw[hE]at SC
 rw[hO]at OC
 refine spB Tryz.func32 58 [.tmp 4,.tmp 5] Tryz.results32 ?_
 try refine xst ?_
 refine caP (SC) ?_
 try refine xst ?_
 refine cI (fun h1 => ?_) fun h1 => ?_
 ·try refine xst ?_
  refine caP (OC) ?_
  try refine xst ?_
  refine cI (fun h2 => ?_) fun h2 => ?_
  ·simp at h2
  ·try refine xst ?_
   refine cI (fun h3 => ?_) fun h3 => ?_
   ·try refine xst ?_
    refine cI (fun h4 => ?_) fun h4 => ?_
    ·try refine xst ?_
     exact xrz rfl
    ·simp at h4
   ·omega
 ·simp at h1
theorem z9j (l:List Sea) (o:Ord) (hl:l.length≤9223372036854775807) (hs:∀s∈l,zf0 s) (hE:za6 l=0) (hO:zer o=0) (h:¬(l.length:Int)≤o.by_) (hg:(l.getD o.by_.toNat default).gone=true):Spec Tryz.prog 32 [.c (.sl 3 (l.map zbu)),zpf o] [] (.tup [.c (.sl 3 (([]:List Sea).map zbu)),I .i64 9]) []:=by
 have SC:=zdx l hl hs
 have OC:=zfc o
 rw[hE]at SC
 rw[hO]at OC
 have hb0:=(zfa hO).1.1
 have hlt:o.by_.toNat<l.length:=by omega
 refine spB Tryz.func32 58 [.tmp 4,.tmp 5] Tryz.results32 ?_
 try refine xst ?_
 refine caP (SC) ?_
 try refine xst ?_
 refine cI (fun h1 => ?_) fun h1 => ?_
 ·try refine xst ?_
  refine caP (OC) ?_
  try refine xst ?_
  refine cI (fun h2 => ?_) fun h2 => ?_
  ·simp at h2
  ·try refine xst ?_
   refine cI (fun h3 => ?_) fun h3 => ?_
   ·omega
   ·try refine xz2 (gd hlt) zcf ?_
    refine cI (fun h4 => ?_) fun h4 => ?_
    ·try refine xz2 (gd hlt) zcf ?_
     refine cI (fun h5 => ?_) fun h5 => ?_
     ·try refine xz2 (gd hlt) zcf ?_
      exact xrz rfl
     ·simp at h5
    ·rw[hg]at h4;simp at h4
 ·simp at h1
theorem z9i (l:List Sea) (o:Ord) (hl:l.length≤9223372036854775807) (hs:∀s∈l,zf0 s) (hE:za6 l=0) (hO:zer o=0) (h:¬(l.length:Int)≤o.by_) (hg:(l.getD o.by_.toNat default).gone=false) (hw:(l.getD o.by_.toNat default).waits.length=50):Spec Tryz.prog 32 [.c (.sl 3 (l.map zbu)),zpf o] [] (.tup [.c (.sl 3 (([]:List Sea).map zbu)),I .i64 6]) []:=by
 have SC:=zdx l hl hs
 have OC:=zfc o
 rw[hE]at SC
 rw[hO]at OC
 have hb0:=(zfa hO).1.1
 have hlt:o.by_.toNat<l.length:=by omega
 refine spB Tryz.func32 58 [.tmp 4,.tmp 5] Tryz.results32 ?_
 try refine xst ?_
 refine caP (SC) ?_
 try refine xst ?_
 refine cI (fun h1 => ?_) fun h1 => ?_
 ·try refine xst ?_
  refine caP (OC) ?_
  try refine xst ?_
  refine cI (fun h2 => ?_) fun h2 => ?_
  ·simp at h2
  ·try refine xst ?_
   refine cI (fun h3 => ?_) fun h3 => ?_
   ·omega
   ·try refine xz2 (gd hlt) zcf ?_
    refine cI (fun h4 => ?_) fun h4 => ?_
    ·rw[hg]at h4;simp at h4
    ·try refine xz2 (gd hlt) zcf ?_
     refine cI (fun h5 => ?_) fun h5 => ?_
     ·try refine xz2 (gd hlt) zcf ?_
      refine cI (fun h6 => ?_) fun h6 => ?_
      ·try refine xz2 (gd hlt) zcf ?_
       exact xrz rfl
      ·simp at h6
     ·omega
 ·simp at h1
theorem ydn (l:List Sea) (o:Ord) (hl:l.length≤9223372036854775807) (hs:∀s∈l,zf0 s):Spec Tryz.prog 32 [.c (.sl 3 (l.map zbu)),zpf o] [] (.tup [.c (.sl 3 ((if zp2 l o=0 then zuo l o else []).map zbu)),I .i64 (zp2 l o)]) []:=by
 rcases zxh l o with h|⟨h1,h⟩|⟨h1,h2,h⟩|⟨h1,h2,h3,h⟩|⟨h1,h2,h3,h4,h⟩|⟨h1,h2,h3,h4,h5,h⟩
 ·rw[if_pos h];rw[h];exact z9h l o hl hs h
 ·rw[if_neg (by omega),h];exact z9m l o hl hs h1
 ·rw[if_neg (by omega),h];exact z9l l o hl hs h1 h2
 ·rw[if_neg (by omega),h];exact z9k l o hl hs h1 h2 h3
 ·rw[if_neg (by omega),h];exact z9j l o hl hs h1 h2 h3 h4
 ·rw[if_neg (by omega),h];exact z9i l o hl hs h1 h2 h3 h4 h5
theorem zz1 (l:List Sea) (p:Int) (hl:l.length≤9223372036854775807) (hs:∀s∈l,zf0 s) (hE:za6 l=0) (hp:¬(p<0∨(l.length:Int)≤p)) (hg:(l.getD p.toNat default).gone=false):Spec Tryz.prog 80 [.c (.sl 3 (l.map zbu)),I .i64 p] [] (.tup [.c (.sl 3 ((zg0 l p).map zbu)),I .i64 0]) []:=by
 have SC:=zdx l hl hs
 rw[hE]at SC
 have hl8:=(zcb hE).2.1
 have hlt:p.toNat<l.length:=by omega
 refine spB Tryz.func80 37 [.tmp 4,.tmp 5] Tryz.results80 ?_
 try refine xst ?_
 refine caP (SC) ?_
 try refine xst ?_
 refine cI (fun h1 => ?_) fun h1 => ?_
 ·simp at h1
 ·try refine xst ?_
  refine cI (fun h2 => ?_) fun h2 => ?_
  ·omega
  ·try refine xz2 (gd hlt) zcf ?_
   refine cI (fun h3 => ?_) fun h3 => ?_
   ·rw[hg]at h3;simp at h3
   ·try refine xz2 (gd hlt) zcf ?_
    refine cI (fun h4 => ?_) fun h4 => ?_
    ·simp at h4
    ·try refine xz2 (gd hlt) zcf ?_
     refine caM [] (z7y l (by omega) hs) ?_
     try refine xz2 (gd hlt) zcf ?_
     refine zb0 rfl (by repeat' (first|exact trivial|exact rfl|omega|refine⟨?_,?_⟩)) (Wk.tup ⟨?_,Wk.refl _,trivial⟩)
     show Wk (AV.c (.sl 3 _)) _
     rw[zyc]
     exact Wk.rows (RowsLe.set z4m _ _)
theorem zsq {s:ByteArray} {n:Int} {U:Nat→Prop} {w:World} {F:Nat→Prop} {β : Nat→Option Bind} : RelA U w F β (.tup [S s,I .i64 n]) (.tuple #[.string s,.int .i64 n]):=by
 simp only[RelA]
 refine⟨_,rfl,?_⟩
 simp[RelL,RelA,RelP,Value.oneCell']
theorem z76 {w:World} {U F:Nat→Prop} {β : Nat→Option Bind} {x:Value} {vs:List Value} (h:RelL U w F β [.c (.v x)] vs):vs = [x]:=by
 obtain⟨u,rfl,hu⟩:=zuw h
 simp only[RelP]at hu
 rw[hu.1]
theorem zl2:∀xs:List Int,xs.flatMap z6q=xs.map (Value.int .i64)
 | []=>rfl
 | a::r=>by simp[z6q,zl2 r]
theorem z4d {P:Program} {f:FuncId} (hf:zg4 P f) (x:Value) (xs:List Int) (e:Int) (T:TypeId) (h:∀w:World,Calls P f #[x] w fun en w'=>(∃v,en = .returned (.tuple #[v,.int .i64 e])∧∃n,w'.ownsRow w.heap.size T 1 v n (xs.flatMap z6q))∧Below w.heap.size w w'):Spec P f [.c (.v x)] [] (.tup [.c (.sl 1 (xs.map zad)),I .i64 e]) []:=by
 refine⟨hf,Nat.le_refl _,fun w F β vs M hv => ?_⟩
 obtain rfl:=z76 hv
 refine(h w).mono ?_
 rintro en w' ⟨⟨v,rfl,n,hlen,hrow⟩,hb⟩
 have hn:n=xs.length:=by
  rw[zl2,List.length_map]at hlen
  omega
 subst hn
 have go:∀G:Nat→Prop,(∀b,G b→w.heap.size≤b∧b<w'.heap.size)→RelP w' (fun b=>F b∨G b) (.sl 1 (xs.map zad)) v→∃v_1 F' β',Ending.returned (.tuple #[v,.int .i64 e]) = .returned v_1∧MemOk w (inB β) (· < ([]:List Chunk).length) F' β' (nth []) w'∧RelA (· < ([]:List Chunk).length) w' F' β' (.tup [.c (.sl 1 (xs.map zad)),I .i64 e]) v_1∧(∀b,F b→F' b)∧(∀b,F' b→F b∨w.heap.size≤b∨inB β b)∧∀i bd,i<([]:List Chunk).length → β' i=some bd→∃bs,β i=some ⟨bd.v,bd.b,bd.n,bd.sz,bs⟩:=by
  intro G hG hr
  obtain⟨S1,S2⟩:=M.step (w':=w') (h':=nth []) (β' := β) (F':=fun b=>F b∨G b) (U':=(· < 0)) (fun _=>False) (fun _ _=>rfl) (fun _ _=>rfl) hb.os hb.tape hb.output hb.size (fun b h _=>hb.block b h) (fun _ h=>h) (fun _ h => .inl h)
   (fun b h=>by
    rcases h with h|h
    ·exact⟨Nat.lt_of_lt_of_le (M.fin b h) hb.size,.inl h⟩
    ·exact⟨(hG b h).2,.inr (.inl (hG b h).1)⟩) (fun _ _ h=>h.elim) (fun _ _ h=>h.elim) (fun _ _ _ _ _ h=>h.elim) (fun _ _ h=>h.elim)
  refine⟨_,fun b=>F b∨G b,β,rfl,S1,?_,fun _ h => .inl h,fun b h => ?_,fun _ _ _ h=>⟨_,h⟩⟩
  ·simp only[RelA]
   refine⟨_,rfl,?_⟩
   simp only[RelL,RelA]
   exact⟨v,_,rfl,hr,_,_,rfl,by simp[RelP,Value.oneCell'],rfl⟩
  ·rcases h with h|h
   ·exact .inl h
   ·exact .inr (.inl (hG b h).1)
 rcases hrow with ⟨rfl,h0⟩|⟨g,cap,cur,rfl,h1,h2,h3,h4,h5,h6⟩
 ·refine go (fun _=>False) (fun _ h=>h.elim) ?_
  obtain rfl:xs = []:=List.eq_nil_of_length_eq_zero h0
  simp only[RelP]
  exact⟨none,0,rfl,Nat.le_refl _,Nat.zero_le _,.inl rfl⟩
 ·refine go (fun b=>b=g) (fun b hbg=>by subst hbg;exact⟨h1,(Array.getElem?_eq_some_iff.1 h2).1⟩) ?_
  simp only[RelP]
  refine⟨some ⟨g,0,none⟩,cap,by rw[List.length_map],by rwa [List.length_map],h4,.inr ⟨g,0,rfl,.inr rfl,RelE.of fun i cs hi => ?_⟩⟩
  rw[List.getElem?_map]at hi
  cases hx:xs[i]? with
  | none=>rw[hx]at hi;simp at hi
  | some z =>
   rw[hx]at hi
   have hi':zad z=cs:=by simpa using hi
   subst hi'
   refine⟨rfl,?_⟩
   unfold zad
   simp only[RelC,and_true,Nat.mul_one,Nat.zero_add,RelP]
   refine⟨_,?_,rfl,rfl⟩
   have hlt:i<xs.length:=(List.getElem?_eq_some_iff.1 hx).1
   have e1:(cur.toList.take (xs.length*1))[i]? = some (.int .i64 z):=by
    rw[h6]
    rw[zl2,List.getElem?_map,hx];rfl
   rw[List.getElem?_take,if_pos (by omega)]at e1
   unfold World.cell?
   simp only[h2]
   simpa using e1
theorem yb4 (s:ByteArray) (hs:s.size≤140737488351232):Spec Tryz.prog 35 [S s] [] (.tup [S (zcs s).1,I .i64 (zcs s).2]) [] :=
 zuj (zjp Tryz.func35 (by kernel_rfl) rfl) _ _ (.tuple #[.string (zcs s).1,.int .i64 (zcs s).2]) (fun _ _ _ _=>zsq) fun w F β vs hF hv=>by
  obtain rfl:=z76 hv
  exact z5d s w hs
theorem z6e (s:ByteArray) (hs:s.size≤140737488351232):Spec Tryz.prog 36 [S s] [] (.tup [.c (.sl 1 ((gaR s).1.map zad)),I .i64 (gaR s).2]) [] :=
 z4d (zjp Tryz.func36 (by kernel_rfl) rfl) _ _ _ 3 fun w=>zyi s w hs
theorem zx2 (s:ByteArray):(zcs s).1.size≤s.size:=by
 unfold zcs
 split
 ·exact Nat.zero_le _
 ·split
  ·simp only[ByteArray.size_extract];omega
  ·exact Nat.zero_le _
theorem z2s:∀(n:Nat) (s:ByteArray) (out:List Int),(gaF n s out).1.length≤out.length+n
 | 0,s,out=>by unfold gaF;split<;>simp
 | n+1,s,out=>by
  unfold gaF
  split
  ·have:=z2s n (zgk s).2.1 (out ++ [z31 (zgk s).1]);simp at this;omega
  ·simp
theorem z2r (s:ByteArray):(gaR s).1.length≤1000:=by
 unfold gaR
 split
 ·split
  ·rename_i h;have:=z2s (zgk s).1 (zgk s).2.1 [];simp at this;omega
  ·simp
 ·simp
def zx1 (o:Ord):List Int := [o.by_,o.kind,o.who,o.c.x,o.c.y,o.what]
def zc1 (l:List Ord):List Int:=l.flatMap zx1
theorem ze2:∀l:List Ord,(zc1 l).length=6*l.length
 | []=>rfl
 | o::r=>by
  have:=ze2 r
  unfold zc1 at this ⊢
  rw[List.flatMap_cons,List.length_append,this,List.length_cons]
  simp only[zx1,List.length_cons,List.length_nil];omega
theorem zx0 (l:List Ord) (k:Nat) (h:k<l.length):zc1 (l.take (k+1))=zc1 (l.take k)++zx1 (l.getD k default):=by
 unfold zc1
 rw[zan l k h,List.flatMap_append];simp
theorem zu8:∀(l:List Ord) (k j:Nat),k<l.length→j<6→(zc1 l)[6*k+j]? = (zx1 (l.getD k default))[j]?
 | [],k,j,h,_=>by simp at h
 | o::r,0,j,_,hj=>by
  unfold zc1
  rw[List.flatMap_cons,Nat.mul_zero,Nat.zero_add,List.getElem?_append_left (by simp[zx1];omega)];rfl
 | o::r,k+1,j,h,hj=>by
  have ih:=zu8 r k j (by simpa using h) hj
  unfold zc1 at ih ⊢
  rw[List.flatMap_cons,List.getElem?_append_right (by simp[zx1];omega)]
  rw[show 6*(k+1)+j-(zx1 o).length=6*k+j from by simp[zx1];omega,ih]
  simp
theorem yac {o:Ord} (h:zer o=0):∀x∈zx1 o,I64 x:=by
 obtain⟨h1,h2,h3,h4,h5,_⟩:=zfa h
 intro x hx
 simp only[zx1,List.mem_cons,List.not_mem_nil,or_false]at hx
 unfold I64
 rcases hx with rfl|rfl|rfl|rfl|rfl|rfl<;>omega
theorem zu9 {l:List Ord} (h:∀o∈l,zer o=0):∀x∈zc1 l,I64 x:=by
 intro x hx
 unfold zc1 at hx
 obtain⟨o,ho,hx⟩:=List.mem_flatMap.1 hx
 exact yac (h o ho) x hx
def zcw (l:List Ord):ByteArray:=zg8 ⟨(paK (zc1 l) (6*l.length)).toArray⟩
def zho (l:List Ord):ByteArray × Int:=if zc6 l≠0 then (⟨#[]⟩,zc6 l)else (zcw l,0)
theorem z48 {l:List Ord} (h:l.length≤100):paR (zc1 l)=(⟨(paK (zc1 l) (6*l.length)).toArray⟩,0):=by
 unfold paR
 rw[ze2,if_neg (by omega)]
theorem zr0 (l:List Ord) (h:l.length≤100):(zcw l).size≤10000:=by
 unfold zcw
 rw[zmx,zo9]
 have:=zld (zc1 l) (6*l.length)
 omega
theorem yb2 (s:ByteArray) (hs:s.size≤140737488351232):Spec Tryz.prog 63 [S s] [] (S (zg8 s)) [] :=
 zhv (zjp Tryz.func63 (by kernel_rfl) rfl) [.string s] (.string (zg8 s)) rfl fun w=>zn2 s w hs
theorem z5a (l:List Ord) (hl:l.length≤9223372036854775807):Spec Tryz.prog 19 [.c (.sl 6 (l.map zd4))] [] (.tup [S (zho l).1,I .i64 (zho l).2]) []:=by
 have OA:=zvb l hl
 by_cases h0:zc6 l=0
 ·obtain⟨hl100,hok⟩:=zgg h0
  have hV:zho l=(zcw l,0):=if_neg (by simp[h0])
  have PA:=zu0 (zc1 l) (zu9 hok) (by rw[ze2];omega)
  rw[z48 hl100]at PA
  have hsz:=zld (zc1 l) (6*l.length)
  have CS:=yb2 ⟨(paK (zc1 l) (6*l.length)).toArray⟩ (by rw[zo9];omega)
  have hw:zg8 ⟨(paK (zc1 l) (6*l.length)).toArray⟩=zcw l:=rfl
  rw[hw]at CS
  rw[hV]
  rw[h0]at OA
  clear hV hsz hw
  simp only at PA
  generalize (⟨(paK (zc1 l) (6*l.length)).toArray⟩:ByteArray)=T at *
  refine spB Tryz.func19 49 [.tmp 2,.tmp 3] Tryz.results19 ?_
  try refine xst ?_
  refine caP (OA) ?_
  try refine xst ?_
  refine cI (fun h1 => ?_) fun h1 => ?_
  ·simp at h1
  ·try refine xst ?_
   refine zaw (fun k:Nat=>⟨[(17,I .i64 k),(16,I .i64 l.length),(15,.c (.sl 6 (l.map zd4))),(5,.own 0)],[(0,.row 3 1 ((zc1 (l.take k)).map zad))],1⟩) (fun k:Nat=>k≤l.length) (fun k:Nat=>l.length-k) (0) (Nat.zero_le _) ((To.nil 5 3 1 rfl).trans (To.mk [0] rfl rfl (by decide) ?_ ?_)) ?_
   ·simp(etaStruct := .none)only[push_cast,zab,seval,zc1,List.take_zero,List.flatMap_nil,List.map_nil]
   ·simp(etaStruct := .none)only[push_cast,zab,seval]
   rintro k hk
   try refine xst ?_
   refine cI (fun h2 => ?_) fun h2 => ?_
   ·have hlt:k<l.length:=by omega
    have hS:=zx0 l k hlt
    have hSl:=ze2 (l.take k)
    have hSk:(l.take k).length≤k:=List.length_take_le _ _
    try refine xz2 (gd hlt) zb3 ?_
    refine⟨k+1,by omega,by omega,To.mk [3] rfl rfl (by decide) ?_ ?_⟩
    ·(iterate 2((try simp(etaStruct := .none)only[push_cast,zab,seval,hS,List.map_append,zx1,List.map_cons,List.map_nil,zad]);(try(refine xsu ?_;try exact xtI))))
    ·(try(refine xz2 (gd hlt) zb3 ?_;try exact xtI))
   ·obtain rfl:k=l.length:=by omega
    iterate 2(try simp(etaStruct := .none)only[push_cast,zab,seval,List.take_length];try refine xsu ?_)
    refine zcl (PA) (WkL.refl _) rfl ?_
    iterate 2(try simp(etaStruct := .none)only[push_cast,zab,seval,List.take_length];try refine xsu ?_)
    refine cI (fun h3 => ?_) fun h3 => ?_
    ·simp at h3
    ·iterate 2(try simp(etaStruct := .none)only[push_cast,zab,seval,List.take_length];try refine xsu ?_)
     refine caP (CS) ?_
     iterate 2(try simp(etaStruct := .none)only[push_cast,zab,seval,List.take_length];try refine xsu ?_)
     exact xrz rfl
 ·have hV:zho l=(⟨#[]⟩,zc6 l):=if_pos h0
  rw[hV]
  generalize zc6 l=e at *
  refine spB Tryz.func19 49 [.tmp 2,.tmp 3] Tryz.results19 ?_
  try refine xst ?_
  refine caP (OA) ?_
  try refine xst ?_
  refine cI (fun h1 => ?_) fun h1 => ?_
  ·try refine xst ?_
   exact xrz rfl
  ·exact absurd h1 h0
end Go.Proofs.YtmjbgbmegbkmhaaGreat
namespace Go.Proofs.YtmjbgbmegbkmhaaGreat
set_option linter.all false
open Go.RowKit
set_option maxRecDepth 100000
set_option maxHeartbeats 800000
theorem z4p (l:List Sea) (most:Int) (hl:l.length≤9223372036854775807) (hs:∀s∈l,zf0 s) (h0:za6 l=0) (hm:1≤most∧most≤100) :
 Spec Tryz.prog 77 [.c (.sl 3 (l.map zbu)),I .i64 most] [] (.tup [.c (.sl 3 ((zc0 most l).2.map zbu)),.c (.sl 6 ((zc0 most l).1.map zd4)),I .i64 0]) []:=by
 obtain⟨h1,h8,hw50,hr⟩:=zcb h0
 have hlate:∀k,k<l.length→0≤(l.getD k default).late∧(l.getD k default).late≤1000000:=fun k hk=>(zsj (hr k hk)).1
 have CS:=zdx l hl hs
 rw[h0]at CS
 refine spB Tryz.func77 102 [.tmp 4,.tmp 5,.tmp 6] Tryz.results77 ?_
 try refine xst ?_
 refine caP (CS) ?_
 try refine xst ?_
 refine cI (fun h1 => ?_) fun h1 => ?_
 ·simp at h1
 ·try refine xst ?_
  refine cI (fun h2 => ?_) fun h2 => ?_
  ·omega
  ·try refine xst ?_
   refine caM [] (z7y l (by omega) hs) ?_
   try refine xst ?_
   refine zaw (fun k:Nat=>⟨[(29,I .i64 k),(28,I .i64 l.length),(1,I .i64 most),(0,.own 0)],[(0,.row 169 3 ((zgr zbp k l).map zbu))],1⟩) (fun k:Nat=>k≤l.length) (fun k:Nat=>l.length-k) (0) (Nat.zero_le _) (To.mk [0] rfl rfl (by decide) ?_ ?_) ?_
   ·simp(etaStruct := .none)only[push_cast,zab,seval,z98]
   ·simp(etaStruct := .none)only[push_cast,zab,seval]
   rintro k hk
   try refine xst ?_
   refine cI (fun h3 => ?_) fun h3 => ?_
   ·have hlt:k<l.length:=by omega
    have hltp:k<(zgr zbp k l).length:=by rw[zcj];exact hlt
    have pg:=zxy zbp k l hlt
    have hla:=hlate k hlt
    iterate 2(try simp(etaStruct := .none)only[push_cast,zab,seval,zaa _ _ _ hltp,zcj,pg,zbu];try refine xsu ?_)
    refine cI (fun h4 => ?_) fun h4 => ?_
    ·have e:zbp (l.getD k default)=⟨(l.getD k default).waits,0,(l.getD k default).gone⟩:=by unfold zbp;rw[if_pos (by omega)]
     iterate 2(try simp(etaStruct := .none)only[push_cast,zab,seval,zaa _ _ _ hltp,zcj,pg,zbu];try refine xsu ?_)
     refine⟨k+1,by omega,by omega,To.mk [0] rfl rfl (by decide) ?_ ?_⟩
     ·try refine xst ?_
      first
      | (rw[ziu _ _ _ hlt,List.map_set,e];rfl)
      | rw[ziv _ _ _ hlt e]
     ·(iterate 2((try simp(etaStruct := .none)only[push_cast,zab,seval,zaa _ _ _ hltp,zcj,pg,zbu]);(try(refine xsu ?_;try exact xtI))))
    ·iterate 2(try simp(etaStruct := .none)only[push_cast,zab,seval,zaa _ _ _ hltp,zcj,pg,zbu];try refine xsu ?_)
     refine cI (fun h5 => ?_) fun h5 => ?_
     ·have e:zbp (l.getD k default)=⟨(l.getD k default).waits,min ((l.getD k default).late+1) 1000000,(l.getD k default).gone⟩:=by unfold zbp;rw[if_neg (by omega),if_neg (by rw[h5];simp)]
      have em:(if 1000000<(l.getD k default).late+1 then 1000000 else (l.getD k default).late+1)=min ((l.getD k default).late+1) 1000000:=by split<;>omega
      iterate 2(try simp(etaStruct := .none)only[push_cast,zab,seval,zaa _ _ _ hltp,zcj,pg,zbu,em];try refine xsu ?_)
      refine⟨k+1,by omega,by omega,To.mk [0] rfl rfl (by decide) ?_ ?_⟩
      ·try refine xst ?_
       first
       | (rw[ziu _ _ _ hlt,List.map_set,e];rfl)
       | rw[ziv _ _ _ hlt e]
      ·(iterate 2((try simp(etaStruct := .none)only[push_cast,zab,seval,zaa _ _ _ hltp,zcj,pg,zbu,em]);(try(refine xsu ?_;try exact xtI))))
     ·have e:zbp (l.getD k default)=l.getD k default:=by unfold zbp;rw[if_neg (by omega),if_pos h5]
      iterate 2(try simp(etaStruct := .none)only[push_cast,zab,seval,zaa _ _ _ hltp,zcj,pg,zbu];try refine xsu ?_)
      refine⟨k+1,by omega,by omega,To.mk [0] rfl rfl (by decide) ?_ ?_⟩
      ·try refine xst ?_
       first
       | (rw[ziu _ _ _ hlt,List.map_set,e];rfl)
       | rw[ziv _ _ _ hlt e]
      ·(iterate 2((try simp(etaStruct := .none)only[push_cast,zab,seval,zaa _ _ _ hltp,zcj,pg,zbu]);(try(refine xsu ?_;try exact xtI))))
   ·obtain rfl:k=l.length:=by omega
    have S0L:(l.map zbp).length=l.length:=by simp
    have S0s:∀s∈l.map zbp,zf0 s:=fun s hh=>by obtain⟨t,ht,rfl⟩:=List.mem_map.1 hh;exact hs t ht
    iterate 2(try simp(etaStruct := .none)only[push_cast,zab,seval,zbh];try refine xsu ?_)
    refine zaw (fun x:(List Ord × List Sea) × Bool=>⟨[(11,B x.2),(10,.own 1),(1,I .i64 most),(0,.own 0)],[(0,.row 169 3 (x.1.2.map zbu)),(1,.row 48 6 (x.1.1.map zd4))],2⟩) (fun x:(List Ord × List Sea) × Bool=>(∃n,x.1=itS most n ([],l.map zbp))∧x.1.1.length≤100∧x.1.2.length=l.length∧(∀s∈x.1.2,zf0 s)∧(x.2=false→tkS most x.1.1 x.1.2=x.1)) (fun x:(List Ord × List Sea) × Bool=>ycr x.1.2+(if x.2 then 1 else 0)) ((([],l.map zbp),true)) (⟨⟨0,rfl⟩,by simp,by simp,S0s,fun h=>by simp at h⟩) ((To.nil 10 48 6 rfl).trans (To.mk [0,1] rfl rfl (by decide) ?_ ?_)) ?_
    ·simp(etaStruct := .none)only[push_cast,zab,seval]
    ·simp(etaStruct := .none)only[push_cast,zab,seval]
    rintro⟨⟨out,S⟩,again⟩ ⟨⟨n,hit⟩,q1,q2,q3,q4⟩
    simp only at hit q1 q2 q3 q4
    iterate 2(try simp(etaStruct := .none)only[push_cast,zab,seval,zbh];try refine xsu ?_)
    refine zax (fun h6 => ?_) (fun h6 => ?_)
    ·(try replace h6:=xhh h6)
     obtain rfl:again=true:=h6
     iterate 2(try simp(etaStruct := .none)only[push_cast,zab,seval,zbh,q2];try refine xsu ?_)
     refine zaw (fun y:Nat × (List Ord × List Sea) × Bool=>⟨[(64,I .i64 y.1),(63,I .i64 l.length),(11,B y.2.2),(10,.own 1),(1,I .i64 most),(0,.own 0)],[(0,.row 169 3 (y.2.1.2.map zbu)),(1,.row 48 6 (y.2.1.1.map zd4))],2⟩) (fun y:Nat × (List Ord × List Sea) × Bool=>y.1≤l.length∧y.2.1.2.length=l.length∧tkS most out S=((tkS most y.2.1.1 (y.2.1.2.drop y.1)).1,y.2.1.2.take y.1++(tkS most y.2.1.1 (y.2.1.2.drop y.1)).2)∧y.2.2=decide (out.length<y.2.1.1.length)∧out.length≤y.2.1.1.length∧y.2.1.1.length≤100∧∀s∈y.2.1.2,zf0 s) (fun y:Nat × (List Ord × List Sea) × Bool=>l.length-y.1) ((0,(out,S),false)) (⟨Nat.zero_le _,q2,by simp,by simp,Nat.le_refl _,q1,q3⟩) (To.mk [0,1] rfl rfl (by decide) ?_ ?_) ?_
     ·simp(etaStruct := .none)only[push_cast,zab,seval]
     ·simp(etaStruct := .none)only[push_cast,zab,seval]
     rintro⟨i,⟨o,R⟩,ag⟩ ⟨p1,p2,p3,p4,p5,p6,p7⟩
     simp only at p1 p2 p3 p4 p5 p6 p7
     iterate 2(try simp(etaStruct := .none)only[push_cast,zab,seval,zbh,q2];try refine xsu ?_)
     refine zax (fun h7 => ?_) (fun h7 => ?_)
     ·(try replace h7:=xhh h7)
      have hlt:i<R.length:=by omega
      have hw:=p7 _ (zaz R i hlt)
      have dr:=ybx R i hlt
      iterate 2(try simp(etaStruct := .none)only[push_cast,zab,seval,zbh,q2,zaa _ _ _ hlt,zbu];try refine xsu ?_)
      refine zax (fun h8 => ?_) (fun h8 => ?_)
      ·(try replace h8:=xhh h8)
       have hw0:0<(R.getD i default).waits.length:=by omega
       have ed:List.drop 1 (List.map zd4 (R.getD i default).waits)=((R.getD i default).waits.drop 1).map zd4:=by rw[List.map_drop]
       iterate 2(try simp(etaStruct := .none)only[push_cast,zab,seval,zbh,q2,zaa _ _ _ hlt,zbu,zaa _ _ _ hw0,zd4,ed];try refine xsu ?_)
       (try(refine⟨by kernel_rfl,?_⟩))
       iterate 2(try simp(etaStruct := .none)only[push_cast,zab,seval,zbh,q2,zaa _ _ _ hlt,zbu,zaa _ _ _ hw0,zd4,ed];try refine xsu ?_)
       refine⟨(i+1,(o ++ [(R.getD i default).waits.getD 0 default],R.set i ⟨(R.getD i default).waits.drop 1,(R.getD i default).late,(R.getD i default).gone⟩),true),⟨by simp only;omega,by simp only[List.length_set];exact p2,by
 simp only
 rw[p3,dr,List.drop_set_of_lt (by omega),List.take_set,zan R i hlt]
 simp only[tkS]
 rw[if_pos ⟨hw0,by omega⟩,List.set_append_right _ _ (by simp;omega)]
 simp [Nat.min_eq_left (Nat.le_of_lt hlt)], by simp; omega, by simp; omega, by simp; omega, z4o p7 (by unfold zf0 at hw ⊢; simp only [List.length_drop]; omega)⟩, by simp only; omega, To.mk [0, 38] rfl rfl (by decide) ?_ ?_⟩
       ·iterate 2(try simp(etaStruct := .none)only[push_cast,zab,seval,List.map_set,List.map_append];try refine xsu ?_)
        exact⟨rfl,rfl⟩
       ·(iterate 2((try simp(etaStruct := .none)only[push_cast,zab,seval,zbh,q2,zaa _ _ _ hlt,zbu,zaa _ _ _ hw0,zd4,ed]);(try(refine xsu ?_;try exact xtI))))
      ·(try replace h8:=xhh h8)
       iterate 2(try simp(etaStruct := .none)only[push_cast,zab,seval,zbh,q2,zaa _ _ _ hlt,zbu];try refine xsu ?_)
       refine⟨(i+1,(o,R),ag),⟨by simp only;omega,p2,by
 simp only
 have hc:¬(0<(R.getD i default).waits.length∧(o.length:Int)<most):=by omega
 rw[p3,dr,zan R i hlt]
 simp only[tkS]
 rw[if_neg hc]
 simp, p4, p5, p6, p7⟩, by simp only; omega, To.mk [0, 1] rfl rfl (by decide) ?_ ?_⟩
       ·(iterate 2((try simp(etaStruct := .none)only[push_cast,zab,seval,zbh,q2,zaa _ _ _ hlt,zbu]);(try(refine xsu ?_;try exact xtI))))
       ·(iterate 2((try simp(etaStruct := .none)only[push_cast,zab,seval,zbh,q2,zaa _ _ _ hlt,zbu]);(try(refine xsu ?_;try exact xtI))))
     ·(try replace h7:=xhh h7)
      obtain rfl:i=l.length:=by omega
      have pe:tkS most out S=(o,R):=by
       rw[p3,List.drop_eq_nil_of_le (by omega),List.take_of_length_le (by omega)];simp[tkS]
      iterate 2(try simp(etaStruct := .none)only[push_cast,zab,seval,zbh,q2];try refine xsu ?_)
      refine⟨((o,R),ag),⟨⟨n+1,by rw[zka,←hit];exact pe.symm⟩,p6,p2,p7,fun ha=>by
 have hlen:o.length=out.length:=by
  simp only at ha
  rw[p4]at ha
  have:=of_decide_eq_false ha
  omega
 have:=zub most S out (by rw[pe];exact hlen)
 rw[pe]at this
 obtain⟨rfl,rfl⟩:=Prod.mk.inj this
 exact pe⟩,by
 have hsum:=zsb most S out
 rw[pe]at hsum
 simp only at hsum ⊢
 rw[p4]
 by_cases hh:out.length<o.length
 ·rw[decide_eq_true hh];simp;omega
 ·rw [decide_eq_false hh]; simp; omega, To.mk [0, 1] rfl rfl (by decide) ?_ ?_⟩
      ·(iterate 2((try simp(etaStruct := .none)only[push_cast,zab,seval,zbh,q2]);(try(refine xsu ?_;try exact xtI))))
      ·(iterate 2((try simp(etaStruct := .none)only[push_cast,zab,seval,zbh,q2]);(try(refine xsu ?_;try exact xtI))))
    ·(try replace h6:=xhh h6)
     have hz:=q4 h6
     have ec:zc0 most l=(out,S):=by
      have h9:tkS most (itS most n ([],l.map zbp)).1 (itS most n ([],l.map zbp)).2=itS most n ([],l.map zbp):=by rw[←hit];exact hz
      rw[z62 hw50 h9,←hit]
     iterate 2(try simp(etaStruct := .none)only[push_cast,zab,seval,zbh];try refine xsu ?_)
     exact zb0 rfl trivial (by rw[ec];exact Wk.refl _)
end Go.Proofs.YtmjbgbmegbkmhaaGreat
namespace Go.Proofs.YtmjbgbmegbkmhaaGreat
set_option linter.all false
open Go.RowKit
set_option maxRecDepth 100000
def zy2 (w:Wld) (n:Int):Int:=if zam w≠0 then zam w else if w.bases.length=0∨¬(1≤n∧n≤100)then 1 else 0
def zx3 (w:Wld) (n:Int):Hst:=if zy2 w n=0 then ⟨⟨w,[]⟩,List.replicate w.bases.length ⟨[],0,false⟩,2 ^ w.bases.length-1,List.replicate 16 0,n⟩else default
def zci (h:Hst):List Ord:=(zc0 h.most h.seats).1
def zhw (WR:Cel→List Int) (h:Hst):Int:=if zfr WR h.sty (zci h)≠0 then zfr WR h.sty (zci h)else (zho (zci h)).2
def zn0 (WR:Cel→List Int) (h:Hst):ByteArray:=if zfr WR h.sty (zci h)≠0 then ⟨#[]⟩else (zho (zci h)).1
def zjs (WR:Cel→List Int) (h:Hst):Hst:=if zfr WR h.sty (zci h)≠0 then h else { h with seats:=(zc0 h.most h.seats).2,sty:=zgu WR h.sty (zci h) }
def zrb (m m':Nat) (k:Nat):Bool:=zcv m k && !zcv m' k
def zb7 (m m':Nat) (l:List Sea):Nat→List Sea
 | 0=>l
 | k+1=>if zrb m m' k then zg0 (zb7 m m' l k) k else zb7 m m' l k
def zts (h:Hst) (b a:Int):Int:=(zch h.m h.ag b a).2.2
def ztr (h:Hst) (b a:Int):Hst:=if zts h b a≠0 then h else { h with seats:=zb7 h.m (zch h.m h.ag b a).1.1 h.seats h.seats.length,m:=(zch h.m h.ag b a).1.1,ag:=(zch h.m h.ag b a).1.2 }
theorem zc9 (m m':Nat) (l:List Sea):∀k,(zb7 m m' l k).length=l.length
 | 0=>rfl
 | k+1=>by
  unfold zb7
  split
  ·unfold zg0;rw[List.length_set,zc9 m m' l k]
  ·exact zc9 m m' l k
theorem zq1 (m m':Nat) (l:List Sea) (j:Nat):∀k,k≤j→(zb7 m m' l k).getD j default=l.getD j default
 | 0,_=>rfl
 | k+1,h=>by
  have ih:=zq1 m m' l j k (by omega)
  unfold zb7
  split
  ·unfold zg0
   rw[List.getD_eq_getElem?_getD,List.getElem?_set_ne (by omega),←List.getD_eq_getElem?_getD];exact ih
  ·exact ih
theorem z4n (i:Int):zp0 ⟨[],0,true⟩ i=true:=by simp[zp0,zmy,zai]
theorem zxf {l:List Sea} (h:za6 l=0) (p:Nat) (hp:p<l.length):za6 (zg0 l p)=0:=by
 obtain⟨h1,h2,h3,h4⟩:True∧(1≤l.length∧l.length≤8)∧(∀s∈l,s.waits.length≤50)∧∀i,i<l.length→zp0 (l.getD i default) i=true:=by
  unfold za6 at h
  split at h
  ·omega
  split at h
  ·omega
  split at h
  ·rename_i a1 a2 a3
   refine⟨trivial,by omega,fun s hs => ?_,fun i hi=>List.all_eq_true.1 a3 i (List.mem_range.2 hi)⟩
   exact Nat.not_lt.1 fun hx=>a2 (List.any_eq_true.2 ⟨s,hs,decide_eq_true hx⟩)
  ·omega
 unfold za6 zg0
 rw[List.length_set,if_neg (by omega),if_neg,if_pos]
 ·rw[List.all_eq_true]
  intro i hi
  have hi:=List.mem_range.1 hi
  rw[List.getD_eq_getElem?_getD,List.getElem?_set]
  by_cases hpi:(p:Int).toNat=i
  ·rw[if_pos hpi,if_pos (by rw[hpi];exact hi)];exact z4n _
  ·rw[if_neg hpi,←List.getD_eq_getElem?_getD];exact h4 i hi
 ·rw[List.any_eq_true]
  rintro⟨s,hs,hx⟩
  rw[decide_eq_true_iff]at hx
  rcases List.mem_or_eq_of_mem_set hs with e|e
  ·have:=h3 s e;omega
  ·subst e;simp at hx
theorem zei {m m':Nat} {l:List Sea} (h:za6 l=0):∀k,k≤l.length→za6 (zb7 m m' l k)=0
 | 0,_=>h
 | k+1,hk=>by
  have ih:=zei (m:=m) (m':=m') h k (by omega)
  unfold zb7
  split
  ·exact zxf ih k (by rw[zc9];omega)
  ·exact ih
theorem ydu {l:List Sea} (h:za6 l=0):∀s∈l,zf0 s:=fun s hs=>by
 unfold zf0
 have:=(zcb h).2.2.1 s hs;omega
end Go.Proofs.YtmjbgbmegbkmhaaGreat
namespace Go.Proofs.YtmjbgbmegbkmhaaGreat
set_option linter.all false
open Go.RowKit
set_option maxRecDepth 100000
set_option maxHeartbeats 2000000
theorem yif (b:Nat) (h8:b≤8):IntKind.u32.wrap (IntKind.u32.wrap (2 ^ min b IntKind.u32.bits)-1)=((2 ^ b-1:Nat):Int):=by
 have:b=0∨b=1∨b=2∨b=3∨b=4∨b=5∨b=6∨b=7∨b=8:=by omega
 rcases this with rfl|rfl|rfl|rfl|rfl|rfl|rfl|rfl|rfl<;>decide
theorem ybk (w:Wld) (n:Int) (WR:Cel→List Int) (hWR:∀a,zas w.f [a] (WR a)) (hl:ze8 w) (hE:zy2 w n=0) (hw:Right w) (h0:0<w.bases.length) (h8:w.bases.length≤8) (hn:1≤n∧n≤100):Spec Tryz.prog 7 [zcx w,I .i64 n] [] (.tup [zyf (zx3 w n),I .i64 0]) []:=by
 have V:=zkm w [] WR hWR hl (fun _ h=>by simp at h)
 have v0:zd8 WR [] w=0:=by unfold zd8;rw[if_neg (by simp),if_neg (fun hn=>hn hw.e)];rfl
 rw[v0,show zg9 WR [] w=w from if_pos v0]at V
 have eH:zx3 w n=⟨⟨w,[]⟩,List.replicate w.bases.length ⟨[],0,false⟩,2 ^ w.bases.length-1,List.replicate 16 0,n⟩:=if_pos hE
 rw[eH]
 refine spB Tryz.func7 49 [.cell 4 40,.tmp 5] Tryz.results7 ?_
 (iterate 2((try simp(etaStruct := .none)only[push_cast,seval]);(try(refine xsu ?_;try exact xtI))))
 refine zdl (V) (by exact⟨Wk.refl _,Wk.nil _,trivial⟩) ?_
 (iterate 2((try simp(etaStruct := .none)only[push_cast,seval]);(try(refine xsu ?_;try exact xtI))))
 refine cI (fun h1 => ?_) fun h1 => ?_
 ·simp at h1
 ·(iterate 2((try simp(etaStruct := .none)only[push_cast,seval]);(try(refine xsu ?_;try exact xtI))))
  refine gcP (fun hcc=>zs8 n) ?_
  (iterate 2((try simp(etaStruct := .none)only[push_cast,seval]);(try(refine xsu ?_;try exact xtI))))
  refine cI (fun h2 => ?_) fun h2 => ?_
  ·omega
  ·(iterate 2((try simp(etaStruct := .none)only[push_cast,seval]);(try(refine xsu ?_;try exact xtI))))
   refine caP (ydp w.bases.length (by omega)) ?_
   (iterate 2((try simp(etaStruct := .none)only[push_cast,seval]);(try(refine xsu ?_;try exact xtI))))
   refine zbm [some 38,some 39,some 40,some 41,some 42,some 11,none] rfl ?_
   intro Oq lq Rq hlq hdq hRq
   subst hlq
   iterate 7(refine za1 fun rq hrq => ?_;(iterate 2((try simp(etaStruct := .none)only[push_cast,seval,hdq,id]);(try(refine xsu ?_;try exact xtI))));subst hrq)
   refine zml ?_
   subst hRq
   clear hdq Oq
   refine zmk (by kernel_rfl) ?_
   (iterate 2((try simp(etaStruct := .none)only[push_cast,seval]);(try(refine xsu ?_;try exact xtI))))
   refine zb0 rfl (by repeat' (first|exact trivial|exact rfl|refine⟨?_,?_⟩)) (Wk.tup ⟨Wk.agg ⟨Wk.refl _,Wk.refl _,Wk.refl _,Wk.refl _,Wk.refl _,Wk.refl _,Wk.refl _,Wk.refl _,Wk.refl _,Wk.nil _,Wk.of ?_,Wk.of ?_,Wk.of ?_,Wk.refl _,trivial⟩,Wk.refl _,trivial⟩)
   ·rfl
   ·show AV.c (.v (.int .u32 (IntKind.u32.wrap (IntKind.u32.wrap (1*2 ^ min w.bases.length IntKind.u32.bits)-1))))=_
    rw[Int.one_mul,yif w.bases.length h8]
   ·rfl
theorem ydq (h:Hst) (WR:Cel→List Int) (hWR:∀a,zas h.sty.start.f [a] (WR a)) (hl:HstL h) (h0:za6 h.seats=0) (hm:1≤h.most∧h.most≤100) (hlen:(zci h).length≤9223372036854775807):Spec Tryz.prog 33 [.ptr 0 0 0] [.blk 40 (z3t h)] (.tup [S (zn0 WR h),I .i64 (zhw WR h)]) [.blk 40 (z3t (zjs WR h))]:=by
 have C1:=z4p h.seats h.most hl.l hl.a h0 hm
 have C2:=z9p h.sty (zci h) WR hWR hl.s hlen
 have C3:=z5a (zci h) hlen
 refine spB Tryz.func33 48 [.tmp 2,.tmp 3] Tryz.results33 ?_
 (iterate 2((try simp(etaStruct := .none)only[push_cast,seval]);(try(refine xsu ?_;try exact xtI))))
 refine zbm [some 9,some 10,some 11,some 12,some 13,some 14,some 15,some 16,some 17,some 8,some 18,some 19,some 20,some 4,some 5,some 6] rfl ?_
 intro Oq lq Rq hlq hdq hRq
 subst hlq
 iterate 8(refine za1 fun rq hrq => ?_;(iterate 2((try simp(etaStruct := .none)only[push_cast,seval,hdq,id]);(try(refine xsu ?_;try exact xtI))));subst hrq)
 refine za1 fun rq hrq => ?_
 (iterate 2((try simp(etaStruct := .none)only[push_cast,seval,hdq,id]);(try(refine xsu ?_;try exact xtI))))
 refine caP (C1) ?_
 (iterate 2((try simp(etaStruct := .none)only[push_cast,seval,hdq,id]);(try(refine xsu ?_;try exact xtI))))
 subst hrq
 iterate 7(refine za1 fun rq hrq => ?_;(iterate 2((try simp(etaStruct := .none)only[push_cast,seval,hdq,id]);(try(refine xsu ?_;try exact xtI))));subst hrq)
 refine zml ?_
 subst hRq
 clear hdq Oq
 refine zmk (by kernel_rfl) ?_
 (iterate 2((try simp(etaStruct := .none)only[push_cast,seval]);(try(refine xsu ?_;try exact xtI))))
 refine cI (fun h1 => ?_) fun h1 => ?_
 ·simp at h1
 ·(iterate 2((try simp(etaStruct := .none)only[push_cast,seval]);(try(refine xsu ?_;try exact xtI))))
  refine caP (C2) ?_
  (iterate 2((try simp(etaStruct := .none)only[push_cast,seval]);(try(refine xsu ?_;try exact xtI))))
  refine cI (fun h2 => ?_) fun h2 => ?_
  ·have eT:zn0 WR h=⟨#[]⟩:=by unfold zn0;rw[if_pos h2]
   have eE:zhw WR h=zfr WR h.sty (zci h):=by unfold zhw;rw[if_pos h2]
   have eH:zjs WR h=h:=by unfold zjs;rw[if_pos h2]
   rw[eT,eE,eH]
   (iterate 2((try simp(etaStruct := .none)only[push_cast,seval]);(try(refine xsu ?_;try exact xtI))))
   refine zcc [0] rfl rfl (by decide) ⟨?_,trivial⟩ (by repeat' (first|exact trivial|exact rfl|refine⟨?_,?_⟩)) ?_<;>first|exact Wk.refl _|exact wkc|(try simp(etaStruct := .none)only[push_cast,zab,seval])
  ·have eT:zn0 WR h=(zho (zci h)).1:=by unfold zn0;rw[if_neg (by simpa using h2)]
   have eE:zhw WR h=(zho (zci h)).2:=by unfold zhw;rw[if_neg (by simpa using h2)]
   have eH:zjs WR h = { h with seats:=(zc0 h.most h.seats).2,sty:=zgu WR h.sty (zci h) }:=by unfold zjs;rw[if_neg (by simpa using h2)]
   rw[eT,eE,eH]
   (iterate 2((try simp(etaStruct := .none)only[push_cast,seval]);(try(refine xsu ?_;try exact xtI))))
   refine zbm [some 36,some 37,some 38,some 39,some 40,some 41,none,some 42,some 43,none] rfl ?_
   intro Oq lq Rq hlq hdq hRq
   subst hlq
   iterate 10(refine za1 fun rq hrq => ?_;(iterate 2((try simp(etaStruct := .none)only[push_cast,seval,hdq,id]);(try(refine xsu ?_;try exact xtI))));subst hrq)
   refine zml ?_
   subst hRq
   clear hdq Oq
   refine zmk (by kernel_rfl) ?_
   (iterate 2((try simp(etaStruct := .none)only[push_cast,seval]);(try(refine xsu ?_;try exact xtI))))
   refine caP (C3) ?_
   (iterate 2((try simp(etaStruct := .none)only[push_cast,seval]);(try(refine xsu ?_;try exact xtI))))
   refine zcc [0] rfl rfl (by decide) ⟨?_,trivial⟩ (by repeat' (first|exact trivial|exact rfl|refine⟨?_,?_⟩)) ?_<;>first|exact Wk.refl _|exact wkc|(try simp(etaStruct := .none)only[push_cast,zab,seval])
theorem yfc (w:Wld) (n:Int) (WR:Cel→List Int) (hWR:∀a,zas w.f [a] (WR a)) (hl:ze8 w) (h:zam w≠0):Spec Tryz.prog 7 [zcx w,I .i64 n] [] (.tup [zyf default,I .i64 (zam w)]) []:=by
 have V:=zkm w [] WR hWR hl (fun _ h=>by simp at h)
 have v0:zd8 WR [] w=zam w:=by unfold zd8;rw[if_neg (by simp),if_pos h]
 rw[v0]at V
 refine spB Tryz.func7 49 [.cell 4 40,.tmp 5] Tryz.results7 ?_
 (iterate 2((try simp(etaStruct := .none)only[push_cast,seval]);(try(refine xsu ?_;try exact xtI))))
 refine zdl (V) (by exact⟨Wk.refl _,Wk.nil _,trivial⟩) ?_
 (iterate 2((try simp(etaStruct := .none)only[push_cast,seval]);(try(refine xsu ?_;try exact xtI))))
 refine cI (fun h1 => ?_) fun h1 => ?_
 ·(iterate 2((try simp(etaStruct := .none)only[push_cast,seval]);(try(refine xsu ?_;try exact xtI))))
  exact xrz rfl
 ·exact absurd h1 h
theorem yfe (w:Wld) (n:Int) (WR:Cel→List Int) (hWR:∀a,zas w.f [a] (WR a)) (hl:ze8 w) (hw:Right w) (h:w.bases.length=0∨¬(1≤n∧n≤100)):Spec Tryz.prog 7 [zcx w,I .i64 n] [] (.tup [zyf default,I .i64 1]) []:=by
 have V:=zkm w [] WR hWR hl (fun _ h=>by simp at h)
 have v0:zd8 WR [] w=0:=by unfold zd8;rw[if_neg (by simp),if_neg (fun hn=>hn hw.e)];rfl
 rw[v0,show zg9 WR [] w=w from if_pos v0]at V
 refine spB Tryz.func7 49 [.cell 4 40,.tmp 5] Tryz.results7 ?_
 (iterate 2((try simp(etaStruct := .none)only[push_cast,seval]);(try(refine xsu ?_;try exact xtI))))
 refine zdl (V) (by exact⟨Wk.refl _,Wk.nil _,trivial⟩) ?_
 (iterate 2((try simp(etaStruct := .none)only[push_cast,seval]);(try(refine xsu ?_;try exact xtI))))
 refine cI (fun h1 => ?_) fun h1 => ?_
 ·simp at h1
 ·(iterate 2((try simp(etaStruct := .none)only[push_cast,seval]);(try(refine xsu ?_;try exact xtI))))
  refine gcP (fun hcc=>zs8 n) ?_
  (iterate 2((try simp(etaStruct := .none)only[push_cast,seval]);(try(refine xsu ?_;try exact xtI))))
  refine cI (fun h2 => ?_) fun h2 => ?_
  ·(iterate 2((try simp(etaStruct := .none)only[push_cast,seval]);(try(refine xsu ?_;try exact xtI))))
   exact xrz rfl
  ·omega
theorem yfd (w:Wld) (n:Int) (WR:Cel→List Int) (hWR:∀a,zas w.f [a] (WR a)) (hl:ze8 w):Spec Tryz.prog 7 [zcx w,I .i64 n] [] (.tup [zyf (zx3 w n),I .i64 (zy2 w n)]) []:=by
 by_cases h:zam w=0
 ·have hw:=zcn h
  by_cases h2:w.bases.length=0∨¬(1≤n∧n≤100)
  ·have e:zy2 w n=1:=by unfold zy2;rw[if_neg (fun x=>x h),if_pos h2]
   have e2:zx3 w n=default:=by unfold zx3;rw[e];rfl
   rw[e,e2]
   exact yfe w n WR hWR hl hw h2
  ·have e:zy2 w n=0:=by unfold zy2;rw[if_neg (fun x=>x h),if_neg h2]
   have:=ybk w n WR hWR hl e hw (by omega) hw.nb (by omega)
   rwa [e]
 ·have e:zy2 w n=zam w:=by unfold zy2;rw[if_pos h]
  have e2:zx3 w n=default:=by unfold zx3;rw[e,if_neg h]
  rw[e,e2]
  exact yfc w n WR hWR hl h
theorem zl7 (n k:Nat):zcv n k=n.testBit k:=by
 unfold zcv
 rw[Nat.testBit_eq_decide_div_mod_eq,Bool.eq_iff_iff]
 simp
theorem z2e (m n k:Nat) (hm:m<4294967296) (hn:n<4294967296) (hk:k<32):decide (bits .and .u32 ((bits .andNot .u32 (m:Int) (n:Int)).fdiv (2 ^ min k IntKind.u32.bits)) 1=1)=zrb m n k:=by
 rw[zns m n hm hn]
 have hle:m &&& (4294967295-n)≤m:=Nat.and_le_left
 rw[z32 _ k (by omega) hk]
 unfold zrb
 rw[zl7,zl7,zl7,Nat.testBit_and]
 have h2:=Nat.testBit_two_pow_sub_succ (n:=32) (x:=n) (by omega) k
 rw[show (2 ^ 32-(n+1):Nat)=4294967295-n by omega]at h2
 rw[h2,decide_eq_true (by omega),Bool.true_and]
theorem z71:∀(n m:Nat) (g:List Nat),(zma n m g).1≤m
 | 0,_,_=>Nat.le_refl _
 | n+1,m,g=>by
  unfold zma
  split
  ·exact Nat.le_refl _
  ·exact Nat.le_trans (z71 n _ _) (znk _ _)
theorem zws (m:Nat) (g:List Nat) (b a:Int):(zch m g b a).1.1≤m:=by
 unfold zch
 repeat' split
 all_goals first|exact Nat.zero_le _|exact z71 _ _ _
theorem ybn (h:Hst) (b a:Int) (hl:HstL h) (h0:za6 h.seats=0) (hg:∀i,i<h.seats.length→zgp h i=true):Spec Tryz.prog 34 [.ptr 0 0 0,I .i64 b,I .i64 a] [.blk 40 (z3t h)] (I .i64 (zts h b a)) [.blk 40 (z3t (ztr h b a))]:=by
 have C:=yfu h.m h.ag b a hl.m hl.g hl.e
 have hv:=zws h.m h.ag b a
 have hm:=hl.m
 have h8:=(zcb h0).2.1
 unfold ztr zts
 generalize zch h.m h.ag b a=V at *
 obtain⟨⟨m',g'⟩,x,e⟩:=V
 simp only at hv C ⊢
 refine spB Tryz.func34 62 [.tmp 6] Tryz.results34 ?_
 (iterate 2((try simp(etaStruct := .none)only[push_cast,seval]);(try(refine xsu ?_;try exact xtI))))
 refine caP (C) ?_
 (iterate 2((try simp(etaStruct := .none)only[push_cast,seval]);(try(refine xsu ?_;try exact xtI))))
 refine cI (fun h1 => ?_) fun h1 => ?_
 ·rw[if_pos h1]
  (iterate 2((try simp(etaStruct := .none)only[push_cast,seval]);(try(refine xsu ?_;try exact xtI))))
  refine zcc [0] rfl rfl (by decide) ⟨?_,trivial⟩ (by repeat' (first|exact trivial|exact rfl|refine⟨?_,?_⟩)) ?_<;>first|exact Wk.refl _|exact wkc|(try simp(etaStruct := .none)only[push_cast,zab,seval])
 ·have h1':e=0:=by simpa using h1
  subst h1'
  rw[if_neg (fun x=>x rfl)]
  have l0:zb7 h.m m' h.seats 0=h.seats:=rfl
  (iterate 2((try simp(etaStruct := .none)only[push_cast,seval]);(try(refine xsu ?_;try exact xtI))))
  refine zaw (fun k:Nat=>⟨[(30,I .i64 k),(29,I .i64 h.seats.length),(7,.ptr 1 0 0),(0,.ptr 0 0 0)],[(0,.blk 40 (z3t { h with seats:=zb7 h.m m' h.seats k })),(1,.blk 38 [I .u32 m',.c (.sl 1 (g'.map zjc))])],2⟩) (fun k:Nat=>k≤h.seats.length) (fun k:Nat=>h.seats.length-k) (0) (Nat.zero_le _) (To.mk [0,1] rfl rfl (by decide) ?_ ?_) ?_
  ·simp(etaStruct := .none)only[push_cast,zab,seval,l0]
  ·simp(etaStruct := .none)only[push_cast,zab,seval]
  rintro k hk
  (iterate 2((try simp(etaStruct := .none)only[push_cast,seval]);(try(refine xsu ?_;try exact xtI))))
  refine cI (fun h2 => ?_) fun h2 => ?_
  ·have hlt:k<h.seats.length:=by omega
   have hgt:=z2e h.m m' k hm (by omega) (by omega)
   have hlk:=zc9 h.m m' h.seats k
   have hr:=zei (m:=h.m) (m':=m') h0 k (by omega)
   (iterate 2((try simp(etaStruct := .none)only[push_cast,seval,hgt]);(try(refine xsu ?_;try exact xtI))))
   refine zbm [some 33,some 34,some 35,some 36,some 37,some 38,some 39,some 40,some 41,some 42,some 43,some 44] rfl ?_
   intro Oq lq Rq hlq hdq hRq
   subst hlq
   iterate 12(refine za1 fun rq hrq => ?_;(iterate 2((try simp(etaStruct := .none)only[push_cast,seval,hdq,id,hgt]);(try(refine xsu ?_;try exact xtI))));subst hrq)
   refine zml ?_
   subst hRq
   clear hdq Oq
   refine zmk (by kernel_rfl) ?_
   (iterate 2((try simp(etaStruct := .none)only[push_cast,seval,hgt]);(try(refine xsu ?_;try exact xtI))))
   refine cI (fun h3 => ?_) fun h3 => ?_
   ·have hbk:zcv h.m k=true:=by
     have h3':=h3
     unfold zrb at h3'
     rw[Bool.and_eq_true]at h3'
     exact h3'.1
    have hgn:((zb7 h.m m' h.seats k).getD k default).gone=false:=by
     rw[zq1 _ _ _ _ _ (Nat.le_refl _)]
     have hx:=hg k hlt
     unfold zgp at hx
     rw[of_decide_eq_true hx,hbk];rfl
    have hs:zb7 h.m m' h.seats (k+1)=zg0 (zb7 h.m m' h.seats k) k:=if_pos h3
    (iterate 2((try simp(etaStruct := .none)only[push_cast,seval,hgt]);(try(refine xsu ?_;try exact xtI))))
    refine caP (zz1 (zb7 h.m m' h.seats k) k (by omega) (ydu hr) hr (by omega) (by rw[Int.toNat_natCast];exact hgn)) ?_
    (iterate 2((try simp(etaStruct := .none)only[push_cast,seval,hgt]);(try(refine xsu ?_;try exact xtI))))
    refine⟨k+1,by omega,by omega,To.mk [0,1] rfl rfl (by decide) ?_ ?_⟩
    ·(iterate 2((try simp(etaStruct := .none)only[push_cast,seval,hs]);(try(refine xsu ?_;try exact xtI))))
    ·(iterate 2((try simp(etaStruct := .none)only[push_cast,seval,hgt]);(try(refine xsu ?_;try exact xtI))))
   ·have hs:zb7 h.m m' h.seats (k+1)=zb7 h.m m' h.seats k:=if_neg (by rw[h3];decide)
    (iterate 2((try simp(etaStruct := .none)only[push_cast,seval,hgt]);(try(refine xsu ?_;try exact xtI))))
    refine⟨k+1,by omega,by omega,To.mk [0,1] rfl rfl (by decide) ?_ ?_⟩
    ·(iterate 2((try simp(etaStruct := .none)only[push_cast,seval,hs]);(try(refine xsu ?_;try exact xtI))))
    ·(iterate 2((try simp(etaStruct := .none)only[push_cast,seval,hgt]);(try(refine xsu ?_;try exact xtI))))
  ·obtain rfl:k=h.seats.length:=by omega
   (iterate 2((try simp(etaStruct := .none)only[push_cast,seval]);(try(refine xsu ?_;try exact xtI))))
   refine zcc [0] rfl rfl (by decide) ⟨?_,trivial⟩ (by repeat' (first|exact trivial|exact rfl|refine⟨?_,?_⟩)) ?_<;>first|exact Wk.refl _|exact wkc|(try simp(etaStruct := .none)only[push_cast,zab,seval])
structure Clq where
 kind:Int
 o:Ord
 by_:Int
 at_:Int
deriving Inhabited
abbrev yfs (c:Clq):AV := .agg [I .i64 c.kind,I .i64 c.o.by_,I .i64 c.o.kind,I .i64 c.o.who,I .i64 c.o.c.x,I .i64 c.o.c.y,I .i64 c.o.what,I .i64 c.by_,I .i64 c.at_]
def doV (WR:Cel→List Int) (h:Hst) (c:Clq):Hst × ByteArray × Int :=
 if c.kind=1 then (if zp2 h.seats c.o=0 then ({ h with seats:=zuo h.seats c.o },⟨#[]⟩,0)else (h,⟨#[]⟩,zp2 h.seats c.o))
 else if c.kind=2 then (if zhw WR h=0 then (zjs WR h,zn0 WR h,0)else (h,⟨#[]⟩,zhw WR h))
 else if c.kind=3 then (if zts h c.by_ c.at_=0 then (ztr h c.by_ c.at_,⟨#[]⟩,0)else (h,⟨#[]⟩,zts h c.by_ c.at_))
 else (h,⟨#[]⟩,1)
abbrev doA (r:Hst × ByteArray × Int):AV := .tup [zyf r.1,S r.2.1,I .i64 r.2.2]
theorem yi0 (h:Hst) (c:Clq) (WR:Cel→List Int) (hWR:∀a,zas h.sty.start.f [a] (WR a)) (hl:HstL h) (hb:HstB h) (hE:zry WR h=0) (hk:c.kind=1):Spec Tryz.prog 9 [zyf h,yfs c] [] (doA (doV WR h c)) []:=by
 have C:=zkb h WR hWR hl
 have D:=ydn h.seats c.o hl.l hl.a
 have eV:doV WR h c=if zp2 h.seats c.o=0 then ({ h with seats:=zuo h.seats c.o },⟨#[]⟩,0)else (h,⟨#[]⟩,zp2 h.seats c.o):=by unfold doV;rw[if_pos hk]
 rw[hE]at C
 rw[eV]
 refine spB Tryz.func9 51 [.cell 4 40,.tmp 5,.tmp 6] Tryz.results9 ?_
 try refine xst ?_
 refine caP (zib h hb) ?_
 try refine xst ?_
 refine caP (C) ?_
 try refine xst ?_
 refine cI (fun h1 => ?_) fun h1 => ?_
 ·simp at h1
 ·try refine xst ?_
  refine cI (fun h2 => ?_) fun h2 => ?_
  ·try refine xst ?_
   refine caP (D) ?_
   try refine xst ?_
   refine cI (fun h3 => ?_) fun h3 => ?_
   ·rw[if_neg h3]
    try refine xst ?_
    exact xrz rfl
   ·rw[if_pos h3,if_pos h3]
    try refine xst ?_
    exact xrz rfl
  ·exact absurd hk h2
theorem yiz (h:Hst) (c:Clq) (WR:Cel→List Int) (hWR:∀a,zas h.sty.start.f [a] (WR a)) (hl:HstL h) (hb:HstB h) (hE:zry WR h=0) (h0:za6 h.seats=0) (hm:1≤h.most∧h.most≤100) (hlen:(zci h).length≤9223372036854775807) (hk:c.kind=2):Spec Tryz.prog 9 [zyf h,yfs c] [] (doA (doV WR h c)) []:=by
 have C:=zkb h WR hWR hl
 have D:=ydq h WR hWR hl h0 hm hlen
 have eV:doV WR h c=if zhw WR h=0 then (zjs WR h,zn0 WR h,0)else (h,⟨#[]⟩,zhw WR h):=by unfold doV;rw[if_neg (by omega),if_pos hk]
 rw[hE]at C
 rw[eV]
 refine spB Tryz.func9 51 [.cell 4 40,.tmp 5,.tmp 6] Tryz.results9 ?_
 try refine xst ?_
 refine caP (zib h hb) ?_
 try refine xst ?_
 refine caP (C) ?_
 try refine xst ?_
 refine cI (fun h1 => ?_) fun h1 => ?_
 ·simp at h1
 ·try refine xst ?_
  refine cI (fun h2 => ?_) fun h2 => ?_
  ·omega
  ·try refine xst ?_
   refine cI (fun h3 => ?_) fun h3 => ?_
   ·try refine xst ?_
    refine caM [3] (D) ?_
    try refine xst ?_
    refine cI (fun h4 => ?_) fun h4 => ?_
    ·rw[if_neg h4]
     try refine xst ?_
     exact xrz rfl
    ·rw[if_pos h4]
     try refine xst ?_
     exact xrz rfl
   ·exact absurd hk h3
theorem yiy (h:Hst) (c:Clq) (WR:Cel→List Int) (hWR:∀a,zas h.sty.start.f [a] (WR a)) (hl:HstL h) (hb:HstB h) (hE:zry WR h=0) (h0:za6 h.seats=0) (hg:∀i,i<h.seats.length→zgp h i=true) (hk:c.kind=3):Spec Tryz.prog 9 [zyf h,yfs c] [] (doA (doV WR h c)) []:=by
 have C:=zkb h WR hWR hl
 have D:=ybn h c.by_ c.at_ hl h0 hg
 have eV:doV WR h c=if zts h c.by_ c.at_=0 then (ztr h c.by_ c.at_,⟨#[]⟩,0)else (h,⟨#[]⟩,zts h c.by_ c.at_):=by unfold doV;rw[if_neg (by omega),if_neg (by omega),if_pos hk]
 rw[hE]at C
 rw[eV]
 refine spB Tryz.func9 51 [.cell 4 40,.tmp 5,.tmp 6] Tryz.results9 ?_
 try refine xst ?_
 refine caP (zib h hb) ?_
 try refine xst ?_
 refine caP (C) ?_
 try refine xst ?_
 refine cI (fun h1 => ?_) fun h1 => ?_
 ·simp at h1
 ·try refine xst ?_
  refine cI (fun h2 => ?_) fun h2 => ?_
  ·omega
  ·try refine xst ?_
   refine cI (fun h3 => ?_) fun h3 => ?_
   ·omega
   ·try refine xst ?_
    refine cI (fun h4 => ?_) fun h4 => ?_
    ·try refine xst ?_
     refine caM [3] (D) ?_
     try refine xst ?_
     refine cI (fun h5 => ?_) fun h5 => ?_
     ·rw[if_neg h5]
      try refine xst ?_
      exact xrz rfl
     ·rw[if_pos h5]
      try refine xst ?_
      exact xrz rfl
    ·exact absurd hk h4
theorem yix (h:Hst) (c:Clq) (WR:Cel→List Int) (hWR:∀a,zas h.sty.start.f [a] (WR a)) (hl:HstL h) (hb:HstB h) (hE:zry WR h=0) (hk:¬(1≤c.kind∧c.kind≤3)):Spec Tryz.prog 9 [zyf h,yfs c] [] (doA (doV WR h c)) []:=by
 have C:=zkb h WR hWR hl
 have eV:doV WR h c=(h,⟨#[]⟩,1):=by unfold doV;rw[if_neg (by omega),if_neg (by omega),if_neg (by omega)]
 rw[hE]at C
 rw[eV]
 refine spB Tryz.func9 51 [.cell 4 40,.tmp 5,.tmp 6] Tryz.results9 ?_
 try refine xst ?_
 refine caP (zib h hb) ?_
 try refine xst ?_
 refine caP (C) ?_
 try refine xst ?_
 refine cI (fun h1 => ?_) fun h1 => ?_
 ·simp at h1
 ·try refine xst ?_
  refine cI (fun h2 => ?_) fun h2 => ?_
  ·omega
  ·try refine xst ?_
   refine cI (fun h3 => ?_) fun h3 => ?_
   ·omega
   ·try refine xst ?_
    refine cI (fun h4 => ?_) fun h4 => ?_
    ·omega
    ·try refine xst ?_
     refine cI (fun h5 => ?_) fun h5 => ?_
     ·try refine xst ?_
      exact xrz rfl
     ·simp at h5
end Go.Proofs.YtmjbgbmegbkmhaaGreat
namespace Go.Proofs.YtmjbgbmegbkmhaaGreat
set_option linter.all false
open Go.RowKit
set_option maxRecDepth 100000
set_option maxHeartbeats 1000000
theorem znl (most:Int) (l:List Sea) (n:Nat):(itS most n ([],l.map zbp)).2.length=l.length∧((itS most n ([],l.map zbp)).1.length:Int)≤max most 0∧((∀s∈l,zf0 s)→∀s∈(itS most n ([],l.map zbp)).2,zf0 s):=by
 have tkl:∀(m:List Sea) (out:List Ord),(∀s∈m,zf0 s)→∀s∈(tkS most out m).2,zf0 s:=by
  intro m
  induction m with
  | nil=>intro out _ s hs;simp[tkS]at hs
  | cons x r ih =>
   intro out hm s hs
   unfold tkS at hs
   split at hs
   ·rcases List.mem_cons.1 hs with rfl|hs
    ·have:=hm x (by simp);unfold zf0 at this ⊢;simp only[List.length_drop];omega
    ·exact ih _ (fun s h=>hm s (by simp[h])) s hs
   ·rcases List.mem_cons.1 hs with rfl|hs
    ·exact hm _ (by simp)
    ·exact ih _ (fun s h=>hm s (by simp[h])) s hs
 induction n with
 | zero=>exact⟨by simp[itS],by simp[itS];omega,fun h s hs=>by simp only[itS]at hs;obtain⟨t,ht,rfl⟩:=List.mem_map.1 hs;exact h t ht⟩
 | succ n ih =>
  rw[zka]
  exact⟨by rw[zzo];exact ih.1,zzp most _ _ ih.2.1,fun h=>tkl _ _ (ih.2.2 h)⟩
end Go.Proofs.YtmjbgbmegbkmhaaGreat
namespace Go.Proofs.YtmjbgbmegbkmhaaGreat
set_option linter.all false
open Go.RowKit
set_option maxRecDepth 100000
set_option maxHeartbeats 2000000
theorem zz7:∀(n m:Nat) (g:List Nat),(zma n m g).2.length=g.length
 | 0,_,_=>rfl
 | n+1,m,g=>by
  rw[zma]
  split
  ·rfl
  ·rw[zz7 n,zvn]
theorem z66 (m:Nat) (xs:List Nat) (b a:Int):(zch m xs b a).1.2.length≤xs.length:=by
 unfold zch
 repeat' split
 all_goals(first|(simp;done)|(rw[zz7];simp))
theorem zs7 {WR:Cel→List Int} {h:Hst} (hE:zry WR h=0):za6 h.seats=0∧(1≤h.most∧h.most≤100)∧∀i,i<h.seats.length→zgp h i=true:=by
 unfold zry at hE
 split at hE
 ·rename_i x;exact absurd hE x
 split at hE
 ·rename_i x;exact absurd hE x
 rename_i h2
 split at hE
 ·rename_i x;exact absurd hE x
 split at hE
 ·omega
 rename_i h4
 split at hE
 ·omega
 split at hE
 ·rename_i ha
  exact⟨by simpa using h2,by omega,fun i hi=>List.all_eq_true.1 ha i (List.mem_range.2 hi)⟩
 ·omega
theorem zpw (h:Hst) (hm:h.most≤100):(zci h).length≤100:=by
 have:=(znl h.most h.seats 50).2.1
 unfold zci zc0
 omega
theorem zo3 (most:Int) (l:List Sea):(zc0 most l).2.length=l.length∧((∀s∈l,zf0 s)→∀s∈(zc0 most l).2,zf0 s):=by
 have h:=znl most l 50
 unfold zc0
 exact⟨h.1,h.2.2⟩
structure HstS (h : Hst) : Prop where
 s:StyL h.sty
 l:h.seats.length≤9223372036854775807
 a:∀s∈h.seats,zf0 s
 g:h.ag.length≤9223372036854775807
theorem HstL.s' {h:Hst} (hl:HstL h):HstS h:=⟨hl.s,hl.l,hl.a,hl.g⟩
theorem yem (w:Wld) (n:Int) (hl:ze8 w) (hb:w.bases.length≤9223372036854775807):HstS (zx3 w n):=by
 unfold zx3
 split
 ·refine⟨⟨hl,fun l h=>by simp at h,Nat.zero_le _⟩,by simp only[List.length_replicate];exact hb,fun s hs => ?_,by simp only[List.length_replicate];omega⟩
  rw[(List.mem_replicate.1 hs).2];exact Nat.zero_le _
 ·exact⟨z7w,Nat.zero_le _,fun s hs=>by exact absurd hs List.not_mem_nil,Nat.zero_le _⟩
theorem yi6 {WR:Cel→List Int} {h:Hst} (c:Clq) (hl:HstL h) (hE:zry WR h=0):HstS (doV WR h c).1:=by
 obtain⟨h0,hm,-⟩:=zs7 hE
 have h50:=(zcb h0).2.2.1
 have h8:=(zcb h0).2.1
 unfold doV
 split
 ·split
  ·refine⟨hl.s,by simp only[zuo,List.length_set];omega,fun s hs => ?_,hl.g⟩
   rcases List.mem_or_eq_of_mem_set hs with e|e
   ·exact hl.a s e
   ·subst e
    unfold zf0
    simp only[List.length_append,List.length_cons,List.length_nil]
    by_cases hi:c.o.by_.toNat<h.seats.length
    ·have:=h50 _ (zaz h.seats c.o.by_.toNat hi)
     omega
    ·have:(h.seats.getD c.o.by_.toNat default)=default:=by rw[List.getD_eq_getElem?_getD,List.getElem?_eq_none (by omega)];rfl
     rw[this];decide
  ·exact hl.s'
 split
 ·split
  ·unfold zjs
   split
   ·exact hl.s'
   ·have hcl:=zo3 h.most h.seats
    have hml:=yau h.sty (zci h) WR hl.s (by have:=zpw h hm.2;omega)
    generalize zc0 h.most h.seats=V at *
    generalize zgu WR h.sty (zci h)=M at *
    exact⟨hml,by rw[hcl.1];omega,hcl.2 hl.a,hl.g⟩
  ·exact hl.s'
 split
 ·split
  ·unfold ztr
   split
   ·exact hl.s'
   ·refine⟨hl.s,by show (zb7 _ _ _ _).length≤_;rw[zc9];omega,ydu (zei h0 _ (Nat.le_refl _)),?_⟩
    exact Nat.le_trans (z66 _ _ _ _) hl.g
  ·exact hl.s'
 ·exact hl.s'
theorem yff (h:Hst) (c:Clq) (WR:Cel→List Int) (hWR:∀a,zas h.sty.start.f [a] (WR a)) (hl:HstL h) (hb:HstB h) (hE:zry WR h=0):Spec Tryz.prog 9 [zyf h,yfs c] [] (doA (doV WR h c)) []:=by
 obtain⟨h0,hm,hg⟩:=zs7 hE
 have hlen:(zci h).length≤9223372036854775807:=by have:=zpw h hm.2;omega
 by_cases k1:c.kind=1
 ·exact yi0 h c WR hWR hl hb hE k1
 by_cases k2:c.kind=2
 ·exact yiz h c WR hWR hl hb hE h0 hm hlen k2
 by_cases k3:c.kind=3
 ·exact yiy h c WR hWR hl hb hE h0 hg k3
 ·exact yix h c WR hWR hl hb hE (by omega)
end Go.Proofs.YtmjbgbmegbkmhaaGreat
namespace Go.Proofs.YtmjbgbmegbkmhaaGreat
set_option linter.all false
open Go.RowKit
set_option maxRecDepth 100000
set_option maxHeartbeats 1000000
theorem zz5 {s:Sea} {i:Int} (h1:0≤s.late∧s.late≤1000000) (h2:s.gone=true→s.late=0∧s.waits.length=0) (h3:∀o∈s.waits,o.by_=i∧zer o=0):zp0 s i=true:=by
 unfold zp0 zmy
 simp only[Bool.and_eq_true,Bool.not_eq_true',Bool.or_eq_false_iff,Bool.not_eq_false',within_iff,List.any_eq_false]
 refine⟨⟨h1,?_⟩,fun o ho => ?_⟩
 ·cases hg:s.gone with
  | false=>rfl
  | true =>
   obtain⟨a,b⟩:=h2 hg
   simp[a,b]
 ·obtain⟨a,b⟩:=h3 o ho
  unfold zjk
  simp[a,b]
def SubS (s t:Sea):Prop:=t.late=s.late∧t.gone=s.gone∧t.waits.length≤s.waits.length∧∀o∈t.waits,o∈s.waits
theorem SubS.refl (s:Sea):SubS s s:=⟨rfl,rfl,Nat.le_refl _,fun _ h=>h⟩
theorem SubS.trans {a b c:Sea} (h:SubS a b) (k:SubS b c):SubS a c:=⟨k.1.trans h.1,k.2.1.trans h.2.1,Nat.le_trans k.2.2.1 h.2.2.1,fun o ho=>h.2.2.2 o (k.2.2.2 o ho)⟩
theorem zsc (most:Int):∀(l:List Sea) (out:List Ord) (k:Nat),SubS (l.getD k default) ((tkS most out l).2.getD k default)
 | [],_,_=>SubS.refl _
 | s::r,out,k=>by
  unfold tkS
  split
  ·cases k with
   | zero=>exact⟨rfl,rfl,by simp,fun o ho=>List.mem_of_mem_drop ho⟩
   | succ k=>exact zsc most r _ k
  ·cases k with
   | zero=>exact SubS.refl _
   | succ k=>exact zsc most r _ k
theorem z1x (most:Int):∀(n:Nat) (x:List Ord × List Sea) (k:Nat),SubS (x.2.getD k default) ((itS most n x).2.getD k default)
 | 0,_,_=>SubS.refl _
 | n+1,x,k=>by rw[itS];exact(zsc most x.2 x.1 k).trans (z1x most n _ k)
theorem ya5 (l:List Sea) (k:Nat) (hk:k<l.length):(l.map zbp).getD k default=zbp (l.getD k default):=by
 simp[hk]
theorem zro (most:Int) (l:List Sea) (k:Nat) (hk:k<l.length):SubS (zbp (l.getD k default)) ((zc0 most l).2.getD k default):=by
 have:=z1x most 50 ([],l.map zbp) k
 rw[show (([],l.map zbp):List Ord × List Sea).2=l.map zbp from rfl,ya5 l k hk]at this
 exact this
theorem zto {most:Int} {l:List Sea} (h:za6 l=0):za6 (zc0 most l).2=0:=by
 obtain⟨h1,h2,h3,h4⟩:=zcb h
 have hl:=(zo3 most l).1
 have CS:=zro most l
 generalize zc0 most l=V at *
 unfold za6
 rw[if_neg (by omega),if_neg,if_pos]
 ·rw[List.all_eq_true]
  intro i hi
  have hi:=List.mem_range.1 hi
  have hi':i<l.length:=by omega
  obtain⟨a,b,c,d⟩:=CS i hi'
  obtain⟨r1,r2,r3⟩:=zsj (h4 i hi')
  refine zz5 ?_ ?_ ?_
  ·rw[a];unfold zbp;simp only
   split
   ·decide
   ·split
    ·exact r1
    ·omega
  ·intro hg
   rw[b]at hg
   obtain⟨q1,q2⟩:=r2 hg
   have hg':(l.getD i default).gone=true:=hg
   have hw:(zbp (l.getD i default)).waits.length=0:=q2
   refine⟨?_,by omega⟩
   rw[a];unfold zbp;simp only
   rw[if_neg (by omega),if_pos hg'];exact q1
  ·intro o ho
   exact r3 o (d o ho)
 ·rw[List.any_eq_true]
  rintro⟨s,hs,hx⟩
  rw[decide_eq_true_iff]at hx
  obtain⟨i,hi,rfl⟩:=List.getElem_of_mem hs
  have hi':i<l.length:=by omega
  obtain⟨a,b,c,d⟩:=CS i hi'
  have hc:V.2.getD i default=V.2[i]:=zac _ _ hi
  rw[hc]at c
  have h5:(zbp (l.getD i default)).waits.length≤50:=h3 (l.getD i default) (zaz l i hi')
  omega
theorem zyr (most:Int) (l:List Sea) (k:Nat) (hk:k<l.length):((zc0 most l).2.getD k default).gone=(l.getD k default).gone:=(zro most l k hk).2.1
theorem zl4 (n k j:Nat) (hn:n<4294967296) (hk:k<32) (hj:j<32):zcv (clr n k) j=(zcv n j && !decide (j=k)):=by
 rw[←z3m n k hn hk,zgn,zgn,Nat.testBit_and,show 4294967295-2 ^ k=2 ^ 32-(2 ^ k+1)from by omega,Nat.testBit_two_pow_sub_succ (by have:=(zxx k hk).2;omega),Nat.testBit_two_pow,decide_eq_true hj,Bool.true_and]
 congr 2
 rw[decide_eq_decide];omega
structure VInv (m : Nat) (g : List Nat) : Prop where
 p:0<m
 l:m≤65535
 n:g.length=16
 e:∀s∈g,s<4294967296
 b:∀k j,k<16→j<32→zcv (g.getD k 0) j=true→zcv m k=true∧zcv m j=true∧j≠k
theorem zne {g:List Nat} (h:∀s∈g,s<4294967296) (k:Nat):g.getD k 0<4294967296:=by
 rcases Nat.lt_or_ge k g.length with hk|hk
 ·rw[List.getD_eq_getElem?_getD,List.getElem?_eq_getElem hk];exact h _ (List.getElem_mem _)
 ·rw[List.getD_eq_getElem?_getD,List.getElem?_eq_none hk];decide
theorem z80 {m:Nat} {g:List Nat} (h:za7 m g=0) (hg:∀s∈g,s<4294967296):VInv m g:=by
 obtain⟨h1,h2,h3,h4⟩:=zir m g h
 refine⟨h1.1,h1.2,h2,hg,fun k j hk hj hb => ?_⟩
 have hs:=zne hg k
 have hn:=not_congr (z3j m k (g.getD k 0) (by omega) hs (by omega))
 rw[h3 k hk]at hn
 have hx:=hn.1 (by decide)
 have hr:ycz m k (g.getD k 0) j=false:=by
  rcases hq:ycz m k (g.getD k 0) j with _|_
  ·rfl
  ·exact absurd ⟨j,hj,hq⟩ hx
 unfold ycz at hr
 rw[hb]at hr
 simp only[Bool.true_and,Bool.or_eq_false_iff,Bool.not_eq_false',decide_eq_false_iff_not]at hr
 exact⟨hr.1.1,hr.1.2,hr.2⟩
theorem yan {m:Nat} {g:List Nat} (h:VInv m g) (ht:znu m g=none):za7 m g=0:=by
 unfold za7
 rw[if_neg (by have:=h.p;have:=h.l;omega),if_neg (fun x=>x h.n),if_neg,if_neg]
 ·rw[ht];decide
 ·rw[List.any_eq_true]
  rintro⟨k,hk,hb⟩
  have hk:=List.mem_range.1 hk
  obtain⟨j,hj,hr⟩:=(z3j m k (g.getD k 0) (by have:=h.l;omega) (zne h.e k) (by omega)).1 hb
  unfold ycz at hr
  rw[Bool.and_eq_true]at hr
  obtain⟨a,b,c⟩:=h.b k j hk hj hr.1
  rw[a,b]at hr
  simp[c]at hr
theorem yen {s:Nat} (h:s≠0) (hs:s<4294967296):∃j,j<32∧zcv s j=true:=by
 obtain⟨j,hj⟩:=Nat.exists_testBit_of_ne_zero h
 refine⟨j,?_,by rw[zgn];exact hj⟩
 rcases Nat.lt_or_ge j 32 with h|h
 ·exact h
 ·rw[Nat.testBit_lt_two_pow (Nat.lt_of_lt_of_le hs (show 2 ^ 32≤2 ^ j from Nat.pow_le_pow_right (by decide) h))]at hj
  exact absurd hj (by decide)
theorem ycf {s j:Nat} (h:zcv s j=true):0<s:=by
 rcases Nat.eq_zero_or_pos s with rfl|h1
 ·unfold zcv at h;simp at h
 ·exact h1
theorem yip (g:List Nat) (k i:Nat):(lv g k).getD i 0=if i=k then 0 else clr (g.getD i 0) k:=by
 unfold lv
 rw[List.getD_eq_getElem?_getD,List.getElem?_map,List.getElem?_set]
 by_cases h:k=i
 ·rw[if_pos h,if_pos h.symm]
  split<;>simp[zo2]
 ·rw[if_neg h,if_neg (fun x=>h x.symm),List.getD_eq_getElem?_getD]
  cases g[i]? <;> simp[zo2]
theorem z81 {m:Nat} {g:List Nat} {k:Nat} (h:VInv m g) (ht:znu m g=some k):VInv (clr m k) (lv g k):=by
 obtain⟨hk,_,h0⟩:=zhr m g k ht
 have hk16:k<16:=by have:=h.n;omega
 have hm:m<4294967296:=by have:=h.l;omega
 have hgk:g.getD k 0=g[k]:=by rw[List.getD_eq_getElem?_getD,List.getElem?_eq_getElem hk];rfl
 obtain⟨j,hj,hb⟩:=yen (s:=g.getD k 0) (by rw[hgk];exact h0) (zne h.e k)
 obtain⟨b1,b2,b3⟩:=h.b k j hk16 hj hb
 refine⟨?_,Nat.le_trans (znk _ _) h.l,by rw[zvn];exact h.n,fun s hs => ?_,fun i q hi hq hb => ?_⟩
 ·refine ycf (j:=j) ?_
  rw[zl4 m k j hm (by omega) hj,b2,decide_eq_false b3];rfl
 ·unfold lv at hs
  obtain⟨t,ht,rfl⟩:=List.mem_map.1 hs
  refine Nat.lt_of_le_of_lt (znk _ _) ?_
  rcases List.mem_or_eq_of_mem_set ht with e|e
  ·exact h.e t e
  ·rw[e];decide
 ·rw[yip]at hb
  split at hb
  ·unfold zcv at hb;simp at hb
  ·rename_i hik
   rw[zl4 _ k q (zne h.e i) (by omega) hq,Bool.and_eq_true]at hb
   obtain⟨c1,c2⟩:=hb
   have c2:¬q=k:=by simpa using c2
   obtain⟨d1,d2,d3⟩:=h.b i q hi hq c1
   rw[zl4 m k i hm (by omega) (by omega),zl4 m k q hm (by omega) hq,d1,d2,decide_eq_false hik,decide_eq_false c2]
   exact⟨rfl,rfl,d3⟩
theorem zt3:∀(n m:Nat) (g:List Nat),VInv m g→nz g≤n→VInv (zma n m g).1 (zma n m g).2∧znu (zma n m g).1 (zma n m g).2=none∧∀j,j<32→zcv (zma n m g).1 j=true→zcv m j=true
 | 0,m,g,h,hn=>by
  refine⟨h,?_,fun j _ hj=>hj⟩
  show znu m g=none
  cases ht:znu m g with
  | none=>rfl
  | some k =>
   obtain⟨hk,_,h0⟩:=zhr m g k ht
   have:=z5h g k hk h0
   omega
 | n+1,m,g,h,hn=>by
  rw[zma]
  cases ht:znu m g with
  | none=>exact⟨h,ht,fun j _ hj=>hj⟩
  | some k =>
   obtain⟨hk,_,h0⟩:=zhr m g k ht
   have hz:=z5h g k hk h0
   have hk16:k<16:=by have:=h.n;omega
   obtain⟨a,b,c⟩:=zt3 n (clr m k) (lv g k) (z81 h ht) (by omega)
   refine⟨a,b,fun j hj hb => ?_⟩
   have:=c j hj hb
   rw[zl4 m k j (by have:=h.l;omega) (by omega) hj,Bool.and_eq_true]at this
   exact this.1
theorem yad {n k j:Nat} (hn:n<4294967296) (hk:k<32) (hb:zcv n k=false) (h:zcv (n+2 ^ k) j=true):zcv n j=true∨j=k:=by
 rw[←(z0v n k hn hk hb).1,zgn,Nat.testBit_or,Nat.testBit_two_pow,Bool.or_eq_true,decide_eq_true_iff]at h
 rw[zgn]
 rcases h with h|h
 ·exact .inl h
 ·exact .inr h.symm
theorem z3z {m:Nat} {g:List Nat} {a b:Nat} (h:VInv m g) (ha:a<16) (hb:b<32) (hma:zcv m a=true) (hmb:zcv m b=true) (hne:b≠a) (h0:zcv (g.getD a 0) b=false):VInv m (g.set a (g.getD a 0+2 ^ b)):=by
 refine⟨h.p,h.l,by rw[List.length_set];exact h.n,fun s hs => ?_,fun k j hk hj hb' => ?_⟩
 ·rcases List.mem_or_eq_of_mem_set hs with e|e
  ·exact h.e s e
  ·rw[e];exact(z0v _ b (zne h.e a) hb h0).2
 ·rw[List.getD_eq_getElem?_getD,List.getElem?_set]at hb'
  by_cases hka:a=k
  ·rw[if_pos hka,if_pos (by rw[h.n];exact ha)]at hb'
   subst hka
   rcases yad (zne h.e a) hb h0 hb' with x|x
   ·exact h.b a j hk hj x
   ·subst x;exact⟨hma,hmb,hne⟩
  ·rw[if_neg hka,←List.getD_eq_getElem?_getD]at hb'
   exact h.b k j hk hj hb'
theorem z18 {m:Nat} {a:Int} (hm:m≤65535) (h:zhn m a=true):∃k:Nat,k<16∧a=(k:Int)∧zcv m k=true:=by
 by_cases h1:0≤a∧a<16
 ·refine⟨a.toNat,by omega,by omega,?_⟩
  rw[←zta m a.toNat (by omega),show ((a.toNat:Nat):Int)=a by omega];exact h
 ·rw[zs9 m a (by omega) h1]at h
  exact absurd h (by decide)
theorem zyt {m:Nat} {g:List Nat} {b a:Int} (hg:∀s∈g,s<4294967296) (h:(zch m g b a).2.2=0):za7 (zch m g b a).1.1 (zch m g b a).1.2=0∧(zch m g b a).1.1<4294967296∧(∀s∈(zch m g b a).1.2,s<4294967296)∧(zch m g b a).1.2.length=16∧∀j,j<32→zcv (zch m g b a).1.1 j=true→zcv m j=true:=by
 unfold zch at h ⊢
 split at h
 ·rename_i x;exact absurd h x
 rename_i h1
 have h1:za7 m g=0:=by simpa using h1
 rw[if_neg (fun x=>x h1)]
 have I:=z80 h1 hg
 split at h
 ·exact absurd h (by decide)
 rename_i h2
 rw[if_neg h2]
 have h2:(zhn m b&&zhn m a)=true:=by simpa using h2
 rw[Bool.and_eq_true]at h2
 obtain⟨kb,hkb,rfl,hb⟩:=z18 I.l h2.1
 obtain⟨ka,hka,rfl,ha⟩:=z18 I.l h2.2
 split at h
 ·exact absurd h (by decide)
 rename_i h3
 rw[if_neg h3]
 split at h
 ·exact absurd h (by decide)
 rename_i h4
 rw[if_neg h4]
 rw[Int.toNat_natCast,Int.toNat_natCast]at *
 have J:=z3z (a:=ka) (b:=kb) I hka (by omega) ha hb (by omega) (by simpa using h4)
 have hz:=yei (g.set ka (g.getD ka 0+2 ^ kb))
 rw[J.n]at hz
 obtain⟨a1,a2,a3⟩:=zt3 16 m _ J hz
 exact⟨yan a1 a2,Nat.lt_of_le_of_lt a1.l (by decide),a1.e,a1.n,a3⟩
theorem zvx {WR:Cel→List Int} {h:Hst} (hE:zry WR h=0):zsd WR h.sty=0∧za6 h.seats=0∧za7 h.m h.ag=0∧(1≤h.most∧h.most≤100)∧h.seats.length=h.sty.start.bases.length∧h.m/2 ^ h.seats.length=0∧∀i,i<h.seats.length→zgp h i=true:=by
 have hE0:=hE
 unfold zry at hE
 split at hE
 ·rename_i x;exact absurd hE x
 rename_i h1
 split at hE
 ·rename_i x;exact absurd hE x
 split at hE
 ·rename_i x;exact absurd hE x
 rename_i h3
 split at hE
 ·omega
 split at hE
 ·omega
 rename_i h5
 have hx:h.seats.length=h.sty.start.bases.length∧h.m/2 ^ h.seats.length=0:=by
  rw[not_or,Decidable.not_not,Decidable.not_not]at h5;exact h5
 obtain⟨a,b,c⟩:=zs7 hE0
 exact⟨by simpa using h1,a,by simpa using h3,b,hx.1,hx.2,c⟩
theorem zoq {WR:Cel→List Int} {h:Hst} (a:zsd WR h.sty=0) (b:za6 h.seats=0) (c:za7 h.m h.ag=0) (d:1≤h.most∧h.most≤100) (e:h.seats.length=h.sty.start.bases.length) (f:h.m/2 ^ h.seats.length=0) (g:∀i,i<h.seats.length→zgp h i=true):zry WR h=0:=by
 unfold zry
 rw[if_neg (fun x=>x a),if_neg (fun x=>x b),if_neg (fun x=>x c),if_neg (fun x=>x d),if_neg (by rw[not_or,Decidable.not_not,Decidable.not_not];exact⟨e,f⟩),if_pos]
 rw[List.all_eq_true]
 exact fun i hi=>g i (List.mem_range.1 hi)
theorem zm6 {WR:Cel→List Int} {s:Sty} {l:List Ord} (h:zfr WR s l=0):zsd WR s=0∧s.turns.length≤199∧zbo l (zgq WR s.turns s.start)=0∧zgu WR s l=⟨s.start,s.turns ++ [l]⟩∧zsd WR (zgu WR s l)=0:=by
 have hs:zgu WR s l=⟨s.start,s.turns ++ [l]⟩:=if_pos h
 unfold zfr at h
 split at h
 ·rename_i x;exact absurd h x
 rename_i h1
 have h1:zsd WR s=0:=by simpa using h1
 split at h
 ·omega
 rename_i h2
 rw[show zg9 WR s.turns s.start=zgq WR s.turns s.start from if_pos h1]at h
 refine⟨h1,by omega,h,hs,?_⟩
 rw[hs]
 obtain⟨k1,k2,k3⟩:=zhy h1
 show zd8 WR (s.turns ++ [l]) s.start=0
 unfold zd8
 rw[if_neg (by rw[List.length_append];simp;omega),if_neg (fun hn=>hn k2.e),zj3,if_neg (fun x=>x k3),zhm,if_neg (fun x=>x h)]
 rfl
structure HOk (WR : Cel → List Int) (h : Hst) : Prop where
 e:zry WR h=0
 l:HstL h
theorem yb1 {a b k:Nat} (h:a≤b) (hb:b/2 ^ k=0):a/2 ^ k=0:=by
 have:=Nat.div_le_div_right (c:=2 ^ k) h
 exact Nat.le_zero.1 (Nat.le_trans this (Nat.le_of_eq hb))
theorem zlr (m m':Nat) (l:List Sea) (j:Nat) (hj:j<l.length):∀k,k≤l.length→((zb7 m m' l k).getD j default).gone=if j<k∧zrb m m' j=true then true else (l.getD j default).gone
 | 0,_=>by rw[if_neg (by omega)];rfl
 | k+1,hk=>by
  have ih:=zlr m m' l j hj k (by omega)
  have hlen:=zc9 m m' l k
  unfold zb7
  split
  ·rename_i hg
   unfold zg0
   rw[List.getD_eq_getElem?_getD,List.getElem?_set,Int.toNat_natCast]
   by_cases h:k=j
   ·rw[if_pos h,if_pos (by omega),if_pos ⟨by omega,h▸hg⟩];rfl
   ·rw[if_neg h,←List.getD_eq_getElem?_getD,ih]
    by_cases h2:zrb m m' j=true
    ·by_cases h3:j<k
     ·rw[if_pos ⟨h3,h2⟩,if_pos ⟨by omega,h2⟩]
     ·rw[if_neg (fun x=>h3 x.1),if_neg (fun x=>h3 (by omega))]
    ·rw[if_neg (fun x=>h2 x.2),if_neg (fun x=>h2 x.2)]
  ·rename_i hg
   rw[ih]
   by_cases h2:zrb m m' j=true
   ·by_cases h3:j<k
    ·rw[if_pos ⟨h3,h2⟩,if_pos ⟨by omega,h2⟩]
    ·have:j≠k:=fun x=>hg (x▸h2)
     rw[if_neg (fun x=>h3 x.1),if_neg (fun x=>h3 (by omega))]
   ·rw[if_neg (fun x=>h2 x.2),if_neg (fun x=>h2 x.2)]
theorem z4k {l:List Sea} {o:Ord} (h:zp2 l o=0):za6 (zuo l o)=0∧(zuo l o).length=l.length∧∀j,((zuo l o).getD j default).gone=(l.getD j default).gone:=by
 have hl:(zuo l o).length=l.length:=by unfold zuo;rw[List.length_set]
 have hg:∀j,((zuo l o).getD j default).gone=(l.getD j default).gone:=fun j=>by
  unfold zuo
  rw[List.getD_eq_getElem?_getD,List.getElem?_set]
  by_cases hj:o.by_.toNat=j
  ·rw[if_pos hj]
   split
   ·subst hj;rfl
   ·rename_i hn;rw[List.getD_eq_getElem?_getD,List.getElem?_eq_none (by omega)]
  ·rw[if_neg hj,←List.getD_eq_getElem?_getD]
 refine⟨?_,hl,hg⟩
 unfold zp2 at h
 split at h
 ·rename_i x;exact absurd h x
 rename_i h1
 have h1:za6 l=0:=by simpa using h1
 split at h
 ·rename_i x;exact absurd h x
 rename_i h2
 have h2:zer o=0:=by simpa using h2
 split at h
 ·omega
 rename_i h3
 split at h
 ·omega
 rename_i h4
 split at h
 ·omega
 rename_i h5
 obtain⟨s1,s2,s3,s4⟩:=zcb h1
 have hb:=(zfa h2).1
 have hi:o.by_.toNat<l.length:=by omega
 have hw:(l.getD o.by_.toNat default).waits.length≤50:=s3 _ (zaz l _ hi)
 unfold za6
 rw[hl,if_neg (by omega),if_neg,if_pos]
 ·rw[List.all_eq_true]
  intro i hi2
  have hi2:=List.mem_range.1 hi2
  unfold zuo
  rw[List.getD_eq_getElem?_getD,List.getElem?_set]
  by_cases hj:o.by_.toNat=i
  ·rw[if_pos hj,if_pos (by omega)]
   obtain⟨r1,r2,r3⟩:=zsj (s4 _ hi)
   refine zz5 r1 (fun hg => ?_) (fun x hx => ?_)
   ·exact absurd hg h4
   ·rcases List.mem_append.1 hx with hx|hx
    ·have:=r3 x hx;rw[hj]at this;exact this
    ·rw[List.mem_singleton.1 hx];exact⟨by omega,h2⟩
  ·rw[if_neg hj,←List.getD_eq_getElem?_getD];exact s4 i hi2
 ·rw[List.any_eq_true]
  rintro⟨s,hs,hx⟩
  rw[decide_eq_true_iff]at hx
  unfold zuo at hs
  rcases List.mem_or_eq_of_mem_set hs with e|e
  ·have:=s3 s e;omega
  ·subst e
   simp only[List.length_append,List.length_cons,List.length_nil]at hx
   omega
theorem HOk.step {WR:Cel→List Int} {h:Hst} (c:Clq) (H:HOk WR h):HOk WR (doV WR h c).1∧(doV WR h c).1.sty.start=h.sty.start:=by
 obtain⟨hE,hl⟩:=H
 obtain⟨e1,e2,e3,e4,e5,e6,e7⟩:=zvx hE
 have L:=yi6 (WR:=WR) c hl hE
 unfold doV at L ⊢
 split
 ·rename_i hk
  rw[if_pos hk]at L
  split
  ·rename_i h1
   rw[if_pos h1]at L
   obtain⟨s1,s2,s3⟩:=z4k h1
   refine⟨⟨zoq e1 s1 e3 e4 (by rw[s2];exact e5) (by rw[s2];exact e6) (fun i hi => ?_),L.s,L.l,L.a,hl.m,L.g,hl.e⟩,rfl⟩
   have:=e7 i (by rw[←s2];exact hi)
   unfold zgp at this ⊢
   simp only
   rw[s3];exact this
  ·exact⟨⟨hE,hl⟩,rfl⟩
 rename_i hk1
 rw[if_neg hk1]at L
 split
 ·rename_i hk
  rw[if_pos hk]at L
  split
  ·rename_i h1
   rw[if_pos h1]at L
   have hm:zfr WR h.sty (zci h)=0:=by
    unfold zhw at h1
    split at h1
    ·exact h1
    ·rename_i x;simpa using x
   have eH:zjs WR h = { h with seats:=(zc0 h.most h.seats).2,sty:=zgu WR h.sty (zci h) }:=by unfold zjs;rw[if_neg (fun x=>x hm)]
   obtain⟨m1,m2,m3,m4,m5⟩:=zm6 hm
   have hcl:=(zo3 h.most h.seats).1
   rw[eH]at L ⊢
   have hcr:=zto (most:=h.most) e2
   have hcg:=zyr h.most h.seats
   generalize zc0 h.most h.seats=V at *
   refine⟨⟨zoq m5 hcr e3 e4 ?_ ?_ (fun i hi => ?_),L.s,L.l,L.a,hl.m,L.g,hl.e⟩,?_⟩
   ·show V.2.length=(zgu WR h.sty (zci h)).start.bases.length
    rw[m4,hcl];exact e5
   ·show h.m/2 ^ V.2.length=0
    rw[hcl];exact e6
   ·have hi:i<h.seats.length:=by rw[←hcl];exact hi
    have:=e7 i hi
    unfold zgp at this ⊢
    simp only
    rw[hcg i hi];exact this
   ·show (zgu WR h.sty (zci h)).start=_
    rw[m4]
  ·exact⟨⟨hE,hl⟩,rfl⟩
 rename_i hk2
 rw[if_neg hk2]at L
 split
 ·rename_i hk
  rw[if_pos hk]at L
  split
  ·rename_i h1
   rw[if_pos h1]at L
   have h1':(zch h.m h.ag c.by_ c.at_).2.2=0:=h1
   obtain⟨v1,v2,v3,v4,v5⟩:=zyt hl.e h1'
   have hle:=zws h.m h.ag c.by_ c.at_
   unfold ztr at L ⊢
   rw[if_neg (fun x=>x h1)]at L ⊢
   generalize zch h.m h.ag c.by_ c.at_=V at *
   have hln:=zc9 h.m V.1.1 h.seats h.seats.length
   refine⟨⟨zoq e1 (zei e2 _ (Nat.le_refl _)) v1 e4 ?_ ?_ (fun i hi => ?_),L.s,L.l,L.a,v2,L.g,v3⟩,rfl⟩
   ·show (zb7 h.m V.1.1 h.seats h.seats.length).length=_
    rw[hln];exact e5
   ·show V.1.1/2 ^ (zb7 h.m V.1.1 h.seats h.seats.length).length=0
    rw[hln];exact yb1 hle e6
   ·have hi:i<h.seats.length:=by rw[←hln];exact hi
    have h8:=(zcb e2).2.1
    have hx:=e7 i hi
    unfold zgp at hx ⊢
    have hx:=of_decide_eq_true hx
    rw[decide_eq_true_iff]
    show ((zb7 h.m V.1.1 h.seats h.seats.length).getD i default).gone = !zcv V.1.1 i
    rw[zlr h.m V.1.1 h.seats i hi _ (Nat.le_refl _)]
    have v5:=v5 i (by omega)
    unfold zrb
    rw[hx]
    cases hb:zcv h.m i<;>cases hb':zcv V.1.1 i
    ·simp
    ·rw[hb,hb']at v5;exact absurd (v5 rfl) (by decide)
    ·simp[hi]
    ·simp
  ·exact⟨⟨hE,hl⟩,rfl⟩
 ·exact⟨⟨hE,hl⟩,rfl⟩
theorem HOk.b {WR:Cel→List Int} {h:Hst} (H:HOk WR h):HstB h:=by
 obtain⟨e1,e2,e3,e4,e5,e6,e7⟩:=zvx H.e
 obtain⟨s1,s2,s3,s4⟩:=zcb e2
 obtain⟨k1,k2,k3⟩:=zhy e1
 have kl:=zk3 _ k3
 have hr:=k2
 obtain⟨v1,v2,-⟩:=zir _ _ e3
 obtain⟨l1,l2,l3,l4,l5⟩:=hr.l
 have hp:=hr.places
 have:=hr.ml
 have:=hr.sl
 have:=hr.nb
 have:=hr.nt
 exact⟨by omega,by omega,by omega,by omega,by omega,fun l hl=>by have:=kl l hl;omega,by omega,fun s hs=>by have:=s3 s hs;omega,by omega,by omega⟩
def z0u (c:List Int):Ord:=⟨c.getD 0 default,c.getD 1 default,c.getD 2 default,⟨c.getD 3 default,c.getD 4 default⟩,c.getD 5 default⟩
def zgy (ns:List Int) (k:Nat):List Ord:=(List.range k).map fun i=>z0u (zh1 ns 6 i)
theorem zm4 (ns:List Int) (k:Nat):(zgy ns k).length=k:=by simp[zgy]
def zec (s:ByteArray):List Ord × Int :=
 if (zcs s).2≠0 then ([],(zcs s).2)
 else if (gaR (zcs s).1).2≠0 then ([],(gaR (zcs s).1).2)
 else if (gaR (zcs s).1).1.length % 6≠0 then ([],4)
 else if zc6 (zgy (gaR (zcs s).1).1 ((gaR (zcs s).1).1.length/6))≠0 then ([],zc6 (zgy (gaR (zcs s).1).1 ((gaR (zcs s).1).1.length/6)))
 else (zgy (gaR (zcs s).1).1 ((gaR (zcs s).1).1.length/6),0)
theorem yb7 (xs:List Int) (m:Nat) (hm:1≤m):Spec Tryz.prog 37 [.c (.sl 1 (xs.map zad)),I .i64 m] [] (.clo (.func 83) [] [.fel 1 [[.sl 1 (xs.map zad)]] 0 0,.fel 1 [[.v (.int .i64 m)]] 0 0]) []:=by
 refine spB Tryz.func37 9 [.tmp 4] Tryz.results37 ?_
 try refine xst ?_
 refine cI (fun h1 => ?_) fun h1 => ?_
 ·omega
 ·try refine xst ?_
  exact xrz rfl
theorem six {c:List Int} (h:c.length=6):∃a0 a1 a2 a3 a4 a5,c = [a0,a1,a2,a3,a4,a5]:=by
 match c,h with
 | [a0,a1,a2,a3,a4,a5],_=>exact⟨a0,a1,a2,a3,a4,a5,rfl⟩
theorem yd6 (s:ByteArray) (hs:s.size≤140737488351232):Spec Tryz.prog 10 [S s] [] (.tup [.c (.sl 6 ((zec s).1.map zd4)),I .i64 (zec s).2]) []:=by
 obtain⟨r,hr⟩:∃r,r=zec s:=⟨_,rfl⟩
 rw[←hr]
 have hsz:=zx2 s
 have hO:=yb4 s hs
 unfold zec at hr
 generalize zcs s=o at *
 obtain⟨t,eo⟩:=o
 have hG:=z6e t (by simp at hsz;omega)
 have hgl:=z2r t
 simp only at hr hO
 generalize gaR t=g at *
 obtain⟨ns,eg⟩:=g
 simp only at hr hG hgl
 refine spB Tryz.func10 61 [.tmp 2,.tmp 3] Tryz.results10 ?_
 try refine xst ?_
 refine caP (hO) ?_
 try refine xst ?_
 refine cI (fun h1 => ?_) fun h1 => ?_
 ·rw[if_pos h1]at hr;subst hr
  try refine xst ?_
  exact xrz rfl
 ·rw[if_neg (fun hn=>hn h1)]at hr
  try refine xst ?_
  refine caP (hG) ?_
  try refine xst ?_
  refine cI (fun h2 => ?_) fun h2 => ?_
  ·rw[if_pos h2]at hr;subst hr
   try refine xst ?_
   exact xrz rfl
  ·rw[if_neg (fun hn=>hn h2)]at hr
   try refine xst ?_
   refine cI (fun h3 => ?_) fun h3 => ?_
   ·rw[if_pos (by omega)]at hr;subst hr
    try refine xst ?_
    exact xrz rfl
   ·rw[if_neg (by omega)]at hr
    have hq:ns.length=ns.length/6*6:=by omega
    try refine xst ?_
    refine caP (yb7 ns 6 (by decide)) ?_
    try refine xst ?_
    refine z93 (by kernel_rfl) rfl (zys ns 6 (ns.length/6) (by decide) (by decide) hq (by omega)) [(6,.ptr 0 0 0)] 1 2 (fun pre => [(0,.blk 53 [.own 1]),(1,.row 48 6 ((pre.map z0u).map zd4))]) ((To.nilC 0 0 48 6 53 _ rfl rfl).trans (To.mk [0,1] rfl rfl (by decide) ?_ ?_)) (by decide) (by decide) (by decide) (fun pre=>by exact z07 rfl) (by kernel_rfl) (by decide) (by decide) (fun pre x hpl hpr hx => ?_) ?_
    ·simp(etaStruct := .none)only[push_cast,zab,seval,List.set_cons_zero,List.map_nil]
    ·simp(etaStruct := .none)only[push_cast,zab,seval]
    ·skip
     obtain⟨a0,a1,a2,a3,a4,a5,rfl⟩:=six hx
     simp only[List.length_map,List.length_range]at hpl
     iterate 2(try simp(etaStruct := .none)only[push_cast,zab,seval,z4z,zad,List.map_cons,List.map_nil];try refine xsu ?_)
     (try(refine⟨by kernel_rfl,?_⟩))
     iterate 2(try simp(etaStruct := .none)only[push_cast,zab,seval,z4z,zad,List.map_cons,List.map_nil];try refine xsu ?_)
     refine To.mk [0,90] rfl rfl (by decide) ?_ ?_
     ·(iterate 2((try simp(etaStruct := .none)only[push_cast,zab,seval,z4z,List.map_append,List.map_cons,List.map_nil,zd4,z0u,List.getD_cons_zero,List.getD_cons_succ]);(try(refine xsu ?_;try exact xtI))))
     ·(iterate 2((try simp(etaStruct := .none)only[push_cast,zab,seval,z4z,zad,List.map_cons,List.map_nil]);(try(refine xsu ?_;try exact xtI))))
    simp only[show ((List.range (ns.length/6)).map (zh1 ns 6)).map z0u=zgy ns (ns.length/6)from by unfold zgy;rw[List.map_map];rfl]
    try refine xst ?_
    refine zcl (zvb (zgy ns (ns.length/6)) (by rw[zm4];omega)) (WkL.refl _) rfl ?_
    try refine xst ?_
    refine cI (fun h4 => ?_) fun h4 => ?_
    ·rw[if_pos h4]at hr;subst hr;clear hq
     try refine xst ?_
     exact xrz rfl
    ·rw[if_neg (fun hn=>hn h4)]at hr;subst hr;clear hq
     try refine xst ?_
     exact xrz rfl
theorem z0l (s:ByteArray):(zec s).1.length≤1000:=by
 unfold zec
 have:=z2r (zcs s).1
 repeat' split
 all_goals simp[zm4]
 omega
abbrev bsL (l:List UInt8):ByteArray:=⟨l.toArray⟩
theorem zhl (l:List UInt8) (a b:Nat):(bsL l).extract a b=bsL ((l.take b).drop a):=by
 apply ByteArray.ext
 rw[ByteArray.data_extract]
 show l.toArray.extract a b=((l.take b).drop a).toArray
 rw[List.extract_toArray,List.extract_eq_drop_take,List.drop_take]
theorem yca (l k:List UInt8):bsL l++bsL k=bsL (l++k):=by
 apply ByteArray.ext
 rw[ByteArray.data_append]
 show l.toArray++k.toArray=(l++k).toArray
 rw[List.append_toArray]
theorem z33 (n:Nat) (h:n<128):(UInt8.ofNat n).toNat=n:=zba _ (by omega)
theorem zm3:∀(f n:Nat),n<128 ^ (f+1)→vals (zb1 f n)=n
 | 0,n,h=>by
  have h:n<128:=by simpa using h
  simp only[zb1,vals,List.foldr_cons,List.foldr_nil,z33 n h];omega
 | f+1,n,h=>by
  rw[zb1]
  split
  ·rename_i hn
   simp only[vals,List.foldr_cons,List.foldr_nil,z33 n hn];omega
  ·have ih:=zm3 f (n/128) (by rw[Nat.pow_succ]at h;omega)
   have e:(UInt8.ofNat (128+n % 128)).toNat=128+n % 128:=zba _ (by omega)
   show (UInt8.ofNat (128+n % 128)).toNat % 128+128*vals (zb1 f (n/128))=n
   rw[e,ih];omega
theorem zqi:∀(f n:Nat) (r:List UInt8),n<128 ^ (f+1)→(zb1 f n++r).findIdx? (fun b=>b<128)=some ((zb1 f n).length-1)
 | 0,n,r,h=>by
  have h:n<128:=by simpa using h
  have e:(decide (UInt8.ofNat n<128))=true:=by rw[decide_eq_true_iff,UInt8.lt_iff_toNat_lt,z33 n h];exact h
  simp[zb1,List.findIdx?_cons,e]
 | f+1,n,r,h=>by
  rw[zb1]
  split
  ·rename_i hn
   have e:(decide (UInt8.ofNat n<128))=true:=by rw[decide_eq_true_iff,UInt8.lt_iff_toNat_lt,z33 n hn];exact hn
   simp[List.findIdx?_cons,e]
  ·have ih:=zqi f (n/128) r (by rw[Nat.pow_succ]at h;omega)
   have e:(UInt8.ofNat (128+n % 128)).toNat=128+n % 128:=zba _ (by omega)
   have e2:(decide (UInt8.ofNat (128+n % 128)<128))=false:=by
    rw[decide_eq_false_iff_not,UInt8.lt_iff_toNat_lt,e]
    show ¬128+n % 128<128
    omega
   have hl:=zh2 f (n/128)
   rw[List.cons_append,List.findIdx?_cons,e2,ih]
   simp only[Bool.false_eq_true,if_false,Option.map_some,List.length_cons]
   congr 1;omega
theorem zrc (n:Nat) (r:List UInt8) (h:n<18446744073709551616):zgk (bsL (zgs n++r))=(n,bsL r,0):=by
 have hp:n<128 ^ (9+1):=Nat.lt_of_lt_of_le h (by decide)
 have hh:=zqi 9 n r hp
 have hv:=zm3 9 n hp
 have hl:=zh2 9 n
 have ht:(zb1 9 n++r).take (zb1 9 n).length=zb1 9 n:=List.take_left
 have hd:(zb1 9 n++r).drop (zb1 9 n).length=r:=List.drop_left
 have e1:(zb1 9 n).length-1+1=(zb1 9 n).length:=by omega
 show zgk (bsL (zb1 9 n++r))=_
 have hT:zmd (bsL (zb1 9 n++r)) (zb1 9 n).length=n:=by
  unfold zmd
  show vals ((zb1 9 n++r).take _) % _=n
  rw[ht,hv,Nat.mod_eq_of_lt h]
 rw[zv6 (i:=(zb1 9 n).length-1) hh,e1,hT,if_pos]
 ·congr 2
  rw[show (bsL (zb1 9 n++r)).size=(zb1 9 n++r).length from by show (zb1 9 n++r).toArray.size=_;simp,zhl,List.take_length,hd]
 ·refine⟨by omega,?_⟩
  rw[zhl,ht,List.drop_zero];rfl
theorem z30 (n:Int):z31 (zf6 n)=n:=by
 unfold z31 zf6
 split<;>split<;>omega
theorem zv9:∀(xs out:List Int),(∀x∈xs,I64 x)→gaF xs.length (bsL (xs.flatMap paN)) out=(out++xs,0)
 | [],out,_=>by
  rw[List.length_nil,gaF,show bsL (List.flatMap paN [])=⟨#[]⟩from rfl,if_pos rfl,List.append_nil]
 | x::xs,out,h=>by
  have g:=zrc (zf6 x) (xs.flatMap paN) (zwb x (h x (by simp)))
  have ih:=zv9 xs (out ++ [x]) (fun y hy=>h y (by simp[hy]))
  rw[List.length_cons,gaF,List.flatMap_cons]
  show (if (zgk (bsL (zgs (zf6 x)++xs.flatMap paN))).2.2=0 then _ else _)=_
  rw[show paN x=zgs (zf6 x)from rfl,g,if_pos rfl]
  simp only
  rw[z30,ih,List.append_assoc,List.singleton_append]
theorem z6g (xs:List Int) (hl:xs.length≤1000) (h:∀x∈xs,I64 x):gaR (bsL (paK xs xs.length))=(xs,0):=by
 have g:=zrc xs.length ((xs.take xs.length).flatMap paN) (by omega)
 unfold gaR
 rw[show paK xs xs.length=zgs xs.length++(xs.take xs.length).flatMap paN from rfl,g,if_pos rfl]
 simp only
 rw[if_pos hl,List.take_length,zv9 xs [] h,List.nil_append]
theorem z0y (l:List UInt8):zcs (zg8 (bsL l))=(bsL l,0):=by
 have hs:=zmx (bsL l)
 have hx:(zg8 (bsL l)).extract 0 ((zg8 (bsL l)).size-4)=bsL l:=by
  rw[hs,Nat.add_sub_cancel]
  have e:zg8 (bsL l)=bsL (l++zk0 (z6w 0 l)):=yca _ _
  have e2:(bsL l).size=l.length:=by show l.toArray.size=_;simp
  rw[e,e2,zhl,List.take_left,List.drop_zero]
 unfold zcs
 rw[if_neg (by omega),hx,if_pos rfl]
theorem zsv {l:List Ord} (i:Nat) (h:i<l.length):z0u (zh1 (zc1 l) 6 i)=l.getD i default:=by
 have hp:zh1 (zc1 l) 6 i=zx1 (l.getD i default):=by
  apply List.ext_getElem?
  intro j
  have hlen:(zh1 (zc1 l) 6 i).length=6:=by
   have:=ze2 l
   unfold zh1
   rw[List.length_take,List.length_drop];omega
  by_cases hj:j<6
  ·rw[←zu8 l i j h hj]
   unfold zh1
   rw[List.getElem?_take,if_pos hj,List.getElem?_drop]
   congr 1;omega
  ·rw[List.getElem?_eq_none (by omega),List.getElem?_eq_none (by simp[zx1];omega)]
 rw[hp];rfl
theorem zxu {α : Type} [Inhabited α] (l:List α):(List.range l.length).map (fun i=>l.getD i default)=l:=by
 apply List.ext_getElem
 ·simp
 ·intro i h1 h2
  simp at h1
  simp[h1]
theorem zqk (l:List Ord):zgy (zc1 l) l.length=l:=by
 have h:zgy (zc1 l) l.length=(List.range l.length).map (fun i=>l.getD i default) :=
  List.map_congr_left fun i hi=>zsv i (List.mem_range.1 hi)
 rw[h,zxu]
theorem zxt (l:List Ord) (h:zc6 l=0):zec (zcw l)=(l,0):=by
 obtain⟨h100,hok⟩:=zgg h
 have hn:=ze2 l
 have hg:=z6g (zc1 l) (by omega) (zu9 hok)
 rw[hn]at hg
 have ho:zcs (zcw l)=(bsL (paK (zc1 l) (6*l.length)),0):=z0y _
 unfold zec
 rw[ho]
 simp only
 rw[hg]
 simp only
 rw[hn,Nat.mul_mod_right,Nat.mul_div_cancel_left _ (by decide),zqk,h]
 rfl
def zf4 (WR:Cel→List Int):List ByteArray→Wld→Wld
 | [],w=>w
 | s::r,w=>if (zec s).2≠0∨zbo (zec s).1 w≠0 then w else zf4 WR r (zd6 WR w (zec s).1)
def zf5 (WR:Cel→List Int):List ByteArray→Wld→Nat
 | [],_=>0
 | s::r,w=>if (zec s).2≠0∨zbo (zec s).1 w≠0 then 0 else zf5 WR r (zd6 WR w (zec s).1)+1
theorem z6r (l:List ByteArray) (k:Nat) (h:k<l.length):l.drop k=l.getD k default::l.drop (k+1):=by
 rw[zac _ _ h];exact List.drop_eq_getElem_cons h
theorem z6i (w:Wld) (l:List ByteArray) (WR:Cel→List Int) (hWR:∀a,zas w.f [a] (WR a)) (hw:Right w) (hll:l.length≤200) (hs:∀s∈l,s.size≤140737488351232):Spec Tryz.prog 20 [zcx w,.c (.sl 1 (l.map ydm))] [] (.tup [zcx (zf4 WR l w),I .i64 (zf5 WR l w),I .i64 0]) []:=by
 have V:=zkm w [] WR hWR hw.l (fun _ h=>by simp at h)
 have v0:zd8 WR [] w=0:=by unfold zd8;rw[if_neg (by simp),if_neg (fun hn=>hn hw.e)];rfl
 rw[v0,show zg9 WR [] w=w from if_pos v0]at V
 refine spB Tryz.func20 61 [.cell 4 28,.tmp 5,.tmp 6] Tryz.results20 ?_
 try refine xst ?_
 refine cI (fun h1 => ?_) fun h1 => ?_
 ·omega
 ·try refine xst ?_
  refine zdl (V) (by exact⟨Wk.refl _,Wk.nil _,trivial⟩) ?_
  try refine xst ?_
  refine cI (fun h2 => ?_) fun h2 => ?_
  ·simp at h2
  ·try refine xst ?_
   refine zaw (fun x:Nat × Wld=>⟨[(31,I .i64 x.1),(30,I .i64 l.length),(29,.c (.sl 1 (l.map ydm))),(4,.ptr 1 0 0),(2,.ptr 0 0 0),(1,.c (.sl 1 (l.map ydm)))],[(0,.blk 28 (zkg x.2)),(1,.blk 28 yc5)],2⟩) (fun x:Nat × Wld=>x.1≤l.length∧Right x.2∧x.2.f=w.f∧zf4 WR l w=zf4 WR (l.drop x.1) x.2∧zf5 WR l w=x.1+zf5 WR (l.drop x.1) x.2) (fun x:Nat × Wld=>l.length-x.1) ((0,w)) (⟨Nat.zero_le _,hw,rfl,rfl,by simp⟩) (To.mk [0,1] rfl rfl (by decide) ?_ ?_) ?_
   ·simp(etaStruct := .none)only[push_cast,zab,seval]
   ·simp(etaStruct := .none)only[push_cast,zab,seval]
   rintro⟨k,y⟩ ⟨hk,hR,hf,hW,hK⟩
   simp only at hk hR hf hW hK
   try refine xst ?_
   refine cI (fun h3 => ?_) fun h3 => ?_
   ·have hlt:k<l.length:=by omega
    rw[z6r l k hlt]at hW hK
    have hsz:=hs (l.getD k default) (zaz _ _ hlt)
    generalize hsk:l.getD k default=s at *
    have RD:=yd6 s hsz
    have hrl:=z0l s
    have hWk:∀a,zas y.f [a] (WR a):=by intro a;rw[hf];exact hWR a
    have TT:=zkl y (zec s).1 WR hWk hR.l (by omega)
    rw[zf4]at hW
    rw[zf5]at hK
    try refine xz3 (gd hlt) hsk zhu ?_
    refine caP (RD) ?_
    try refine xz3 (gd hlt) hsk zhu ?_
    refine cI (fun h4 => ?_) fun h4 => ?_
    ·rw[if_pos (.inl h4)]at hW hK
     rw[hW,hK]
     clear hW hK hf hWk
     try refine xz3 (gd hlt) hsk zhu ?_
     exact xrz rfl
    ·try refine xz3 (gd hlt) hsk zhu ?_
     refine caP (TT) ?_
     try refine xz3 (gd hlt) hsk zhu ?_
     refine cI (fun h5 => ?_) fun h5 => ?_
     ·rw[if_pos (.inr h5)]at hW hK
      rw[hW,hK]
      clear hW hK hf hWk
      try refine xz3 (gd hlt) hsk zhu ?_
      exact xrz rfl
     ·have e0:zbo (zec s).1 y=0:=by simpa using h5
      have hTW:zjr WR y (zec s).1=zd6 WR y (zec s).1:=if_pos e0
      have hRT:=zis hR hWk (zec s).1 (znt e0).2
      rw[if_neg (fun hn=>hn.elim (fun hh=>hh h4) fun hh=>hh e0)]at hW hK
      try refine xz3 (gd hlt) hsk zhu ?_
      refine⟨(k+1,zjr WR y (zec s).1),⟨by simp only;omega,by rw[hTW];exact hRT,by rw[hTW,zr6];exact hf,by rw[hTW];exact hW,by rw[hTW,hK];simp only;omega⟩,by simp only;omega,To.mk [0,1] rfl rfl (by decide) ?_ ?_⟩
      ·(try(refine xz3 (gd hlt) hsk zhu ?_;try exact xtI))
      ·(try(refine xz3 (gd hlt) hsk zhu ?_;try exact xtI))
   ·obtain rfl:k=l.length:=by omega
    rw[List.drop_length]at hW hK
    rw[show zf4 WR l w=y from hW,show zf5 WR l w=l.length from hK]
    clear hW hK hf
    try refine xst ?_
    exact xrz rfl
theorem zin {l:List Ord} {w:Wld} (h:zbo l w=0):zc6 l=0:=by
 unfold zbo at h
 split at h
 ·rename_i x;exact absurd h x
 ·rename_i x
  exact(zez (by simpa using x)).1
theorem znf (WR:Cel→List Int):∀(ts:List (List Ord)) (w:Wld),zhm WR ts w=0→zf4 WR (ts.map zcw) w=zgq WR ts w∧zf5 WR (ts.map zcw) w=ts.length
 | [],_,_=>⟨rfl,rfl⟩
 | o::r,w,h=>by
  rw[zhm]at h
  split at h
  ·rename_i x;exact absurd h x
  ·rename_i x
   have h0:zbo o w=0:=Decidable.not_not.1 x
   obtain⟨a,b⟩:=znf WR r _ h
   have hr:=zxt o (zin h0)
   have hc:¬((zec (zcw o)).2≠0∨zbo (zec (zcw o)).1 w≠0):=by
    rw[hr];simp[h0]
   rw[List.map_cons,zf4,zf5,if_neg hc,if_neg hc,hr]
   exact⟨a,by rw[show zd6 WR w (o,(0:Int)).1=zd6 WR w o from rfl,b,List.length_cons]⟩
structure Told (WR : Cel → List Int) (w : Wld) (s : Hst × List ByteArray) : Prop where
 o:HOk WR s.1
 w:s.1.sty.start=w
 t:s.2=s.1.sty.turns.map zcw
theorem z9q {WR:Cel→List Int} {h:Hst} (h0:zhw WR h=0):zfr WR h.sty (zci h)=0∧zc6 (zci h)=0∧zn0 WR h=zcw (zci h)∧(zjs WR h).sty=⟨h.sty.start,h.sty.turns ++ [zci h]⟩:=by
 have hm:zfr WR h.sty (zci h)=0:=by
  unfold zhw at h0
  split at h0
  ·exact h0
  ·rename_i x;simpa using x
 obtain⟨m1,m2,m3,m4,m5⟩:=zm6 hm
 have ho:=zin m3
 refine⟨hm,ho,?_,?_⟩
 ·unfold zn0
  rw[if_neg (fun x=>x hm)]
  unfold zho
  rw[if_neg (fun x=>x ho)]
 ·unfold zjs
  rw[if_neg (fun x=>x hm)]
  exact m4
theorem zwk {WR:Cel→List Int} {h:Hst} {c:Clq} (h0:(doV WR h c).2.2=0):(c.kind=2∧zhw WR h=0∧(doV WR h c).2.1=zcw (zci h)∧(doV WR h c).1.sty.turns=h.sty.turns ++ [zci h])∨(c.kind≠2∧(doV WR h c).1.sty=h.sty):=by
 unfold doV at h0 ⊢
 split
 ·rename_i k
  rw[if_pos k]at h0
  refine .inr ⟨by omega,?_⟩
  split<;>rfl
 ·rename_i k1
  rw[if_neg k1]at h0
  split
  ·rename_i k
   rw[if_pos k]at h0
   by_cases hs:zhw WR h=0
   ·rw[if_pos hs]
    obtain⟨a,b,c,d⟩:=z9q hs
    exact .inl ⟨k,hs,c,by rw[d]⟩
   ·rw[if_neg hs]at h0;exact absurd h0 hs
  ·rename_i k2
   refine .inr ⟨k2,?_⟩
   split
   ·split
    ·unfold ztr;split<;>rfl
    ·rfl
   ·rfl
theorem Told.step {WR:Cel→List Int} {w:Wld} {s:Hst × List ByteArray} (T:Told WR w s) (c:Clq):Told WR w (if (doV WR s.1 c).2.2≠0 then s else ((doV WR s.1 c).1,if c.kind=2 then s.2 ++ [(doV WR s.1 c).2.1]else s.2)):=by
 split
 ·exact T
 ·rename_i x
  have h0:(doV WR s.1 c).2.2=0:=Decidable.not_not.1 x
  obtain⟨a,b⟩:=T.o.step c
  refine⟨a,b.trans T.w,?_⟩
  simp only
  rcases zwk h0 with ⟨k,_,e1,e2⟩|⟨k,e⟩
  ·rw[if_pos k,e1,e2,List.map_append,T.t];rfl
  ·rw[if_neg k,e,T.t]
theorem yi3 {b:Nat} {P:Nat→Prop} (hb:1≤b∧b≤8) (h:P 1∧P 2∧P 3∧P 4∧P 5∧P 6∧P 7∧P 8):P b:=by
 have h8:b=1∨b=2∨b=3∨b=4∨b=5∨b=6∨b=7∨b=8:=by omega
 obtain⟨p1,p2,p3,p4,p5,p6,p7,p8⟩:=h
 rcases h8 with rfl|rfl|rfl|rfl|rfl|rfl|rfl|rfl<;>assumption
theorem z09 {b:Nat} (hb:1≤b∧b≤8):za6 (List.replicate b ⟨[],0,false⟩)=0∧za7 (2 ^ b-1) (List.replicate 16 0)=0∧(2 ^ b-1)/2 ^ b=0∧2 ^ b-1<4294967296∧∀i,i<b→zcv (2 ^ b-1) i=true:=by
 refine yi3 (P:=fun b=>za6 (List.replicate b ⟨[],0,false⟩)=0∧za7 (2 ^ b-1) (List.replicate 16 0)=0∧(2 ^ b-1)/2 ^ b=0∧2 ^ b-1<4294967296∧∀i,i<b→zcv (2 ^ b-1) i=true) hb ?_
 refine⟨?_,?_,?_,?_,?_,?_,?_,?_⟩<;>refine⟨by kernel_rfl,by kernel_rfl,by decide,by decide,by decide⟩
theorem yap {w:Wld} {n:Int} {WR:Cel→List Int} (hE:zy2 w n=0):HOk WR (zx3 w n)∧(zx3 w n).sty=⟨w,[]⟩:=by
 have eH:zx3 w n=⟨⟨w,[]⟩,List.replicate w.bases.length ⟨[],0,false⟩,2 ^ w.bases.length-1,List.replicate 16 0,n⟩:=if_pos hE
 unfold zy2 at hE
 split at hE
 ·rename_i x;exact absurd hE x
 rename_i h1
 have hw:=zcn (Decidable.not_not.1 h1)
 split at hE
 ·omega
 rename_i h2
 have hn:=hw.nb
 have hb:1≤w.bases.length∧w.bases.length≤8:=by omega
 obtain⟨n1,n2,n3,n4,n5⟩:=z09 hb
 refine⟨⟨?_,?_⟩,by rw[eH]⟩
 ·rw[eH]
  refine zoq ?_ n1 n2 (by simp only;omega) (by simp) (by rw[List.length_replicate];exact n3) ?_
  ·show zd8 WR [] w=0
   unfold zd8;rw[if_neg (by simp),if_neg (fun hn=>hn hw.e)];rfl
  ·intro i hi
   have hi:i<w.bases.length:=by simpa using hi
   unfold zgp
   simp only
   rw[List.getD_eq_getElem?_getD,List.getElem?_replicate,if_pos hi,n5 i hi];rfl
 ·have S:=yem w n hw.l (by omega)
  refine⟨S.s,S.l,S.a,?_,S.g,?_⟩
  ·rw[eH];exact n4
  ·rw[eH]
   intro s hs
   rw[(List.mem_replicate.1 hs).2];decide
end Go.Proofs.YtmjbgbmegbkmhaaGreat
namespace Go.Proofs.YtmjbgbmegbkmhaaGreat
set_option linter.all false
open Go.RowKit
set_option maxRecDepth 100000
set_option maxHeartbeats 2000000
def smallW:Wld:=⟨⟨3,1,[0,0,3]⟩,[⟨0,0⟩],[20],[0,0,9],[⟨1,0,1,⟨1,0⟩,10,0⟩],2,0⟩
theorem zzx:Spec Tryz.prog 29 [] [] (zcx smallW) []:=by
 refine spB Tryz.func29 11 [.cell 0 28] Tryz.results29 ?_
 try refine xst ?_
 exact xrz rfl
def zi0:Ord:=⟨0,3,1,⟨2,0⟩,0⟩
def yh8:Clq:=⟨1,zi0,0,0⟩
def z4h:Clq:=⟨2,default,0,0⟩
def zul:Hst:=⟨⟨smallW,[]⟩,[⟨[],0,false⟩],1,List.replicate 16 0,5⟩
def zxi:Hst:=⟨⟨smallW,[]⟩,[⟨[zi0],0,false⟩],1,List.replicate 16 0,5⟩
def toldW:Wld:=⟨⟨3,1,[0,0,3]⟩,[⟨0,0⟩],[20],[0,0,8],[⟨1,0,1,⟨1,0⟩,10,1⟩],2,1⟩
theorem zuk:zam smallW=0:=by kernel_rfl
theorem zpu:zy2 smallW 5=0:=by kernel_rfl
theorem zzy:zx3 smallW 5=zul:=by kernel_rfl
theorem ydz (WR:Cel→List Int):doV WR zul yh8=(zxi,⟨#[]⟩,0):=by kernel_rfl
theorem ydy:zci zxi = [zi0]:=by kernel_rfl
theorem z7v (WR:Cel→List Int):zbo [zi0] smallW=0:=by kernel_rfl
theorem ydj (WR:Cel→List Int):zd6 WR smallW [zi0]=toldW:=by kernel_rfl
theorem z4f:ze8 smallW:=(zcn zuk).l
theorem zzz (WR:Cel→List Int):HOk WR zul:=by
 have:=(yap (WR:=WR) zpu).1
 rwa [zzy]at this
theorem zkp:toldW.troops.length=1:=rfl
theorem zkq:toldW.troops.map zat = [[pI 1,pI 0,pI 1,pI 1,pI 0,pI 10,pI 1]]:=rfl
theorem zs4:Spec Tryz.prog 8 [] [] (B true) []:=by
 obtain⟨WR,hWR⟩:=yc2 smallW.f
 have N:=yfd smallW 5 WR hWR z4f
 rw[zzy,zpu]at N
 have H0:=zzz WR
 have D1:=yff zul yh8 WR hWR H0.l H0.b H0.e
 have H1:=(H0.step yh8).1
 rw[ydz]at D1 H1
 have D2:=yff zxi z4h WR hWR H1.l H1.b H1.e
 have e2:(doV WR zxi z4h).2.2=0:=by kernel_rfl
 have t2:(doV WR zxi z4h).2.1=zcw [zi0]:=by
  rcases zwk e2 with ⟨_,_,a,_⟩|⟨a,_⟩
  ·rw[a,ydy]
  ·exact absurd rfl a
 have ho:=zin (z7v WR)
 have FW:=z6i smallW [zcw [zi0]] WR hWR (zcn zuk) (by decide) (fun s hs=>by
  rw[List.mem_singleton.1 hs]
  have:=zr0 [zi0] (by decide)
  omega)
 obtain⟨f1,f2⟩:=znf WR [[zi0]] smallW (by unfold zhm;rw[if_neg (fun x=>x (z7v WR))];rfl)
 rw[show ([[zi0]]:List (List Ord)).map zcw = [zcw [zi0]]from rfl]at f1 f2
 rw[f1,f2,show zgq WR [[zi0]] smallW=toldW from ydj WR]at FW
 generalize doV WR zxi z4h=V at *
 obtain⟨h',t,e⟩:=V
 simp only at e2 t2
 subst e2 t2
 clear f1 f2 ho H0 H1
 generalize zcw [zi0]=T at *
 refine spB Tryz.func8 72 [.tmp 0] Tryz.results8 ?_
 (iterate 2((try simp(etaStruct := .none)only[push_cast,seval,zkp,zkq,List.getD_cons_zero]);(try(refine xsu ?_;try exact xtI))))
 refine caP (zzx) ?_
 (iterate 2((try simp(etaStruct := .none)only[push_cast,seval,zkp,zkq,List.getD_cons_zero]);(try(refine xsu ?_;try exact xtI))))
 refine caP (N) ?_
 (iterate 2((try simp(etaStruct := .none)only[push_cast,seval,zkp,zkq,List.getD_cons_zero]);(try(refine xsu ?_;try exact xtI))))
 refine caP (D1) ?_
 (iterate 2((try simp(etaStruct := .none)only[push_cast,seval,zkp,zkq,List.getD_cons_zero]);(try(refine xsu ?_;try exact xtI))))
 refine caP (D2) ?_
 (iterate 2((try simp(etaStruct := .none)only[push_cast,seval,zkp,zkq,List.getD_cons_zero]);(try(refine xsu ?_;try exact xtI))))
 refine caP (zzx) ?_
 (iterate 2((try simp(etaStruct := .none)only[push_cast,seval,zkp,zkq,List.getD_cons_zero]);(try(refine xsu ?_;try exact xtI))))
 refine zfv [2] (Spec.hand 0 FW (Nat.zero_le _) rfl (by exact WkL.refl _) rfl) (WkL.refl _) rfl (by decide) (by simp[zbw]) ?_
 (iterate 2((try simp(etaStruct := .none)only[push_cast,seval,zkp,zkq,List.getD_cons_zero]);(try(refine xsu ?_;try exact xtI))))
 exact xrz rfl
end Go.Proofs.YtmjbgbmegbkmhaaGreat
namespace Go.Proofs.YtmjbgbmegbkmhaaGreat
set_option linter.all false
open Go.RowKit
set_option maxRecDepth 100000
set_option maxHeartbeats 4000000
theorem z0d {i W Y:Nat} (h1:Y*W≤i) (h2:i<Y*W+W):i % W=i-Y*W:=by
 have e:i=W*Y+(i-Y*W):=by rw[Nat.mul_comm W];omega
 have e2:(W*Y+(i-Y*W)) % W=i-Y*W:=by rw[Nat.mul_add_mod,Nat.mod_eq_of_lt (by omega)]
 rw[←e]at e2;exact e2
theorem ydt (f:Fld) (c:Cel) (r:Int) (hl:f.p.length≤9223372036854775807):Spec Tryz.prog 85 [zy6 f,zgw c,I .i64 r] [] (.tup [.c (.sl 2 ((zmf f c r).1.map za2)),I .i64 (zmf f c r).2]) []:=by
 refine spB Tryz.func85 81 [.tmp 6,.tmp 7] Tryz.results85 ?_
 try refine xst ?_
 refine caP (zyv f c hl) ?_
 try refine xst ?_
 refine cI (fun h1 => ?_) fun h1 => ?_
 ·have e2:=yjc f c
  have e3:zmf f c r=([],(atV f c).2):=by
   unfold zmf
   by_cases hf:zbk f=0
   ·rw[if_neg (by simp[hf])]
    rw[if_neg (by simp[hf])]at e2
    cases hc:inF f c with
    | true=>rw[hc]at e2;exact absurd e2 h1
    | false=>rw[hc]at e2;rw[e2];rfl
   ·rw[if_pos hf]at e2 ⊢;rw[e2]
  try refine xst ?_
  exact zb0 rfl trivial (by rw[e3];exact Wk.tup ⟨Wk.nil _,Wk.refl _,trivial⟩)
 ·obtain⟨hf,hc⟩:=yjp h1
  obtain⟨g1,g2,g3,g4⟩:=zbc hf
  have hc2:=inF_iff.1 hc
  try refine xst ?_
  refine cI (fun h2 => ?_) fun h2 => ?_
  ·have e3:zmf f c r=([],1):=by
    unfold zmf
    rw[if_neg (by simp[hf]),if_neg (by simp[hc]),if_pos (within_f.2 (by omega))]
   try refine xst ?_
   exact zb0 rfl trivial (by rw[e3];exact Wk.tup ⟨Wk.nil _,Wk.refl _,trivial⟩)
  ·have e3:zmf f c r=(zbg f c r f.p.length,0):=by
    unfold zmf
    rw[if_neg (by simp[hf]),if_neg (by simp[hc]),if_neg (by rw[within_iff.2 (by omega)];simp)]
   have hm2:f.w*f.h≤40*40:=Int.mul_le_mul g1.2 g2.2 (by omega) (by omega)
   obtain⟨W,hW⟩:∃W:Nat,f.w=W:=⟨f.w.toNat,by omega⟩
   obtain⟨Y0,hY0⟩:∃Y:Nat,(Y:Int)=max 0 (c.y-r):=⟨(max 0 (c.y-r)).toNat,by omega⟩
   obtain⟨X0,hX0⟩:∃X:Nat,(X:Int)=max 0 (c.x-r):=⟨(max 0 (c.x-r)).toNat,by omega⟩
   have E1:(if c.y-r>0 then c.y-r else 0)=(Y0:Int):=by split<;>omega
   have E2:(if c.x-r>0 then c.x-r else 0)=(X0:Int):=by split<;>omega
   have E3:(if c.y+r<f.h-1 then c.y+r else f.h-1)=min (f.h-1) (c.y+r):=by split<;>omega
   have E4:(if c.x+r<f.w-1 then c.x+r else f.w-1)=min (f.w-1) (c.x+r):=by split<;>omega
   have DV:∀i:Nat,(zb8 f.w i).x=((i % W:Nat):Int)∧(zb8 f.w i).y=((i/W:Nat):Int):=by intro i;unfold zb8;rw[hW];simp
   have Z0:zbg f c r (Y0*W) = []:=by
    rw[zj2 (Nat.zero_le _) fun i _ hi=>zj1 (.inr (.inr (.inl ?_)))]
    ·rfl
    ·rw[(DV i).2]
     have:i/W<Y0:=(Nat.div_lt_iff_lt_mul (by omega)).2 hi
     generalize i/W=q at this ⊢
     omega
   iterate 2(try simp(etaStruct := .none)only[push_cast,zab,seval,E1,E2,E3,E4];try refine xsu ?_)
   refine zaw (fun Y:Nat=>⟨[(11,I .i64 Y),(10,.own 2),(4,.ptr 1 0 0),(3,.ptr 0 0 0),(2,I .i64 r)],[(0,.blk 24 [I .i64 f.w,I .i64 f.h,.c (.sl 1 (f.p.map zad))]),(1,.blk 46 [I .i64 c.x,I .i64 c.y]),(2,.row 46 2 ((zbg f c r (Y*W)).map za2))],3⟩) (fun Y:Nat=>Y0≤Y∧(Y:Int)≤min (f.h-1) (c.y+r)+1) (fun Y:Nat=>(min (f.h-1) (c.y+r)+1-Y).toNat) (Y0) (⟨Nat.le_refl _,by omega⟩) ((To.nil 10 46 2 rfl).trans (To.mk [0,1,2] rfl rfl (by decide) ?_ ?_)) ?_
   ·simp(etaStruct := .none)only[push_cast,zab,seval,Z0]
   ·simp(etaStruct := .none)only[push_cast,zab,seval]
   rintro Y ⟨hY1,hY2⟩
   iterate 2(try simp(etaStruct := .none)only[push_cast,zab,seval,E1,E2,E3,E4];try refine xsu ?_)
   refine cI (fun h3 => ?_) fun h3 => ?_
   ·have hYh:(Y:Int)<f.h:=by omega
    have R0:zbg f c r (Y*W+X0)=zbg f c r (Y*W):=zj2 (by omega) fun i i1 i2=>zj1 (.inl (by
     rw[(DV i).1]
     rw[z0d i1 (by omega)]
     omega))
    have YW:(Y*W:Nat)+W≤1600:=by
     have:(Y+1)*W≤40*40:=Nat.mul_le_mul (by omega) (by omega)
     rw[Nat.add_mul]at this;omega
    iterate 2(try simp(etaStruct := .none)only[push_cast,zab,seval,E1,E2,E3,E4];try refine xsu ?_)
    refine zaw (fun X:Nat=>⟨[(12,I .i64 X),(11,I .i64 Y),(10,.own 2),(4,.ptr 1 0 0),(3,.ptr 0 0 0),(2,I .i64 r)],[(0,.blk 24 [I .i64 f.w,I .i64 f.h,.c (.sl 1 (f.p.map zad))]),(1,.blk 46 [I .i64 c.x,I .i64 c.y]),(2,.row 46 2 ((zbg f c r (Y*W+X)).map za2))],3⟩) (fun X:Nat=>X0≤X∧(X:Int)≤min (f.w-1) (c.x+r)+1) (fun X:Nat=>(min (f.w-1) (c.x+r)+1-X).toNat) (X0) (⟨Nat.le_refl _,by omega⟩) (To.mk [0,1,2] rfl rfl (by decide) ?_ ?_) ?_
    ·simp(etaStruct := .none)only[push_cast,zab,seval,R0]
    ·simp(etaStruct := .none)only[push_cast,zab,seval]
    rintro X ⟨hX1,hX2⟩
    iterate 2(try simp(etaStruct := .none)only[push_cast,zab,seval,E1,E2,E3,E4];try refine xsu ?_)
    refine cI (fun h4 => ?_) fun h4 => ?_
    ·have hXW:X<W:=by omega
     have CE:zb8 f.w (Y*W+X)=⟨X,Y⟩:=z65 hW hXW
     have hin:inF f ⟨X,Y⟩=true:=inF_iff.2 ⟨⟨by simp only;omega,by simp only;omega⟩,⟨by simp only;omega,by simp only;omega⟩⟩
     have sl:=zpy f c r (Y*W+X)
     have NR:decide (max (((⟨X,Y⟩:Cel).x-c.x).natAbs:Int) (((⟨X,Y⟩:Cel).y-c.y).natAbs:Int)≤r)=true:=decide_eq_true (by simp only;omega)
     iterate 2(try simp(etaStruct := .none)only[push_cast,zab,seval,E1,E2,E3,E4];try refine xsu ?_)
     refine caP (zwv f c ⟨X,Y⟩ hf hc hin) ?_
     iterate 2(try simp(etaStruct := .none)only[push_cast,zab,seval,E1,E2,E3,E4];try refine xsu ?_)
     refine gcP (fun hcc=>zwv f ⟨X,Y⟩ c hf hin hc) ?_
     iterate 2(try simp(etaStruct := .none)only[push_cast,zab,seval,E1,E2,E3,E4];try refine xsu ?_)
     refine cI (fun h5 => ?_) fun h5 => ?_
     ·have sb:zfq f c r (zb8 f.w (Y*W+X))=true:=by unfold zfq;rw[CE,NR];unfold zf2;simpa using h5
      have se:=z9r sb
      rw[CE]at se
      iterate 2(try simp(etaStruct := .none)only[push_cast,zab,seval,E1,E2,E3,E4];try refine xsu ?_)
      refine⟨X+1,⟨by omega,by omega⟩,by omega,To.mk [0,1,5] rfl rfl (by decide) ?_ ?_⟩
      ·(iterate 2((try simp(etaStruct := .none)only[push_cast,zab,seval,←Nat.add_assoc,se,List.map_append,za2]);(try(refine xsu ?_;try exact xtI))))
      ·(iterate 2((try simp(etaStruct := .none)only[push_cast,zab,seval,E1,E2,E3,E4]);(try(refine xsu ?_;try exact xtI))))
     ·have sb:zfq f c r (zb8 f.w (Y*W+X))=false:=by unfold zfq;rw[CE,NR];unfold zf2;simpa using h5
      have se:=zz4 sb
      iterate 2(try simp(etaStruct := .none)only[push_cast,zab,seval,E1,E2,E3,E4];try refine xsu ?_)
      refine⟨X+1,⟨by omega,by omega⟩,by omega,To.mk [0,1,2] rfl rfl (by decide) ?_ ?_⟩
      ·(iterate 2((try simp(etaStruct := .none)only[push_cast,zab,seval,←Nat.add_assoc,se,List.map_append,za2]);(try(refine xsu ?_;try exact xtI))))
      ·(iterate 2((try simp(etaStruct := .none)only[push_cast,zab,seval,E1,E2,E3,E4]);(try(refine xsu ?_;try exact xtI))))
    ·have hX3:(X:Int)=min (f.w-1) (c.x+r)+1:=by omega
     have R1:zbg f c r ((Y+1)*W)=zbg f c r (Y*W+X):=zj2 (by rw[Nat.add_mul];omega) fun i i1 i2=>by
      rw[Nat.add_mul]at i2
      refine zj1 (.inr (.inl ?_))
      rw[(DV i).1]
      rw[z0d (Y:=Y) (by omega) (by omega)]
      omega
     iterate 2(try simp(etaStruct := .none)only[push_cast,zab,seval,E1,E2,E3,E4];try refine xsu ?_)
     refine⟨Y+1,⟨by omega,by omega⟩,by omega,To.mk [0,1,2] rfl rfl (by decide) ?_ ?_⟩
     ·(iterate 2((try simp(etaStruct := .none)only[push_cast,zab,seval,R1]);(try(refine xsu ?_;try exact xtI))))
     ·(iterate 2((try simp(etaStruct := .none)only[push_cast,zab,seval,E1,E2,E3,E4]);(try(refine xsu ?_;try exact xtI))))
   ·have R2:zbg f c r f.p.length=zbg f c r (Y*W):=by
     have q1:f.p.length=W*f.h.toNat:=by
      have:((W*f.h.toNat:Nat):Int)=f.w*f.h:=by rw[Int.natCast_mul,hW];congr 1;omega
      omega
     have q2:Y*W≤W*f.h.toNat:=by rw[Nat.mul_comm];exact Nat.mul_le_mul_left _ (by omega)
     rw[q1]
     refine zj2 q2 fun i i1 i2=>zj1 (.inr (.inr (.inr ?_)))
     rw[(DV i).2]
     have a1:Y≤i/W:=(Nat.le_div_iff_mul_le (by omega)).2 i1
     have a2:i/W<f.h.toNat:=(Nat.div_lt_iff_lt_mul (by omega)).2 (by rw[Nat.mul_comm];exact i2)
     generalize i/W=q at a1 a2 ⊢
     omega
    iterate 2(try simp(etaStruct := .none)only[push_cast,zab,seval,E1,E2,E3,E4];try refine xsu ?_)
    (first|(refine zar rfl (Wk.of ?_);(try simp(etaStruct := .none)only[push_cast,zab,seval]);first|done|(simp[e3,R2, *];done)|(simp_all[e3,R2];done))|(refine zar rfl ?_;(try simp(etaStruct := .none)only[push_cast,zab,seval]);(try simp[e3,R2, *]);(try exact wkc)))
end Go.Proofs.YtmjbgbmegbkmhaaGreat
namespace Go.Proofs.YtmjbgbmegbkmhaaGreat
set_option linter.all false
open Go.RowKit
set_option maxRecDepth 100000
set_option maxHeartbeats 1000000
def zes (w:Wld) (p:Int):Int:=if zam w≠0 then zam w else if zai p 0 ((w.bases.length:Int)-1)=false then 7 else 0
theorem z1e {w:Wld} {p:Int} (h:zes w p=0):zam w=0∧0≤p∧p<w.bases.length:=by
 unfold zes at h
 by_cases h1:zam w=0
 ·rw[if_neg (by simp[h1])]at h
  by_cases h2:zai p 0 ((w.bases.length:Int)-1)=false
  ·rw[if_pos h2]at h;exact absurd h (by decide)
  ·rw[Bool.not_eq_false,within_iff]at h2;exact⟨h1,by omega,by omega⟩
 ·rw[if_pos h1]at h;exact absurd h h1
def z8z (w:Wld) (p:Int) (k:Nat) (c:Cel):Bool:=zfq w.f (w.bases.getD p.toNat default) 3 c||(w.troops.take k).any fun t=>decide (t.owner=p)&&zfq w.f t.c 5 c
def zt2 (w:Wld) (p:Int) (c:Cel):Bool:=z8z w p w.troops.length c
def zxl (w:Wld) (p:Int) (k:Nat):List Bool:=(List.range w.f.p.length).map fun i=>z8z w p k (zb8 w.f.w i)
def zpe (w:Wld) (p:Int):List Bool:=zxl w p w.troops.length
theorem zee (w:Wld) (p:Int) (k:Nat):(zxl w p k).length=w.f.p.length:=by simp[zxl]
theorem zj4 (w:Wld) (p:Int) (k i:Nat) (hi:i<w.f.p.length):(zxl w p k).getD i default=z8z w p k (zb8 w.f.w i):=by
 rw[zac _ _ (by rw[zee];exact hi)];simp[zxl]
def zds (f:Fld) (o:List Bool) (l:List Cel):List Bool:=l.foldl (fun o n=>o.set (zal f n) true) o
theorem zsg (f:Fld) (o:List Bool) (l:List Cel) (c:Cel):zds f o (l ++ [c])=(zds f o l).set (zal f c) true:=by unfold zds;rw[List.foldl_append];rfl
theorem ze0 (f:Fld) (l:List Cel):∀o:List Bool,(zds f o l).length=o.length:=by
 induction l with
 | nil=>intro o;rfl
 | cons c r ih=>intro o;have:=ih (o.set (zal f c) true);simp only[zds,List.foldl_cons]at *;rw[this];simp
theorem zxd (f:Fld) (l:List Cel):∀(o:List Bool) (i:Nat),i<o.length→(∀n∈l,zal f n<o.length)→(zds f o l).getD i default=(o.getD i default||l.any fun n=>decide (zal f n=i)):=by
 induction l with
 | nil=>intro o i hi _;simp[zds]
 | cons c r ih =>
  intro o i hi hl
  have h1:=ih (o.set (zal f c) true) i (by simpa using hi) (fun n hn=>by rw[List.length_set];exact hl n (by simp[hn]))
  have e:zds f o (c::r)=zds f (o.set (zal f c) true) r:=rfl
  rw[e,h1,zge _ _ _ _ (hl c (by simp)),List.any_cons]
  by_cases hc:zal f c=i
  ·simp[hc]
  ·simp[hc]
theorem zij {f:Fld} (hf:zbk f=0) {i:Nat} (hi:i<f.p.length):inF f (zb8 f.w i)=true∧zal f (zb8 f.w i)=i:=by
 obtain⟨h1,h2,h3,_⟩:=zbc hf
 refine⟨z64 hf (by omega),?_⟩
 unfold zal zb8
 simp only
 rw[Int.mul_comm,Int.mul_ediv_add_emod];omega
theorem zkz {f:Fld} {c n:Cel} {r:Int} (h:n∈zbg f c r f.p.length):∃i,i<f.p.length∧n=zb8 f.w i∧zfq f c r n=true:=by
 unfold zbg at h
 obtain⟨h1,h2⟩:=List.mem_filter.1 h
 obtain⟨i,hi,rfl⟩:=List.mem_map.1 h1
 exact⟨i,by simpa using hi,rfl,h2⟩
theorem zkw {f:Fld} (hf:zbk f=0) (c:Cel) (r:Int) (o:List Bool) (ho:o.length=f.p.length) (i:Nat) (hi:i<f.p.length):(zds f o (zbg f c r f.p.length)).getD i default=(o.getD i default||zfq f c r (zb8 f.w i)):=by
 rw[zxd f _ o i (by omega) (fun n hn=>by
  obtain⟨j,hj,rfl,_⟩:=zkz hn
  rw[(zij hf hj).2];omega)]
 congr 1
 rw[Bool.eq_iff_iff,List.any_eq_true]
 constructor
 ·rintro⟨n,hn,he⟩
  obtain⟨j,hj,rfl,hb⟩:=zkz hn
  rw[decide_eq_true_eq,(zij hf hj).2]at he
  subst he;exact hb
 ·intro hb
  refine⟨zb8 f.w i,?_,by rw[decide_eq_true_eq];exact(zij hf hi).2⟩
  unfold zbg
  exact List.mem_filter.2 ⟨List.mem_map.2 ⟨i,by simpa using hi,rfl⟩,hb⟩
theorem z0e {w:Wld} {p:Int} (hf:zbk w.f=0):zds w.f (List.replicate w.f.p.length false) (zbg w.f (w.bases.getD p.toNat default) 3 w.f.p.length)=zxl w p 0:=by
 refine zek (by rw[ze0,zee];simp) fun i hi => ?_
 rw[ze0,List.length_replicate]at hi
 rw[zkw hf _ _ _ (by simp) i hi,zj4 w p 0 i hi,zac _ _ (by simpa using hi)]
 simp[z8z]
theorem z4w {w:Wld} {p:Int} (hf:zbk w.f=0) {k:Nat} (hk:k<w.troops.length) (ho:(w.troops.getD k default).owner=p):zds w.f (zxl w p k) (zbg w.f (w.troops.getD k default).c 5 w.f.p.length)=zxl w p (k+1):=by
 refine zek (by rw[ze0,zee,zee]) fun i hi => ?_
 rw[ze0,zee]at hi
 rw[zkw hf _ _ _ (zee w p k) i hi,zj4 w p k i hi,zj4 w p (k+1) i hi]
 unfold z8z
 rw[zan _ _ hk,List.any_append,Bool.or_assoc]
 simp only[List.any_cons,List.any_nil,Bool.or_false,ho,decide_true,Bool.true_and]
theorem z4x {w:Wld} {p:Int} {k:Nat} (hk:k<w.troops.length) (ho:¬(w.troops.getD k default).owner=p):zxl w p (k+1)=zxl w p k:=by
 unfold zxl
 refine List.map_congr_left fun i _ => ?_
 unfold z8z
 rw[zan _ _ hk,List.any_append]
 simp only[List.any_cons,List.any_nil,decide_eq_false ho,Bool.false_and,Bool.or_false]
theorem z1d (w:Wld) (c:Cel) (r:Int) (o:List Bool) (hf:zbk w.f=0) (hc:inF w.f c=true) (hr:0≤r∧r≤12) (ho:o.length=w.f.p.length):Spec Tryz.prog 84 [zgw c,I .i64 r,.ptr 0 0 0,.ptr 1 0 0] [.blk 28 (zkg w),.blk 61 [.own 2],.row 4 1 (o.map zcu)] .undef [.blk 28 (zkg w),.blk 61 [.own 2],.row 4 1 ((zds w.f o (zbg w.f c r w.f.p.length)).map zcu)]:=by
 have hsv:zmf w.f c r=(zbg w.f c r w.f.p.length,0):=by
  unfold zmf
  rw[if_neg (by simp[hf]),if_neg (by simp[hc]),if_neg (by rw[within_iff.2 (by omega)];simp)]
 have hpx:=za5 hf hc
 have hsl:=zpy w.f c r w.f.p.length
 refine spB Tryz.func84 36 [] Tryz.results84 ?_
 try refine xst ?_
 refine caP (ydt w.f c r (by omega)) ?_
 rw[hsv]
 try refine xst ?_
 refine zaw (fun k:Nat=>⟨[(20,I .i64 k),(19,I .i64 (zbg w.f c r w.f.p.length).length),(18,.c (.sl 2 ((zbg w.f c r w.f.p.length).map za2))),(3,.ptr 1 0 0),(2,.ptr 0 0 0)],[(0,.blk 28 (zkg w)),(1,.blk 61 [.own 2]),(2,.row 4 1 ((zds w.f o ((zbg w.f c r w.f.p.length).take k)).map zcu))],3⟩) (fun k:Nat=>k≤(zbg w.f c r w.f.p.length).length) (fun k:Nat=>(zbg w.f c r w.f.p.length).length-k) (0) (Nat.zero_le _) (To.mk [0,1,2] rfl rfl (by decide) ?_ ?_) ?_
 ·simp(etaStruct := .none)only[push_cast,zab,seval,List.take_zero,zds,List.foldl_nil]
 ·simp(etaStruct := .none)only[push_cast,zab,seval]
 rintro k hk
 have hal:=ze0 w.f ((zbg w.f c r w.f.p.length).take k) o
 try refine xst ?_
 refine cI (fun h1 => ?_) fun h1 => ?_
 ·have hlt:k<(zbg w.f c r w.f.p.length).length:=by omega
  obtain⟨i,hi,hci,_⟩:=zkz (zaz _ k hlt)
  obtain⟨q1,q2⟩:=zij hf hi
  rw[←hci]at q1 q2
  have hqx:=za5 hf q1
  have hqi:=inF_iff.1 q1
  have e1:IntKind.i64.wrap (IntKind.i64.wrap (((zbg w.f c r w.f.p.length).getD k default).y*w.f.w)+((zbg w.f c r w.f.p.length).getD k default).x)=((zal w.f ((zbg w.f c r w.f.p.length).getD k default):Nat):Int):=by rw[zak (_*_) (by omega) (by omega),zak _ (by omega) (by omega)];unfold zal;omega
  have hsn:=zsg w.f o ((zbg w.f c r w.f.p.length).take k) ((zbg w.f c r w.f.p.length).getD k default)
  rw[←zan _ _ hlt]at hsn
  have hsx:zal w.f ((zbg w.f c r w.f.p.length).getD k default)<(zds w.f o ((zbg w.f c r w.f.p.length).take k)).length:=by omega
  try refine xz3 (gd hlt) za4 e1 ?_
  refine⟨k+1,by omega,by omega,To.mk [0,1,2] rfl rfl (by decide) ?_ ?_⟩
  ·(iterate 2((try simp(etaStruct := .none)only[push_cast,zab,seval,hsn,List.map_set,zcu]);(try(refine xsu ?_;try exact xtI))))
  ·(try(refine xz3 (gd hlt) za4 e1 ?_;try exact xtI))
 ·obtain rfl:k=(zbg w.f c r w.f.p.length).length:=by omega
  try refine xst ?_
  refine zcc [0,1,2] rfl rfl (by decide) ⟨?_,?_,?_,trivial⟩ trivial (Wk.undef _)<;>simp(etaStruct := .none)only[push_cast,zab,seval,List.take_length]
end Go.Proofs.YtmjbgbmegbkmhaaGreat
namespace Go.Proofs.YtmjbgbmegbkmhaaGreat
set_option linter.all false
open Go.RowKit
set_option maxRecDepth 100000
set_option maxHeartbeats 2000000
theorem yat (w:Wld) (p:Int) (hl:ze8 w):Spec Tryz.prog 40 [zcx w,I .i64 p] [] (.tup [.c (.sl 1 ((if zes w p=0 then zpe w p else []).map zcu)),I .i64 (zes w p)]) []:=by
 refine spB Tryz.func40 55 [.tmp 4,.tmp 5] Tryz.results40 ?_
 try refine xst ?_
 refine caP (zdw w hl) ?_
 try refine xst ?_
 refine cI (fun h1 => ?_) fun h1 => ?_
 ·have e:zes w p=zam w:=by unfold zes;rw[if_pos h1]
  rw[e,if_neg h1]
  try refine xst ?_
  (first|(refine zar rfl (Wk.of ?_);(try simp(etaStruct := .none)only[push_cast,zab,seval]);first|done|(simp[zpe, *];done)|(simp_all[zpe];done))|(refine zar rfl ?_;(try simp(etaStruct := .none)only[push_cast,zab,seval]);(try simp[zpe, *]);(try exact wkc)))
 ·have hw:=zcn h1
  have hrf:List.map zcu (List.replicate w.f.p.length false)=List.replicate w.f.p.length [pB false]:=by rw[List.map_replicate];rfl
  try refine xst ?_
  refine cI (fun h2 => ?_) fun h2 => ?_
  ·have e:zes w p=7:=by
    unfold zes
    rw[if_neg (by simp[h1]),if_pos]
    rw[within_f];omega
   rw[e,if_neg (by decide)]
   try refine xst ?_
   (first|(refine zar rfl (Wk.of ?_);(try simp(etaStruct := .none)only[push_cast,zab,seval]);first|done|(simp[zpe, *];done)|(simp_all[zpe];done))|(refine zar rfl ?_;(try simp(etaStruct := .none)only[push_cast,zab,seval]);(try simp[zpe, *]);(try exact wkc)))
  ·have e:zes w p=0:=by
    unfold zes
    rw[if_neg (by simp[h1]),if_neg]
    rw[Bool.not_eq_false,within_iff];omega
   rw[e,if_pos rfl]
   obtain⟨q,rfl⟩:∃q:Nat,p=q:=Int.eq_ofNat_of_zero_le (by omega)
   have hqb:q<w.bases.length:=by omega
   have hbs:=(ground_iff.1 (hw.base q hqb).1).1
   have hpx:=za5 hw.f hbs
   have hfr:=z0e (w:=w) (p:=q) hw.f
   rw[Int.toNat_natCast]at hfr
   try refine xz2 (gd hqb) za4 ?_
   rw[←hrf]
   refine caM [0,2,1] (z1d w (w.bases.getD q default) 3 (List.replicate w.f.p.length false) hw.f hbs (by omega) (by simp)) ?_
   try refine xz2 (gd hqb) za4 ?_
   refine zaw (fun k:Nat=>⟨[(41,I .i64 k),(40,I .i64 w.troops.length),(39,.c (.sl 7 (w.troops.map zat))),(8,.clo (.func 84) [] [.ptr 0 0 0,.ptr 1 0 0]),(7,.ptr 1 0 0),(1,I .i64 q)],[(0,.blk 28 (zkg w)),(1,.blk 61 [.own 2]),(2,.row 4 1 ((zxl w q k).map zcu))],3⟩) (fun k:Nat=>k≤w.troops.length) (fun k:Nat=>w.troops.length-k) (0) (Nat.zero_le _) (To.mk [0,2,1] rfl rfl (by decide) ?_ ?_) ?_
   ·simp(etaStruct := .none)only[push_cast,zab,seval,hfr]
   ·simp(etaStruct := .none)only[push_cast,zab,seval]
   rintro k hk
   try refine xz2 (gd hqb) za4 ?_
   refine cI (fun h3 => ?_) fun h3 => ?_
   ·have hlt:k<w.troops.length:=by omega
    have hnt:=hw.nt
    have htk:=hw.trp k hlt
    try refine xz4 (gd hqb) za4 (gd hlt) zav ?_
    refine cI (fun h4 => ?_) fun h4 => ?_
    ·have hst:=z4w hw.f hlt h4
     try refine xz5 (gd hqb) za4 (gd hlt) zav hst ?_
     refine caM [0,1,2] (z1d w (w.troops.getD k default).c 5 (zxl w q k) hw.f (ground_iff.1 htk.at_).1 (by omega) (zee w q k)) ?_
     try refine xz5 (gd hqb) za4 (gd hlt) zav hst ?_
     refine⟨k+1,by omega,by omega,To.mk [0,1,2] rfl rfl (by decide) ?_ ?_⟩
     ·(try(refine xz5 (gd hqb) za4 (gd hlt) zav hst ?_;try exact xtI))
     ·(try(refine xz5 (gd hqb) za4 (gd hlt) zav hst ?_;try exact xtI))
    ·have hst:=z4x hlt h4
     try refine xz5 (gd hqb) za4 (gd hlt) zav hst ?_
     refine⟨k+1,by omega,by omega,To.mk [0,1,2] rfl rfl (by decide) ?_ ?_⟩
     ·(try(refine xz5 (gd hqb) za4 (gd hlt) zav hst ?_;try exact xtI))
     ·(try(refine xz5 (gd hqb) za4 (gd hlt) zav hst ?_;try exact xtI))
   ·obtain rfl:k=w.troops.length:=by omega
    try refine xz2 (gd hqb) za4 ?_
    (first|(refine zar rfl (Wk.of ?_);(try simp(etaStruct := .none)only[push_cast,zab,seval]);first|done|(simp[zpe, *];done)|(simp_all[zpe];done))|(refine zar rfl ?_;(try simp(etaStruct := .none)only[push_cast,zab,seval]);(try simp[zpe, *]);(try exact wkc)))
theorem zt0 (w:Wld) (p:Int):(zpe w p).length=w.f.p.length:=zee w p _
theorem zt1 (w:Wld) (p:Int) (i:Nat) (hi:i<w.f.p.length):(zpe w p).getD i default=zt2 w p (zb8 w.f.w i):=zj4 w p _ i hi
def zbr (w:Wld) (p:Int) (t:Trp):Bool:=decide (t.owner=p)||zt2 w p t.c
def mvK (w:Wld) (p:Int) (k:Nat):List Int:=(List.range w.mines.length).map fun i=>if i<k∧zt2 w p (zb8 w.f.w i)=false then 0 else w.mines.getD i default
def zjl (l:List Trp):Int:=match l.getLast? with|some t=>t.id+1|none=>1
def zcr (w:Wld) (p:Int):Wld:={ f:=w.f,bases:=w.bases,stocks:=(List.replicate w.stocks.length 0).set p.toNat (w.stocks.getD p.toNat default),mines:=mvK w p w.mines.length,troops:=w.troops.filter (zbr w p),next:=zjl (w.troops.filter (zbr w p)),now:=w.now }
theorem zdo (w:Wld) (p:Int) (k:Nat):(mvK w p k).length=w.mines.length:=by simp[mvK]
theorem ziz (w:Wld) (p:Int) (k i:Nat) (hi:i<w.mines.length):(mvK w p k).getD i default=if i<k∧zt2 w p (zb8 w.f.w i)=false then 0 else w.mines.getD i default:=by
 rw[zac _ _ (by rw[zdo];exact hi)];simp[mvK]
theorem yih (w:Wld) (p:Int):mvK w p 0=w.mines:=by
 refine zek (zdo w p 0) fun i hi => ?_
 rw[zdo]at hi
 rw[ziz w p 0 i hi,if_neg (by omega)]
theorem z5q (w:Wld) (p:Int) (k:Nat) (hk:k<w.mines.length) (h:zt2 w p (zb8 w.f.w k)=false):mvK w p (k+1)=(mvK w p k).set k 0:=by
 refine zek (by simp[zdo]) fun i hi => ?_
 rw[zdo]at hi
 rw[zge _ _ _ _ (by rw[zdo];exact hk),ziz w p _ i hi,ziz w p _ i hi]
 by_cases e:k=i
 ·subst e;rw[if_pos ⟨by omega,h⟩,if_pos rfl]
 ·rw[if_neg e]
  by_cases e2:i<k∧zt2 w p (zb8 w.f.w i)=false
  ·rw[if_pos e2,if_pos ⟨by omega,e2.2⟩]
  ·rw[if_neg e2,if_neg (fun h=>e2 ⟨by omega,h.2⟩)]
theorem z5p (w:Wld) (p:Int) (k:Nat) (h:zt2 w p (zb8 w.f.w k)=true):mvK w p (k+1)=mvK w p k:=by
 unfold mvK
 refine List.map_congr_left fun i _ => ?_
 by_cases e2:i<k∧zt2 w p (zb8 w.f.w i)=false
 ·rw[if_pos e2,if_pos ⟨by omega,e2.2⟩]
 ·rw[if_neg e2,if_neg]
  rintro⟨h1,h2⟩
  rcases Nat.lt_or_ge i k with h3|h3
  ·exact e2 ⟨h3,h2⟩
  ·rw[show i=k by omega,h]at h2;exact absurd h2 (by decide)
abbrev yc3 (w:Wld):List PV := [pI w.f.w,pI w.f.h,.sl 1 (w.f.p.map zad),.sl 2 (w.bases.map za2),.sl 1 (w.stocks.map zad),.sl 1 (w.mines.map zad),.sl 7 (w.troops.map zat),pI w.next,pI w.now]
theorem z8y {w:Wld} {p:Int} (hf:zbk w.f=0) {c:Cel} (hc:inF w.f c=true):zal w.f c<(zpe w p).length∧(zpe w p).getD (zal w.f c) default=zt2 w p c:=by
 have hp:=za5 hf hc
 have hlt:zal w.f c<w.f.p.length:=by unfold zal;omega
 refine⟨by rw[zt0];exact hlt,?_⟩
 rw[zt1 w p _ hlt]
 congr 1
 have h1:=inF_iff.1 hc
 have e:((zal w.f c:Nat):Int)=c.y*w.f.w+c.x:=by unfold zal;omega
 unfold zb8
 obtain⟨x,y⟩:=c
 simp only at *
 rw[e]
 congr 1
 ·rw[Int.add_comm,Int.add_mul_emod_self_right,Int.emod_eq_of_lt (by omega) (by omega)]
 ·rw[Int.add_comm,Int.add_mul_ediv_right _ _ (by omega),Int.ediv_eq_zero_of_lt (by omega) (by omega),Int.zero_add]
theorem yda (w:Wld) (p:Int) (t:Trp) (hf:zbk w.f=0) (hc:inF w.f t.c=true):Spec Tryz.prog 45 [z7r t,.fel 1 [[pI p]] 0 0,.fel 1 [[.sl 1 ((zpe w p).map zcu)]] 0 0,.fel 9 [yc3 w] 0 0] [] (B (!zbr w p t)) []:=by
 obtain⟨hv1,hv2⟩:=z8y (p:=p) hf hc
 have hpx:=za5 hf hc
 have hci:=inF_iff.1 hc
 have e1:IntKind.i64.wrap (IntKind.i64.wrap (t.c.y*w.f.w)+t.c.x)=((zal w.f t.c:Nat):Int):=by rw[zak (_*_) (by omega) (by omega),zak _ (by omega) (by omega)];unfold zal;omega
 refine spB Tryz.func45 27 [.tmp 5] Tryz.results45 ?_
 try refine xz4 e1 (gd hv1) hv2 zga ?_
 (first|(refine zar rfl (Wk.of ?_);(try simp(etaStruct := .none)only[push_cast,zab,seval]);first|done|(simp[zbr, *];done)|(simp_all[zbr];done))|(refine zar rfl ?_;(try simp(etaStruct := .none)only[push_cast,zab,seval]);(try simp[zbr, *]);(try exact wkc)))
theorem znd (l:List Trp) (n:Nat) (h:l.length=n+1):zjl l=(l.getD n default).id+1:=by
 unfold zjl
 have:l.getLast? = some (l.getD n default):=by
  rw[List.getLast?_eq_getElem?,h,Nat.add_sub_cancel,zac _ _ (by omega),List.getElem?_eq_getElem (by omega)]
 rw[this]
theorem zoc (w:Wld) (p:Int) (hl:ze8 w):Spec Tryz.prog 13 [zcx w,I .i64 p] [] (.tup [zcx (if zes w p=0 then zcr w p else default),I .i64 (zes w p)]) []:=by
 refine spB Tryz.func13 88 [.cell 4 28,.tmp 5] Tryz.results13 ?_
 try refine xst ?_
 refine caP (yat w p hl) ?_
 try refine xst ?_
 refine cI (fun h1 => ?_) fun h1 => ?_
 ·rw[if_neg h1]
  try refine xst ?_
  exact xrz rfl
 ·obtain⟨h0,hp⟩:=z1e h1
  have hw:=zcn h0
  have hfo:=zbc hw.f
  have hvl:=zt0 w p
  obtain⟨q,rfl⟩:∃q:Nat,p=q:=Int.eq_ofNat_of_zero_le (by omega)
  have hqs:q<w.stocks.length:=by have:=hw.sl;omega
  have hsl:=hw.sl
  have hnb:=hw.nb
  have hml:=hw.ml
  have hnt:=hw.nt
  have hpl:=(za5 hw.f (ground_iff.1 (hw.base q (by omega)).1).1).2.2.2.2
  rw[h1,if_pos rfl,if_pos rfl]
  try refine xz2 (gd hqs) zaq ?_
  refine caM [] (zd9 w.f.p (by omega)) ?_
  try refine xz2 (gd hqs) zaq ?_
  refine caM [] (zrr w.bases (by omega)) ?_
  try refine xz2 (gd hqs) zaq ?_
  (try(refine⟨by kernel_rfl,?_⟩))
  try refine xz2 (gd hqs) zaq ?_
  (try(refine⟨by kernel_rfl,?_⟩))
  try refine xz2 (gd hqs) zaq ?_
  refine caM [] (zd9 w.mines (by omega)) ?_
  try refine xz2 (gd hqs) zaq ?_
  refine zaw (fun k:Nat=>⟨[(53,I .i64 k),(52,I .i64 w.mines.length),(8,.ptr 0 0 0),(6,.ptr 5 0 0),(4,.ptr 4 0 0),(3,.ptr 3 0 0),(2,.ptr 2 0 0)],[(0,.blk 28 [I .i64 w.f.w,I .i64 w.f.h,.c (.sl 1 (w.f.p.map zad)),.c (.sl 2 (w.bases.map za2)),.c (.sl 1 (((List.replicate w.stocks.length (0:Int)).set q (w.stocks.getD q default)).map zad)),.own 1,.c (.sl 7 (w.troops.map zat)),I .i64 w.next,I .i64 w.now]),(1,.row 3 1 ((mvK w q k).map zad)),(2,.blk 28 (zkg w)),(3,.blk 3 [I .i64 q]),(4,.blk 28 [I .i64 0,I .i64 0,.c (.v (.slice none 0 0)),.c (.v (.slice none 0 0)),.c (.v (.slice none 0 0)),.c (.v (.slice none 0 0)),.c (.v (.slice none 0 0)),I .i64 0,I .i64 0]),(5,.blk 61 [.c (.sl 1 ((zpe w q).map zcu))])],6⟩) (fun k:Nat=>k≤w.mines.length) (fun k:Nat=>w.mines.length-k) (0) (Nat.zero_le _) (To.mk [4,94,0,1,2,3] rfl rfl (by decide) ?_ ?_) ?_
  ·simp(etaStruct := .none)only[push_cast,zab,seval,yih,List.map_set,zad,List.map_replicate]
  ·simp(etaStruct := .none)only[push_cast,zab,seval]
  rintro k hk
  have hmk:=zdo w q k
  try refine xz2 (gd hqs) zaq ?_
  refine cI (fun h2 => ?_) fun h2 => ?_
  ·have hlt:k<(zpe w q).length:=by omega
   have hvg:=zt1 w q k (by omega)
   try refine xz5 (gd hqs) zaq (gd hlt) hvg zga ?_
   refine cI (fun h3 => ?_) fun h3 => ?_
   ·have hst:=z5q w q k (by omega) h3
    try refine xz5 (gd hqs) zaq (gd hlt) hvg zga ?_
    refine⟨k+1,by omega,by omega,To.mk [0,1,2,3,4,5] rfl rfl (by decide) ?_ ?_⟩
    ·(iterate 2((try simp(etaStruct := .none)only[push_cast,zab,seval,hst,List.map_set,zad]);(try(refine xsu ?_;try exact xtI))))
    ·(try(refine xz5 (gd hqs) zaq (gd hlt) hvg zga ?_;try exact xtI))
   ·have hst:=z5p w q k h3
    try refine xz5 (gd hqs) zaq (gd hlt) hvg zga ?_
    refine⟨k+1,by omega,by omega,To.mk [0,1,2,3,4,5] rfl rfl (by decide) ?_ ?_⟩
    ·(try(refine xz1 hst ?_;try exact xtI))
    ·(try(refine xz5 (gd hqs) zaq (gd hlt) hvg zga ?_;try exact xtI))
  ·obtain rfl:k=w.mines.length:=by omega
   have hff:w.troops.filter (fun x => !(!zbr w q x))=w.troops.filter (zbr w q):=by congr 1;funext x;rw[Bool.not_not]
   have hfl:=List.length_filter_le (zbr w q) w.troops
   try refine xz2 (gd hqs) zaq ?_
   refine caM [] (zko w.troops (by omega)) ?_
   try refine xz2 (gd hqs) zaq ?_
   refine zfv [6,3,5,2] (Spec.hand 1 (z9c 45 [] [.fel 1 [[pI q]] 0 0,.fel 1 [[.sl 1 ((zpe w q).map zcu)]] 0 0,.fel 9 [yc3 w] 0 0] w.troops (fun x => !zbr w q x) (by omega) (fun t ht=>by obtain⟨i,hi,rfl⟩:=mem_getD.1 ht;exact yda w q _ hw.f (ground_iff.1 (hw.trp i hi).at_).1) (fun _=>rfl) (fun _=>rfl) (fun _=>rfl) (fun _=>rfl)) (by simp) rfl (by exact WkL.refl _) rfl) (WkL.refl _) rfl (by decide) (by simp[zbw]) ?_
   rw[hff]
   try refine xz2 (gd hqs) zaq ?_
   refine cI (fun h4 => ?_) fun h4 => ?_
   ·obtain⟨m,hm⟩:∃m,(w.troops.filter (zbr w q)).length=m+1:=⟨(w.troops.filter (zbr w q)).length-1,by omega⟩
    have hli:=znd _ m hm
    have hwm:IntKind.i64.wrap (((w.troops.filter (zbr w q)).length:Int)-1)=(m:Int):=by rw[zak _ (by omega) (by omega)];omega
    have hmlt:m<(w.troops.filter (zbr w q)).length:=by omega
    obtain⟨i,hi,hie⟩:=mem_getD.1 (List.mem_filter.1 (zaz _ m hmlt)).1
    have htk:=(hw.trp i hi).id
    rw[hie]at htk
    have hnx:=hw.nx
    have hvw:zcr w q = { f:=w.f,bases:=w.bases,stocks:=(List.replicate w.stocks.length 0).set q (w.stocks.getD q default),mines:=mvK w q w.mines.length,troops:=w.troops.filter (zbr w q),next:=((w.troops.filter (zbr w q)).getD m default).id+1,now:=w.now }:=by unfold zcr;rw[hli,Int.toNat_natCast]
    try refine xz5 (gd hqs) zaq hwm (gd hmlt) zav ?_
    rw[hvw]
    refine zb0 rfl (by repeat' (first|exact trivial|exact rfl|refine⟨?_,?_⟩)) (Wk.of ?_)
    first|rfl|kernel_rfl
   ·have hem:w.troops.filter (zbr w q) = []:=List.length_eq_zero_iff.1 (by omega)
    have hvw:zcr w q = { f:=w.f,bases:=w.bases,stocks:=(List.replicate w.stocks.length 0).set q (w.stocks.getD q default),mines:=mvK w q w.mines.length,troops:=w.troops.filter (zbr w q),next:=1,now:=w.now }:=by unfold zcr;rw[Int.toNat_natCast,hem];rfl
    try refine xz2 (gd hqs) zaq ?_
    rw[hvw]
    refine zb0 rfl (by repeat' (first|exact trivial|exact rfl|refine⟨?_,?_⟩)) (Wk.of ?_)
    first|rfl|kernel_rfl
end Go.Proofs.YtmjbgbmegbkmhaaGreat
