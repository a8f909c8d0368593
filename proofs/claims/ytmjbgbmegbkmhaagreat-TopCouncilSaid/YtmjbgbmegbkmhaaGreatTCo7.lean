/- Lemmas for the proof of topCouncil.proved. -/
import Derived.Test.YtmjbgbmegbkmhaaGreatTCo6
namespace Go.Proofs.YtmjbgbmegbkmhaaGreat
set_option linter.all false
open Go.RowKit
set_option maxRecDepth 100000
set_option maxHeartbeats 1000000
theorem zf6 (n:Nat) (h:n<18446744073709551616):IntKind.u64.wrap (n:Int)=n:=by rw[IntKind.wrap_u64];omega
theorem zhd (n:Nat) (h:n<4294967296):bits .and .u64 (n:Int) 4294967295=(n:Int):=by
 show IntKind.u64.wrap ((BitVec.ofInt 64 (n:Int) &&& BitVec.ofInt 64 ((4294967295:Nat):Int)).toNat:Nat)=_
 rw[BitVec.toNat_and,BitVec.ofInt_natCast,BitVec.ofInt_natCast,BitVec.toNat_ofNat,BitVec.toNat_ofNat,Nat.mod_eq_of_lt (show n<2 ^ 64 by omega),Nat.mod_eq_of_lt (show 4294967295<2 ^ 64 by decide)]
 have:n &&& 4294967295=n:=by rw[show (4294967295:Nat)=2 ^ 32-1 from rfl,Nat.and_two_pow_sub_one_eq_mod,Nat.mod_eq_of_lt (by omega)]
 rw[this]
 exact zf6 n (by omega)
theorem ybz (n:Nat) (h:n≤1600):Spec Tryz.prog 195 [.c (.v (.int .u64 1)),.c (.v (.int .u64 n))] [] (.tup [.c (.v (.int .u64 0)),.c (.v (.int .u64 n))]) []:=by
 have a1:=zhd n (by omega)
 have a2:bits .and .u64 1 4294967295=1:=zhd 1 (by decide)
 have a3:bits .and .u64 0 4294967295=0:=zhd 0 (by decide)
 have w1:∀x:Int,0≤x→x≤1600→IntKind.u64.wrap x=x:=fun x h1 h2=>by
  obtain⟨k,rfl⟩:=Int.eq_ofNat_of_zero_le h1
  exact zf6 k (by omega)
 have d1:(n:Int).fdiv 4294967296=0:=by rw[Int.fdiv_eq_ediv_of_nonneg _ (by decide)];omega
 have d2:(1:Int).fdiv 4294967296=0:=rfl
 have d3:(0:Int).fdiv 4294967296=0:=rfl
 have e1:IntKind.u64.wrap (n:Int)=n:=w1 _ (by omega) (by omega)
 have e0:IntKind.u64.wrap 0=0:=rfl
 have hm:(2:Int) ^ min 32 IntKind.u64.bits=4294967296:=rfl
 refine spB Tryz.func195 51 [.tmp 4,.tmp 5] Tryz.results195 ?_
 iterate 2(try simp(etaStruct := .none)only[push_cast,zab,seval,hm,a1,a2,a3,d1,d2,d3,e1,e0,Int.mul_zero,Int.zero_mul,Int.one_mul,Int.add_zero,Int.zero_add];try refine xsu ?_)
 exact xrz rfl
theorem yj5 (n:Nat) (h:n≤1600):Spec Tryz.prog 188 [.c (.v (.int .u64 1)),.c (.v (.int .u64 n))] [] (.tup [.c (.v (.int .u64 0)),.c (.v (.int .u64 n))]) []:=by
 refine spB Tryz.func188 30 [.tmp 4,.tmp 5] Tryz.results188 ?_
 try refine xst ?_
 refine cI (fun h1 => ?_) fun h1 => ?_
 ·exact absurd h1 (by decide)
 ·try refine xst ?_
  refine caP (ybz n h) ?_
  try refine xst ?_
  exact xrz rfl
def rp (k n:Nat):List Int:=List.replicate k (-1)++List.replicate (n-k) 0
theorem yfe {k n:Nat} (h:k≤n):(rp k n).length=n:=by unfold rp;simp;omega
theorem z0q {k n:Nat} (h:k≤n):(rp k n).take k=List.replicate k (-1):=by unfold rp;rw[List.take_append_of_le_length (by simp)];simp
theorem zmy {α β : Type} (f : α → β) (l:List α) (o:Nat) (m:List α):zad (l.map f) o (m.map f)=(zad l o m).map f:=by
 unfold zad
 rw[List.map_append,List.map_append,List.map_take,List.map_drop,List.length_map]
theorem ya0 {k n:Nat} (h:k≤n):zad (rp k n) k ((List.replicate k (-1)).take (n-k))=rp (k+min k (n-k)) n:=by
 rw[List.take_replicate]
 unfold zad
 rw[z0q h,List.length_replicate]
 unfold rp
 rw[List.drop_append,List.length_replicate,List.drop_of_length_le (by simp),List.nil_append,show k+min (n-k) k-k=min (n-k) k from by omega,List.drop_replicate,←List.append_assoc,List.replicate_append_replicate,Nat.min_comm (n-k) k,show n-k-min k (n-k)=n-(k+min k (n-k))from by omega]
theorem z5k {n:Nat} (h:1≤n):zad (List.replicate n (0:Int)) 0 ([(-1:Int)].take n)=rp 1 n:=by
 obtain⟨m,rfl⟩:∃m,n=m+1:=⟨n-1,by omega⟩
 unfold zad rp
 simp
theorem zu8 (n:Nat) (hpos:1≤n) (h:n≤1600):Spec Tryz.prog 178 [.own 0,I .i64 n] [.row 3 1 [[pI (-1)]]] (.own 1) [.row 3 1 [[pI (-1)]],.row 3 1 ((List.replicate n (-1:Int)).map zac)]:=by
 have e1:IntKind.u64.wrap (n:Int)=n:=zf6 n (by omega)
 have e2:IntKind.u64.wrap 1=1:=rfl
 have e3:IntKind.i64.wrap (n:Int)=n:=zak _ (by omega) (by omega)
 have hf:=z5k hpos
 have hf2:zad (List.replicate n [pI 0]) 0 (([[pI (-1)]]:List (List PV)).take n)=(rp 1 n).map zac:=by rw[←hf,←zmy];simp[zac]
 have hmn:min 1 n=1:=by omega
 refine spB Tryz.func178 48 [.tmp 4] Tryz.results178 ?_
 try refine xz3 e1 e2 e3 ?_
 refine cI (fun h1 => ?_) fun h1 => ?_
 ·exfalso;omega
 ·try refine xz3 e1 e2 e3 ?_
  refine caP (yj5 n h) ?_
  try refine xz3 e1 e2 e3 ?_
  refine cI (fun h2 => ?_) fun h2 => ?_
  ·exfalso;omega
  ·try refine xz3 e1 e2 e3 ?_
   refine zax (fun k:Nat=>⟨[(8,I .i64 k),(7,.own 1)],[(0,.row 3 1 [[pI (-1)]]),(1,.row 3 1 ((rp k n).map zac))],2⟩) (fun k:Nat=>1≤k∧k≤n) (fun k:Nat=>n-k) (1) (⟨Nat.le_refl _,hpos⟩) (To.mk [0,1] rfl rfl (by decide) ?_ ?_) ?_
   ·simp(etaStruct := .none)only[push_cast,zab,seval,List.length_replicate]
    simpa only[zad,List.take_zero,List.nil_append,Nat.zero_add]using hf2
   ·simp(etaStruct := .none)only[push_cast,zab,seval,List.length_replicate,hmn]
   rintro k ⟨hk1,hk⟩
   have hrl:=yfe hk
   have hrc:=ya0 hk
   have htk:((rp k n).map zac).take k=(List.replicate k (-1:Int)).map zac:=by rw[←List.map_take,z0q hk]
   have hs2:zad ((rp k n).map zac) k ((((rp k n).map zac).take k).take (n-k))=(rp (k+min k (n-k)) n).map zac:=by rw[htk,←List.map_take,zmy,hrc]
   have hl2:(((rp k n).map zac).take k).length=k:=by rw[List.length_take,List.length_map,hrl];omega
   unfold zad at hs2
   try refine xz3 e1 e2 e3 ?_
   refine cI (fun h3 => ?_) fun h3 => ?_
   ·skip
    try refine xz3 e1 e2 e3 ?_
    (try(refine⟨by kernel_rfl,?_⟩))
    try refine xz3 e1 e2 e3 ?_
    refine⟨k+min k (n-k),⟨by omega,by omega⟩,by omega,To.mk [0,1] rfl rfl (by decide) ?_ ?_⟩
    ·try refine xz1 hrl ?_
     exact hs2
    ·(try(refine xz2 hl2 hrl ?_;try exact xtI))
   ·obtain rfl:k=n:=by omega
    have hrn:rp k k=List.replicate k (-1):=by unfold rp;simp
    try refine xz3 e1 e2 e3 ?_
    refine zby [0,1] rfl rfl (by decide) ⟨?_,?_,trivial⟩ trivial ?_<;>simp(etaStruct := .none)only[push_cast,zab,seval,hrn]
abbrev yjr (f:Fld) (b:Cel) (far:List Int) (q:List Nod):List PV := [pI f.w,pI f.h,.sl 1 (f.p.map zac),pI b.x,pI b.y,.sl 1 (far.map zac),.sl 4 (q.map zbu)]
theorem zei (f:Fld) (b:Cel) (far:List Int) (q:List Nod) (c:Cel) (hf:zbv f=0) (hc:inF f c=true):Spec Tryz.prog 163 [.fel 7 [yjr f b far q] 0 0,zhv c] [] (I .i64 (zam f c)) []:=by
 obtain⟨i1,i2,i3,i4,i5⟩:=zbm hf hc
 have hci:=inF_iff.1 hc
 have e1:IntKind.i64.wrap (IntKind.i64.wrap (c.y*f.w)+c.x)=(zam f c:Int):=by rw[zak (c.y*f.w) (by omega) (by omega),zak _ (by omega) (by omega)];unfold zam;omega
 refine spB Tryz.func163 16 [.tmp 4] Tryz.results163 ?_
 try refine xz1 e1 ?_
 (try(refine⟨by kernel_rfl,?_⟩))
 try refine xz1 e1 ?_
 exact xrz rfl
def zct (f:Fld) (c:Cel):Int × Bool:=if inF f c then (if zai f c=1 then (0,false)else (kV (zai f c),true))else (0,false)
theorem zta (f:Fld) (b:Cel) (far:List Int) (q:List Nod) (c:Cel) (hf:zbv f=0):Spec Tryz.prog 161 [.fel 7 [yjr f b far q] 0 0,zhv c] [] (.tup [I .i64 (zct f c).1,B (zct f c).2]) []:=by
 have hfo:=zbi hf
 have hav:atV f c=if inF f c then (zai f c,0)else (0,7):=by unfold atV;rw[if_neg (by simp[hf])]
 have hm:f.w*f.h≤40*40:=Int.mul_le_mul hfo.1.2 hfo.2.1.2 (by omega) (by omega)
 refine spB Tryz.func161 28 [.tmp 4,.tmp 5] Tryz.results161 ?_
 try refine xst ?_
 refine caP (zzj f c (by omega)) ?_
 rw[hav]
 try refine xst ?_
 (try(refine⟨by kernel_rfl,?_⟩))
 try refine xst ?_
 refine cI (fun h1 => ?_) fun h1 => ?_
 ·have hin:inF f c=false:=by
   cases hc:inF f c with
   | false=>rfl
   | true=>rw[hc]at h1;simp at h1
  have e:zct f c=(0,false):=by unfold zct;rw[if_neg (by simp[hin])]
  rw[e]
  try refine xst ?_
  exact xrz rfl
 ·have hin:inF f c=true:=by
   cases hc:inF f c with
   | true=>rfl
   | false=>rw[hc]at h1;simp at h1
  rw[if_pos hin]
  try refine xst ?_
  refine caP (yg8 (zai f c)) ?_
  have hpl:=hfo.2.2.2 _ (za0 f.p _ (show (c.y*f.w+c.x).toNat<f.p.length by have:=zbm hf hin;omega))
  have hcv:=z7p (q:=zai f c) hpl
  have e:zct f c=if zai f c=1 then (0,false)else (kV (zai f c),true):=by unfold zct;rw[if_pos hin]
  have e3:(zct f c).1=(zey (zai f c)).1∧(zct f c).2=decide ((zey (zai f c)).2=0):=by
   rw[e]
   rcases hcv with h|h
   ·rw[if_pos h.1,h.2];exact⟨rfl,rfl⟩
   ·rw[if_neg h.1,h.2];exact⟨rfl,rfl⟩
  rw[e3.1,e3.2]
  try refine xst ?_
  exact xrz rfl
theorem zvg (c:Cel) (hx : -1000000≤c.x∧c.x≤1000000) (hy : -1000000≤c.y∧c.y≤1000000):Spec Tryz.prog 162 [zhv c] [] (.agg [I .i64 c.x,I .i64 (c.y-1),I .i64 (c.x-1),I .i64 c.y,I .i64 (c.x+1),I .i64 c.y,I .i64 c.x,I .i64 (c.y+1)]) []:=by
 refine spB Tryz.func162 28 [.cell 2 295] Tryz.results162 ?_
 try refine xst ?_
 exact xrz rfl
def zbd (b c:Cel):Int:=2*(((b.x-c.x).natAbs+(b.y-c.y).natAbs:Nat):Int)
end Go.Proofs.YtmjbgbmegbkmhaaGreat
namespace Go.Proofs.YtmjbgbmegbkmhaaGreat
set_option linter.all false
open Go.RowKit
set_option maxRecDepth 100000
def lk (f:Fld) (b:Cel) (far:List Int) (d:Int) (q:List Nod) (c:Cel):List Nod:=if (zct f c).2=true∧far.getD (zam f c) default<0 then zdr Nod.all q ⟨c,d+(zct f c).1,d+(zct f c).1+zbd b c⟩else q
def zew (f:Fld) (b:Cel) (far:List Int) (d:Int) (q:List Nod) (l:List Cel):List Nod:=l.foldl (lk f b far d) q
theorem znc (f:Fld) (b:Cel) (far:List Int) (d:Int) (q:List Nod) (l:List Cel) (c:Cel):zew f b far d q (l ++ [c])=lk f b far d (zew f b far d q l) c:=by unfold zew;rw[List.foldl_append];rfl
theorem yge (f:Fld) (b:Cel) (far:List Int) (d:Int) (q:List Nod) (c:Cel):(lk f b far d q c).length≤q.length+1:=by
 unfold lk;split
 ·rw[zl2];exact Nat.le_refl _
 ·omega
theorem zlu (f:Fld) (b:Cel) (far:List Int) (d:Int) (l:List Cel):∀q:List Nod,(zew f b far d q l).length≤q.length+l.length:=by
 induction l with
 | nil=>intro q;exact Nat.le_refl _
 | cons c r ih=>intro q;have h1:=ih (lk f b far d q c);have h2:=yge f b far d q c;simp only[zew,List.foldl_cons,List.length_cons]at *;omega
def goB (f:Fld) (b:Cel) (far:List Int) (q:List Nod):Prop:=0<q.length∧(far.getD (zam f b) default<0∨(q.getD 0 default).all≤far.getD (zam f b) default)
def zla (f:Fld) (b:Cel):Nat→List Int→List Nod→List Int × List Nod
 | 0,far,q=>(far,q)
 | N+1,far,q=>if 0<q.length∧(far.getD (zam f b) default<0∨(q.getD 0 default).all≤far.getD (zam f b) default)then
  (if 0≤far.getD (zam f (q.getD 0 default).c) default then zla f b N far (zfy Nod.all q)
   else zla f b N (far.set (zam f (q.getD 0 default).c) (q.getD 0 default).far) (zew f b (far.set (zam f (q.getD 0 default).c) (q.getD 0 default).far) (q.getD 0 default).far (zfy Nod.all q) (zag (q.getD 0 default).c)))
  else (far,q)
section
variable {f : Fld} {W H : Nat}
theorem zt7 (hw:f.w=(W:Int)) (hh:f.h=(H:Int)) (hW:0<W) {p:Nat} (hp:p<W*H):inF f (zdx W p)=true∧zam f (zdx W p)=p:=by
 have h1:=Nat.div_add_mod p W
 have h2:=Nat.mod_lt p hW
 have h3:p/W<H:=by rw[Nat.div_lt_iff_lt_mul hW,Nat.mul_comm];exact hp
 unfold zdx zam
 refine⟨inF_iff.2 ⟨⟨Int.natCast_nonneg _,by simp only;rw[hw];exact Int.ofNat_lt.2 h2⟩,Int.natCast_nonneg _,by simp only;rw[hh];exact Int.ofNat_lt.2 h3⟩,?_⟩
 simp only
 rw[hw,show ((p/W:Nat):Int)*(W:Int)=((W*(p/W):Nat):Int)from by rw[Nat.mul_comm,Int.natCast_mul]]
 omega
theorem zbf (hw:f.w=(W:Int)) (hh:f.h=(H:Int)) (hW:0<W) (hf:zbv f=0) {c:Cel} (hc:inF f c=true):c=zdx W (zam f c)∧zam f c<f.p.length:=by
 obtain⟨i1,i2,i3,i4,i5⟩:=zbm hf hc
 have hci:=inF_iff.1 hc
 obtain⟨x,hx⟩:∃x:Nat,c.x=(x:Int):=Int.eq_ofNat_of_zero_le hci.1.1
 obtain⟨y,hy⟩:∃y:Nat,c.y=(y:Int):=Int.eq_ofNat_of_zero_le hci.2.1
 have e:zam f c=W*y+x:=by
  unfold zam
  rw[hx,hy,hw,show (y:Int)*(W:Int)=((W*y:Nat):Int)from by rw[Nat.mul_comm,Int.natCast_mul]]
  omega
 have hxW:x<W:=by omega
 refine⟨?_,by unfold zam;omega⟩
 rw[e]
 unfold zdx
 rw[Nat.mul_add_mod,Nat.mod_eq_of_lt hxW,Nat.mul_add_div hW,Nat.div_eq_of_lt hxW,Nat.add_zero,←hx,←hy]
theorem zow (hw:f.w=(W:Int)) (hh:f.h=(H:Int)) (hW:0<W) (b:Cel):yhu W (W*H) fun p=>zbd b (zdx W p):=by
 intro p n hp hn ha
 have key:∀c c':Cel,(c.x=c'.x∧(c.y=c'.y+1∨c'.y=c.y+1))∨(c.y=c'.y∧(c.x=c'.x+1∨c'.x=c.x+1))→zbd b c≤zbd b c'+2:=by
  intro c c' h;unfold zbd;omega
 refine key _ _ ?_
 have h1:=Nat.div_add_mod p W
 have h2:=Nat.div_add_mod n W
 have m1:=Nat.mod_lt p hW
 have m2:=Nat.mod_lt n hW
 unfold zdx
 simp only
 have up:∀m:Nat,(m+W) % W=m % W∧(m+W)/W=m/W+1:=fun m=>⟨Nat.add_mod_right m W,Nat.add_div_right m hW⟩
 have side:∀m:Nat,0<(m+1) % W→(m+1) % W=m % W+1∧(m+1)/W=m/W:=fun m h=>by
  have hs:=zus hW m
  have hl:=Nat.mod_lt m hW
  have hd:=Nat.div_add_mod m W
  split at hs
  ·omega
  ·rename_i hne
   refine⟨hs,?_⟩
   have hlt:m % W+1<W:=by omega
   have:m+1=W*(m/W)+(m % W+1):=by rw[←Nat.add_assoc,Nat.div_add_mod]
   rw[this,Nat.mul_add_div hW,Nat.div_eq_of_lt hlt,Nat.add_zero]
 rcases ha with h|⟨h,h'⟩|⟨h,h'⟩|h
 ·obtain⟨u1,u2⟩:=up n;rw[h]at u1 u2;exact .inl ⟨by omega,.inl (by omega)⟩
 ·obtain⟨u1,u2⟩:=side n (by rw[h];exact h');rw[h]at u1 u2;exact .inr ⟨by omega,.inl (by omega)⟩
 ·obtain⟨u1,u2⟩:=side p (by rw[h];exact h');rw[h]at u1 u2;exact .inr ⟨by omega,.inr (by omega)⟩
 ·obtain⟨u1,u2⟩:=up p;rw[h]at u1 u2;exact .inl ⟨by omega,.inr (by omega)⟩
theorem z13 (hw:f.w=(W:Int)) (hh:f.h=(H:Int)) (hW:0<W) (hf:zbv f=0) (hL:f.p.length=W*H) (b:Cel) {a p:Nat} {far:List Int} {q:List Nod} {done:Nat→Nat→Prop} {d:Int} (h:As W f.p a (fun n=>zbd b (zdx W n)) far q done) (hp:p<f.p.length) (hd:far.getD p default=d) (h0:0≤d)
 (top:∀m,m<f.p.length→0≤far.getD m default→far.getD m default+zbd b (zdx W m)≤d+zbd b (zdx W p)) (hb:d+3≤3*ziw ze0 far) (c:Cel) (hc:inF f c=true→Adj W p (zam f c)) :
 As W f.p a (fun n=>zbd b (zdx W n)) far (lk f b far d q c) fun x n=>done x n∨(x=p∧inF f c=true∧n=zam f c):=by
 have hcons:=zow hw hh hW b
 rw[←hL]at hcons
 cases hin:inF f c with
 | false =>
  have e:lk f b far d q c=q:=by unfold lk zct;rw[if_neg (by rw[hin];simp)]
  rw[e]
  refine⟨h.len,h.low,h.heap,h.itm,h.src,h.why,h.top,fun u v h1 h2 h3 h4=>h.all u v h1 h2 h3 ?_⟩
  rcases h4 with h4|h4
  ·exact h4
  ·exact absurd h4.2.1 (by decide)
 | true =>
  obtain⟨e1,e2⟩:=zbf hw hh hW hf hin
  have epl:zai f c=f.p.getD (zam f c) default:=rfl
  refine h.look hcons (n:=zam f c) e2 hp (hc hin) (by rw[hd];exact h0) (fun m h1 h2=>by rw[hd];exact top m h1 h2) (by rw[hd];exact hb) _ (fun x y h4=>by
   rcases h4 with h4|h4
   ·exact .inl h4
   ·exact .inr ⟨h4.1,h4.2.2⟩) ?_
  unfold lk zct
  rw[if_pos hin,epl,hd]
  by_cases hr:f.p.getD (zam f c) default=1
  ·rw[if_pos hr,if_neg (by simp)]
   exact .inl ⟨.inl hr,rfl⟩
  ·rw[if_neg hr]
   by_cases hn:far.getD (zam f c) default<0
   ·rw[if_pos ⟨rfl,hn⟩,←e1]
    exact .inr ⟨hr,hn,rfl⟩
   ·rw[if_neg (fun h=>hn h.2)]
    exact .inl ⟨.inr (by omega),rfl⟩
theorem zk5 (hw:f.w=(W:Int)) (hh:f.h=(H:Int)) (hW:0<W) {p:Nat} (hp:p<W*H) {c:Cel} (hc:c∈zag (zdx W p)) (hin:inF f c=true):Adj W p (zam f c):=by
 obtain⟨bm,_⟩:=znp f hw hh hW hp
 have:zam f c∈zmh W H p:=by rw[←bm];exact List.mem_map_of_mem (List.mem_filter.2 ⟨hc,hin⟩)
 exact((zna hW hp).1 this).2
theorem zr8 (hw:f.w=(W:Int)) (hh:f.h=(H:Int)) (hW:0<W) {p n:Nat} (hp:p<W*H) (hn:n<W*H) (ha:Adj W p n):∃c∈zag (zdx W p),inF f c=true∧n=zam f c:=by
 obtain⟨bm,_⟩:=znp f hw hh hW hp
 have:=(zna hW hp).2 ⟨hn,ha⟩
 rw[←bm]at this
 obtain⟨c,hc,e⟩:=List.mem_map.1 this
 obtain⟨h1,h2⟩:=List.mem_filter.1 hc
 exact⟨c,h1,h2,e.symm⟩
def yg4 (f:Fld) (W p k:Nat) (x n:Nat):Prop:=x≠p∨∃c∈(zag (zdx W p)).take k,inF f c=true∧n=zam f c
theorem z83 (hw:f.w=(W:Int)) (hh:f.h=(H:Int)) (hW:0<W) (hf:zbv f=0) (hL:f.p.length=W*H) (b:Cel) {a p:Nat} {far:List Int} {q:List Nod} {d:Int} (h:As W f.p a (fun n=>zbd b (zdx W n)) far q (fun x _=>x≠p)) (hp:p<f.p.length) (hd:far.getD p default=d) (h0:0≤d)
 (top:∀m,m<f.p.length→0≤far.getD m default→far.getD m default+zbd b (zdx W m)≤d+zbd b (zdx W p)) (hb:d+3≤3*ziw ze0 far):∀k,k≤4→As W f.p a (fun n=>zbd b (zdx W n)) far (zew f b far d q ((zag (zdx W p)).take k)) (yg4 f W p k):=by
 intro k
 induction k with
 | zero =>
  intro _
  refine⟨h.len,h.low,h.heap,h.itm,h.src,h.why,h.top,fun u v h1 h2 h3 h4=>h.all u v h1 h2 h3 ?_⟩
  rcases h4 with h4|⟨c,hc,_⟩
  ·exact h4
  ·simp at hc
 | succ k ih =>
  intro hk
  have hlt:k<(zag (zdx W p)).length:=by rw[show (zag (zdx W p)).length=4 from rfl];omega
  rw[zao _ _ hlt,znc]
  have:=z13 hw hh hW hf hL b (ih (by omega)) hp hd h0 top hb ((zag (zdx W p)).getD k default) (fun hin=>zk5 hw hh hW (by omega) (za0 _ _ hlt) hin)
  refine⟨this.len,this.low,this.heap,this.itm,this.src,this.why,this.top,fun u v h1 h2 h3 h4=>this.all u v h1 h2 h3 ?_⟩
  rcases h4 with h4|⟨c,hc,h5,h6⟩
  ·exact .inl (.inl h4)
  ·rw[zao _ _ hlt,List.mem_append,List.mem_singleton]at hc
   by_cases hu:u=p
   ·rcases hc with hc|hc
    ·exact .inl (.inr ⟨c,hc,h5,h6⟩)
    ·subst hc;exact .inr ⟨hu,h5,h6⟩
   ·exact .inl (.inl hu)
theorem zv5 (hw:f.w=(W:Int)) (hh:f.h=(H:Int)) (hW:0<W) (hL:f.p.length=W*H) {a p:Nat} {hf2:Nat→Int} {far:List Int} {q:List Nod} (hp:p<f.p.length) (h:As W f.p a hf2 far q (yg4 f W p 4)):As W f.p a hf2 far q fun _ _=>True:=by
 refine⟨h.len,h.low,h.heap,h.itm,h.src,h.why,h.top,fun u v h1 h2 h3 _=>h.all u v h1 h2 h3 ?_⟩
 by_cases hu:u=p
 ·subst hu;exact .inr (zr8 hw hh hW (by omega) (by omega) h3)
 ·exact .inl hu
end
def muS (f:Fld) (far:List Int) (q:List Nod):Nat:=5*(f.p.length-ziw ze0 far)+q.length
section
variable {f : Fld} {W H : Nat}
theorem zw8 (hw:f.w=(W:Int)) (hh:f.h=(H:Int)) (hW:0<W) (hf:zbv f=0) (hL:f.p.length=W*H) (b:Cel) {a:Nat} {far:List Int} {q:List Nod} (h:As W f.p a (fun n=>zbd b (zdx W n)) far q fun _ _=>True) (hq:0<q.length) (h0:far.getD (zam f (q.getD 0 default).c) default<0) :
 ∃p,(q.getD 0 default).c=zdx W p∧zam f (q.getD 0 default).c=p∧p<f.p.length∧0≤(q.getD 0 default).far∧As W f.p a (fun n=>zbd b (zdx W n)) (far.set p (q.getD 0 default).far) (zfy Nod.all q) (fun x _=>x≠p)∧(far.set p (q.getD 0 default).far).getD p default=(q.getD 0 default).far∧ziw ze0 (far.set p (q.getD 0 default).far)=ziw ze0 far+1 ∧
  (∀m,m<f.p.length→0≤(far.set p (q.getD 0 default).far).getD m default→(far.set p (q.getD 0 default).far).getD m default+zbd b (zdx W m)≤(q.getD 0 default).far+zbd b (zdx W p))∧(q.getD 0 default).far+3≤3*ziw ze0 (far.set p (q.getD 0 default).far):=by
 obtain⟨p,e1,hp,j0,jb,ja,jm,jw⟩:=h.itm _ ((zfp Nod.all q hq _).2 (.inl rfl))
 have hidx:zam f (q.getD 0 default).c=p:=by rw[e1];exact(zt7 hw hh hW (by omega)).2
 rw[hidx]at h0
 obtain⟨_,hA⟩:=h.close hW hq e1 h0
 have hpL:p<far.length:=by rw[h.len];exact hp
 have G:=fun k=>zn4 (q.getD 0 default).far k hpL
 have cnt:ziw ze0 (far.set p (q.getD 0 default).far)=ziw ze0 far+1:=by
  have:=zgk ze0 far p (q.getD 0 default).far hpL
  simp only[ze0,if_neg (show ¬0≤far.getD p default by omega),if_pos j0]at this;simpa[ze0]using this
 refine⟨p,e1,hidx,hp,j0,hA,by rw[G,if_pos rfl],cnt,fun m hm hm0 => ?_,by rw[cnt];omega⟩
 rw[G]at hm0 ⊢
 split
 ·rename_i e;subst e;exact Int.le_refl _
 ·rename_i e
  rw[if_neg e]at hm0
  have:=jm m hm hm0
  omega
theorem yfc (hw:f.w=(W:Int)) (hh:f.h=(H:Int)) (hW:0<W) (hf:zbv f=0) (hL:f.p.length=W*H) (b:Cel) {a:Nat} : ∀(N:Nat) (far:List Int) (q:List Nod),As W f.p a (fun n=>zbd b (zdx W n)) far q (fun _ _=>True)→muS f far q≤N →
 As W f.p a (fun n=>zbd b (zdx W n)) (zla f b N far q).1 (zla f b N far q).2 (fun _ _=>True)∧¬goB f b (zla f b N far q).1 (zla f b N far q).2:=by
 intro N
 induction N with
 | zero =>
  intro far q h hm
  refine⟨h,fun hg => ?_⟩
  have:=hg.1
  simp only[zla]at this
  unfold muS at hm;omega
 | succ N ih =>
  intro far q h hm
  rw[zla]
  split
  ·rename_i hg
   have hcl:=zhf ze0 1 zhj far
   rw[h.len]at hcl
   split
   ·rename_i h0
    obtain⟨p,e1,hp,_⟩:=h.itm _ ((zfp Nod.all q hg.1 _).2 (.inl rfl))
    have hidx:zam f (q.getD 0 default).c=p:=by rw[e1];exact(zt7 hw hh hW (by omega)).2
    rw[hidx]at h0
    exact ih _ _ (h.skip hg.1 e1 h0) (by unfold muS at *;rw[zgr];omega)
   ·rename_i h0
    obtain⟨p,e1,hidx,hp,j0,hA,hself,cnt,top,hb⟩:=zw8 hw hh hW hf hL b h hg.1 (by omega)
    have h4:=z83 hw hh hW hf hL b hA hp hself j0 top hb 4 (Nat.le_refl _)
    rw[show (zag (zdx W p)).take 4=zag (zdx W p)from rfl]at h4
    have h5:=zv5 hw hh hW hL hp h4
    rw[hidx,e1]
    refine ih _ _ h5 ?_
    have hll:=zlu f b (far.set p (q.getD 0 default).far) (q.getD 0 default).far (zag (zdx W p)) (zfy Nod.all q)
    have hcl2:=zhf ze0 1 zhj (far.set p (q.getD 0 default).far)
    rw[List.length_set,h.len]at hcl2
    rw[zgr,show (zag (zdx W p)).length=4 from rfl]at hll
    unfold muS at *
    rw[cnt];omega
  ·rename_i hg
   exact⟨h,hg⟩
end
end Go.Proofs.YtmjbgbmegbkmhaaGreat
namespace Go.Proofs.YtmjbgbmegbkmhaaGreat
set_option linter.all false
open Go.RowKit
set_option maxRecDepth 100000
set_option maxHeartbeats 1000000
theorem ya9 (f:Fld) (b:Cel) (far:List Int) (l:List Nod) (c:Cel) (d:Int) (hl:l.length≤1000000) (hx : -1000≤c.x∧c.x≤1000) (hy : -1000≤c.y∧c.y≤1000) (hbx:0≤b.x∧b.x≤40) (hby:0≤b.y∧b.y≤40) (hd:0≤d∧d≤1000000):Spec Tryz.prog 179 [.ptr 0 0 0,zhv c,I .i64 d] [.blk 300 [I .i64 f.w,I .i64 f.h,.c (.sl 1 (f.p.map zac)),I .i64 b.x,I .i64 b.y,.own 1,.own 2],.row 3 1 (far.map zac),.row 327 4 (l.map zbu)] (.tup []) [.blk 300 [I .i64 f.w,I .i64 f.h,.c (.sl 1 (f.p.map zac)),I .i64 b.x,I .i64 b.y,.own 1,.own 3],.row 3 1 (far.map zac),.dead,.row 327 4 ((zdr Nod.all l ⟨c,d,d+zbd b c⟩).map zbu)]:=by
 have e1:IntKind.i64.wrap (d+IntKind.i64.wrap (2*(((b.x-c.x).natAbs+(b.y-c.y).natAbs:Nat):Int)))=d+zbd b c:=by unfold zbd;rw[zak (2*_) (by omega) (by omega),zak _ (by omega) (by omega)]
 refine spB Tryz.func179 32 [] Tryz.results179 ?_
 try refine xz1 e1 ?_
 refine caP (zoo c b (by simp[zeg];omega) (by simp[zeg];omega)) ?_
 try refine xz1 e1 ?_
 (try(refine⟨by kernel_rfl,?_⟩))
 try refine xz1 e1 ?_
 refine zfv [0,1,2] (z56 f b far l ⟨c,d,d+zbd b c⟩ hl) (WkL.refl _) rfl (by decide) (by simp[zbn,zfh,zsb]) ?_
 try refine xz1 e1 ?_
 (try(refine⟨by kernel_rfl,?_⟩))
 try refine xz1 e1 ?_
 refine zby [0,1,2,104] rfl rfl (by decide) ⟨?_,?_,?_,?_,trivial⟩ trivial ?_<;>simp(etaStruct := .none)only[push_cast,zab,seval]
end Go.Proofs.YtmjbgbmegbkmhaaGreat
namespace Go.Proofs.YtmjbgbmegbkmhaaGreat
set_option linter.all false
open Go.RowKit
set_option maxRecDepth 100000
def zvs (R:List Int) (f:Fld) (c n:Cel):Bool:=decide (0≤R.getD (zam f n) default)&&decide (R.getD (zam f n) default+kV (zai f c)=R.getD (zam f c) default)
def zmo (R:List Int) (f:Fld) (c:Cel):Cel:=((zef f c).find? (zvs R f c)).getD default
def zzo (R:List Int) (f:Fld) (a:Cel):Nat→Cel→List Cel
 | 0,_ => []
 | N+1,c=>if c=a then []else zmo R f c::zzo R f a N (zmo R f c)
def yd0 (R:List Int) (f:Fld) (a b:Cel):List Cel:=(b::zzo R f a (R.getD (zam f b) default).toNat b).reverse
def zmi (R:List Int) (f:Fld) (a b:Cel):Int:=if zbv f≠0 then zbv f else if ¬(inF f a=true∧inF f b=true)then 7 else if zai f a=1∨zai f b=1 then 9 else if R.getD (zam f b) default<0 then 6 else 0
theorem zr7 {f:Fld} {W H:Nat} (hw:f.w=(W:Int)) (hh:f.h=(H:Int)) (hW:0<W) (hf:zbv f=0) (hL:f.p.length=W*H) {c n:Cel} (hc:inF f c=true) (hn:n∈zef f c):inF f n=true∧Adj W (zam f c) (zam f n)∧zam f n<f.p.length:=by
 obtain⟨h1,h2⟩:=List.mem_filter.1 hn
 obtain⟨e1,e2⟩:=zbf hw hh hW hf hc
 rw[e1]at h1
 exact⟨h2,zk5 hw hh hW (by omega) h1 h2,(zbf hw hh hW hf h2).2⟩
theorem yfy {f:Fld} {W H:Nat} (hw:f.w=(W:Int)) (hh:f.h=(H:Int)) (hW:0<W) (hf:zbv f=0) (hL:f.p.length=W*H) {a c:Cel} {R:List Int} (hR:Flood W f.p [zam f a] R) (ha:inF f a=true) (hc:inF f c=true) (hca:c≠a) (h0:0≤R.getD (zam f c) default) :
 ∃n∈zef f c,zvs R f c n=true:=by
 obtain⟨e1,e2⟩:=zbf hw hh hW hf hc
 rcases hR.why _ e2 h0 with ⟨h1,h2⟩|⟨m,hm,hadj,hr,h3,h4⟩
 ·rw[List.mem_singleton]at h1
  have:=(zbf hw hh hW hf ha).1
  rw[←h1,←e1]at this
  exact absurd this.symm hca
 ·have hp:=hR.all m _ hm e2 hadj.symm h3 hr
  obtain⟨n,hn,hin,rfl⟩:=zr8 hw hh hW (by omega) (by omega) hadj
  rw[←e1]at hn
  refine⟨n,List.mem_filter.2 ⟨hn,hin⟩,?_⟩
  unfold zvs
  have epl:zai f c=f.p.getD (zam f c) default:=rfl
  rw[epl,Bool.and_eq_true,decide_eq_true_eq,decide_eq_true_eq]
  exact⟨h3,by omega⟩
theorem z1m {f:Fld} {W H:Nat} (hw:f.w=(W:Int)) (hh:f.h=(H:Int)) (hW:0<W) (hf:zbv f=0) (hL:f.p.length=W*H) {a c:Cel} {R:List Int} (hR:Flood W f.p [zam f a] R) (ha:inF f a=true) (hc:inF f c=true) (hca:c≠a) (h0:0≤R.getD (zam f c) default) :
 (zef f c).find? (zvs R f c)=some (zmo R f c)∧zmo R f c∈zef f c∧inF f (zmo R f c)=true∧Adj W (zam f c) (zam f (zmo R f c))∧0≤R.getD (zam f (zmo R f c)) default∧R.getD (zam f (zmo R f c)) default+kV (zai f c)=R.getD (zam f c) default:=by
 obtain⟨n,hn,hp⟩:=yfy hw hh hW hf hL hR ha hc hca h0
 cases hfi:(zef f c).find? (zvs R f c)with
 | none=>exact absurd hp (by simpa using List.find?_eq_none.1 hfi n hn)
 | some m =>
  have e:zmo R f c=m:=by unfold zmo;rw[hfi];rfl
  have hm:=List.mem_of_find?_eq_some hfi
  have hq:=List.find?_some hfi
  unfold zvs at hq
  rw[Bool.and_eq_true,decide_eq_true_eq,decide_eq_true_eq]at hq
  obtain⟨b1,b2,_⟩:=zr7 hw hh hW hf hL hc hm
  rw[e]
  exact⟨rfl,hm,b1,b2,hq.1,hq.2⟩
theorem ya8 {f:Fld} {W H:Nat} (hw:f.w=(W:Int)) (hh:f.h=(H:Int)) (hW:0<W) (hf:zbv f=0) (hL:f.p.length=W*H) {a b c:Cel} {R far:List Int} {q:List Nod} (hR:Flood W f.p [zam f a] R) (ha:inF f a=true) (hpa:zai f a≠1) (hc:inF f c=true) (h0:0≤R.getD (zam f c) default)
 (hA:As W f.p (zam f a) (fun n=>zbd b (zdx W n)) far q fun _ _=>True) (hcb:R.getD (zam f c) default+zbd b c≤R.getD (zam f b) default) (hq:∀x∈q,R.getD (zam f b) default<x.all) (hfc:far.getD (zam f c) default=R.getD (zam f c) default) {n:Cel} (hn:n∈zag c) :
 ((zct f n).2=true∧0≤far.getD (zam f n) default∧far.getD (zam f n) default+kV (zai f c)=far.getD (zam f c) default)↔(inF f n=true∧zvs R f c n=true):=by
 have hcons:=zow hw hh hW b
 rw[←hL]at hcons
 have haL:=(zbf hw hh hW hf ha).2
 obtain⟨ec,hcL⟩:=zbf hw hh hW hf hc
 have hkv:=zzh (zai f c)
 have epl:∀n,zai f n=f.p.getD (zam f n) default:=fun _=>rfl
 unfold zvs zct
 rw[Bool.and_eq_true,decide_eq_true_eq,decide_eq_true_eq,hfc]
 constructor
 ·rintro⟨h1,h2,h3⟩
  have hin:inF f n=true:=by
   cases hi:inF f n with
   | true=>rfl
   | false=>rw[hi]at h1;simp at h1
  have:=hA.same hcons haL hR (zbf hw hh hW hf hin).2 h2
  rw[this]at h2 h3
  exact⟨hin,h2,h3⟩
 ·rintro⟨hin,h2,h3⟩
  obtain⟨en,hnL⟩:=zbf hw hh hW hf hin
  have hadj:Adj W (zam f c) (zam f n):=by rw[ec]at hn;exact zk5 hw hh hW (by omega) hn hin
  have hle:=hcons _ _ hnL hcL hadj.symm
  simp only at hle
  rw[←en,←ec]at hle
  have hk:=hA.known hcons haL hR hnL h2 (fun x hx=>by have:=hq x hx;rw[←en];omega)
  rw[hk]
  refine⟨?_,h2,h3⟩
  rw[if_pos hin,if_neg]
  rw[epl]
  rcases hR.why _ hnL h2 with ⟨w1,_⟩|⟨_,_,_,hr,_⟩
  ·rw[List.mem_singleton]at w1;rw[w1];exact hpa
  ·exact hr
theorem zyy {f:Fld} {R:List Int} {c:Cel} {p:Cel→Bool} (hp:∀n∈zag c,p n=(inF f n&&zvs R f c n)):(zag c).find? p=(zef f c).find? (zvs R f c):=by
 unfold zef
 rw[List.find?_filter]
 have key:∀l:List Cel,(∀n∈l,p n=(inF f n&&zvs R f c n))→l.find? p=l.find? (fun n=>inF f n&&zvs R f c n):=by
  intro l
  induction l with
  | nil=>intro _;rfl
  | cons x r ih=>intro h;rw[List.find?_cons,List.find?_cons,h x (by simp),ih fun n hn=>h n (by simp[hn])]
 have:=key _ hp
 simpa using this
end Go.Proofs.YtmjbgbmegbkmhaaGreat
namespace Go.Proofs.YtmjbgbmegbkmhaaGreat
set_option linter.all false
open Go.RowKit
set_option maxRecDepth 100000
set_option maxHeartbeats 2000000
def ycr (f:Fld) (c:Cel):Nat:=if inF f c=true then zam f c else 0
theorem zjg {f:Fld} {c:Cel} (h:inF f c=true):ycr f c=zam f c:=if_pos h
theorem z2k {f:Fld} (hf:zbv f=0) (c:Cel):ycr f c<f.p.length:=by
 have hfo:=zbi hf
 unfold ycr
 split
 ·rename_i h
  have:=zbm hf h
  unfold zam;omega
 ·have h1:0<f.w*f.h:=Int.mul_pos (by omega) (by omega)
  omega
theorem zlg (f:Fld) (b:Cel) (far:List Int) (q:List Nod) (c:Cel) (hf:zbv f=0) (hc:(zct f c).2=true):Spec Tryz.prog 163 [.fel 7 [yjr f b far q] 0 0,zhv c] [] (I .i64 (ycr f c)) []:=by
 have hin:inF f c=true:=by
  cases hi:inF f c with
  | true=>rfl
  | false=>unfold zct at hc;rw[hi]at hc;simp at hc
 rw[zjg hin];exact zei f b far q c hf hin
theorem zk4 (c:Cel) (k:Nat) (hk:k<4):List.take 2 (List.drop (k*2) ([I .i64 c.x,I .i64 (c.y-1),I .i64 (c.x-1),I .i64 c.y,I .i64 (c.x+1),I .i64 c.y,I .i64 c.x,I .i64 (c.y+1)]:List AV)) = [I .i64 ((zag c).getD k default).x,I .i64 ((zag c).getD k default).y]:=by
 have:k=0∨k=1∨k=2∨k=3:=by omega
 rcases this with rfl|rfl|rfl|rfl<;>rfl
theorem z0g {f:Fld} {c:Cel} (hf:zbv f=0) (hc:inF f c=true) (k:Nat) (hk:k<4):(-1000≤((zag c).getD k default).x∧((zag c).getD k default).x≤1000) ∧ -1000≤((zag c).getD k default).y∧((zag c).getD k default).y≤1000:=by
 have h1:=inF_iff.1 hc
 have h2:=zbi hf
 have:k=0∨k=1∨k=2∨k=3:=by omega
 rcases this with rfl|rfl|rfl|rfl<;>simp only[zag,List.getD_cons_zero,List.getD_cons_succ]<;>omega
theorem yaz {f:Fld} {b:Cel} {fr:List Int} {m:List Nod} (h:0<m.length∧(fr.getD (zam f b) default<0∨(m.getD 0 default).all≤fr.getD (zam f b) default)) (M:Nat):zla f b (M+1) fr m=if 0≤fr.getD (zam f (m.getD 0 default).c) default then zla f b M fr (zfy Nod.all m)
 else zla f b M (fr.set (zam f (m.getD 0 default).c) (m.getD 0 default).far) (zew f b (fr.set (zam f (m.getD 0 default).c) (m.getD 0 default).far) (m.getD 0 default).far (zfy Nod.all m) (zag (m.getD 0 default).c)):=by
 rw[zla,if_pos h]
theorem yay {f:Fld} {b:Cel} {fr:List Int} {m:List Nod} (h:¬(0<m.length∧(fr.getD (zam f b) default<0∨(m.getD 0 default).all≤fr.getD (zam f b) default))) (M:Nat):zla f b M fr m=(fr,m):=by
 cases M with
 | zero=>rfl
 | succ M=>rw[zla,if_neg h]
theorem z8z (f:Fld) (b:Cel) {W H:Nat} (hw:f.w=(W:Int)) (hh:f.h=(H:Int)) (hW:0<W) (hf:zbv f=0) (hL:f.p.length=W*H) (hb:inF f b=true) (a N:Nat) (far:List Int) (q:List Nod) (hA:As W f.p a (fun n=>zbd b (zdx W n)) far q (fun _ _=>True)) (hm:muS f far q≤N) (hN:N≤100000):Spec Tryz.prog 180 [.ptr 0 0 0] [.blk 300 [I .i64 f.w,I .i64 f.h,.c (.sl 1 (f.p.map zac)),I .i64 b.x,I .i64 b.y,.own 1,.own 2],.row 3 1 (far.map zac),.row 327 4 (q.map zbu)] (.tup []) [.blk 300 [I .i64 f.w,I .i64 f.h,.c (.sl 1 (f.p.map zac)),I .i64 b.x,I .i64 b.y,.own 1,.own 3],.row 3 1 ((zla f b N far q).1.map zac),.dead,.row 327 4 ((zla f b N far q).2.map zbu)]:=by
 have hbW:zam f b<f.p.length:=(zbf hw hh hW hf hb).2
 have hbi:=inF_iff.1 hb
 have hfo:=zbi hf
 have hpl:=(zbm hf hb).2.2.2.2
 refine spB Tryz.func180 108 [] Tryz.results180 ?_
 (iterate 2((try simp(etaStruct := .none)only[push_cast,seval]);(try(refine xsu ?_;try exact xtI))))
 refine zcd (zei f b far q b hf hb) (WkL.refl _) rfl ?_
 (iterate 2((try simp(etaStruct := .none)only[push_cast,seval]);(try(refine xsu ?_;try exact xtI))))
 refine zax (fun x:Nat × List Int × List Nod=>⟨[(2,I .i64 (zam f b)),(0,.ptr 0 0 0)],[(0,.blk 300 [I .i64 f.w,I .i64 f.h,.c (.sl 1 (f.p.map zac)),I .i64 b.x,I .i64 b.y,.own 1,.own 3]),(1,.row 3 1 (x.2.1.map zac)),(2,.dead),(3,.row 327 4 (x.2.2.map zbu))],4⟩) (fun x:Nat × List Int × List Nod=>As W f.p a (fun n=>zbd b (zdx W n)) x.2.1 x.2.2 (fun _ _=>True)∧muS f x.2.1 x.2.2≤x.1∧x.1≤N∧zla f b x.1 x.2.1 x.2.2=zla f b N far q) (fun x:Nat × List Int × List Nod=>x.1) ((N,far,q)) (⟨hA,hm,Nat.le_refl _,rfl⟩) ((To.moveC 0 6 2 327 4 300 _ (q.map zbu) rfl rfl rfl).trans (To.mk [0,1,2,3] rfl rfl (by decide) ?_ ?_)) ?_
 ·simp(etaStruct := .none)only[push_cast,zab,seval,List.set_cons_zero,List.set_cons_succ]
 ·simp(etaStruct := .none)only[push_cast,zab,seval]
 rintro⟨M,fr,m⟩ ⟨hA,hm,hMN,hu⟩
 simp only at hA hm hMN hu
 have hbF:zam f b<fr.length:=by rw[hA.len];exact hbW
 rcases Nat.eq_zero_or_pos m.length with hz|hz
 ·obtain rfl:=List.length_eq_zero_iff.1 hz
  have e:zla f b M fr []=(fr,[]):=by
   cases M with
   | zero=>rfl
   | succ M=>rw[zla,if_neg (fun h=>by simp at h)]
  simp only[awp,yh0]
  refine zaz _ rfl ?_
  intro O l R hl hd hR
  subst hl
  iterate 4(refine zar fun r hr => ?_;simp(etaStruct := .none)only[push_cast,zab,seval,hd];subst hr)
  refine zar fun r hr => ?_
  simp(etaStruct := .none)only[push_cast,zab,seval,hd]
  refine zcd (zqx []) (WkL.refl _) rfl ?_
  simp(etaStruct := .none)only[push_cast,zab,seval,hd,List.length_nil,Int.ofNat_zero,Int.lt_irrefl]
  subst hr
  iterate 28(refine zar fun r hr => ?_;simp(etaStruct := .none)only[push_cast,zab,seval,hd,zaa _ _ _ hbF,zac,List.length_nil,Int.ofNat_zero,Int.lt_irrefl,id];(try refine⟨fun h=>absurd h (by decide),?_⟩);(try refine⟨fun h=>h.elim,?_⟩);subst hr)
  refine zht ?_
  subst hR
  refine zhs (by kernel_rfl) ?_
  simp(etaStruct := .none) (maxSteps:=1000000)only[push_cast,zab,seval]
  refine zay (fun h1 => ?_) (fun h1 => ?_)
  ·exact absurd h1 (by decide)
  ·rw[←hu,e]
   try refine xst ?_
   refine zby [0,1,2,3] rfl rfl (by decide) ⟨?_,?_,?_,?_,trivial⟩ trivial ?_<;>simp(etaStruct := .none)only[push_cast,zab,seval]
 have hzd:(0<(m.length:Int))=True:=eq_true (by omega)
 have hmu5:m.length≤100000:=by unfold muS at hm;omega
 (iterate 2((try simp(etaStruct := .none)only[push_cast,seval,hzd,zaa _ _ _ hbF,zaa _ _ _ hz,zac,zbu]);(try(refine xsu ?_;try exact xtI))))
 refine zaz [some 14,some 15,some 16,some 17,some 18,some 19,some 20,some 21,some 22,some 23,some 24,some 25,some 26,some 27,some 28,some 29,some 30,some 31,some 32,some 33,some 34,some 35,some 36,some 37,some 38,some 39,some 40,some 41,some 42,some 43,some 44,some 45,some 46] rfl ?_
 intro Oq lq Rq hlq hdq hRq
 subst hlq
 iterate 4(refine zar fun rq hrq => ?_;(iterate 2((try simp(etaStruct := .none)only[push_cast,seval,hdq,id,hzd,zaa _ _ _ hbF,zaa _ _ _ hz,zac,zbu]);(try(refine xsu ?_;try exact xtI))));subst hrq)
 refine zar fun rq hrq => ?_
 (iterate 2((try simp(etaStruct := .none)only[push_cast,seval,hdq,id,hzd,zaa _ _ _ hbF,zaa _ _ _ hz,zac,zbu]);(try(refine xsu ?_;try exact xtI))))
 refine zcd (zqx m) (WkL.refl _) rfl ?_
 (iterate 2((try simp(etaStruct := .none)only[push_cast,seval,hdq,id,hzd,zaa _ _ _ hbF,zaa _ _ _ hz,zac,zbu]);(try(refine xsu ?_;try exact xtI))))
 subst hrq
 iterate 28(refine zar fun rq hrq => ?_;(iterate 2((try simp(etaStruct := .none)only[push_cast,seval,hdq,id,hzd,zaa _ _ _ hbF,zaa _ _ _ hz,zac,zbu]);(try(refine xsu ?_;try exact xtI))));subst hrq)
 refine zht ?_
 subst hRq
 clear hdq Oq
 refine zhs (by kernel_rfl) ?_
 (iterate 2((try simp(etaStruct := .none)only[push_cast,seval,hzd,zaa _ _ _ hbF,zaa _ _ _ hz,zac,zbu]);(try(refine xsu ?_;try exact xtI))))
 refine cI (fun h1 => ?_) fun h1 => ?_
 ·have hg:goB f b fr m:=⟨hz,h1⟩
  obtain⟨p,e1,hp,j0,jb,_⟩:=hA.itm _ ((zfp Nod.all m hz _).2 (.inl rfl))
  obtain⟨hin,hidx⟩:=zt7 (f:=f) hw hh hW (p:=p) (by omega)
  rw[←e1]at hin hidx
  have hpF:zam f (m.getD 0 default).c<fr.length:=by rw[hidx,hA.len];exact hp
  have hci:=inF_iff.1 hin
  have hcl:=zhf ze0 1 zhj fr
  rw[hA.len]at hcl
  obtain⟨M',rfl⟩:∃M',M=M'+1:=⟨M-1,by unfold muS at hm;omega⟩
  have hrun:=yaz hg M'
  (iterate 2((try simp(etaStruct := .none)only[push_cast,seval,hzd,zaa _ _ _ hbF,zaa _ _ _ hz,zac,zbu,zaa _ _ _ hpF]);(try(refine xsu ?_;try exact xtI))))
  refine caM [0,1,3] (ybv f b fr m hz (by omega)) ?_
  (iterate 2((try simp(etaStruct := .none)only[push_cast,seval,hzd,zaa _ _ _ hbF,zaa _ _ _ hz,zac,zbu,zaa _ _ _ hpF]);(try(refine xsu ?_;try exact xtI))))
  refine zaz [some 53,some 54,some 55,some 56,some 57,some 58,some 59,some 60,some 61,some 62,some 63] rfl ?_
  intro Oq lq Rq hlq hdq hRq
  subst hlq
  iterate 7(refine zar fun rq hrq => ?_;(iterate 2((try simp(etaStruct := .none)only[push_cast,seval,hdq,id,hzd,zaa _ _ _ hbF,zaa _ _ _ hz,zac,zbu,zaa _ _ _ hpF]);(try(refine xsu ?_;try exact xtI))));subst hrq)
  refine zar fun rq hrq => ?_
  (iterate 2((try simp(etaStruct := .none)only[push_cast,seval,hdq,id,hzd,zaa _ _ _ hbF,zaa _ _ _ hz,zac,zbu,zaa _ _ _ hpF]);(try(refine xsu ?_;try exact xtI))))
  refine zcd (zei f b fr (zfy Nod.all m) (m.getD 0 default).c hf hin) (WkL.refl _) rfl ?_
  (iterate 2((try simp(etaStruct := .none)only[push_cast,seval,hdq,id,hzd,zaa _ _ _ hbF,zaa _ _ _ hz,zac,zbu,zaa _ _ _ hpF]);(try(refine xsu ?_;try exact xtI))))
  subst hrq
  iterate 3(refine zar fun rq hrq => ?_;(iterate 2((try simp(etaStruct := .none)only[push_cast,seval,hdq,id,hzd,zaa _ _ _ hbF,zaa _ _ _ hz,zac,zbu,zaa _ _ _ hpF]);(try(refine xsu ?_;try exact xtI))));subst hrq)
  refine zht ?_
  subst hRq
  clear hdq Oq
  refine zhs (by kernel_rfl) ?_
  (iterate 2((try simp(etaStruct := .none)only[push_cast,seval,hzd,zaa _ _ _ hbF,zaa _ _ _ hz,zac,zbu,zaa _ _ _ hpF]);(try(refine xsu ?_;try exact xtI))))
  refine cI (fun h2 => ?_) fun h2 => ?_
  ·skip
   (iterate 2((try simp(etaStruct := .none)only[push_cast,seval,hzd,zaa _ _ _ hbF,zaa _ _ _ hz,zac,zbu,zaa _ _ _ hpF]);(try(refine xsu ?_;try exact xtI))))
   refine⟨(M',fr,zfy Nod.all m),⟨hA.skip hz e1 (by rw[←hidx];exact h2),by simp only;unfold muS at hm ⊢;rw[zgr];omega,by simp only;omega,by rw[←hu,hrun,if_pos h2]⟩,by simp only;omega,To.mk [0,1,2,136] rfl rfl (by decide) ?_ ?_⟩
   ·(iterate 2((try simp(etaStruct := .none)only[push_cast,seval,hzd,zaa _ _ _ hbF,zaa _ _ _ hz,zac,zbu,zaa _ _ _ hpF]);(try(refine xsu ?_;try exact xtI))))
   ·(iterate 2((try simp(etaStruct := .none)only[push_cast,seval,hzd,zaa _ _ _ hbF,zaa _ _ _ hz,zac,zbu,zaa _ _ _ hpF]);(try(refine xsu ?_;try exact xtI))))
  ·obtain⟨p',e1',_,_,_,hA2,hself,cnt,top,hb3⟩:=zw8 hw hh hW hf hL b hA hz (by omega)
   obtain rfl:p=p':=zd4 (e1.symm.trans e1')
   obtain⟨C,hC⟩:∃C,C=(m.getD 0 default).c:=⟨_,rfl⟩
   obtain⟨D,hD⟩:∃D,D=(m.getD 0 default).far:=⟨_,rfl⟩
   rw[←hidx,←hC,←hD]at hA2 hself cnt top hb3
   rw[←hC,←hD]at hrun
   rw[←hC]at hin hci e1 hidx hpF
   rw[←hD]at j0 jb
   obtain⟨Fq,hFS⟩:∃Fq,Fq=fr.set (zam f C) D:=⟨_,rfl⟩
   rw[←hFS]at hA2 hself cnt top hb3 hrun
   have hFl:Fq.length=f.p.length:=by rw[hFS,List.length_set];exact hA.len
   (iterate 2((try simp(etaStruct := .none)only[push_cast,seval,hzd,zaa _ _ _ hbF,zaa _ _ _ hz,zac,zbu,zaa _ _ _ hpF,←hC,←hD]);(try(refine xsu ?_;try exact xtI))))
   refine zaz [some 64,some 65,some 66,some 67,some 68,some 69,some 70,some 71,some 72,some 73,some 74,none] rfl ?_
   intro Oq lq Rq hlq hdq hRq
   subst hlq
   iterate 7(refine zar fun rq hrq => ?_;(iterate 2((try simp(etaStruct := .none)only[push_cast,seval,hdq,id,hzd,zaa _ _ _ hbF,zaa _ _ _ hz,zac,zbu,zaa _ _ _ hpF,←hC,←hD]);(try(refine xsu ?_;try exact xtI))));subst hrq)
   refine zar fun rq hrq => ?_
   (iterate 2((try simp(etaStruct := .none)only[push_cast,seval,hdq,id,hzd,zaa _ _ _ hbF,zaa _ _ _ hz,zac,zbu,zaa _ _ _ hpF,←hC,←hD]);(try(refine xsu ?_;try exact xtI))))
   refine zcd (zei f b fr (zfy Nod.all m) C hf hin) (WkL.refl _) rfl ?_
   (iterate 2((try simp(etaStruct := .none)only[push_cast,seval,hdq,id,hzd,zaa _ _ _ hbF,zaa _ _ _ hz,zac,zbu,zaa _ _ _ hpF,←hC,←hD]);(try(refine xsu ?_;try exact xtI))))
   subst hrq
   iterate 4(refine zar fun rq hrq => ?_;(iterate 2((try simp(etaStruct := .none)only[push_cast,seval,hdq,id,hzd,zaa _ _ _ hbF,zaa _ _ _ hz,zac,zbu,zaa _ _ _ hpF,←hC,←hD]);(try(refine xsu ?_;try exact xtI))));subst hrq)
   refine zht ?_
   subst hRq
   clear hdq Oq
   refine zhs (by kernel_rfl) ?_
   (iterate 2((try simp(etaStruct := .none)only[push_cast,seval,hzd,zaa _ _ _ hbF,zaa _ _ _ hz,zac,zbu,zaa _ _ _ hpF,←hC,←hD]);(try(refine xsu ?_;try exact xtI))))
   refine caP (zvg C (by omega) (by omega)) ?_
   (iterate 2((try simp(etaStruct := .none)only[push_cast,seval,hzd,zaa _ _ _ hbF,zaa _ _ _ hz,zac,zbu,zaa _ _ _ hpF,←hC,←hD]);(try(refine xsu ?_;try exact xtI))))
   refine zax (fun k:Nat=>⟨[(78,I .i64 k),(77,.agg [I .i64 C.x,I .i64 (C.y-1),I .i64 (C.x-1),I .i64 C.y,I .i64 (C.x+1),I .i64 C.y,I .i64 C.x,I .i64 (C.y+1)]),(3,.ptr 4 0 0),(2,I .i64 (zam f b)),(0,.ptr 0 0 0)],[(0,.blk 300 [I .i64 f.w,I .i64 f.h,.c (.sl 1 (f.p.map zac)),I .i64 b.x,I .i64 b.y,.own 1,.own 3]),(1,.row 3 1 (Fq.map zac)),(2,.dead),(3,.row 327 4 ((zew f b Fq D (zfy Nod.all m) ((zag C).take k)).map zbu)),(4,.blk 327 [I .i64 C.x,I .i64 C.y,I .i64 D,I .i64 (m.getD 0 default).all])],5⟩) (fun k:Nat=>k≤4) (fun k:Nat=>4-k) (0) (Nat.zero_le _) (To.mk [0,1,2,136,137] rfl rfl (by decide) ?_ ?_) ?_
   ·simp(etaStruct := .none)only[push_cast,zab,seval,List.map_set,zac,List.take_zero,zew,List.foldl_nil,hFS]
   ·simp(etaStruct := .none)only[push_cast,zab,seval,Int.ofNat_zero]
   rintro k hk2
   (iterate 2((try simp(etaStruct := .none)only[push_cast,seval,hzd,zaa _ _ _ hbF,zaa _ _ _ hz,zac,zbu,zaa _ _ _ hpF,←hC,←hD]);(try(refine xsu ?_;try exact xtI))))
   refine cI (fun h3 => ?_) fun h3 => ?_
   ·have hlt:k<4:=by omega
    have hsc:=zk4 C k hlt
    have hsn:=z0g hf hin k hlt
    have hst:zew f b Fq D (zfy Nod.all m) ((zag C).take (k+1))=lk f b Fq D (zew f b Fq D (zfy Nod.all m) ((zag C).take k)) ((zag C).getD k default):=by rw[zao _ _ (show k<(zag C).length from hlt),znc]
    have hgG:ycr f ((zag C).getD k default)<Fq.length:=by rw[hFl];exact z2k hf _
    have hcb:0≤(zct f ((zag C).getD k default)).1∧(zct f ((zag C).getD k default)).1≤3:=by
     have:=zzh (zai f ((zag C).getD k default))
     unfold zct
     split
     ·split<;>simp only<;>omega
     ·simp only;omega
    have hql:((zew f b Fq D (zfy Nod.all m) ((zag C).take k))).length≤100004:=by
     have h1:=zlu f b Fq D ((zag C).take k) (zfy Nod.all m)
     rw[zgr,List.length_take]at h1
     omega
    (iterate 2((try simp(etaStruct := .none)only[push_cast,seval,hzd,zaa _ _ _ hbF,zaa _ _ _ hz,zac,zbu,zaa _ _ _ hpF,←hC,←hD,hsc,zaa _ _ _ hgG,zac]);(try(refine xsu ?_;try exact xtI))))
    refine zcd (zta f b Fq (zew f b Fq D (zfy Nod.all m) ((zag C).take k)) ((zag C).getD k default) hf) (WkL.refl _) rfl ?_
    (iterate 2((try simp(etaStruct := .none)only[push_cast,seval,hzd,zaa _ _ _ hbF,zaa _ _ _ hz,zac,zbu,zaa _ _ _ hpF,←hC,←hD,hsc,zaa _ _ _ hgG,zac]);(try(refine xsu ?_;try exact xtI))))
    refine zaz [some 87,some 88,some 89,some 90,some 91,some 92,some 93,some 94,some 95,some 96,some 97,some 98,some 99] rfl ?_
    intro Oq lq Rq hlq hdq hRq
    subst hlq
    iterate 8(refine zar fun rq hrq => ?_;(iterate 2((try simp(etaStruct := .none)only[push_cast,seval,hdq,id,hzd,zaa _ _ _ hbF,zaa _ _ _ hz,zac,zbu,zaa _ _ _ hpF,←hC,←hD,hsc,zaa _ _ _ hgG,zac]);(try(refine xsu ?_;try exact xtI))));subst hrq)
    refine zar fun rq hrq => ?_
    (iterate 2((try simp(etaStruct := .none)only[push_cast,seval,hdq,id,hzd,zaa _ _ _ hbF,zaa _ _ _ hz,zac,zbu,zaa _ _ _ hpF,←hC,←hD,hsc,zaa _ _ _ hgG,zac]);(try(refine xsu ?_;try exact xtI))))
    refine zjz (fun hcc=>zlg f b Fq (zew f b Fq D (zfy Nod.all m) ((zag C).take k)) ((zag C).getD k default) hf hcc) (WkL.refl _) rfl (by intro hc;(try simp(etaStruct := .none)only[push_cast,zab,seval]);(try simp_all)) ?_
    (iterate 2((try simp(etaStruct := .none)only[push_cast,seval,hdq,id,hzd,zaa _ _ _ hbF,zaa _ _ _ hz,zac,zbu,zaa _ _ _ hpF,←hC,←hD,hsc,zaa _ _ _ hgG,zac]);(try(refine xsu ?_;try exact xtI))))
    subst hrq
    iterate 4(refine zar fun rq hrq => ?_;(iterate 2((try simp(etaStruct := .none)only[push_cast,seval,hdq,id,hzd,zaa _ _ _ hbF,zaa _ _ _ hz,zac,zbu,zaa _ _ _ hpF,←hC,←hD,hsc,zaa _ _ _ hgG,zac]);(try(refine xsu ?_;try exact xtI))));subst hrq)
    refine zht ?_
    subst hRq
    clear hdq Oq
    refine zhs (by kernel_rfl) ?_
    (iterate 2((try simp(etaStruct := .none)only[push_cast,seval,hzd,zaa _ _ _ hbF,zaa _ _ _ hz,zac,zbu,zaa _ _ _ hpF,←hC,←hD,hsc,zaa _ _ _ hgG,zac]);(try(refine xsu ?_;try exact xtI))))
    refine cI (fun h4 => ?_) fun h4 => ?_
    ·have hin2:inF f ((zag C).getD k default)=true:=by
      cases hi:inF f ((zag C).getD k default)with
      | true=>rfl
      | false=>have:=h4.1;unfold zct at this;rw[hi]at this;simp at this
     have hlk:lk f b Fq D (zew f b Fq D (zfy Nod.all m) ((zag C).take k)) ((zag C).getD k default)=zdr Nod.all (zew f b Fq D (zfy Nod.all m) ((zag C).take k)) ⟨((zag C).getD k default),D+(zct f ((zag C).getD k default)).1,D+(zct f ((zag C).getD k default)).1+zbd b ((zag C).getD k default)⟩:=by unfold lk;rw[if_pos ⟨h4.1,by rw[←zjg hin2];exact h4.2⟩]
     rw[hlk]at hst
     (iterate 2((try simp(etaStruct := .none)only[push_cast,seval,hzd,zaa _ _ _ hbF,zaa _ _ _ hz,zac,zbu,zaa _ _ _ hpF,←hC,←hD,hsc,zaa _ _ _ hgG,zac,hst]);(try(refine xsu ?_;try exact xtI))))
     refine caM [0,1,3] (ya9 f b Fq (zew f b Fq D (zfy Nod.all m) ((zag C).take k)) ((zag C).getD k default) (D+(zct f ((zag C).getD k default)).1) (by omega) hsn.1 hsn.2 (by omega) (by omega) (by omega)) ?_
     (iterate 2((try simp(etaStruct := .none)only[push_cast,seval,hzd,zaa _ _ _ hbF,zaa _ _ _ hz,zac,zbu,zaa _ _ _ hpF,←hC,←hD,hsc,zaa _ _ _ hgG,zac,hst]);(try(refine xsu ?_;try exact xtI))))
     refine⟨k+1,by omega,by omega,To.mk [0,1,2,58,4] rfl rfl (by decide) ?_ ?_⟩
     ·(iterate 2((try simp(etaStruct := .none)only[push_cast,seval,hzd,zaa _ _ _ hbF,zaa _ _ _ hz,zac,zbu,zaa _ _ _ hpF,←hC,←hD,hsc,zaa _ _ _ hgG,zac,hst]);(try(refine xsu ?_;try exact xtI))))
     ·(iterate 2((try simp(etaStruct := .none)only[push_cast,seval,hzd,zaa _ _ _ hbF,zaa _ _ _ hz,zac,zbu,zaa _ _ _ hpF,←hC,←hD,hsc,zaa _ _ _ hgG,zac,hst]);(try(refine xsu ?_;try exact xtI))))
    ·have hlk:lk f b Fq D (zew f b Fq D (zfy Nod.all m) ((zag C).take k)) ((zag C).getD k default)=(zew f b Fq D (zfy Nod.all m) ((zag C).take k)):=by
      unfold lk
      rw[if_neg]
      rintro⟨c1,c2⟩
      have hin2:inF f ((zag C).getD k default)=true:=by
       cases hi:inF f ((zag C).getD k default)with
       | true=>rfl
       | false=>unfold zct at c1;rw[hi]at c1;simp at c1
      rw[←zjg hin2]at c2
      rcases h4 with h4|h4
      ·rw[c1]at h4;exact absurd h4 (by decide)
      ·omega
     rw[hlk]at hst
     (iterate 2((try simp(etaStruct := .none)only[push_cast,seval,hzd,zaa _ _ _ hbF,zaa _ _ _ hz,zac,zbu,zaa _ _ _ hpF,←hC,←hD,hsc,zaa _ _ _ hgG,zac,hst]);(try(refine xsu ?_;try exact xtI))))
     refine⟨k+1,by omega,by omega,To.mk [0,1,2,3,4] rfl rfl (by decide) ?_ ?_⟩
     ·(iterate 2((try simp(etaStruct := .none)only[push_cast,seval,hzd,zaa _ _ _ hbF,zaa _ _ _ hz,zac,zbu,zaa _ _ _ hpF,←hC,←hD,hsc,zaa _ _ _ hgG,zac,hst]);(try(refine xsu ?_;try exact xtI))))
     ·(iterate 2((try simp(etaStruct := .none)only[push_cast,seval,hzd,zaa _ _ _ hbF,zaa _ _ _ hz,zac,zbu,zaa _ _ _ hpF,←hC,←hD,hsc,zaa _ _ _ hgG,zac,hst]);(try(refine xsu ?_;try exact xtI))))
   ·obtain rfl:k=4:=by omega
    have ht4:(zag C).take 4=zag C:=rfl
    have hpc:zam f C<f.p.length:=by omega
    have h4:=z83 hw hh hW hf hL b hA2 hpc hself j0 top hb3 4 (Nat.le_refl _)
    rw[hidx,←e1,ht4,←hidx]at h4
    have h5:=zv5 hw hh hW hL hpc h4
    have hll:=zlu f b Fq D (zag C) (zfy Nod.all m)
    rw[zgr,show (zag C).length=4 from rfl]at hll
    have hcl2:=zhf ze0 1 zhj Fq
    rw[hFl]at hcl2
    (iterate 2((try simp(etaStruct := .none)only[push_cast,seval,hzd,zaa _ _ _ hbF,zaa _ _ _ hz,zac,zbu,zaa _ _ _ hpF,←hC,←hD,ht4]);(try(refine xsu ?_;try exact xtI))))
    refine⟨(M',Fq,zew f b Fq D (zfy Nod.all m) (zag C)),⟨h5,by simp only;unfold muS at hm ⊢;omega,by simp only;omega,by rw[←hu,hrun,if_neg (by rw[hC];omega)]⟩,by simp only;omega,To.mk [0,1,2,3] rfl rfl (by decide) ?_ ?_⟩
    ·(iterate 2((try simp(etaStruct := .none)only[push_cast,seval,hzd,zaa _ _ _ hbF,zaa _ _ _ hz,zac,zbu,zaa _ _ _ hpF,←hC,←hD,ht4]);(try(refine xsu ?_;try exact xtI))))
    ·(iterate 2((try simp(etaStruct := .none)only[push_cast,seval,hzd,zaa _ _ _ hbF,zaa _ _ _ hz,zac,zbu,zaa _ _ _ hpF,←hC,←hD,ht4]);(try(refine xsu ?_;try exact xtI))))
 ·rw[←hu,yay (fun h=>by have:=h.2;omega) M]
  (iterate 2((try simp(etaStruct := .none)only[push_cast,seval,hzd,zaa _ _ _ hbF,zaa _ _ _ hz,zac,zbu]);(try(refine xsu ?_;try exact xtI))))
  refine zby [0,1,2,3] rfl rfl (by decide) ⟨?_,?_,?_,?_,trivial⟩ trivial ?_<;>simp(etaStruct := .none)only[push_cast,zab,seval]
theorem z1f (f:Fld) (b:Cel) (far:List Int) (x:Nod):Spec Tryz.prog 219 [.ptr 0 0 6,.ifc 327 (yd8 x)] [.blk 300 [I .i64 f.w,I .i64 f.h,.c (.sl 1 (f.p.map zac)),I .i64 b.x,I .i64 b.y,.own 1,.c (.v (.slice none 0 0))],.row 3 1 (far.map zac)] (.tup []) [.blk 300 [I .i64 f.w,I .i64 f.h,.c (.sl 1 (f.p.map zac)),I .i64 b.x,I .i64 b.y,.own 1,.own 2],.row 3 1 (far.map zac),.row 327 4 ([x].map zbu)]:=by
 refine spB Tryz.func219 13 [] Tryz.results219 ?_
 try refine xst ?_
 (try(refine⟨by kernel_rfl,?_⟩))
 try refine xst ?_
 refine zby [0,1,30] rfl rfl (by decide) ⟨?_,?_,?_,trivial⟩ trivial ?_<;>simp(etaStruct := .none)only[push_cast,zab,seval,zbu]
theorem z1l (f:Fld) (b:Cel) (far:List Int) (x:Nod):Spec Tryz.prog 189 [.ifc 325 (.ptr 0 0 6),.ifc 327 (yd8 x)] [.blk 300 [I .i64 f.w,I .i64 f.h,.c (.sl 1 (f.p.map zac)),I .i64 b.x,I .i64 b.y,.own 1,.c (.v (.slice none 0 0))],.row 3 1 (far.map zac)] (.tup []) [.blk 300 [I .i64 f.w,I .i64 f.h,.c (.sl 1 (f.p.map zac)),I .i64 b.x,I .i64 b.y,.own 1,.own 2],.row 3 1 (far.map zac),.row 327 4 ((zdr Nod.all [] x).map zbu)]:=by
 refine spB Tryz.func189 12 [] Tryz.results189 ?_
 try refine xst ?_
 refine caM [0,1] (z1f f b far x) ?_
 try refine xst ?_
 refine zcd (zqx [x]) (WkL.refl _) rfl ?_
 try refine xst ?_
 refine caM [0,1,2] (yfm f b far [x] 0 (by simp) (by simp)) ?_
 try refine xst ?_
 refine zby [0,1,2] rfl rfl (by decide) ⟨?_,?_,?_,trivial⟩ trivial ?_<;>simp(etaStruct := .none)only[push_cast,zab,seval,zdr]
abbrev srB (f:Fld) (b:Cel) (x y:AV):Chunk := .blk 300 [I .i64 f.w,I .i64 f.h,.c (.sl 1 (f.p.map zac)),I .i64 b.x,I .i64 b.y,x,y]
theorem zvh (f:Fld) (b:Cel) (far:List Int) (c:Cel) (d:Int) (hx : -1000≤c.x∧c.x≤1000) (hy : -1000≤c.y∧c.y≤1000) (hbx:0≤b.x∧b.x≤40) (hby:0≤b.y∧b.y≤40) (hd:0≤d∧d≤1000000):Spec Tryz.prog 179 [.ptr 0 0 0,zhv c,I .i64 d] [.blk 300 [I .i64 f.w,I .i64 f.h,.c (.sl 1 (f.p.map zac)),I .i64 b.x,I .i64 b.y,.own 1,.c (.v (.slice none 0 0))],.row 3 1 (far.map zac)] (.tup []) [.blk 300 [I .i64 f.w,I .i64 f.h,.c (.sl 1 (f.p.map zac)),I .i64 b.x,I .i64 b.y,.own 1,.own 2],.row 3 1 (far.map zac),.row 327 4 ((zdr Nod.all [] ⟨c,d,d+zbd b c⟩).map zbu)]:=by
 have e1:IntKind.i64.wrap (d+IntKind.i64.wrap (2*(((b.x-c.x).natAbs+(b.y-c.y).natAbs:Nat):Int)))=d+zbd b c:=by unfold zbd;rw[zak (2*_) (by omega) (by omega),zak _ (by omega) (by omega)]
 refine spB Tryz.func179 32 [] Tryz.results179 ?_
 try refine xz1 e1 ?_
 refine caP (zoo c b (by simp[zeg];omega) (by simp[zeg];omega)) ?_
 try refine xz1 e1 ?_
 (try(refine⟨by kernel_rfl,?_⟩))
 try refine xz1 e1 ?_
 refine zfv [0,1] (z1l f b far ⟨c,d,d+zbd b c⟩) (WkL.refl _) rfl (by decide) (by simp[zbn,zfh,zsb]) ?_
 try refine xz1 e1 ?_
 (try(refine⟨by kernel_rfl,?_⟩))
 try refine xz1 e1 ?_
 refine zby [0,1,103] rfl rfl (by decide) ⟨?_,?_,?_,trivial⟩ trivial ?_<;>simp(etaStruct := .none)only[push_cast,zab,seval]
theorem znq {f:Fld} {c:Cel} (hf:zbv f=0):atV f c=if inF f c then (zai f c,0)else (0,7):=by unfold atV;rw[if_neg (by simp[hf])]
theorem zsv (f:Fld) (a b:Cel) (hl:f.p.length≤9223372036854775807) (hE:zbv f≠0∨¬(inF f a=true∧inF f b=true)∨zai f a=1∨zai f b=1) (R:List Int):Spec Tryz.prog 160 [z29 f,zhv a,zhv b] [] (.tup [.c (.v (.pointer none)),I .i64 (zmi R f a b)]) []:=by
 have key:(atV f a).2≠0∧zmi R f a b=(atV f a).2∨(atV f a).2=0∧(atV f b).2≠0∧zmi R f a b=(atV f b).2∨(atV f a).2=0∧(atV f b).2=0∧zmi R f a b=9∧((atV f a).1=1∨(atV f b).1=1):=by
  by_cases hf:zbv f=0
  ·rw[znq hf,znq hf]
   unfold zmi
   cases ha:inF f a with
   | false=>exact .inl ⟨by simp[ha],by simp[ha,hf]⟩
   | true =>
    cases hb:inF f b with
    | false=>exact .inr (.inl ⟨by simp[ha],by simp[hb],by simp[hb,hf]⟩)
    | true =>
     rcases hE with h|h|h
     ·exact absurd hf h
     ·exact absurd ⟨ha,hb⟩ h
     ·exact .inr (.inr ⟨by simp[ha],by simp[hb],by simp[ha,hb,hf,h],by simpa[ha,hb]using h⟩)
  ·have e:∀c,atV f c=(0,zbv f):=fun c=>by unfold atV;rw[if_pos hf]
   rw[e]
   unfold zmi
   rw[if_pos hf]
   exact .inl ⟨hf,rfl⟩
 refine spB Tryz.func160 61 [.tmp 6,.tmp 7] Tryz.results160 ?_
 try refine xst ?_
 refine caP (zzj f a hl) ?_
 try refine xst ?_
 refine cI (fun h1 => ?_) fun h1 => ?_
 ·have e:zmi R f a b=(atV f a).2:=by
   rcases key with k|k|k
   ·exact k.2
   ·exact absurd k.1 h1
   ·exact absurd k.1 h1
  try refine xst ?_
  (first|(refine zau rfl (Wk.of ?_);(try simp(etaStruct := .none)only[push_cast,zab,seval]);first|done|(simp[e, *];done)|(simp_all[e];done))|(refine zau rfl ?_;(try simp(etaStruct := .none)only[push_cast,zab,seval]);(try simp[e, *]);(try exact wkc)))
 ·try refine xst ?_
  refine caP (zzj f b hl) ?_
  try refine xst ?_
  refine cI (fun h2 => ?_) fun h2 => ?_
  ·have e:zmi R f a b=(atV f b).2:=by
    rcases key with k|k|k
    ·exact absurd h1 k.1
    ·exact k.2.2
    ·exact absurd k.2.1 h2
   try refine xst ?_
   (first|(refine zau rfl (Wk.of ?_);(try simp(etaStruct := .none)only[push_cast,zab,seval]);first|done|(simp[e, *];done)|(simp_all[e];done))|(refine zau rfl ?_;(try simp(etaStruct := .none)only[push_cast,zab,seval]);(try simp[e, *]);(try exact wkc)))
  ·try refine xst ?_
   refine cI (fun h3 => ?_) fun h3 => ?_
   ·have e:zmi R f a b=9:=by
     rcases key with k|k|k
     ·exact absurd h1 k.1
     ·exact absurd h2 k.2.1
     ·exact k.2.2.1
    try refine xst ?_
    (first|(refine zau rfl (Wk.of ?_);(try simp(etaStruct := .none)only[push_cast,zab,seval]);first|done|(simp[e, *];done)|(simp_all[e];done))|(refine zau rfl ?_;(try simp(etaStruct := .none)only[push_cast,zab,seval]);(try simp[e, *]);(try exact wkc)))
   ·exfalso
    rcases key with k|k|k
    ·exact absurd h1 k.1
    ·exact absurd h2 k.2.1
    ·have:=k.2.2.2;omega
def zcq (f:Fld) (a b:Cel):List Int × List Nod:=zla f b 8001 (List.replicate f.p.length (-1)) (zdr Nod.all [] ⟨a,0,0+zbd b a⟩)
theorem yj6 (f:Fld) (x:Nod) (h:f.p.length≤1600):muS f (List.replicate f.p.length (-1)) (zdr Nod.all [] x)≤8001:=by
 unfold muS;rw[zl2];simp only[List.length_nil];omega
theorem As0 {f:Fld} {W H:Nat} (hw:f.w=(W:Int)) (hh:f.h=(H:Int)) (hW:0<W) (hf:zbv f=0) (b:Cel) {a:Cel} (ha:inF f a=true):As W f.p (zam f a) (fun n=>zbd b (zdx W n)) (List.replicate f.p.length (-1)) (zdr Nod.all [] ⟨a,0,0+zbd b a⟩) fun _ _=>True:=by
 obtain⟨e,hlt⟩:=zbf hw hh hW hf ha
 have:=As.start (W:=W) (pl:=f.p) (a:=zam f a) (hh:=fun n=>zbd b (zdx W n)) hlt
 rw[←e]at this
 exact this
theorem yc2 {f:Fld} (hf:zbv f=0):∃W H:Nat,f.w=(W:Int)∧f.h=(H:Int)∧0<W∧f.p.length=W*H:=by
 obtain⟨⟨w1,w2⟩,⟨w3,w4⟩,wl,wp⟩:=zbi hf
 obtain⟨W,hW⟩:∃W:Nat,f.w=(W:Int):=Int.eq_ofNat_of_zero_le (by omega)
 obtain⟨H,hH⟩:∃H:Nat,f.h=(H:Int):=Int.eq_ofNat_of_zero_le (by omega)
 exact⟨W,H,hW,hH,by omega,by rw[hW,hH]at wl;exact_mod_cast wl⟩
structure Srch (f : Fld) (a b : Cel) (R : List Int) (W H : Nat) : Prop where
 w:f.w=(W:Int)
 h:f.h=(H:Int)
 w0:0<W
 l:f.p.length=W*H
 r:Flood W f.p [zam f a] R
 ass:As W f.p (zam f a) (fun n=>zbd b (zdx W n)) (zcq f a b).1 (zcq f a b).2 fun _ _=>True
 no:¬goB f b (zcq f a b).1 (zcq f a b).2
theorem yhy {f:Fld} {a b:Cel} {R:List Int} (hf:zbv f=0) (ha:inF f a=true) (hpa:zai f a≠1) (hR:zas f [a] R):∃W H,Srch f a b R W H:=by
 obtain⟨W,H,hw,hh,hW,hL⟩:=yc2 hf
 have hA:=yfc hw hh hW hf hL b 8001 _ _ (As0 hw hh hW hf b ha) (yj6 f _ (zbm hf ha).2.2.2.2)
 have hlt:=(zbf hw hh hW hf ha).2
 obtain⟨F,hF⟩:=z7c (W:=W) (pl:=f.p) (s := [zam f a]) hW (zbm hf ha).2.2.2.2 (by intro p hp;rw[List.mem_singleton]at hp;rw[hp];exact hlt)
 have e:zrs f [a]=0:=by
  unfold zrs yhz yhz
  rw[if_neg (by simp[hf]),if_neg (by simp),if_pos ha,if_neg hpa]
 have:=hR.1 e F (by rw[hw,Int.toNat_natCast];exact hF)
 subst this
 exact⟨W,H,hw,hh,hW,hL,hF,hA.1,hA.2⟩
theorem Srch.end {f:Fld} {a b:Cel} {R:List Int} {W H:Nat} (s:Srch f a b R W H) (hf:zbv f=0) (ha:inF f a=true) (hb:inF f b=true):((zcq f a b).1.getD (zam f b) default<0↔R.getD (zam f b) default<0)∧(0≤R.getD (zam f b) default→(zcq f a b).1.getD (zam f b) default=R.getD (zam f b) default∧∀x∈(zcq f a b).2,R.getD (zam f b) default<x.all):=by
 have hcons:=zow s.w s.h s.w0 b
 rw[←s.l]at hcons
 have haL:=(zbf s.w s.h s.w0 hf ha).2
 have hbL:=(zbf s.w s.h s.w0 hf hb).2
 have h1:∀h:0≤(zcq f a b).1.getD (zam f b) default,(zcq f a b).1.getD (zam f b) default=R.getD (zam f b) default:=fun h=>s.ass.same hcons haL s.r hbL h
 have h2:(zcq f a b).1.getD (zam f b) default<0→R.getD (zam f b) default<0:=fun h=>by
  rcases Int.lt_or_le (R.getD (zam f b) default) 0 with h3|h3
  ·exact h3
  ·have hq:(zcq f a b).2 = []:=by
    have:=s.no
    unfold goB at this
    cases hq:(zcq f a b).2 with
    | nil=>rfl
    | cons x r=>exact absurd ⟨by rw[hq];simp,.inl h⟩ this
   have:=s.ass.known hcons haL s.r hbL h3 (by rw[hq];intro x hx;simp at hx)
   omega
 refine⟨⟨h2,fun h => ?_⟩,fun h => ?_⟩
 ·rcases Int.lt_or_le ((zcq f a b).1.getD (zam f b) default) 0 with h3|h3
  ·exact h3
  ·have:=h1 h3;omega
 ·have h3:0≤(zcq f a b).1.getD (zam f b) default:=by
   rcases Int.lt_or_le ((zcq f a b).1.getD (zam f b) default) 0 with h3|h3
   ·have:=h2 h3;omega
   ·exact h3
  have h4:=h1 h3
  refine⟨h4,fun x hx => ?_⟩
  obtain⟨k,hk,rfl⟩:=mem_getD.1 hx
  have hle:=zox _ s.ass.heap k hk
  have:=s.no
  unfold goB at this
  rw[h4]at this
  rcases Int.lt_or_le (R.getD (zam f b) default) ((zcq f a b).2.getD k default).all with h5|h5
  ·exact h5
  ·exact absurd ⟨by omega,.inr (by omega)⟩ this
theorem zp6 (f:Fld) (a b:Cel) (hl:f.p.length≤9223372036854775807) {R:List Int} (hf:zbv f=0) (ha:inF f a=true) (hb:inF f b=true) (hpa:zai f a≠1) (hpb:zai f b≠1) (hR:zas f [a] R) (h0:R.getD (zam f b) default<0):Spec Tryz.prog 160 [z29 f,zhv a,zhv b] [] (.tup [.c (.v (.pointer none)),I .i64 6]) []:=by
 obtain⟨W,H,s⟩:=yhy (b:=b) hf ha hpa hR
 have hend:=s.end hf ha hb
 obtain⟨hw,hh,hW,hL,hFl,hAe,_⟩:=s
 have hA0:=As0 hw hh hW hf b ha
 have hmu0:=yj6 f ⟨a,0,0+zbd b a⟩ (zbm hf ha).2.2.2.2
 have hai:=inF_iff.1 ha
 have hbi:=inF_iff.1 hb
 have hfo:=zbi hf
 have hpx:=zbm hf ha
 have hrunS:zla f b 8001 (List.replicate f.p.length (-1)) (zdr Nod.all [] ⟨a,0,0+zbd b a⟩)=zcq f a b:=rfl
 have hbF:zam f b<(zcq f a b).1.length:=by rw[hAe.len];exact(zbf hw hh hW hf hb).2
 refine spB Tryz.func160 61 [.tmp 6,.tmp 7] Tryz.results160 ?_
 iterate 2(try simp(etaStruct := .none)only[push_cast,zab,seval,Int.ofNat_zero,hrunS,zaa _ _ _ hbF,zac];try refine xsu ?_)
 refine caP (zzj f a hl) ?_
 rw[znq hf,if_pos ha]
 iterate 2(try simp(etaStruct := .none)only[push_cast,zab,seval,Int.ofNat_zero,hrunS,zaa _ _ _ hbF,zac];try refine xsu ?_)
 refine cI (fun h1 => ?_) fun h1 => ?_
 ·exact absurd h1 (by decide)
 ·iterate 2(try simp(etaStruct := .none)only[push_cast,zab,seval,Int.ofNat_zero,hrunS,zaa _ _ _ hbF,zac];try refine xsu ?_)
  refine caP (zzj f b hl) ?_
  rw[znq hf,if_pos hb]
  iterate 2(try simp(etaStruct := .none)only[push_cast,zab,seval,Int.ofNat_zero,hrunS,zaa _ _ _ hbF,zac];try refine xsu ?_)
  refine cI (fun h2 => ?_) fun h2 => ?_
  ·exact absurd h2 (by decide)
  ·iterate 2(try simp(etaStruct := .none)only[push_cast,zab,seval,Int.ofNat_zero,hrunS,zaa _ _ _ hbF,zac];try refine xsu ?_)
   refine cI (fun h3 => ?_) fun h3 => ?_
   ·rcases h3 with h3|h3
    ·exact absurd h3 hpa
    ·exact absurd h3 hpb
   ·iterate 2(try simp(etaStruct := .none)only[push_cast,zab,seval,Int.ofNat_zero,hrunS,zaa _ _ _ hbF,zac];try refine xsu ?_)
    refine zfv [11] (zu8 f.p.length (by omega) (by omega)) (WkL.refl _) rfl (by decide) (by simp[zbn,zfh,zsb]) ?_
    iterate 2(try simp(etaStruct := .none)only[push_cast,zab,seval,Int.ofNat_zero,hrunS,zaa _ _ _ hbF,zac];try refine xsu ?_)
    (try(refine⟨by kernel_rfl,?_⟩))
    iterate 2(try simp(etaStruct := .none)only[push_cast,zab,seval,Int.ofNat_zero,hrunS,zaa _ _ _ hbF,zac];try refine xsu ?_)
    refine caM [35,27] (zvh f b (List.replicate f.p.length (-1)) a 0 (by omega) (by omega) (by omega) (by omega) (by omega)) ?_
    iterate 2(try simp(etaStruct := .none)only[push_cast,zab,seval,Int.ofNat_zero,hrunS,zaa _ _ _ hbF,zac];try refine xsu ?_)
    refine caM [35,27,43] (z8z f b hw hh hW hf hL hb (zam f a) 8001 (List.replicate f.p.length (-1)) (zdr Nod.all [] ⟨a,0,0+zbd b a⟩) hA0 hmu0 (by decide)) ?_
    iterate 2(try simp(etaStruct := .none)only[push_cast,zab,seval,Int.ofNat_zero,hrunS,zaa _ _ _ hbF,zac];try refine xsu ?_)
    refine zcd (zei f b (zcq f a b).1 (zcq f a b).2 b hf hb) (WkL.refl _) rfl ?_
    iterate 2(try simp(etaStruct := .none)only[push_cast,zab,seval,Int.ofNat_zero,hrunS,zaa _ _ _ hbF,zac];try refine xsu ?_)
    (try(refine⟨by kernel_rfl,?_⟩))
    iterate 2(try simp(etaStruct := .none)only[push_cast,zab,seval,Int.ofNat_zero,hrunS,zaa _ _ _ hbF,zac];try refine xsu ?_)
    refine cI (fun h4 => ?_) fun h4 => ?_
    ·iterate 2(try simp(etaStruct := .none)only[push_cast,zab,seval,Int.ofNat_zero,hrunS,zaa _ _ _ hbF,zac];try refine xsu ?_)
     exact xrz rfl
    ·exact absurd (hend.1.2 h0) (by omega)
theorem zsu (f:Fld) (a b:Cel) (hl:f.p.length≤9223372036854775807) {R:List Int} (hf:zbv f=0) (ha:inF f a=true) (hb:inF f b=true) (hpa:zai f a≠1) (hpb:zai f b≠1) (hR:zas f [a] R) (h0:0≤R.getD (zam f b) default):Spec Tryz.prog 160 [z29 f,zhv a,zhv b] [] (.tup [.ptr 0 0 0,I .i64 0]) [srB f b (.own 1) (.own 2),.row 3 1 ((zcq f a b).1.map zac),.row 327 4 ((zcq f a b).2.map zbu)]:=by
 obtain⟨W,H,s⟩:=yhy (b:=b) hf ha hpa hR
 have hend:=s.end hf ha hb
 obtain⟨hw,hh,hW,hL,hFl,hAe,_⟩:=s
 have hA0:=As0 hw hh hW hf b ha
 have hmu0:=yj6 f ⟨a,0,0+zbd b a⟩ (zbm hf ha).2.2.2.2
 have hai:=inF_iff.1 ha
 have hbi:=inF_iff.1 hb
 have hfo:=zbi hf
 have hpx:=zbm hf ha
 have hrunS:zla f b 8001 (List.replicate f.p.length (-1)) (zdr Nod.all [] ⟨a,0,0+zbd b a⟩)=zcq f a b:=rfl
 have hbF:zam f b<(zcq f a b).1.length:=by rw[hAe.len];exact(zbf hw hh hW hf hb).2
 refine spB Tryz.func160 61 [.tmp 6,.tmp 7] Tryz.results160 ?_
 iterate 2(try simp(etaStruct := .none)only[push_cast,zab,seval,Int.ofNat_zero,hrunS,zaa _ _ _ hbF,zac];try refine xsu ?_)
 refine caP (zzj f a hl) ?_
 rw[znq hf,if_pos ha]
 iterate 2(try simp(etaStruct := .none)only[push_cast,zab,seval,Int.ofNat_zero,hrunS,zaa _ _ _ hbF,zac];try refine xsu ?_)
 refine cI (fun h1 => ?_) fun h1 => ?_
 ·exact absurd h1 (by decide)
 ·iterate 2(try simp(etaStruct := .none)only[push_cast,zab,seval,Int.ofNat_zero,hrunS,zaa _ _ _ hbF,zac];try refine xsu ?_)
  refine caP (zzj f b hl) ?_
  rw[znq hf,if_pos hb]
  iterate 2(try simp(etaStruct := .none)only[push_cast,zab,seval,Int.ofNat_zero,hrunS,zaa _ _ _ hbF,zac];try refine xsu ?_)
  refine cI (fun h2 => ?_) fun h2 => ?_
  ·exact absurd h2 (by decide)
  ·iterate 2(try simp(etaStruct := .none)only[push_cast,zab,seval,Int.ofNat_zero,hrunS,zaa _ _ _ hbF,zac];try refine xsu ?_)
   refine cI (fun h3 => ?_) fun h3 => ?_
   ·rcases h3 with h3|h3
    ·exact absurd h3 hpa
    ·exact absurd h3 hpb
   ·iterate 2(try simp(etaStruct := .none)only[push_cast,zab,seval,Int.ofNat_zero,hrunS,zaa _ _ _ hbF,zac];try refine xsu ?_)
    refine zfv [11] (zu8 f.p.length (by omega) (by omega)) (WkL.refl _) rfl (by decide) (by simp[zbn,zfh,zsb]) ?_
    iterate 2(try simp(etaStruct := .none)only[push_cast,zab,seval,Int.ofNat_zero,hrunS,zaa _ _ _ hbF,zac];try refine xsu ?_)
    (try(refine⟨by kernel_rfl,?_⟩))
    iterate 2(try simp(etaStruct := .none)only[push_cast,zab,seval,Int.ofNat_zero,hrunS,zaa _ _ _ hbF,zac];try refine xsu ?_)
    refine caM [35,27] (zvh f b (List.replicate f.p.length (-1)) a 0 (by omega) (by omega) (by omega) (by omega) (by omega)) ?_
    iterate 2(try simp(etaStruct := .none)only[push_cast,zab,seval,Int.ofNat_zero,hrunS,zaa _ _ _ hbF,zac];try refine xsu ?_)
    refine caM [35,27,43] (z8z f b hw hh hW hf hL hb (zam f a) 8001 (List.replicate f.p.length (-1)) (zdr Nod.all [] ⟨a,0,0+zbd b a⟩) hA0 hmu0 (by decide)) ?_
    iterate 2(try simp(etaStruct := .none)only[push_cast,zab,seval,Int.ofNat_zero,hrunS,zaa _ _ _ hbF,zac];try refine xsu ?_)
    refine zcd (zei f b (zcq f a b).1 (zcq f a b).2 b hf hb) (WkL.refl _) rfl ?_
    iterate 2(try simp(etaStruct := .none)only[push_cast,zab,seval,Int.ofNat_zero,hrunS,zaa _ _ _ hbF,zac];try refine xsu ?_)
    (try(refine⟨by kernel_rfl,?_⟩))
    iterate 2(try simp(etaStruct := .none)only[push_cast,zab,seval,Int.ofNat_zero,hrunS,zaa _ _ _ hbF,zac];try refine xsu ?_)
    refine cI (fun h4 => ?_) fun h4 => ?_
    ·exact absurd (hend.1.1 h4) (by omega)
    ·iterate 2(try simp(etaStruct := .none)only[push_cast,zab,seval,Int.ofNat_zero,hrunS,zaa _ _ _ hbF,zac];try refine xsu ?_)
     refine zby [35,27,44] rfl rfl (by decide) ⟨?_,?_,?_,trivial⟩ trivial ?_<;>simp(etaStruct := .none)only[push_cast,zab,seval]
end Go.Proofs.YtmjbgbmegbkmhaaGreat
namespace Go.Proofs.YtmjbgbmegbkmhaaGreat
set_option linter.all false
open Go.RowKit
set_option maxRecDepth 100000
set_option maxHeartbeats 1000000
def z3h (l:List Sea) (T:List Nat):List Sea:=(List.range l.length).map fun i=>⟨(l.getD i default).waits.drop (T.getD i default),(zbo (l.getD i default)).late,(l.getD i default).gone⟩
theorem z3g (l:List Sea) (T:List Nat):(z3h l T).length=l.length:=by simp[z3h]
theorem z7j (l:List Sea) (T:List Nat) (i:Nat) (h:i<l.length):(z3h l T).getD i default=⟨(l.getD i default).waits.drop (T.getD i default),(zbo (l.getD i default)).late,(l.getD i default).gone⟩:=by
 rw[zae _ _ (by rw[z3g];exact h)]
 simp[z3h]
theorem zo5 {α : Type} [Inhabited α] {l m:List α} (h:l.length=m.length) (h2:∀i,i<l.length→l.getD i default=m.getD i default):l=m:=by
 refine List.ext_getElem h fun i i1 i2 => ?_
 have:=h2 i i1
 rwa [zae _ _ i1,zae _ _ i2]at this
theorem zke {α : Type} [Inhabited α] (l:List α) (i j:Nat) (x : α) (h:i<l.length):(l.set i x).getD j default=if i=j then x else l.getD j default:=by
 by_cases e:i=j
 ·subst e;rw[if_pos rfl,zae _ _ (by simpa using h)];simp
 ·rw[if_neg e,List.getD_eq_getElem?_getD,List.getElem?_set_ne e,List.getD_eq_getElem?_getD]
def TkQ (most:Int) (l:List Sea) (k i:Nat) (o:List Ord) (U:List Nat):Prop :=
 U.length=l.length∧o.length≤100∧(∀j,j<l.length→U.getD j default≤(l.getD j default).waits.length) ∧
 ((o.length:Int)<most→∀j,j<l.length→U.getD j default=if j<i then min (k+1) (l.getD j default).waits.length else min k (l.getD j default).waits.length)
theorem TkQ.t {most:Int} {l:List Sea} {k i:Nat} {o:List Ord} {U:List Nat} (h:TkQ most l k i o U) (hi:i<l.length) (hk:k<(l.getD i default).waits.length) (hm:(o.length:Int)<most) (hm2:most≤100) (x:Ord) :
 U.getD i default=k∧TkQ most l k (i+1) (o ++ [x]) (U.set i (k+1)):=by
 obtain⟨h1,h2,h3,h4⟩:=h
 have e:=h4 hm i hi
 rw[if_neg (by omega),Nat.min_eq_left (by omega)]at e
 refine⟨e,by simp[h1],by simp;omega,fun j hj => ?_,fun hm' j hj => ?_⟩
 ·rw[zke _ _ _ _ (by omega)]
  split
  ·rename_i e';subst e';omega
  ·exact h3 j hj
 ·have:=h4 hm j hj
  rw[zke _ _ _ _ (by omega)]
  by_cases e':i=j
  ·subst e';rw[if_pos rfl,if_pos (by omega)];omega
  ·rw[if_neg e',this]
   by_cases e2:j<i
   ·rw[if_pos e2,if_pos (by omega)]
   ·rw[if_neg e2,if_neg (by omega)]
theorem TkQ.f {most:Int} {l:List Sea} {k i:Nat} {o:List Ord} {U:List Nat} (h:TkQ most l k i o U) (hi:i<l.length) (hc:¬(k<(l.getD i default).waits.length∧(o.length:Int)<most)):TkQ most l k (i+1) o U∧¬(0<((z3h l U).getD i default).waits.length∧(o.length:Int)<most):=by
 obtain⟨h1,h2,h3,h4⟩:=h
 refine⟨⟨h1,h2,h3,fun hm j hj => ?_⟩,?_⟩
 ·rw[h4 hm j hj]
  by_cases e:j=i
  ·subst e;rw[if_neg (by omega),if_pos (by omega)];omega
  ·by_cases e2:j<i
   ·rw[if_pos e2,if_pos (by omega)]
   ·rw[if_neg e2,if_neg (by omega)]
 ·rw[z7j _ _ _ hi]
  simp only[List.length_drop]
  rintro⟨h5,h6⟩
  have:=h4 h6 i hi
  rw[if_neg (by omega)]at this
  omega
theorem TkQ.next {most:Int} {l:List Sea} {k:Nat} {o:List Ord} {U:List Nat} (h:TkQ most l k l.length o U):TkQ most l (k+1) 0 o U:=by
 obtain⟨h1,h2,h3,h4⟩:=h
 refine⟨h1,h2,h3,fun hm j hj => ?_⟩
 rw[h4 hm j hj,if_pos hj,if_neg (by omega)]
theorem TkQ.zero (most:Int) (l:List Sea):TkQ most l 0 0 [] (List.replicate l.length 0):=by
 refine⟨by simp,by simp,fun j hj => ?_,fun _ j hj => ?_⟩<;>rw[zae _ _ (by simpa using hj)]<;>simp
end Go.Proofs.YtmjbgbmegbkmhaaGreat
namespace Go.Proofs.YtmjbgbmegbkmhaaGreat
set_option linter.all false
open Go.RowKit
set_option maxRecDepth 100000
set_option maxHeartbeats 2000000
def zs0 {α : Type} [Inhabited α] (k:Nat) (l:List α):List α := (List.range l.length).map fun i=>if i<k∨l.length-k≤i then l.getD (l.length-1-i) default else l.getD i default
theorem zd1 {α : Type} [Inhabited α] (k:Nat) (l:List α):(zs0 k l).length=l.length:=by simp[zs0]
theorem zgp {α : Type} [Inhabited α] (k:Nat) (l:List α) (i:Nat) (hi:i<l.length):(zs0 k l).getD i default=if i<k∨l.length-k≤i then l.getD (l.length-1-i) default else l.getD i default:=by
 rw[zae _ _ (by rw[zd1];exact hi)];simp[zs0]
theorem z0x {α : Type} [Inhabited α] (l:List α):zs0 0 l=l:=by
 refine zo5 (zd1 0 l) fun i hi => ?_
 rw[zd1]at hi
 rw[zgp 0 l i hi,if_neg (by omega)]
theorem z0y {α : Type} [Inhabited α] (l:List α) (k:Nat) (h:2*k+1<l.length):zs0 (k+1) l=((zs0 k l).set k ((zs0 k l).getD (l.length-1-k) default)).set (l.length-1-k) ((zs0 k l).getD k default):=by
 have hrl:=zd1 k l
 refine zo5 (by simp[zd1]) fun i hi => ?_
 rw[zd1]at hi
 rw[zke _ _ _ _ (by rw[List.length_set];omega),zke _ _ _ _ (by omega),zgp _ l i hi,zgp k l k (by omega),zgp k l (l.length-1-k) (by omega),zgp k l i hi]
 rw[if_neg (show ¬(l.length-1-k<k∨l.length-k≤l.length-1-k)by omega),if_neg (show ¬(k<k∨l.length-k≤k)by omega)]
 by_cases e1:l.length-1-k=i
 ·rw[if_pos e1,if_pos (by omega)];congr 1;omega
 ·rw[if_neg e1]
  by_cases e2:k=i
  ·rw[if_pos e2,if_pos (by omega)];congr 1;omega
  ·rw[if_neg e2]
   by_cases e3:i<k∨l.length-k≤i
   ·rw[if_pos e3,if_pos (by omega)]
   ·rw[if_neg e3,if_neg (by omega)]
theorem z5o {α : Type} [Inhabited α] (l:List α) (k:Nat) (h:l.length≤2*k+1):zs0 k l=l.reverse:=by
 refine zo5 (by rw[zd1,List.length_reverse]) fun i hi => ?_
 rw[zd1]at hi
 rw[zgp k l i hi,zae _ _ (show i<l.reverse.length by simpa using hi),List.getElem_reverse,←zae l _ (show l.length-1-i<l.length by omega)]
 by_cases e3:i<k∨l.length-k≤i
 ·rw[if_pos e3]
 ·rw[if_neg e3];congr 1;omega
theorem ydk (l:List Cel) (hl:l.length≤1000000):Spec Tryz.prog 164 [.own 0] [.row 46 2 (l.map za3)] (.tup []) [.row 46 2 (l.reverse.map za3)]:=by
 refine spB Tryz.func164 28 [] Tryz.results164 ?_
 try refine xst ?_
 refine zax (fun k:Nat=>⟨[(3,I .i64 ((l.length:Int)-1-k)),(2,I .i64 k),(0,.own 0)],[(0,.row 46 2 ((zs0 k l).map za3))],1⟩) (fun k:Nat=>2*k≤l.length) (fun k:Nat=>l.length-k) (0) (Nat.zero_le _) (To.mk [0] rfl rfl (by decide) ?_ ?_) ?_
 ·simp(etaStruct := .none)only[push_cast,zab,seval,z0x]
 ·(iterate 2((try simp(etaStruct := .none)only[push_cast,zab,seval,Int.ofNat_zero,Int.sub_zero]);(try(refine xsu ?_;try exact xtI))))
 rintro k hk
 have hrl:=zd1 k l
 try refine xst ?_
 refine cI (fun h1 => ?_) fun h1 => ?_
 ·obtain⟨j,hj⟩:∃j:Nat,(l.length:Int)-1-k=(j:Int):=Int.eq_ofNat_of_zero_le (by omega)
  have hjn:j=l.length-1-k:=by omega
  have hs:=z0y l k (by omega)
  rw[←hjn]at hs
  have hk1:k<(zs0 k l).length:=by omega
  have hj1:j<(zs0 k l).length:=by omega
  have hj2:j<((zs0 k l).set k ((zs0 k l).getD j default)).length:=by rw[List.length_set];omega
  iterate 2(try simp(etaStruct := .none)only[push_cast,zab,seval,hj,zaa _ _ _ hk1,zaa _ _ _ hj1,za3,List.length_set];try refine xsu ?_)
  (try(refine⟨by kernel_rfl,?_⟩))
  iterate 2(try simp(etaStruct := .none)only[push_cast,zab,seval,hj,zaa _ _ _ hk1,zaa _ _ _ hj1,za3,List.length_set];try refine xsu ?_)
  refine⟨k+1,by omega,by omega,To.mk [0] rfl rfl (by decide) ?_ ?_⟩
  ·(iterate 2((try simp(etaStruct := .none)only[push_cast,zab,seval,hs,List.map_set,za3]);(try(refine xsu ?_;try exact xtI))))
  ·have e1:(j:Int)-1=(l.length:Int)-1-((k:Int)+1):=by omega
   (try(refine xz1 e1 ?_;try exact xtI))
 ·have hr:=z5o l k (by omega)
  try refine xst ?_
  refine zby [0] rfl rfl (by decide) ⟨?_,trivial⟩ trivial ?_<;>simp(etaStruct := .none)only[push_cast,zab,seval,hr]
def yhv (R:List Int) (f:Fld) (a b:Cel):Int:=if zmi R f a b=0 then R.getD (zam f b) default else 0
theorem zxl (R:List Int) (f:Fld) (a b:Cel):(zmi R f a b≠0∧(zbv f≠0∨¬(inF f a=true∧inF f b=true)∨zai f a=1∨zai f b=1))∨(zbv f=0∧inF f a=true∧inF f b=true∧zai f a≠1∧zai f b≠1∧((zmi R f a b=6∧R.getD (zam f b) default<0)∨(zmi R f a b=0∧0≤R.getD (zam f b) default))):=by
 unfold zmi
 by_cases h1:zbv f=0
 ·rw[if_neg (by simp[h1])]
  by_cases h2:inF f a=true∧inF f b=true
  ·rw[if_neg (fun h=>h h2)]
   by_cases h3:zai f a=1∨zai f b=1
   ·rw[if_pos h3];exact .inl ⟨by decide,.inr (.inr h3)⟩
   ·rw[if_neg h3]
    refine .inr ⟨h1,h2.1,h2.2,fun h=>h3 (.inl h),fun h=>h3 (.inr h),?_⟩
    by_cases h4:R.getD (zam f b) default<0
    ·rw[if_pos h4];exact .inl ⟨rfl,h4⟩
    ·rw[if_neg h4];exact .inr ⟨rfl,by omega⟩
  ·rw[if_pos h2];exact .inl ⟨by decide,.inr (.inl h2)⟩
 ·rw[if_pos h1];exact .inl ⟨h1,.inl h1⟩
def PP (f:Fld) (far:List Int) (c n:Cel):Prop:=(zct f n).2=true∧0≤far.getD (zam f n) default∧far.getD (zam f n) default+kV (zai f c)=far.getD (zam f c) default
instance (f:Fld) (far:List Int) (c n:Cel):Decidable (PP f far c n):=by unfold PP;infer_instance
section
variable {f : Fld} {a b c : Cel} {R : List Int} {W H : Nat}
theorem z4o (s:Srch f a b R W H) (hf:zbv f=0) (hpa:zai f a≠1) (hc:inF f c=true) (h0:0≤R.getD (zam f c) default):zct f c=(kV (zai f c),true):=by
 have epl:zai f c=f.p.getD (zam f c) default:=rfl
 have:zai f c≠1:=by
  rw[epl]
  rcases s.r.why _ (zbf s.w s.h s.w0 hf hc).2 h0 with ⟨w1,_⟩|⟨_,_,_,hr,_⟩
  ·rw[List.mem_singleton]at w1;rw[w1];exact hpa
  ·exact hr
 unfold zct
 rw[if_pos hc,if_neg this]
theorem z80 (s:Srch f a b R W H) (hf:zbv f=0) (ha:inF f a=true) (hb:inF f b=true) (hpa:zai f a≠1) (hc:inF f c=true) (h0:0≤R.getD (zam f c) default) (hb0:0≤R.getD (zam f b) default) (hcb:R.getD (zam f c) default+zbd b c≤R.getD (zam f b) default) (hfc:(zcq f a b).1.getD (zam f c) default=R.getD (zam f c) default) {n:Cel} (hn:n∈zag c) :
 PP f (zcq f a b).1 c n↔(inF f n=true∧zvs R f c n=true) :=
 ya8 s.w s.h s.w0 hf s.l s.r ha hpa hc h0 s.ass hcb ((s.end hf ha hb).2 hb0).2 hfc hn
theorem z5s (s:Srch f a b R W H) (hf:zbv f=0) (ha:inF f a=true) (hb:inF f b=true) (hpa:zai f a≠1) (hc:inF f c=true) (h0:0≤R.getD (zam f c) default) (hb0:0≤R.getD (zam f b) default) (hcb:R.getD (zam f c) default+zbd b c≤R.getD (zam f b) default) (hfc:(zcq f a b).1.getD (zam f c) default=R.getD (zam f c) default)
 {k:Nat} (hk:k<4) (hn:∀i,i<k→¬PP f (zcq f a b).1 c ((zag c).getD i default)) (hp:PP f (zcq f a b).1 c ((zag c).getD k default)):(zag c).getD k default=zmo R f c:=by
 have h4:(zag c).length=4:=rfl
 have e1:(zag c).find? (fun n=>decide (PP f (zcq f a b).1 c n))=some ((zag c).getD k default):=by
  rw[List.find?_eq_some_iff_getElem]
  refine⟨by simpa using hp,k,by omega,(zae _ _ (by omega)).symm,fun j hj => ?_⟩
  have:=hn j hj
  rw[zae _ _ (by omega)]at this
  simpa using this
 have e2:=zyy (f:=f) (R:=R) (c:=c) (p:=fun n=>decide (PP f (zcq f a b).1 c n)) fun n hn=>by
  have:=z80 s hf ha hb hpa hc h0 hb0 hcb hfc hn
  rw[Bool.eq_iff_iff,decide_eq_true_eq,Bool.and_eq_true];exact this
 rw[e1]at e2
 unfold zmo
 rw[←e2];rfl
theorem yju (s:Srch f a b R W H) (hf:zbv f=0) (ha:inF f a=true) (hb:inF f b=true) (hpa:zai f a≠1) (hc:inF f c=true) (h0:0≤R.getD (zam f c) default) (hb0:0≤R.getD (zam f b) default) (hcb:R.getD (zam f c) default+zbd b c≤R.getD (zam f b) default) (hfc:(zcq f a b).1.getD (zam f c) default=R.getD (zam f c) default)
 (hca:c≠a) (hn:∀i,i<4→¬PP f (zcq f a b).1 c ((zag c).getD i default)):False:=by
 obtain⟨_,hm,hin,_,h1,h2⟩:=z1m s.w s.h s.w0 hf s.l s.r ha hc hca h0
 have hms:=(List.mem_filter.1 hm).1
 obtain⟨i,hi,e⟩:=mem_getD.1 hms
 refine hn i hi ?_
 rw[←e]at hms
 rw[z80 s hf ha hb hpa hc h0 hb0 hcb hfc hms,e]
 exact⟨hin,by unfold zvs;rw[Bool.and_eq_true,decide_eq_true_eq,decide_eq_true_eq];exact⟨h1,h2⟩⟩
theorem z58 (s:Srch f a b R W H) (hf:zbv f=0) (ha:inF f a=true) (hb:inF f b=true) (hc:inF f c=true) (h0:0≤R.getD (zam f c) default) (hb0:0≤R.getD (zam f b) default) (hcb:R.getD (zam f c) default+zbd b c≤R.getD (zam f b) default) (hca:c≠a) :
 inF f (zmo R f c)=true∧0≤R.getD (zam f (zmo R f c)) default∧R.getD (zam f (zmo R f c)) default+2≤R.getD (zam f c) default∧R.getD (zam f (zmo R f c)) default+zbd b (zmo R f c)≤R.getD (zam f b) default∧(zcq f a b).1.getD (zam f (zmo R f c)) default=R.getD (zam f (zmo R f c)) default:=by
 obtain⟨_,hm,hin,hadj,h1,h2⟩:=z1m s.w s.h s.w0 hf s.l s.r ha hc hca h0
 have hkv:=zzh (zai f c)
 have hcons:=zow s.w s.h s.w0 b
 rw[←s.l]at hcons
 obtain⟨en,hnL⟩:=zbf s.w s.h s.w0 hf hin
 obtain⟨ec,hcL⟩:=zbf s.w s.h s.w0 hf hc
 have hle:=hcons _ _ hnL hcL hadj.symm
 simp only at hle
 rw[←en,←ec]at hle
 refine⟨hin,h1,by omega,by omega,?_⟩
 exact s.ass.known hcons (zbf s.w s.h s.w0 hf ha).2 s.r hnL h1 (fun x hx=>by have:=((s.end hf ha hb).2 hb0).2 x hx;rw[←en];omega)
theorem z8t (s:Srch f a b R W H) (hl:f.p.length≤1600) (p:Nat) (hp:p<f.p.length) : -1≤(zcq f a b).1.getD p default∧(zcq f a b).1.getD p default≤4800:=by
 have h1:=s.ass.low p hp
 have h2:=s.ass.top p hp
 have h3:=zhf ze0 1 zhj (zcq f a b).1
 rw[s.ass.len]at h3
 omega
end
theorem cel_ne {c a:Cel} : ¬(c.x=a.x∧c.y=a.y)↔c≠a:=by
 obtain⟨x,y⟩:=c;obtain⟨u,v⟩:=a;simp
theorem z05 (f:Fld) (a b:Cel) (hl:f.p.length≤9223372036854775807) (R:List Int) (hR:zas f [a] R):Spec Tryz.prog 134 [z29 f,zhv a,zhv b] [] (.tup [.c (.sl 2 ((if zmi R f a b=0 then yd0 R f a b else []).map za3)),I .i64 (yhv R f a b),I .i64 (zmi R f a b)]) []:=by
 rcases zxl R f a b with ⟨hE,hbad⟩|⟨hf,ha,hb,hpa,hpb,⟨hE,h0⟩|⟨hE,h0⟩⟩
 ·have e:yhv R f a b=0:=if_neg hE
  rw[if_neg hE]
  refine spB Tryz.func134 107 [.tmp 6,.tmp 7,.tmp 8] Tryz.results134 ?_
  try refine xst ?_
  refine caP (zsv f a b hl hbad R) ?_
  try refine xst ?_
  refine cI (fun h1 => ?_) fun h1 => ?_
  ·skip
   try refine xst ?_
   (first|(refine zau rfl (Wk.of ?_);(try simp(etaStruct := .none)only[push_cast,zab,seval]);first|done|(simp[e, *];done)|(simp_all[e];done))|(refine zau rfl ?_;(try simp(etaStruct := .none)only[push_cast,zab,seval]);(try simp[e, *]);(try exact wkc)))
  ·exact absurd h1 hE
 ·have e:yhv R f a b=0:=if_neg (by rw[hE];decide)
  rw[e,hE,if_neg (by decide)]
  refine spB Tryz.func134 107 [.tmp 6,.tmp 7,.tmp 8] Tryz.results134 ?_
  try refine xst ?_
  refine caP (zp6 f a b hl hf ha hb hpa hpb hR h0) ?_
  try refine xst ?_
  refine cI (fun h1 => ?_) fun h1 => ?_
  ·try refine xst ?_
   exact xrz rfl
  ·exact absurd h1 (by decide)
 ·have e:yhv R f a b=R.getD (zam f b) default:=if_pos hE
  obtain⟨W,H,s⟩:=yhy (b:=b) hf ha hpa hR
  have hend:=(s.end hf ha hb).2 h0
  have hbF:zam f b<(zcq f a b).1.length:=by rw[s.ass.len];exact(zbf s.w s.h s.w0 hf hb).2
  have hpx:=zbm hf ha
  rw[e,hE,if_pos rfl]
  refine spB Tryz.func134 107 [.tmp 6,.tmp 7,.tmp 8] Tryz.results134 ?_
  (iterate 2((try simp(etaStruct := .none)only[push_cast,seval]);(try(refine xsu ?_;try exact xtI))))
  refine caM [] (zsu f a b hl hf ha hb hpa hpb hR h0) ?_
  (iterate 2((try simp(etaStruct := .none)only[push_cast,seval]);(try(refine xsu ?_;try exact xtI))))
  refine cI (fun h1 => ?_) fun h1 => ?_
  ·exact absurd h1 (by decide)
  ·(iterate 2((try simp(etaStruct := .none)only[push_cast,seval]);(try(refine xsu ?_;try exact xtI))))
   refine zax (fun x:Nat × Cel × List Cel=>⟨[(12,.ptr 5 0 0),(11,.own 6),(9,.ptr 0 0 0),(5,.ptr 4 0 0),(4,.ptr 3 0 0)],[(0,srB f b (.own 1) (.own 2)),(1,.row 3 1 ((zcq f a b).1.map zac)),(2,.row 327 4 ((zcq f a b).2.map zbu)),(3,.blk 46 [I .i64 a.x,I .i64 a.y]),(4,.blk 46 [I .i64 b.x,I .i64 b.y]),(5,.blk 46 [I .i64 x.2.1.x,I .i64 x.2.1.y]),(6,.row 46 2 (x.2.2.map za3))],7⟩) (fun x:Nat × Cel × List Cel=>inF f x.2.1=true∧0≤R.getD (zam f x.2.1) default∧R.getD (zam f x.2.1) default≤x.1∧(zcq f a b).1.getD (zam f x.2.1) default=R.getD (zam f x.2.1) default∧R.getD (zam f x.2.1) default+zbd b x.2.1≤R.getD (zam f b) default∧x.2.2++zzo R f a x.1 x.2.1=b::zzo R f a (R.getD (zam f b) default).toNat b∧x.2.2.length+x.1≤4801) (fun x:Nat × Cel × List Cel=>x.1) (((R.getD (zam f b) default).toNat,b,[b])) (⟨hb,h0,by simp only;omega,hend.1,by simp only[zbd];omega,rfl,by have:=(z8t s hpx.2.2.2.2 _ (show zam f b<f.p.length by rw[←s.ass.len];exact hbF)).2;rw[hend.1]at this;simp only[List.length_singleton];omega⟩) (To.mk [3,4,5,1,2,7,6] rfl rfl (by decide) ?_ ?_) ?_
   ·(iterate 2((try simp(etaStruct := .none)only[push_cast,zab,seval,srB,za3]);(try(refine xsu ?_;try exact xtI))))
   ·simp(etaStruct := .none)only[push_cast,zab,seval]
   rintro⟨N,c,out⟩ ⟨hc,hc0,hcN,hfc,hcb,hway,hlen⟩
   simp only at hc hc0 hcN hfc hcb hway hlen
   (iterate 2((try simp(etaStruct := .none)only[push_cast,seval]);(try(refine xsu ?_;try exact xtI))))
   refine cI (fun h2 => ?_) fun h2 => ?_
   ·have hca:c≠a:=cel_ne.1 (fun h=>by rcases h2 with h2|h2;exact h2 h.1;exact h2 h.2)
    have hwc:=z4o s hf hpa hc hc0
    have hci:=inF_iff.1 hc
    have hfo:=zbi hf
    have hkv:=zzh (zai f c)
    have hcF:zam f c<(zcq f a b).1.length:=by rw[s.ass.len];exact(zbf s.w s.h s.w0 hf hc).2
    obtain⟨n1,n2,n3,n4,n5⟩:=z58 s hf ha hb hc hc0 h0 hcb hca
    obtain⟨M,rfl⟩:∃M,N=M+1:=⟨N-1,by omega⟩
    (iterate 2((try simp(etaStruct := .none)only[push_cast,seval]);(try(refine xsu ?_;try exact xtI))))
    refine zcd (zta f b (zcq f a b).1 (zcq f a b).2 c hf) (WkL.refl _) rfl ?_
    rw[hwc]
    (iterate 2((try simp(etaStruct := .none)only[push_cast,seval]);(try(refine xsu ?_;try exact xtI))))
    refine caP (zvg c (by omega) (by omega)) ?_
    (iterate 2((try simp(etaStruct := .none)only[push_cast,seval]);(try(refine xsu ?_;try exact xtI))))
    refine zax (fun k:Nat=>⟨[(43,I .i64 k),(42,.agg [I .i64 c.x,I .i64 (c.y-1),I .i64 (c.x-1),I .i64 c.y,I .i64 (c.x+1),I .i64 c.y,I .i64 c.x,I .i64 (c.y+1)]),(13,I .i64 (kV (zai f c))),(12,.ptr 5 0 0),(11,.own 6),(9,.ptr 0 0 0),(5,.ptr 4 0 0),(4,.ptr 3 0 0)],[(0,srB f b (.own 1) (.own 2)),(1,.row 3 1 ((zcq f a b).1.map zac)),(2,.row 327 4 ((zcq f a b).2.map zbu)),(3,.blk 46 [I .i64 a.x,I .i64 a.y]),(4,.blk 46 [I .i64 b.x,I .i64 b.y]),(5,.blk 46 [I .i64 c.x,I .i64 c.y]),(6,.row 46 2 (out.map za3))],7⟩) (fun k:Nat=>k≤4∧∀i,i<k→¬PP f (zcq f a b).1 c ((zag c).getD i default)) (fun k:Nat=>4-k) (0) (⟨Nat.zero_le _,fun i h=>absurd h (Nat.not_lt_zero _)⟩) (To.mk [0,1,2,3,4,5,6] rfl rfl (by decide) ?_ ?_) ?_
    ·simp(etaStruct := .none)only[push_cast,zab,seval]
    ·simp(etaStruct := .none)only[push_cast,zab,seval]
    rintro k ⟨hk,hno⟩
    (iterate 2((try simp(etaStruct := .none)only[push_cast,seval]);(try(refine xsu ?_;try exact xtI))))
    refine cI (fun h3 => ?_) fun h3 => ?_
    ·have hlt:k<4:=by omega
     have hsc:=zk4 c k hlt
     have hgG:ycr f ((zag c).getD k default)<(zcq f a b).1.length:=by rw[s.ass.len];exact z2k hf _
     have hbG:=z8t s hpx.2.2.2.2 (ycr f ((zag c).getD k default)) (by rw[←s.ass.len];exact hgG)
     (iterate 2((try simp(etaStruct := .none)only[push_cast,seval,hsc,zaa _ _ _ hgG,zaa _ _ _ hcF,zac]);(try(refine xsu ?_;try exact xtI))))
     refine zcd (zta f b (zcq f a b).1 (zcq f a b).2 ((zag c).getD k default) hf) (WkL.refl _) rfl ?_
     (iterate 2((try simp(etaStruct := .none)only[push_cast,seval,hsc,zaa _ _ _ hgG,zaa _ _ _ hcF,zac]);(try(refine xsu ?_;try exact xtI))))
     refine zaz [some 52,some 53,some 54,some 55,some 56,some 57,some 58,some 59,some 60,some 61,some 62,some 63,some 64,some 65,some 66,some 67,some 68,some 69,some 70,some 71,some 72,some 73,some 74,some 75,some 76,some 77,some 78,some 79,some 80,some 81,some 82,some 83,some 84,some 85,some 86,some 87] rfl ?_
     intro Oq lq Rq hlq hdq hRq
     subst hlq
     iterate 8(refine zar fun rq hrq => ?_;(iterate 2((try simp(etaStruct := .none)only[push_cast,seval,hdq,id,hsc,zaa _ _ _ hgG,zaa _ _ _ hcF,zac]);(try(refine xsu ?_;try exact xtI))));subst hrq)
     refine zar fun rq hrq => ?_
     (iterate 2((try simp(etaStruct := .none)only[push_cast,seval,hdq,id,hsc,zaa _ _ _ hgG,zaa _ _ _ hcF,zac]);(try(refine xsu ?_;try exact xtI))))
     refine zjz (fun hcc=>zlg f b (zcq f a b).1 (zcq f a b).2 ((zag c).getD k default) hf hcc) (WkL.refl _) rfl (by intro hc;(try simp(etaStruct := .none)only[push_cast,zab,seval]);(try simp_all)) ?_
     (iterate 2((try simp(etaStruct := .none)only[push_cast,seval,hdq,id,hsc,zaa _ _ _ hgG,zaa _ _ _ hcF,zac]);(try(refine xsu ?_;try exact xtI))))
     subst hrq
     iterate 11(refine zar fun rq hrq => ?_;(iterate 2((try simp(etaStruct := .none)only[push_cast,seval,hdq,id,hsc,zaa _ _ _ hgG,zaa _ _ _ hcF,zac]);(try(refine xsu ?_;try exact xtI))));subst hrq)
     refine zar fun rq hrq => ?_
     (iterate 2((try simp(etaStruct := .none)only[push_cast,seval,hdq,id,hsc,zaa _ _ _ hgG,zaa _ _ _ hcF,zac]);(try(refine xsu ?_;try exact xtI))))
     refine zjz (fun hcc=>zlg f b (zcq f a b).1 (zcq f a b).2 ((zag c).getD k default) hf (by simp only[Bool.and_eq_true]at hcc;exact hcc.1)) (WkL.refl _) rfl (by intro hc;(try simp(etaStruct := .none)only[push_cast,zab,seval]);(try simp_all)) ?_
     (iterate 2((try simp(etaStruct := .none)only[push_cast,seval,hdq,id,hsc,zaa _ _ _ hgG,zaa _ _ _ hcF,zac]);(try(refine xsu ?_;try exact xtI))))
     subst hrq
     iterate 10(refine zar fun rq hrq => ?_;(iterate 2((try simp(etaStruct := .none)only[push_cast,seval,hdq,id,hsc,zaa _ _ _ hgG,zaa _ _ _ hcF,zac]);(try(refine xsu ?_;try exact xtI))));subst hrq)
     refine zar fun rq hrq => ?_
     (iterate 2((try simp(etaStruct := .none)only[push_cast,seval,hdq,id,hsc,zaa _ _ _ hgG,zaa _ _ _ hcF,zac]);(try(refine xsu ?_;try exact xtI))))
     refine zjz (fun hcc=>zei f b (zcq f a b).1 (zcq f a b).2 c hf hc) (WkL.refl _) rfl (by intro hc;(try simp(etaStruct := .none)only[push_cast,zab,seval]);(try simp_all)) ?_
     (iterate 2((try simp(etaStruct := .none)only[push_cast,seval,hdq,id,hsc,zaa _ _ _ hgG,zaa _ _ _ hcF,zac]);(try(refine xsu ?_;try exact xtI))))
     subst hrq
     iterate 4(refine zar fun rq hrq => ?_;(iterate 2((try simp(etaStruct := .none)only[push_cast,seval,hdq,id,hsc,zaa _ _ _ hgG,zaa _ _ _ hcF,zac]);(try(refine xsu ?_;try exact xtI))));subst hrq)
     refine zht ?_
     subst hRq
     clear hdq Oq
     refine zhs (by kernel_rfl) ?_
     (iterate 2((try simp(etaStruct := .none)only[push_cast,seval,hsc,zaa _ _ _ hgG,zaa _ _ _ hcF,zac]);(try(refine xsu ?_;try exact xtI))))
     refine cI (fun h4 => ?_) fun h4 => ?_
     ·have hin2:inF f ((zag c).getD k default)=true:=by
       cases hi:inF f ((zag c).getD k default)with
       | true=>rfl
       | false=>have:=h4.1.1;unfold zct at this;rw[hi]at this;simp at this
      have hPP:PP f (zcq f a b).1 c ((zag c).getD k default):=⟨h4.1.1,by rw[←zjg hin2];exact h4.1.2,by rw[←zjg hin2];exact h4.2⟩
      have hnk:=z5s s hf ha hb hpa hc hc0 h0 hcb hfc hlt hno hPP
      rw[zzo,if_neg hca]at hway
      (iterate 2((try simp(etaStruct := .none)only[push_cast,seval,hsc,zaa _ _ _ hgG,zaa _ _ _ hcF,zac,hnk]);(try(refine xsu ?_;try exact xtI))))
      refine⟨(M,zmo R f c,out ++ [zmo R f c]),⟨n1,n2,by simp only;omega,n5,n4,by simp only;rw[List.append_assoc];exact hway,by simp only[List.length_append,List.length_singleton];omega⟩,by simp only;omega,To.mk [0,1,2,3,4,154,153] rfl rfl (by decide) ?_ ?_⟩
      ·(iterate 2((try simp(etaStruct := .none)only[push_cast,zab,seval,List.map_append,za3]);(try(refine xsu ?_;try exact xtI))))
      ·(iterate 2((try simp(etaStruct := .none)only[push_cast,seval,hsc,zaa _ _ _ hgG,zaa _ _ _ hcF,zac,hnk]);(try(refine xsu ?_;try exact xtI))))
     ·have hno2:∀i,i<k+1→¬PP f (zcq f a b).1 c ((zag c).getD i default):=fun i hi=>by
       rcases Nat.lt_or_ge i k with h|h
       ·exact hno i h
       ·obtain rfl:i=k:=by omega
        rintro⟨p1,p2,p3⟩
        have hin2:inF f ((zag c).getD i default)=true:=by
         cases hi:inF f ((zag c).getD i default)with
         | true=>rfl
         | false=>unfold zct at p1;rw[hi]at p1;simp at p1
        rw[←zjg hin2]at p2 p3
        rcases h4 with (h4|h4)|h4
        ·rw[p1]at h4;exact absurd h4 (by decide)
        ·omega
        ·exact h4 p3
      (iterate 2((try simp(etaStruct := .none)only[push_cast,seval,hsc,zaa _ _ _ hgG,zaa _ _ _ hcF,zac]);(try(refine xsu ?_;try exact xtI))))
      refine⟨k+1,⟨by omega,hno2⟩,by omega,To.mk [0,1,2,3,4,5,6] rfl rfl (by decide) ?_ ?_⟩
      ·(iterate 2((try simp(etaStruct := .none)only[push_cast,seval,hsc,zaa _ _ _ hgG,zaa _ _ _ hcF,zac]);(try(refine xsu ?_;try exact xtI))))
      ·(iterate 2((try simp(etaStruct := .none) (maxSteps:=1000000)only[push_cast,zab,seval]);(try(refine xsu ?_;try exact xtI))))
    ·obtain rfl:k=4:=by omega
     exact(yju s hf ha hb hpa hc hc0 h0 hcb hfc hca hno).elim
   ·have hca:c=a:=Decidable.byContradiction fun h=>cel_ne.2 h h2
    have hout:out=b::zzo R f a (R.getD (zam f b) default).toNat b:=by
     have e0:zzo R f a N c = []:=by
      cases N with
      | zero=>rfl
      | succ N=>rw[zzo,if_pos hca]
     rw[←hway,e0,List.append_nil]
    have hov:out.reverse=yd0 R f a b:=by unfold yd0;rw[hout]
    (iterate 2((try simp(etaStruct := .none)only[push_cast,seval,zaa _ _ _ hbF,zac,hend.1,hov]);(try(refine xsu ?_;try exact xtI))))
    refine caM [6] (ydk out (by omega)) ?_
    (iterate 2((try simp(etaStruct := .none)only[push_cast,seval,zaa _ _ _ hbF,zac,hend.1,hov]);(try(refine xsu ?_;try exact xtI))))
    refine zaz [some 97,some 98,some 99,some 100,some 101,some 102,some 103,some 104,some 105,some 106,some 6,some 7,some 8] rfl ?_
    intro Oq lq Rq hlq hdq hRq
    subst hlq
    iterate 7(refine zar fun rq hrq => ?_;(iterate 2((try simp(etaStruct := .none)only[push_cast,seval,hdq,id,zaa _ _ _ hbF,zac,hend.1,hov]);(try(refine xsu ?_;try exact xtI))));subst hrq)
    refine zar fun rq hrq => ?_
    (iterate 2((try simp(etaStruct := .none)only[push_cast,seval,hdq,id,zaa _ _ _ hbF,zac,hend.1,hov]);(try(refine xsu ?_;try exact xtI))))
    refine zcd (zei f b (zcq f a b).1 (zcq f a b).2 b hf hb) (WkL.refl _) rfl ?_
    (iterate 2((try simp(etaStruct := .none)only[push_cast,seval,hdq,id,zaa _ _ _ hbF,zac,hend.1,hov]);(try(refine xsu ?_;try exact xtI))))
    subst hrq
    iterate 5(refine zar fun rq hrq => ?_;(iterate 2((try simp(etaStruct := .none)only[push_cast,seval,hdq,id,zaa _ _ _ hbF,zac,hend.1,hov]);(try(refine xsu ?_;try exact xtI))));subst hrq)
    refine zht ?_
    subst hRq
    clear hdq Oq
    refine zhs (by kernel_rfl) ?_
    (iterate 2((try simp(etaStruct := .none)only[push_cast,seval,zaa _ _ _ hbF,zac,hend.1,hov]);(try(refine xsu ?_;try exact xtI))))
    exact xrz rfl
theorem yck {α : Type} [Inhabited α] {p : α → Bool} {l:List α} {x : α} (h:l.find? p=some x):∃i:Nat,zj8 p l=(i:Int)∧i<l.length∧l.getD i default=x:=by
 rw[List.find?_eq_some_iff_getElem]at h
 obtain⟨h1,i,hi,rfl,h2⟩:=h
 exact⟨i,zd3 p l i hi h1 (fun j hj hji=>by simpa using h2 j hji),hi,zae _ _ hi⟩
end Go.Proofs.YtmjbgbmegbkmhaaGreat
namespace Go.Proofs.YtmjbgbmegbkmhaaGreat
set_option linter.all false
open Go.RowKit
set_option maxRecDepth 100000
def zzb (f:Fld) (WR:Cel→List Int) (a b:Cel):List Cel:=if zmi (WR a) f a b=0 then yd0 (WR a) f a b else []
theorem yeg (f:Fld):∃WR:Cel→List Int,∀a,zas f [a] (WR a):=⟨fun a=>Classical.choose (zwt f [a]),fun a=>Classical.choose_spec (zwt f [a])⟩
def zo2 (l:List Gop) (i:Int):Option Gop:=l.find? fun g=>decide (g.id=i)
def zst (t:Trp) (c:Cel):Trp:={ t with c:=c }
def zp0 (f:Fld) (WR:Cel→List Int) (l:List Gop) (ts:List Trp) (t:Trp):Option Cel:=match zo2 l t.id with
 | none=>none
 | some g=>if (zzb f WR t.c g.to).length<2∨(ts.any fun o=>decide (o.c=(zzb f WR t.c g.to).getD 1 default))=true then none else some ((zzb f WR t.c g.to).getD 1 default)
def zek (f:Fld) (WR:Cel→List Int) (l:List Gop) (s:List Trp × List Int) (i:Nat):List Trp × List Int:=match zp0 f WR l s.1 (s.1.getD i default)with
 | none=>s
 | some c=>(s.1.set i (zst (s.1.getD i default) c),s.2 ++ [(s.1.getD i default).id])
def zel (f:Fld) (WR:Cel→List Int) (l:List Gop) (ts:List Trp) (k:Nat):List Trp × List Int:=(List.range k).foldl (zek f WR l) (ts,[])
theorem zls (f:Fld) (WR:Cel→List Int) (l:List Gop) (ts:List Trp):zel f WR l ts 0=(ts,[]):=rfl
theorem zhl (f:Fld) (WR:Cel→List Int) (l:List Gop) (ts:List Trp) (k:Nat):zel f WR l ts (k+1)=zek f WR l (zel f WR l ts k) k:=by
 unfold zel;rw[List.range_succ,List.foldl_append];rfl
theorem zyl (f:Fld) (WR:Cel→List Int) (l:List Gop) (s:List Trp × List Int) (i:Nat):(zek f WR l s i).1.length=s.1.length∧(zek f WR l s i).2.length≤s.2.length+1:=by
 unfold zek
 split
 ·exact⟨rfl,by omega⟩
 ·simp
theorem zjd (f:Fld) (WR:Cel→List Int) (l:List Gop) (ts:List Trp):∀k,(zel f WR l ts k).1.length=ts.length∧(zel f WR l ts k).2.length≤k
 | 0=>⟨rfl,Nat.le_refl _⟩
 | k+1=>by
  rw[zhl]
  have h1:=zjd f WR l ts k
  have h2:=zyl f WR l (zel f WR l ts k) k
  omega
def zg6 (f:Fld) (WR:Cel→List Int) (l:List Gop) (ts:List Trp):List Trp × List Int:=zel f WR l ts ts.length
def zml (c:Cel):List Trp→Nat
 | []=>0
 | t::r=>(if t.c=c then 1 else 0)+zml c r
theorem zo7 (c:Cel):∀l,zml c l≤l.length
 | []=>Nat.le_refl _
 | t::r=>by have:=zo7 c r;rw[zml,List.length_cons];split<;>omega
theorem zma (c:Cel) (m:List Trp):∀l,zml c (l++m)=zml c l+zml c m
 | []=>by simp[zml]
 | t::r=>by rw[List.cons_append,zml,zml,zma c m r];omega
theorem zw6 (c:Cel) (t:Trp):∀(l:List Trp) (i:Nat),i<l.length→zml c (l.set i t)+(if (l.getD i default).c=c then 1 else 0)=zml c l+(if t.c=c then 1 else 0)
 | [],i,h=>by simp at h
 | a::r,0,_=>by rw[List.set_cons_zero,zml,zml,List.getD_cons_zero];omega
 | a::r,i+1,h=>by
  have:=zw6 c t r i (by simpa using h)
  rw[List.set_cons_succ,zml,zml,List.getD_cons_succ];omega
theorem zw7 (c:Cel):∀l:List Trp,0<zml c l↔(l.any fun o=>decide (o.c=c))=true
 | []=>by simp[zml]
 | t::r=>by
  rw[zml,List.any_cons]
  have:=zw7 c r
  by_cases h:t.c=c
  ·simp[h];omega
  ·simp only[h,if_false,decide_false,Bool.false_or,Nat.zero_add];exact this
def CntM (ts:List Trp) (es:List (List Int × Int)):Prop:=∀x y:Int,zc1 [x,y] es=(zml ⟨x,y⟩ ts:Int)
theorem CntM.add {ts:List Trp} {es:List (List Int × Int)} (h:CntM ts es) (t:Trp):CntM (ts ++ [t]) (zgq [t.c.x,t.c.y] (zc1 [t.c.x,t.c.y] es+1) es):=by
 intro x y
 rw[zb6,zma,zml,zml]
 obtain⟨i,o,kd,⟨cx,cy⟩,li,lo⟩:=t
 simp only
 by_cases e:x=cx∧y=cy
 ·obtain⟨rfl,rfl⟩:=e
  rw[if_pos rfl,if_pos rfl,h];omega
 ·rw[if_neg (by simpa using e),if_neg (fun he=>e (by cases he;exact⟨rfl,rfl⟩)),h];omega
theorem CntM.move {ts:List Trp} {es:List (List Int × Int)} (h:CntM ts es) {i:Nat} (hi:i<ts.length) (c:Cel) :
 CntM (ts.set i (zst (ts.getD i default) c)) (zgq [c.x,c.y] (zc1 [c.x,c.y] (zgq [(ts.getD i default).c.x,(ts.getD i default).c.y] (zc1 [(ts.getD i default).c.x,(ts.getD i default).c.y] es-1) es)+1) (zgq [(ts.getD i default).c.x,(ts.getD i default).c.y] (zc1 [(ts.getD i default).c.x,(ts.getD i default).c.y] es-1) es)):=by
 intro x y
 have hs:=zw6 ⟨x,y⟩ (zst (ts.getD i default) c) ts i hi
 obtain⟨cx,cy⟩:=c
 have e2:(zst (ts.getD i default) ⟨cx,cy⟩).c=⟨cx,cy⟩:=rfl
 rw[e2]at hs
 rcases ho:(ts.getD i default).c with ⟨ox,oy⟩
 rw[ho]at hs
 simp only at hs ⊢
 have k1:(([x,y]:List Int) = [cx,cy])=((⟨cx,cy⟩:Cel)=⟨x,y⟩):=by
  apply propext;constructor<;>intro h<;>cases h<;>rfl
 have k2:(([x,y]:List Int) = [ox,oy])=((⟨ox,oy⟩:Cel)=⟨x,y⟩):=by
  apply propext;constructor<;>intro h<;>cases h<;>rfl
 have k3:(([cx,cy]:List Int) = [ox,oy])=((⟨ox,oy⟩:Cel)=⟨cx,cy⟩):=by
  apply propext;constructor<;>intro h<;>cases h<;>rfl
 have h':∀x y:Int,zc1 [x,y] es=(zml ⟨x,y⟩ ts:Int):=h
 rw[zb6,zb6,zb6]
 simp only[k1,k2,k3,h']
 by_cases a1:(⟨cx,cy⟩:Cel)=⟨x,y⟩
 ·have e3:x=cx∧y=cy:=by cases a1;exact⟨rfl,rfl⟩
  obtain⟨rfl,rfl⟩:=e3
  rw[if_pos rfl]at hs ⊢
  by_cases a2:(⟨ox,oy⟩:Cel)=⟨x,y⟩
  ·have e4:ox=x∧oy=y:=by cases a2;exact⟨rfl,rfl⟩
   obtain⟨rfl,rfl⟩:=e4
   rw[if_pos rfl]at hs ⊢;omega
  ·rw[if_neg a2]at hs
   rw[if_neg a2];omega
 ·rw[if_neg a1]at hs ⊢
  by_cases a2:(⟨ox,oy⟩:Cel)=⟨x,y⟩
  ·have e4:ox=x∧oy=y:=by cases a2;exact⟨rfl,rfl⟩
   obtain⟨rfl,rfl⟩:=e4
   rw[if_pos rfl]at hs ⊢;omega
  ·rw[if_neg a2]at hs ⊢;omega
end Go.Proofs.YtmjbgbmegbkmhaaGreat
namespace Go.Proofs.YtmjbgbmegbkmhaaGreat
set_option linter.all false
open Go.RowKit
set_option maxRecDepth 100000
set_option maxHeartbeats 2000000
abbrev ymh (g:Gop):AV := .agg [I .i64 g.id,I .i64 g.to.x,I .i64 g.to.y]
def zzi (t:Trp) (g:Gop):Bool:=decide (g.id=t.id)
theorem yga (ts:List Trp) (i:Nat) (hi:i<ts.length) (g:Gop):Spec Tryz.prog 133 [ymh g,.ptr 0 0 0] [.blk 265 [.ptr 1 i 0],.row 108 7 (ts.map zaw)] (B (zzi (ts.getD i default) g)) [.blk 265 [.ptr 1 i 0],.row 108 7 (ts.map zaw)]:=by
 refine spB Tryz.func133 11 [.tmp 3] Tryz.results133 ?_
 try refine xz2 (gd hi) za9 ?_
 (try(refine⟨by kernel_rfl,?_⟩))
 try refine xz2 (gd hi) za9 ?_
 refine zby [0,1] rfl rfl (by decide) ⟨?_,?_,trivial⟩ trivial ?_<;>simp(etaStruct := .none)only[push_cast,zab,seval,zzi]
theorem ygz (ts:List Trp) (i:Nat) (hi:i<ts.length)(l:List Gop) (hl:l.length≤1000000):Spec Tryz.prog 132 [.c (.sl 3 (l.map zex)),.clo (.func 133) [] [.ptr 0 0 0]] ([.blk 265 [.ptr 1 i 0],.row 108 7 (ts.map zaw)]) (I .i64 (zj8 (zzi (ts.getD i default)) l)) ([.blk 265 [.ptr 1 i 0],.row 108 7 (ts.map zaw)]):=by
 refine spB Tryz.func132 19 [.tmp 4] Tryz.results132 ?_
 try refine xst ?_
 refine zax (fun k:Nat=>⟨[(8,I .i64 k),(7,I .i64 l.length),(1,.clo (.func 133) [] [.ptr 0 0 0]),(0,.c (.sl 3 (l.map zex)))],[(0,.blk 265 [.ptr 1 i 0]),(1,.row 108 7 (ts.map zaw))],2⟩) (fun k:Nat=>k≤l.length∧∀j (hj:j<l.length),j<k→(zzi (ts.getD i default)) l[j]=false) (fun k:Nat=>l.length-k) (0) (⟨Nat.zero_le _,fun j _ h=>absurd h (Nat.not_lt_zero _)⟩) (To.mk [0,1] rfl rfl (by decide) ?_ ?_) ?_
 ·simp(etaStruct := .none)only[push_cast,zab,seval]
 ·simp(etaStruct := .none)only[push_cast,zab,seval]
 rintro k ⟨hk,hno⟩
 try refine xst ?_
 refine cI (fun h1 => ?_) fun h1 => ?_
 ·have hlt:k<l.length:=by omega
  try refine xz2 (gd hlt) zne ?_
  refine caM [0,1] (yga ts i hi (l.getD k default)) ?_
  try refine xz2 (gd hlt) zne ?_
  refine cI (fun h2 => ?_) fun h2 => ?_
  ·have e:=zd3 (zzi (ts.getD i default)) l k hlt (by rw[←zae l k hlt];exact h2) hno
   rw[e]
   try refine xz2 (gd hlt) zne ?_
   refine zby [0,1] rfl rfl (by decide) ⟨?_,?_,trivial⟩ trivial ?_<;>simp(etaStruct := .none)only[push_cast,zab,seval]
  ·have hno2:∀j (hj:j<l.length),j<k+1→(zzi (ts.getD i default)) l[j]=false:=fun j hj h=>by
    rcases Nat.lt_or_ge j k with h3|h3
    ·exact hno j hj h3
    ·obtain rfl:j=k:=by omega
     rw[←zae l j hj];exact h2
   try refine xz2 (gd hlt) zne ?_
   refine⟨k+1,⟨by omega,hno2⟩,by omega,To.mk [0,1] rfl rfl (by decide) ?_ ?_⟩
   ·(try(refine xz2 (gd hlt) zne ?_;try exact xtI))
   ·(try(refine xz2 (gd hlt) zne ?_;try exact xtI))
 ·have e:=zcw (zzi (ts.getD i default)) l (fun j hj=>hno j hj (by omega))
  rw[e]
  try refine xst ?_
  refine zby [0,1] rfl rfl (by decide) ⟨?_,?_,trivial⟩ trivial ?_<;>simp(etaStruct := .none)only[push_cast,zab,seval]
theorem zwu {l:List Gop} {t:Trp} : (zo2 l t.id=none∧zj8 (zzi t) l = -1)∨∃(g:Gop) (j:Nat),zo2 l t.id=some g∧zj8 (zzi t) l=(j:Int)∧j<l.length∧l.getD j default=g:=by
 cases h:zo2 l t.id with
 | none =>
  refine .inl ⟨rfl,?_⟩
  unfold zo2 at h
  refine zcw _ l fun j hj => ?_
  have:=List.find?_eq_none.1 h _ (List.getElem_mem hj)
  unfold zzi;simpa using this
 | some g =>
  unfold zo2 at h
  obtain⟨j,h1,h2,h3⟩:=yck (p:=zzi t) (l:=l) (x:=g) h
  exact .inr ⟨g,j,rfl,h1,h2,h3⟩
theorem zhk {f:Fld} {WR:Cel→List Int} {l:List Gop} {s:List Trp × List Int} {i:Nat} (h:zp0 f WR l s.1 (s.1.getD i default)=none):zek f WR l s i=s:=by unfold zek;rw[h]
theorem ztj {f:Fld} {WR:Cel→List Int} {l:List Gop} {s:List Trp × List Int} {i:Nat} {c:Cel} (h:zp0 f WR l s.1 (s.1.getD i default)=some c):zek f WR l s i=(s.1.set i (zst (s.1.getD i default) c),s.2 ++ [(s.1.getD i default).id]):=by unfold zek;rw[h]
theorem zxr {f:Fld} {WR:Cel→List Int} {l:List Gop} {ts:List Trp} {t:Trp} {g:Gop} (h:zo2 l t.id=some g):zp0 f WR l ts t=if (zzb f WR t.c g.to).length<2∨(ts.any fun o=>decide (o.c=(zzb f WR t.c g.to).getD 1 default))=true then none else some ((zzb f WR t.c g.to).getD 1 default):=by unfold zp0;rw[h]
theorem yb1 (w:Wld) (l:List Gop) (WR:Cel→List Int) (hWR:∀a,zas w.f [a] (WR a)) (hl:w.f.p.length≤9223372036854775807) (hll:l.length≤1000) (hnt:w.troops.length≤100):Spec Tryz.prog 91 [.agg [I .i64 w.f.w,I .i64 w.f.h,.c (.sl 1 (w.f.p.map zac)),.c (.sl 2 (w.bases.map za3)),.c (.sl 1 (w.stocks.map zac)),.c (.sl 1 (w.mines.map zac)),.own 0,I .i64 w.next,I .i64 w.now],.c (.sl 3 (l.map zex))] [.row 108 7 (w.troops.map zaw)]
 (.c (.sl 1 ((zg6 w.f WR l w.troops).2.map zac))) [.row 108 7 ((zg6 w.f WR l w.troops).1.map zaw)]:=by
 refine spB Tryz.func91 110 [.tmp 4] Tryz.results91 ?_
 (iterate 2((try simp(etaStruct := .none)only[push_cast,seval,zah]);(try(refine xsu ?_;try exact xtI))))
 refine zax (fun x:Nat × List (List Int × Int)=>⟨[(19,I .i64 x.1),(18,I .i64 w.troops.length),(17,.own 0),(5,.map 2),(2,.ptr 1 0 0),(1,.c (.sl 3 (l.map zex)))],[(0,.row 108 7 (w.troops.map zaw)),(1,.blk 28 [I .i64 w.f.w,I .i64 w.f.h,.c (.sl 1 (w.f.p.map zac)),.c (.sl 2 (w.bases.map za3)),.c (.sl 1 (w.stocks.map zac)),.c (.sl 1 (w.mines.map zac)),.own 0,I .i64 w.next,I .i64 w.now]),(2,.mp true 2 x.2)],3⟩) (fun x:Nat × List (List Int × Int)=>x.1≤w.troops.length∧CntM (w.troops.take x.1) x.2) (fun x:Nat × List (List Int × Int)=>w.troops.length-x.1) ((0,[])) (⟨Nat.zero_le _,fun _ _=>rfl⟩) (To.mk [0,1,2] rfl rfl (by decide) ?_ ?_) ?_
 ·simp(etaStruct := .none)only[push_cast,zab,seval]
 ·simp(etaStruct := .none)only[push_cast,zab,seval]
 rintro⟨k,es⟩ ⟨hk,hc⟩
 simp only at hk hc
 (iterate 2((try simp(etaStruct := .none)only[push_cast,seval,zah]);(try(refine xsu ?_;try exact xtI))))
 refine cI (fun h1 => ?_) fun h1 => ?_
 ·have hlt:k<w.troops.length:=by omega
  have hca:=hc.add (w.troops.getD k default)
  rw[←zao _ _ hlt]at hca
  have hcb:=hc (w.troops.getD k default).c.x (w.troops.getD k default).c.y
  have hcl:=zo7 ⟨(w.troops.getD k default).c.x,(w.troops.getD k default).c.y⟩ (w.troops.take k)
  rw[List.length_take]at hcl
  have hmp:=zln [(w.troops.getD k default).c.x,(w.troops.getD k default).c.y] es
  (iterate 2((try simp(etaStruct := .none)only[push_cast,seval,zah,zaa _ _ _ hlt,zaw]);(try(refine xsu ?_;try exact xtI))))
  refine zaz [some 23,some 24,some 25,some 26,some 27,some 28,some 29,none] rfl ?_
  intro Oq lq Rq hlq hdq hRq
  subst hlq
  iterate 8(refine zar fun rq hrq => ?_;(iterate 2((try simp(etaStruct := .none)only[push_cast,seval,hdq,id,zah,zaa _ _ _ hlt,zaw]);(try(refine xsu ?_;try exact xtI))));subst hrq)
  refine zht ?_
  subst hRq
  clear hdq Oq
  refine zhs (by kernel_rfl) ?_
  (iterate 2((try simp(etaStruct := .none)only[push_cast,seval,zah,zaa _ _ _ hlt,zaw]);(try(refine xsu ?_;try exact xtI))))
  refine⟨(k+1,zgq [(w.troops.getD k default).c.x,(w.troops.getD k default).c.y] (zc1 [(w.troops.getD k default).c.x,(w.troops.getD k default).c.y] es+1) es),⟨by simp only;omega,hca⟩,by simp only;omega,To.mk [0,1,2] rfl rfl (by decide) ?_ ?_⟩
  ·(iterate 2((try simp(etaStruct := .none)only[push_cast,seval,zah,zaa _ _ _ hlt,zaw]);(try(refine xsu ?_;try exact xtI))))
  ·(iterate 2((try simp(etaStruct := .none)only[push_cast,seval,zah,zaa _ _ _ hlt,zaw]);(try(refine xsu ?_;try exact xtI))))
 ·obtain rfl:k=w.troops.length:=by omega
  rw[List.take_length]at hc
  (iterate 2((try simp(etaStruct := .none)only[push_cast,seval,zah]);(try(refine xsu ?_;try exact xtI))))
  refine zax (fun x:Nat × List (List Int × Int)=>⟨[(34,I .i64 x.1),(33,I .i64 w.troops.length),(8,.own 3),(5,.map 2),(2,.ptr 1 0 0),(1,.c (.sl 3 (l.map zex)))],[(0,.row 108 7 ((zel w.f WR l w.troops x.1).1.map zaw)),(1,.blk 28 [I .i64 w.f.w,I .i64 w.f.h,.c (.sl 1 (w.f.p.map zac)),.c (.sl 2 (w.bases.map za3)),.c (.sl 1 (w.stocks.map zac)),.c (.sl 1 (w.mines.map zac)),.own 0,I .i64 w.next,I .i64 w.now]),(2,.mp true 2 x.2),(3,.row 3 1 ((zel w.f WR l w.troops x.1).2.map zac))],4⟩) (fun x:Nat × List (List Int × Int)=>x.1≤w.troops.length∧CntM (zel w.f WR l w.troops x.1).1 x.2) (fun x:Nat × List (List Int × Int)=>w.troops.length-x.1) ((0,es)) (⟨Nat.zero_le _,hc⟩) ((To.nil 8 3 1 rfl).trans (To.mk [0,1,2,3] rfl rfl (by decide) ?_ ?_)) ?_
  ·simp(etaStruct := .none)only[push_cast,zab,seval,zls,List.map_nil]
  ·simp(etaStruct := .none)only[push_cast,zab,seval]
  rintro⟨k,em⟩ ⟨hk,hm⟩
  simp only at hk hm
  have hln:=zjd w.f WR l w.troops k
  have hsk:=zhl w.f WR l w.troops k
  obtain⟨S,hS⟩:∃S,S=zel w.f WR l w.troops k:=⟨_,rfl⟩
  rw[←hS]at hm hln hsk
  (iterate 2((try simp(etaStruct := .none)only[push_cast,seval,zah,←hS,hln.1]);(try(refine xsu ?_;try exact xtI))))
  refine cI (fun h2 => ?_) fun h2 => ?_
  ·have hlt:k<S.1.length:=by omega
   (iterate 2((try simp(etaStruct := .none)only[push_cast,seval,zah,←hS,hln.1,zaa _ _ _ hlt,zaw]);(try(refine xsu ?_;try exact xtI))))
   refine caM [4,0] (ygz S.1 k hlt l (by omega)) ?_
   (iterate 2((try simp(etaStruct := .none)only[push_cast,seval,zah,←hS,hln.1,zaa _ _ _ hlt,zaw]);(try(refine xsu ?_;try exact xtI))))
   refine cI (fun h3 => ?_) fun h3 => ?_
   ·have hnone:zo2 l (S.1.getD k default).id=none:=by
     rcases zwu (l:=l) (t:=S.1.getD k default)with ⟨h,_⟩|⟨_,j,_,h,_⟩
     ·exact h
     ·rw[h]at h3;omega
    have hms:zek w.f WR l S k=S:=zhk (by unfold zp0;rw[hnone])
    (iterate 2((try simp(etaStruct := .none)only[push_cast,seval,zah,←hS,hln.1,zaa _ _ _ hlt,zaw]);(try(refine xsu ?_;try exact xtI))))
    refine⟨(k+1,em),⟨by simp only;omega,by simp only;rw[hsk,hms];exact hm⟩,by simp only;omega,To.mk [0,1,2,3] rfl rfl (by decide) ?_ ?_⟩
    ·(try(refine xz2 hsk hms ?_;try exact xtI))
    ·(iterate 2((try simp(etaStruct := .none)only[push_cast,seval,zah,←hS,hln.1,zaa _ _ _ hlt,zaw]);(try(refine xsu ?_;try exact xtI))))
   ·obtain⟨g,j,hg,hj,hjl,hge⟩:∃(g:Gop) (j:Nat),zo2 l (S.1.getD k default).id=some g∧zj8 (zzi (S.1.getD k default)) l=(j:Int)∧j<l.length∧l.getD j default=g:=by
     rcases zwu (l:=l) (t:=S.1.getD k default)with ⟨_,h⟩|h
     ·rw[h]at h3;omega
     ·exact h
    obtain⟨wl,hwl⟩:∃wl,wl=zzb w.f WR (S.1.getD k default).c g.to:=⟨_,rfl⟩
    have hwy:(if zmi (WR (S.1.getD k default).c) w.f (S.1.getD k default).c g.to=0 then yd0 (WR (S.1.getD k default).c) w.f (S.1.getD k default).c g.to else [])=wl:=hwl.symm
    have hst:=zxr (f:=w.f) (WR:=WR) (ts:=S.1) hg
    rw[←hwl]at hst
    rcases Nat.lt_or_ge wl.length 2 with hA|hB
    ·have hms:zek w.f WR l S k=S:=zhk (by rw[hst,if_pos (.inl hA)])
     have hAg:(wl.map za3).getD 1 [] = []:=by rw[List.getD_eq_getElem?_getD,List.getElem?_eq_none (by rw[List.length_map];omega)];rfl
     have hAl:((wl.length:Int)<2)=True:=eq_true (by omega)
     (iterate 2((try simp(etaStruct := .none)only[push_cast,seval,zah,←hS,hln.1,zaa _ _ _ hlt,zaw,hj,zaa _ _ _ hjl,hge,zex]);(try(refine xsu ?_;try exact xtI))))
     refine zaz [some 47,some 48,some 49,some 50,some 51,some 52,some 53,some 54,some 55,some 56,some 57,some 58,some 46,some 59,some 60,some 61,some 12,some 13,some 14] rfl ?_
     intro Oq lq Rq hlq hdq hRq
     subst hlq
     iterate 11(refine zar fun rq hrq => ?_;(iterate 2((try simp(etaStruct := .none)only[push_cast,seval,hdq,id,zah,←hS,hln.1,zaa _ _ _ hlt,zaw,hj,zaa _ _ _ hjl,hge,zex]);(try(refine xsu ?_;try exact xtI))));subst hrq)
     refine zar fun rq hrq => ?_
     (iterate 2((try simp(etaStruct := .none)only[push_cast,seval,hdq,id,zah,←hS,hln.1,zaa _ _ _ hlt,zaw,hj,zaa _ _ _ hjl,hge,zex]);(try(refine xsu ?_;try exact xtI))))
     refine zdt (z05 w.f (S.1.getD k default).c g.to hl (WR (S.1.getD k default).c) (hWR _)) (WkL.refl _) ?_
     rw[hwy]
     (iterate 2((try simp(etaStruct := .none)only[push_cast,seval,hdq,id,zah,←hS,hln.1,zaa _ _ _ hlt,zaw,hj,zaa _ _ _ hjl,hge,zex]);(try(refine xsu ?_;try exact xtI))))
     subst hrq
     iterate 7(refine zar fun rq hrq => ?_;(iterate 2((try simp(etaStruct := .none)only[push_cast,seval,hdq,id,zah,←hS,hln.1,zaa _ _ _ hlt,zaw,hj,zaa _ _ _ hjl,hge,zex]);(try(refine xsu ?_;try exact xtI))));subst hrq)
     refine zht ?_
     subst hRq
     clear hdq Oq
     refine zhs (by kernel_rfl) ?_
     (iterate 2((try simp(etaStruct := .none)only[push_cast,seval,zah,←hS,hln.1,zaa _ _ _ hlt,zaw,hAg,hAl,List.take_nil,List.map_nil]);(try(refine xsu ?_;try exact xtI))))
     refine zay (fun h4 => ?_) (fun h4 => ?_)
     ·(iterate 2((try simp(etaStruct := .none)only[push_cast,seval]);(try(refine xsu ?_;try exact xtI))))
      refine⟨(k+1,em),⟨by simp only;omega,by simp only;rw[hsk,hms];exact hm⟩,by simp only;omega,To.mk [0,1,2,3] rfl rfl (by decide) ?_ ?_⟩
      ·(try(refine xz2 hsk hms ?_;try exact xtI))
      ·(iterate 2((try simp(etaStruct := .none) (maxSteps:=1000000)only[push_cast,zab,seval]);(try(refine xsu ?_;try exact xtI))))
     ·simp at h4
    have hB1:1<wl.length:=by omega
    have hBl:((wl.length:Int)<2)=False:=eq_false (by omega)
    have hE0:zmi (WR (S.1.getD k default).c) w.f (S.1.getD k default).c g.to=0:=by
     rcases Decidable.em (zmi (WR (S.1.getD k default).c) w.f (S.1.getD k default).c g.to=0)with h|h
     ·exact h
     ·rw[hwl]at hB1;unfold zzb at hB1;rw[if_neg h]at hB1;simp at hB1
    have hcm:=hm (wl.getD 1 default).x (wl.getD 1 default).y
    have hcl:=zo7 ⟨(wl.getD 1 default).x,(wl.getD 1 default).y⟩ S.1
    have hanyc:=zw7 ⟨(wl.getD 1 default).x,(wl.getD 1 default).y⟩ S.1
    (iterate 2((try simp(etaStruct := .none)only[push_cast,seval,zah,←hS,hln.1,zaa _ _ _ hlt,zaw,hj,zaa _ _ _ hjl,hge,zex,zaa _ _ _ hB1,za3,hBl,hE0]);(try(refine xsu ?_;try exact xtI))))
    refine zaz [some 47,some 48,some 49,some 50,some 51,some 52,some 53,some 54,some 55,some 56,some 57,some 58,some 46,some 59,some 60,some 61,some 12,some 13,some 14] rfl ?_
    intro Oq lq Rq hlq hdq hRq
    subst hlq
    iterate 11(refine zar fun rq hrq => ?_;(iterate 2((try simp(etaStruct := .none)only[push_cast,seval,hdq,id,zah,←hS,hln.1,zaa _ _ _ hlt,zaw,hj,zaa _ _ _ hjl,hge,zex,zaa _ _ _ hB1,za3,hBl,hE0]);(try(refine xsu ?_;try exact xtI))));subst hrq)
    refine zar fun rq hrq => ?_
    (iterate 2((try simp(etaStruct := .none)only[push_cast,seval,hdq,id,zah,←hS,hln.1,zaa _ _ _ hlt,zaw,hj,zaa _ _ _ hjl,hge,zex,zaa _ _ _ hB1,za3,hBl,hE0]);(try(refine xsu ?_;try exact xtI))))
    refine caP (z05 w.f (S.1.getD k default).c g.to hl (WR (S.1.getD k default).c) (hWR _)) ?_
    rw[hwy]
    (iterate 2((try simp(etaStruct := .none)only[push_cast,seval,hdq,id,zah,←hS,hln.1,zaa _ _ _ hlt,zaw,hj,zaa _ _ _ hjl,hge,zex,zaa _ _ _ hB1,za3,hBl,hE0]);(try(refine xsu ?_;try exact xtI))))
    subst hrq
    iterate 7(refine zar fun rq hrq => ?_;(iterate 2((try simp(etaStruct := .none)only[push_cast,seval,hdq,id,zah,←hS,hln.1,zaa _ _ _ hlt,zaw,hj,zaa _ _ _ hjl,hge,zex,zaa _ _ _ hB1,za3,hBl,hE0]);(try(refine xsu ?_;try exact xtI))));subst hrq)
    refine zht ?_
    subst hRq
    clear hdq Oq
    refine zhs (by kernel_rfl) ?_
    (iterate 2((try simp(etaStruct := .none)only[push_cast,seval,zah,←hS,hln.1,zaa _ _ _ hlt,zaw,hj,zaa _ _ _ hjl,hge,zex,zaa _ _ _ hB1,za3,hBl,hE0]);(try(refine xsu ?_;try exact xtI))))
    refine cI (fun h4 => ?_) fun h4 => ?_
    ·have hms:zek w.f WR l S k=S:=zhk (by rw[hst,if_pos (.inr (hanyc.1 (by omega)))])
     (iterate 2((try simp(etaStruct := .none)only[push_cast,seval,zah,←hS,hln.1,zaa _ _ _ hlt,zaw,hj,zaa _ _ _ hjl,hge,zex,zaa _ _ _ hB1,za3,hBl,hE0]);(try(refine xsu ?_;try exact xtI))))
     refine⟨(k+1,em),⟨by simp only;omega,by simp only;rw[hsk,hms];exact hm⟩,by simp only;omega,To.mk [0,1,2,3] rfl rfl (by decide) ?_ ?_⟩
     ·(try(refine xz2 hsk hms ?_;try exact xtI))
     ·(iterate 2((try simp(etaStruct := .none)only[push_cast,seval,zah,←hS,hln.1,zaa _ _ _ hlt,zaw,hj,zaa _ _ _ hjl,hge,zex,zaa _ _ _ hB1,za3,hBl,hE0]);(try(refine xsu ?_;try exact xtI))))
    ·have hno:¬(S.1.any fun o=>decide (o.c=(wl.getD 1 default)))=true:=fun h=>by have:=hanyc.2 h;omega
     have hms:zek w.f WR l S k=(S.1.set k (zst (S.1.getD k default) (wl.getD 1 default)),S.2 ++ [(S.1.getD k default).id]):=ztj (by rw[hst,if_neg (fun h=>by rcases h with h|h;omega;exact hno h)])
     have hmv:=hm.move hlt (wl.getD 1 default)
     have hmp1:=zln [(S.1.getD k default).c.x,(S.1.getD k default).c.y] em
     have hc1:=hm (S.1.getD k default).c.x (S.1.getD k default).c.y
     have hcl1:=zo7 ⟨(S.1.getD k default).c.x,(S.1.getD k default).c.y⟩ S.1
     have hmp2:=zln [(wl.getD 1 default).x,(wl.getD 1 default).y] (zgq [(S.1.getD k default).c.x,(S.1.getD k default).c.y] (zc1 [(S.1.getD k default).c.x,(S.1.getD k default).c.y] em-1) em)
     have hb2 : -1≤zc1 [(wl.getD 1 default).x,(wl.getD 1 default).y] (zgq [(S.1.getD k default).c.x,(S.1.getD k default).c.y] (zc1 [(S.1.getD k default).c.x,(S.1.getD k default).c.y] em-1) em)∧zc1 [(wl.getD 1 default).x,(wl.getD 1 default).y] (zgq [(S.1.getD k default).c.x,(S.1.getD k default).c.y] (zc1 [(S.1.getD k default).c.x,(S.1.getD k default).c.y] em-1) em)≤100:=by
      rw[zb6];split<;>omega
     have hgs:∀x:List PV,((S.1.map zaw).set k x).getD k []=x:=fun x=>by
      rw[List.getD_eq_getElem?_getD,List.getElem?_set_self (by rw[List.length_map];exact hlt)];rfl
     (iterate 2((try simp(etaStruct := .none)only[push_cast,seval,zah,←hS,hln.1,zaa _ _ _ hlt,zaw,hj,zaa _ _ _ hjl,hge,zex,zaa _ _ _ hB1,za3,hBl,hE0,hgs,List.length_set,List.set_set]);(try(refine xsu ?_;try exact xtI))))
     refine zaz [some 77,some 78,some 79,some 80,some 81,some 82,some 83,some 84,some 85,none] rfl ?_
     intro Oq lq Rq hlq hdq hRq
     subst hlq
     iterate 10(refine zar fun rq hrq => ?_;(iterate 2((try simp(etaStruct := .none)only[push_cast,seval,hdq,id,zah,←hS,hln.1,zaa _ _ _ hlt,zaw,hj,zaa _ _ _ hjl,hge,zex,zaa _ _ _ hB1,za3,hBl,hE0,hgs,List.length_set,List.set_set]);(try(refine xsu ?_;try exact xtI))));subst hrq)
     refine zht ?_
     subst hRq
     clear hdq Oq
     refine zhs (by kernel_rfl) ?_
     (iterate 2((try simp(etaStruct := .none)only[push_cast,seval,zah,←hS,hln.1,zaa _ _ _ hlt,zaw,hj,zaa _ _ _ hjl,hge,zex,zaa _ _ _ hB1,za3,hBl,hE0,hgs,List.length_set,List.set_set]);(try(refine xsu ?_;try exact xtI))))
     refine zaz [some 86,some 87,some 88,some 89,some 90,some 91,none] rfl ?_
     intro Oq lq Rq hlq hdq hRq
     subst hlq
     iterate 7(refine zar fun rq hrq => ?_;(iterate 2((try simp(etaStruct := .none)only[push_cast,seval,hdq,id,zah,←hS,hln.1,zaa _ _ _ hlt,zaw,hj,zaa _ _ _ hjl,hge,zex,zaa _ _ _ hB1,za3,hBl,hE0,hgs,List.length_set,List.set_set]);(try(refine xsu ?_;try exact xtI))));subst hrq)
     refine zht ?_
     subst hRq
     clear hdq Oq
     refine zhs (by kernel_rfl) ?_
     (iterate 2((try simp(etaStruct := .none)only[push_cast,seval,zah,←hS,hln.1,zaa _ _ _ hlt,zaw,hj,zaa _ _ _ hjl,hge,zex,zaa _ _ _ hB1,za3,hBl,hE0,hgs,List.length_set,List.set_set]);(try(refine xsu ?_;try exact xtI))))
     refine zaz [some 92,some 93,some 94,some 95,some 96,some 97,some 98,some 99,some 100,none] rfl ?_
     intro Oq lq Rq hlq hdq hRq
     subst hlq
     iterate 10(refine zar fun rq hrq => ?_;(iterate 2((try simp(etaStruct := .none)only[push_cast,seval,hdq,id,zah,←hS,hln.1,zaa _ _ _ hlt,zaw,hj,zaa _ _ _ hjl,hge,zex,zaa _ _ _ hB1,za3,hBl,hE0,hgs,List.length_set,List.set_set]);(try(refine xsu ?_;try exact xtI))));subst hrq)
     refine zht ?_
     subst hRq
     clear hdq Oq
     refine zhs (by kernel_rfl) ?_
     (iterate 2((try simp(etaStruct := .none)only[push_cast,seval,zah,←hS,hln.1,zaa _ _ _ hlt,zaw,hj,zaa _ _ _ hjl,hge,zex,zaa _ _ _ hB1,za3,hBl,hE0,hgs,List.length_set,List.set_set]);(try(refine xsu ?_;try exact xtI))))
     refine⟨(k+1,zgq [(wl.getD 1 default).x,(wl.getD 1 default).y] (zc1 [(wl.getD 1 default).x,(wl.getD 1 default).y] (zgq [(S.1.getD k default).c.x,(S.1.getD k default).c.y] (zc1 [(S.1.getD k default).c.x,(S.1.getD k default).c.y] em-1) em)+1) (zgq [(S.1.getD k default).c.x,(S.1.getD k default).c.y] (zc1 [(S.1.getD k default).c.x,(S.1.getD k default).c.y] em-1) em)),⟨by simp only;omega,by simp only;rw[hsk,hms];exact hmv⟩,by simp only;omega,To.mk [0,1,2,190] rfl rfl (by decide) ?_ ?_⟩
     ·(iterate 2((try simp(etaStruct := .none)only[push_cast,zab,seval,hsk,hms,List.map_set,List.map_append,zaw,zst,zac]);(try(refine xsu ?_;try exact xtI))))
     ·(iterate 2((try simp(etaStruct := .none)only[push_cast,seval,zah,←hS,hln.1,zaa _ _ _ hlt,zaw,hj,zaa _ _ _ hjl,hge,zex,zaa _ _ _ hB1,za3,hBl,hE0,hgs,List.length_set,List.set_set]);(try(refine xsu ?_;try exact xtI))))
  ·obtain rfl:k=w.troops.length:=by omega
   have hmv:zg6 w.f WR l w.troops=S:=hS.symm
   (iterate 2((try simp(etaStruct := .none)only[push_cast,seval,zah,←hS,hln.1]);(try(refine xsu ?_;try exact xtI))))
   refine zby [0] rfl rfl (by decide) ⟨?_,trivial⟩ trivial ?_<;>simp(etaStruct := .none)only[push_cast,zab,seval,hmv]
end Go.Proofs.YtmjbgbmegbkmhaaGreat
namespace Go.Proofs.YtmjbgbmegbkmhaaGreat
set_option linter.all false
open Go.RowKit
set_option maxRecDepth 100000
structure Right (w : Wld) : Prop where
 f:zbv w.f=0
 nb:w.bases.length≤8
 nt:w.troops.length≤100
 sl:w.stocks.length=w.bases.length
 ml:w.mines.length=w.f.p.length
 nx:1≤w.next∧w.next≤1000000
 nw:0≤w.now∧w.now≤1000000
 base:∀i,i<w.bases.length→zb2 w.f (w.bases.getD i default)=true∧(0≤w.stocks.getD i default∧w.stocks.getD i default≤1000000)∧∀j,j<i→w.bases.getD j default≠w.bases.getD i default
 mine:∀i,i<w.mines.length→(0≤w.mines.getD i default∧w.mines.getD i default≤1000000)∧(w.mines.getD i default=0∨w.f.p.getD i default=3)
 trp:∀k,k<w.troops.length→TrpOk w (w.troops.getD k default)
 ord:∀j k,j<k→k<w.troops.length→(w.troops.getD j default).id<(w.troops.getD k default).id∧(w.troops.getD j default).c≠(w.troops.getD k default).c
theorem zdg {w:Wld} (h:zal w=0):Right w:=by
 obtain⟨h1,h2,h3,h4,h5⟩:=zdi h
 obtain⟨g1,g2,g3,g4⟩:=zkr h4
 unfold zhy at h5
 simp only[Bool.and_eq_true]at h5
 obtain⟨⟨b1,b2⟩,b3⟩:=h5
 rw[zbb]at b1 b2 b3
 refine⟨h1,h2,h3,g1,g2,g3,g4,fun i hi => ?_,fun i hi => ?_,fun k hk=>(zfe h hk).1,fun j k hjk hk => ?_⟩
 ·have:=b1 i hi
  unfold zmv at this
  simp only[Bool.and_eq_true,within_iff]at this
  obtain⟨⟨a1,a2⟩,a3⟩:=this
  rw[zbb]at a3
  exact⟨a1,a2,fun j hj=>by have:=a3 j hj;simpa using this⟩
 ·have:=b2 i hi
  unfold zmp at this
  simp only[Bool.and_eq_true,Bool.or_eq_true,within_iff,decide_eq_true_eq]at this
  exact this
 ·have h6:=(zfe h hk).2
  unfold z8i at h6
  have:=(zbb _ _).1 h6 j hjk
  simp only[Bool.and_eq_true,decide_eq_true_eq,Bool.not_eq_true',decide_eq_false_iff_not]at this
  exact this
theorem Right.e {w:Wld} (h:Right w):zal w=0:=by
 have hb:¬(8<w.bases.length∨100<w.troops.length):=by have:=h.nb;have:=h.nt;omega
 refine zsf h.f hb ?_ ?_
 ·unfold zjs
  rw[decide_eq_true h.sl,decide_eq_true h.ml,(within_iff).2 h.nx,(within_iff).2 h.nw];rfl
 ·unfold zhy
  rw[Bool.and_eq_true,Bool.and_eq_true,zbb,zbb,zbb]
  refine⟨⟨fun i hi => ?_,fun i hi => ?_⟩,fun i hi => ?_⟩
  ·obtain⟨a1,a2,a3⟩:=h.base i hi
   unfold zmv
   rw[a1,(within_iff).2 a2,Bool.true_and,Bool.true_and,zbb]
   intro j hj
   rw[decide_eq_false (a3 j hj)];rfl
  ·obtain⟨a1,a2⟩:=h.mine i hi
   unfold zmp
   rw[(within_iff).2 a1,Bool.true_and,Bool.or_eq_true,decide_eq_true_eq,decide_eq_true_eq];exact a2
  ·have ok:=h.trp i hi
   unfold ze3 yd2 z8i
   rw[(within_iff).2 (by rcases ok.kind with e|e<;>omega),(within_iff).2 ok.id,(within_iff).2 ok.owner,ok.at_,(within_iff).2 ok.life,(within_iff).2 ok.load,Bool.true_and,Bool.true_and,Bool.true_and,Bool.true_and,Bool.true_and,Bool.true_and,zbb]
   intro j hj
   obtain⟨c1,c2⟩:=h.ord j i hj hi
   rw[decide_eq_true c1,decide_eq_false c2];rfl
theorem Right.l {w:Wld} (h:Right w):zfw w:=by
 obtain⟨⟨f1,f2⟩,⟨f3,f4⟩,f5,f6⟩:=zbi h.f
 have hm:w.f.w*w.f.h≤40*40:=Int.mul_le_mul f2 f4 (by omega) (by omega)
 have a1:=h.nb;have a2:=h.nt;have a3:=h.sl;have a4:=h.ml
 unfold zfw;omega
theorem Right.places {w:Wld} (h:Right w):w.f.p.length≤1600:=by
 obtain⟨⟨f1,f2⟩,⟨f3,f4⟩,f5,f6⟩:=zbi h.f
 have hm:w.f.w*w.f.h≤40*40:=Int.mul_le_mul f2 f4 (by omega) (by omega)
 omega
theorem zhz {w:Wld} {t:Trp} (hk:t.kind=1∨t.kind=2) (hi:1≤t.id∧t.id≤w.next-1) (ho:0≤t.owner∧t.owner≤(w.bases.length:Int)-1) (hg:zb2 w.f t.c=true) (hl:1≤t.life∧t.life≤(zbc t.kind).life) (hd:0≤t.load∧t.load≤5*(2-t.kind)):TrpOk w t:=by
 have h:=inF_iff.1 (ground_iff.1 hg).1
 exact⟨hk,hi,ho,hg,h.1,h.2,hl,hd⟩
theorem zim {α : Type} [Inhabited α] {l:List α} {i:Nat} (v : α) (p:Nat) (hi:i<l.length):(l.set i v).getD p default=if p=i then v else l.getD p default:=by
 by_cases h:p=i
 ·subst h;rw[if_pos rfl,zae _ _ (by simpa using hi)];simp
 ·rw[if_neg h]
  simp only[List.getD_eq_getElem?_getD,List.getElem?_set,if_neg (Ne.symm h)]
theorem zu2 {α : Type} [Inhabited α] (l:List α) (i:Nat) (hi:i<l.length):l.set i (l.getD i default)=l:=by
 refine List.ext_getElem (by simp) fun j h1 h2 => ?_
 rw[List.getElem_set]
 split
 ·rename_i h;subst h;rw[zae _ _ hi]
 ·rfl
theorem zqj {w:Wld} (h:Right w) (l:List Blw) (hb:∀id,0≤zf3 w l id):Right (zer w l):=by
 have hsub:(zih w l).length≤w.troops.length:=by
  have:=List.length_filter_le (fun t:Trp=>decide (0<t.life)) (w.troops.map (zdu w l))
  rw[List.length_map]at this;exact this
 have hp:(zih w l).Pairwise fun a b=>a.id<b.id∧a.c≠b.c:=by
  refine List.Pairwise.filter _ ?_
  rw[List.pairwise_map,List.pairwise_iff_getElem]
  intro i j hi hj hij
  have:=h.ord i j hij hj
  rw[zae _ _ hi,zae _ _ hj]at this
  exact this
 refine⟨h.f,h.nb,Nat.le_trans hsub h.nt,h.sl,h.ml,h.nx,h.nw,h.base,h.mine,fun k hk => ?_,fun j k hjk hk => ?_⟩
 ·have hk':k<(zih w l).length:=hk
  have hm:=za0 _ _ hk'
  obtain⟨h1,h2⟩:=List.mem_filter.1 hm
  obtain⟨t,ht,e⟩:=List.mem_map.1 h1
  obtain⟨q,hq,e2⟩:=mem_getD.1 ht
  have ok:=h.trp q hq
  rw[e2]at ok
  change TrpOk (zer w l) ((zih w l).getD k default)
  rw[←e]at h2 ⊢
  rw[decide_eq_true_eq]at h2
  have hh:=hb t.id
  have hlf:=ok.life
  refine zhz ok.kind ok.id ok.owner ok.at_ ⟨by omega,?_⟩ ok.load
  change t.life-zf3 w l t.id≤(zbc t.kind).life
  omega
 ·have hj:j<(zih w l).length:=Nat.lt_trans hjk hk
  have:=List.pairwise_iff_getElem.1 hp j k hj hk hjk
  change ((zih w l).getD j default).id<((zih w l).getD k default).id∧((zih w l).getD j default).c≠((zih w l).getD k default).c
  rw[zae (zih w l) _ hj,zae (zih w l) _ hk];exact this
end Go.Proofs.YtmjbgbmegbkmhaaGreat
namespace Go.Proofs.YtmjbgbmegbkmhaaGreat
set_option linter.all false
open Go.RowKit
set_option maxRecDepth 100000
set_option maxHeartbeats 2000000
def z4g (w:Wld) (ts:List Trp):Wld:={ w with troops:=ts }
abbrev yla (w:Wld) (t:AV):List AV := [I .i64 w.f.w,I .i64 w.f.h,.c (.sl 1 (w.f.p.map zac)),.c (.sl 2 (w.bases.map za3)),.c (.sl 1 (w.stocks.map zac)),.c (.sl 1 (w.mines.map zac)),t,I .i64 w.next,I .i64 w.now]
theorem yf8 (w:Wld) (hb:w.f.p.length≤1600∧w.bases.length≤8∧w.stocks.length≤8∧w.mines.length≤1600∧w.troops.length≤100):Spec Tryz.prog 90 [zcy w] [] (.agg (yla w (.own 0))) [.row 108 7 (w.troops.map zaw)]:=by
 refine spB Tryz.func90 26 [.cell 2 28] Tryz.results90 ?_
 try refine xst ?_
 refine caM [] (zgd w.f.p (by omega)) ?_
 try refine xst ?_
 refine caM [] (z3r w.bases (by omega)) ?_
 try refine xst ?_
 refine caM [] (zgd w.stocks (by omega)) ?_
 try refine xst ?_
 (try(refine⟨by kernel_rfl,?_⟩))
 try refine xst ?_
 refine caM [] (zgd w.mines (by omega)) ?_
 try refine xst ?_
 refine caM [] (zpr w.troops (by omega)) ?_
 try refine xst ?_
 (try(refine⟨by kernel_rfl,?_⟩))
 try refine xst ?_
 refine zby [63] rfl rfl (by decide) ⟨?_,trivial⟩ ⟨rfl,trivial⟩ (Wk.of ?_)
 ·simp(etaStruct := .none)only[push_cast,zab,seval]
 ·first|rfl|kernel_rfl
def zk3 (w:Wld) (l:List Gop):Int:=if zal w≠0 then zal w else if 200<l.length then 2 else 0
theorem ya4 {w:Wld} (hw:Right w):w.f.p.length≤1600∧w.bases.length≤8∧w.stocks.length≤8∧w.mines.length≤1600∧w.troops.length≤100:=by
 have hfo:=zbi hw.f
 have hm2:w.f.w*w.f.h≤40*40:=Int.mul_le_mul hfo.1.2 hfo.2.1.2 (by omega) (by omega)
 have h1:=hw.nb
 have h2:=hw.sl
 have h3:=hw.ml
 have h4:=hw.nt
 omega
theorem z6g (w:Wld) (l:List Gop) (WR:Cel→List Int) (hWR:∀a,zas w.f [a] (WR a)) (hl:zfw w) (hll:l.length≤9223372036854775807):Spec Tryz.prog 48 [zcy w,.c (.sl 3 (l.map zex))] [] (.tup [zcy (if zk3 w l=0 then z4g w (zg6 w.f WR l w.troops).1 else default),.c (.sl 1 ((if zk3 w l=0 then (zg6 w.f WR l w.troops).2 else []).map zac)),I .i64 (zk3 w l)]) []:=by
 refine spB Tryz.func48 26 [.cell 4 28,.tmp 5,.tmp 6] Tryz.results48 ?_
 try refine xst ?_
 refine caP (zdf w hl) ?_
 try refine xst ?_
 refine cI (fun h1 => ?_) fun h1 => ?_
 ·have e:zk3 w l=zal w:=by unfold zk3;rw[if_pos h1]
  rw[e,if_neg h1,if_neg h1]
  try refine xst ?_
  exact xrz rfl
 ·have hw:=zdg h1
  try refine xst ?_
  refine cI (fun h2 => ?_) fun h2 => ?_
  ·have e:zk3 w l=2:=by unfold zk3;rw[if_neg (by simp[h1]),if_pos (by omega)]
   rw[e,if_neg (by decide),if_neg (by decide)]
   try refine xst ?_
   exact xrz rfl
  ·have e:zk3 w l=0:=by unfold zk3;rw[if_neg (by simp[h1]),if_neg (by omega)]
   rw[e,if_pos rfl,if_pos rfl]
   have hb:=ya4 hw
   try refine xst ?_
   refine caM [] (yf8 w hb) ?_
   try refine xst ?_
   refine caM [2] (yb1 w l WR hWR (by omega) (by omega) (by omega)) ?_
   try refine xst ?_
   refine zb0 rfl (by repeat' (first|exact trivial|exact rfl|refine⟨?_,?_⟩)) (Wk.of ?_)
   first|rfl|kernel_rfl
end Go.Proofs.YtmjbgbmegbkmhaaGreat
namespace Go.Proofs.YtmjbgbmegbkmhaaGreat
set_option linter.all false
open Go.RowKit
set_option maxRecDepth 100000
theorem zks {f:Fld} {a b:Cel} {R:List Int} {W H:Nat} (s:Srch f a b R W H) (hf:zbv f=0) (ha:inF f a=true) (hpa:zai f a≠1):∀(N:Nat) (c:Cel),inF f c=true→0≤R.getD (zam f c) default→∀x∈zzo R f a N c,zb2 f x=true
 | 0,c,_,_,x,hx=>by unfold zzo at hx;cases hx
 | N+1,c,hc,h0,x,hx=>by
  unfold zzo at hx
  by_cases hca:c=a
  ·rw[if_pos hca]at hx;cases hx
  ·rw[if_neg hca]at hx
   obtain⟨_,_,h3,_,h5,_⟩:=z1m s.w s.h s.w0 hf s.l s.r ha hc hca h0
   rcases List.mem_cons.1 hx with e|hx
   ·rw[e,ground_iff]
    refine⟨h3,?_⟩
    obtain⟨en,hnL⟩:=zbf s.w s.h s.w0 hf h3
    rcases s.r.why _ hnL h5 with ⟨w1,_⟩|⟨_,_,_,hr,_⟩
    ·rw[List.mem_singleton]at w1
     have epl:∀n,zai f n=f.p.getD (zam f n) default:=fun _=>rfl
     rw[epl,w1];exact hpa
    ·exact hr
   ·exact zks s hf ha hpa N _ h3 h5 x hx
theorem zsi {f:Fld} {WR:Cel→List Int} (hWR:∀a,zas f [a] (WR a)) {a b x:Cel} (hx:x∈zzb f WR a b):zb2 f x=true:=by
 unfold zzb at hx
 by_cases he:zmi (WR a) f a b=0
 ·rw[if_pos he]at hx
  unfold zmi at he
  by_cases hf:zbv f=0
  ·rw[if_neg (by simpa using hf)]at he
   by_cases hi:inF f a=true∧inF f b=true
   ·rw[if_neg (by simpa using hi)]at he
    by_cases hp:zai f a=1∨zai f b=1
    ·rw[if_pos hp]at he;exact absurd he (by decide)
    ·rw[if_neg hp]at he
     by_cases hr:(WR a).getD (zam f b) default<0
     ·rw[if_pos hr]at he;exact absurd he (by decide)
     ·have hpa:zai f a≠1:=fun h=>hp (Or.inl h)
      have hpb:zai f b≠1:=fun h=>hp (Or.inr h)
      obtain⟨W,H,s⟩:=yhy (b:=b) hf hi.1 hpa (hWR a)
      unfold yd0 at hx
      rw[List.mem_reverse]at hx
      rcases List.mem_cons.1 hx with e|hx
      ·rw[e];exact ground_iff.2 ⟨hi.2,hpb⟩
      ·exact zks s hf hi.1 hpa _ b hi.2 (by omega) x hx
   ·rw[if_pos hi]at he;exact absurd he (by decide)
  ·rw[if_pos hf]at he;exact absurd he hf
 ·rw[if_neg he]at hx;cases hx
theorem zpz {f:Fld} {WR:Cel→List Int} (hWR:∀a,zas f [a] (WR a)) {l:List Gop} {ts:List Trp} {t:Trp} {c:Cel} (h:zp0 f WR l ts t=some c):zb2 f c=true∧(ts.any fun o=>decide (o.c=c))=false:=by
 unfold zp0 at h
 split at h
 ·cases h
 ·rename_i g _
  split at h
  ·cases h
  ·rename_i hn
   cases h
   have h1:1<(zzb f WR t.c g.to).length:=by omega
   refine⟨zsi hWR (za0 _ _ h1),?_⟩
   cases e:ts.any fun o=>decide (o.c=(zzb f WR t.c g.to).getD 1 default)with
   | false=>rfl
   | true=>exact absurd (Or.inr e) hn
theorem zx0 {w:Wld} (h:Right w) {i:Nat} (hi:i<w.troops.length) {c:Cel} (hg:zb2 w.f c=true) (hn:(w.troops.any fun o=>decide (o.c=c))=false):Right (z4g w (w.troops.set i (zst (w.troops.getD i default) c))):=by
 have G:=fun p=>zim (zst (w.troops.getD i default) c) p hi
 have hno:∀k,k<w.troops.length→(w.troops.getD k default).c≠c:=fun k hk e=>by
  have:=List.any_eq_false.1 hn _ (za0 _ _ hk)
  rw[e]at this;simp at this
 refine⟨h.f,h.nb,by simpa[z4g]using h.nt,h.sl,h.ml,h.nx,h.nw,h.base,h.mine,fun k hk => ?_,fun j k hjk hk => ?_⟩
 ·have hk':k<w.troops.length:=by simpa[z4g]using hk
  have e:∀t,TrpOk w t→TrpOk (z4g w (w.troops.set i (zst (w.troops.getD i default) c))) t:=fun t ht=>⟨ht.kind,ht.id,ht.owner,ht.at_,ht.x,ht.y,ht.life,ht.load⟩
  have G':=G k
  change TrpOk _ ((w.troops.set i (zst (w.troops.getD i default) c)).getD k default)
  rw[G']
  split
  ·have ok:=h.trp i hi
   exact e _ (zhz ok.kind ok.id ok.owner hg ok.life ok.load)
  ·exact e _ (h.trp k hk')
 ·have hk':k<w.troops.length:=by simpa[z4g]using hk
  have hj':j<w.troops.length:=Nat.lt_trans hjk hk'
  have:=h.ord j k hjk hk'
  change ((w.troops.set i (zst (w.troops.getD i default) c)).getD j default).id<((w.troops.set i (zst (w.troops.getD i default) c)).getD k default).id∧((w.troops.set i (zst (w.troops.getD i default) c)).getD j default).c≠((w.troops.set i (zst (w.troops.getD i default) c)).getD k default).c
  rw[G j,G k]
  by_cases e1:j=i
  ·have e2:k≠i:=by omega
   rw[if_pos e1,if_neg e2]
   subst e1
   exact⟨this.1,fun e=>hno k hk' e.symm⟩
  ·rw[if_neg e1]
   by_cases e2:k=i
   ·rw[if_pos e2]
    subst e2
    exact⟨this.1,fun e=>hno j hj' e⟩
   ·rw[if_neg e2];exact this
theorem zjv {w:Wld} (h:Right w) {WR:Cel→List Int} (hWR:∀a,zas w.f [a] (WR a)) (l:List Gop):∀k,k≤w.troops.length→Right (z4g w (zel w.f WR l w.troops k).1)
 | 0,_=>by rw[zls];exact h
 | k+1,hk=>by
  have ih:=zjv h hWR l k (by omega)
  have hlen:=(zjd w.f WR l w.troops k).1
  rw[zhl]
  unfold zek
  split
  ·exact ih
  ·rename_i c hs
   obtain⟨g1,g2⟩:=zpz hWR hs
   exact zx0 ih (i:=k) (by change k<(zel w.f WR l w.troops k).1.length;omega) g1 g2
theorem zn6 {w:Wld} (h:Right w) {WR:Cel→List Int} (hWR:∀a,zas w.f [a] (WR a)) (l:List Gop):Right (z4g w (zg6 w.f WR l w.troops).1):=zjv h hWR l _ (Nat.le_refl _)
structure HitInv (w : Wld) (m : List Blw) (harm : List Int) (done : List Bool) : Prop where
 l1:harm.length=w.troops.length
 l2:done.length=w.troops.length
 val:∀j,j<w.troops.length→harm.getD j default=zf3 w m (w.troops.getD j default).id
 low:∀j,j<w.troops.length→0≤harm.getD j default∧harm.getD j default≤4*m.length
 did:∀j,j<w.troops.length→done.getD j default=m.any (zl3 w (w.troops.getD j default))
theorem HitInv.start (w:Wld):HitInv w [] (List.replicate w.troops.length 0) (List.replicate w.troops.length false):=by
 have g:∀j,j<w.troops.length→(List.replicate w.troops.length (0:Int)).getD j default=0:=fun j hj=>by rw[zae _ _ (by simpa using hj)];simp
 have g2:∀j,j<w.troops.length→(List.replicate w.troops.length false).getD j default=false:=fun j hj=>by rw[zae _ _ (by simpa using hj)];simp
 exact⟨by simp,by simp,fun j hj=>by rw[g j hj,zwf],fun j hj=>by rw[g j hj];simp,fun j hj=>by rw[g2 j hj];rfl⟩
theorem HitInv.skip {w:Wld} (hu:Ups w) {m:List Blw} {harm:List Int} {done:List Bool} (h:HitInv w m harm done) (b:Blw) (hs:zmt w b=false∨∃i,i<w.troops.length∧(w.troops.getD i default).id=b.by_∧done.getD i default=true):HitInv w (m ++ [b]) harm done:=by
 have hs':zmt w b=false∨∃i,i<w.troops.length∧(w.troops.getD i default).id=b.by_∧m.any (zl3 w (w.troops.getD i default))=true:=by
  rcases hs with hs|⟨i,hi,e,hd⟩
  ·exact .inl hs
  ·exact .inr ⟨i,hi,e,by rw[←h.did i hi];exact hd⟩
 refine⟨h.l1,h.l2,fun j hj=>by rw[z2r hu _ _ _ hs'];exact h.val j hj,fun j hj => ?_,fun j hj => ?_⟩
 ·have:=h.low j hj
  rw[List.length_append];simp only[List.length_cons,List.length_nil];omega
 ·rw[List.any_append,h.did j hj]
  simp only[List.any_cons,List.any_nil,Bool.or_false]
  cases hp:zl3 w (w.troops.getD j default) b with
  | false=>rw[Bool.or_false]
  | true =>
   rw[Bool.or_true]
   unfold zl3 at hp
   simp only[Bool.and_eq_true,decide_eq_true_eq]at hp
   rcases hs' with hs|⟨i,hi,e,hd⟩
   ·rw[hs]at hp;simp at hp
   ·by_cases hij:i=j
    ·subst hij;exact hd
    ·exact absurd (e.trans hp.1) (hu.ne hi hj hij)
theorem HitInv.go {w:Wld} (hu:Ups w) {m:List Blw} {harm:List Int} {done:List Bool} (h:HitInv w m harm done) {b:Blw} (hb:zmt w b=true) {i j:Nat} (hi:i<w.troops.length) (hj:j<w.troops.length) (ei:(w.troops.getD i default).id=b.by_) (ej:(w.troops.getD j default).id=b.at_) (hd:done.getD i default=false) :
 HitInv w (m ++ [b]) (harm.set j (harm.getD j default+(zbc (w.troops.getD i default).kind).load)) (done.set i true):=by
 have hn:m.any (zl3 w (w.troops.getD i default))=false:=by rw[←h.did i hi];exact hd
 have hk:=zly (w.troops.getD i default).kind
 refine⟨by rw[List.length_set];exact h.l1,by rw[List.length_set];exact h.l2,fun q hq => ?_,fun q hq => ?_,fun q hq => ?_⟩
 ·rw[ye3 _ _ (by rw[h.l1];exact hj),z2q hu _ _ _ hb hi ei hn]
  by_cases e:q=j
  ·subst e
   rw[if_pos rfl,if_pos ej.symm,h.val q hq]
  ·rw[if_neg e,if_neg (fun e2=>hu.ne hq hj e (e2.symm.trans ej.symm)),h.val q hq,Int.add_zero]
 ·rw[ye3 _ _ (by rw[h.l1];exact hj),List.length_append]
  have h1:=h.low q hq
  have h2:=h.low j hj
  simp only[List.length_cons,List.length_nil]
  split<;>omega
 ·rw[yjs _ _ (by rw[h.l2];exact hi),List.any_append]
  simp only[List.any_cons,List.any_nil,Bool.or_false]
  by_cases e:q=i
  ·subst e
   rw[if_pos rfl,show zl3 w (w.troops.getD q default) b=true by unfold zl3;rw[hb,ei];simp,Bool.or_true]
  ·rw[if_neg e,h.did q hq,show zl3 w (w.troops.getD q default) b=false by
    unfold zl3;rw[decide_eq_false (fun e2=>hu.ne hq hi e (e2.symm.trans ei.symm))];rfl,Bool.or_false]
section
variable {w : Wld} {b : Blw} {i j : Nat} {p q : Bool}
theorem z7y (h1:p=(zdd w b.by_).isSome) (h2:(zdd w b.by_).isSome=true→(w.troops.getD i default).id=b.by_∧(zdd w b.by_).getD z8j=w.troops.getD i default)
 (h3:q=(zdd w b.at_).isSome) (h4:(zdd w b.at_).isSome=true→(w.troops.getD j default).id=b.at_∧(zdd w b.at_).getD z8j=w.troops.getD j default) (hp:p=true) (hq:q=true) (hc:zj3 w (w.troops.getD i default) (w.troops.getD j default)=true) :
 zmt w b=true∧(w.troops.getD i default).id=b.by_∧(w.troops.getD j default).id=b.at_:=by
 rw[hp]at h1;rw[hq]at h3
 have a:=h2 h1.symm
 have c:=h4 h3.symm
 refine⟨?_,a.1,c.1⟩
 unfold zmt;rw[←h1,←h3,a.2,c.2,hc];rfl
theorem ydp {done:List Bool} (hi:i<w.troops.length) (h1:p=(zdd w b.by_).isSome) (h2:(zdd w b.by_).isSome=true→(w.troops.getD i default).id=b.by_∧(zdd w b.by_).getD z8j=w.troops.getD i default)
 (h3:q=(zdd w b.at_).isSome) (h4:(zdd w b.at_).isSome=true→(w.troops.getD j default).id=b.at_∧(zdd w b.at_).getD z8j=w.troops.getD j default) (h:((p=false∨q=false)∨done.getD i default=true)∨zj3 w (w.troops.getD i default) (w.troops.getD j default)=false) :
 zmt w b=false∨∃i,i<w.troops.length∧(w.troops.getD i default).id=b.by_∧done.getD i default=true:=by
 unfold zmt
 rw[←h1,←h3]
 cases p with
 | false=>exact .inl rfl
 | true =>
  cases q with
  | false=>exact .inl rfl
  | true =>
   have a:=h2 h1.symm
   have c:=h4 h3.symm
   rw[a.2,c.2]
   rcases h with (h|h)|h
   ·simp at h
   ·exact .inr ⟨i,hi,a.1,h⟩
   ·exact .inl (by rw[h];rfl)
end
end Go.Proofs.YtmjbgbmegbkmhaaGreat
namespace Go.Proofs.YtmjbgbmegbkmhaaGreat
set_option linter.all false
open Go.RowKit
set_option maxRecDepth 100000
set_option maxHeartbeats 1000000
theorem ydn (w:Wld) (l:List Blw) (hl:zfw w) (hw:zal w=0) (hll:l.length≤200) (ht:0<w.troops.length):Spec Tryz.prog 88 [zcy w,.c (.sl 2 (l.map ze1))] [] (.tup [.c (.sl 1 ((zho w l).map zac)),I .i64 (zbh w l)]) []:=by
 have e:zbh w l=0:=by unfold zbh;rw[if_neg (by simp[hw]),if_neg (by omega)]
 have hu:=yen hw
 obtain⟨w1,w2,w3,w4,w5⟩:=zdi hw
 refine spB Tryz.func88 120 [.tmp 4,.tmp 5] Tryz.results88 ?_
 try refine xst ?_
 refine caP (zdf w hl) ?_
 try refine xst ?_
 refine cI (fun h1 => ?_) fun h1 => ?_
 ·exact absurd hw h1
 ·try refine xst ?_
  refine cI (fun h2 => ?_) fun h2 => ?_
  ·omega
  ·try refine xst ?_
   refine zax (fun x:Nat × List (List Int × Int)=>⟨[(32,I .i64 x.1),(31,I .i64 w.troops.length),(30,.c (.sl 7 (w.troops.map zaw))),(7,.map 1),(2,.ptr 0 0 0),(1,.c (.sl 2 (l.map ze1)))],[(0,.blk 28 (znt w)),(1,.mp false 1 x.2)],2⟩) (fun x:Nat × List (List Int × Int)=>x.1≤w.troops.length∧IdxM w x.1 x.2) (fun x:Nat × List (List Int × Int)=>w.troops.length-x.1) ((0,[])) (⟨Nat.zero_le _,fun i=>rfl,fun j h=>absurd h (Nat.not_lt_zero _)⟩) (To.mk [0,1] rfl rfl (by decide) ?_ ?_) ?_
   ·simp(etaStruct := .none)only[push_cast,zab,seval]
   ·simp(etaStruct := .none)only[push_cast,zab,seval]
   rintro⟨k,es⟩ ⟨hk,hn⟩
   simp only at hk hn
   try refine xst ?_
   refine cI (fun h3 => ?_) fun h3 => ?_
   ·have hlt:k<w.troops.length:=by omega
    try refine xz2 (gd hlt) za9 ?_
    refine⟨(k+1,zgq [(w.troops.getD k default).id] (k:Int) es),⟨by simp only;omega,hn.step hu hlt⟩,by simp only;omega,To.mk [0,1] rfl rfl (by decide) ?_ ?_⟩
    ·(try(refine xz2 (gd hlt) za9 ?_;try exact xtI))
    ·(try(refine xz2 (gd hlt) za9 ?_;try exact xtI))
   ·obtain rfl:k=w.troops.length:=by omega
    have hget:=hn.get ht
    try refine xst ?_
    refine zax (fun x:Nat × List Int × List Bool=>⟨[(52,I .i64 x.1),(51,I .i64 l.length),(50,.c (.sl 2 (l.map ze1))),(11,.own 3),(10,.own 2),(7,.map 1),(2,.ptr 0 0 0)],[(0,.blk 28 (znt w)),(1,.mp false 1 es),(2,.row 3 1 (x.2.1.map zac)),(3,.row 4 1 (x.2.2.map zfb))],4⟩) (fun x:Nat × List Int × List Bool=>x.1≤l.length∧HitInv w (l.take x.1) x.2.1 x.2.2) (fun x:Nat × List Int × List Bool=>l.length-x.1) ((0,List.replicate w.troops.length 0,List.replicate w.troops.length false)) (⟨Nat.zero_le _,HitInv.start w⟩) (To.mk [0,1,2,3] rfl rfl (by decide) ?_ ?_) ?_
    ·simp(etaStruct := .none)only[push_cast,zab,seval,List.map_replicate,List.length_replicate,zac,zfb]
    ·simp(etaStruct := .none)only[push_cast,zab,seval]
    rintro⟨k,harm,done⟩ ⟨hk,hinv⟩
    simp only at hk hinv
    have hl1:=hinv.l1
    have hl2:=hinv.l2
    try refine xst ?_
    refine cI (fun h4 => ?_) fun h4 => ?_
    ·have hlt:k<l.length:=by omega
     obtain⟨b,hb⟩:∃b,b=l.getD k default:=⟨_,rfl⟩
     obtain⟨i,hi,gi,mi1,mi2⟩:=hget b.by_
     obtain⟨j,hj,gj,mj1,mj2⟩:=hget b.at_
     have hid:i<done.length:=by omega
     have hjh:j<harm.length:=by omega
     have htk:l.take (k+1)=l.take k ++ [b]:=by rw[zao _ _ hlt,hb]
     have hlow:=hinv.low j hj
     have hkh:=zly (w.troops.getD i default).kind
     rw[List.length_take]at hlow
     iterate 2(try simp(etaStruct := .none)only[push_cast,zab,seval,zaa _ _ _ hlt,←hb,ze1,gi,gj,zaa _ _ _ hid,zaa _ _ _ hi,zaa _ _ _ hj,zaa _ _ _ hjh,zaw,zfb,zac];try refine xsu ?_)
     refine gcP (fun hcc=>z7o w (w.troops.getD i default) (w.troops.getD j default) hl hw (za0 _ _ hi) (za0 _ _ hj)) ?_
     iterate 2(try simp(etaStruct := .none)only[push_cast,zab,seval,zaa _ _ _ hlt,←hb,ze1,gi,gj,zaa _ _ _ hid,zaa _ _ _ hi,zaa _ _ _ hj,zaa _ _ _ hjh,zaw,zfb,zac];try refine xsu ?_)
     (try(refine⟨by kernel_rfl,?_⟩))
     iterate 2(try simp(etaStruct := .none)only[push_cast,zab,seval,zaa _ _ _ hlt,←hb,ze1,gi,gj,zaa _ _ _ hid,zaa _ _ _ hi,zaa _ _ _ hj,zaa _ _ _ hjh,zaw,zfb,zac];try refine xsu ?_)
     refine cI (fun h5 => ?_) fun h5 => ?_
     ·have hnx:=hinv.skip hu b (ydp hi mi1 mi2 mj1 mj2 h5)
      rw[←htk]at hnx
      iterate 2(try simp(etaStruct := .none)only[push_cast,zab,seval,zaa _ _ _ hlt,←hb,ze1,gi,gj,zaa _ _ _ hid,zaa _ _ _ hi,zaa _ _ _ hj,zaa _ _ _ hjh,zaw,zfb,zac];try refine xsu ?_)
      refine⟨(k+1,harm,done),⟨by simp only;omega,hnx⟩,by simp only;omega,To.mk [0,1,2,3] rfl rfl (by decide) ?_ ?_⟩
      ·(iterate 2((try simp(etaStruct := .none)only[push_cast,zab,seval,zaa _ _ _ hlt,←hb,ze1,gi,gj,zaa _ _ _ hid,zaa _ _ _ hi,zaa _ _ _ hj,zaa _ _ _ hjh,zaw,zfb,zac]);(try(refine xsu ?_;try exact xtI))))
      ·(iterate 2((try simp(etaStruct := .none)only[push_cast,zab,seval,zaa _ _ _ hlt,←hb,ze1,gi,gj,zaa _ _ _ hid,zaa _ _ _ hi,zaa _ _ _ hj,zaa _ _ _ hjh,zaw,zfb,zac]);(try(refine xsu ?_;try exact xtI))))
     ·obtain⟨y1,y2,y3⟩:=z7y mi1 mi2 mj1 mj2 h5.1.1.1 h5.1.1.2 h5.2
      have hnx:=hinv.go hu y1 hi hj y2 y3 h5.1.2
      rw[←htk]at hnx
      iterate 2(try simp(etaStruct := .none)only[push_cast,zab,seval,zaa _ _ _ hlt,←hb,ze1,gi,gj,zaa _ _ _ hid,zaa _ _ _ hi,zaa _ _ _ hj,zaa _ _ _ hjh,zaw,zfb,zac];try refine xsu ?_)
      refine caP (zhe (w.troops.getD i default).kind) ?_
      iterate 2(try simp(etaStruct := .none)only[push_cast,zab,seval,zaa _ _ _ hlt,←hb,ze1,gi,gj,zaa _ _ _ hid,zaa _ _ _ hi,zaa _ _ _ hj,zaa _ _ _ hjh,zaw,zfb,zac];try refine xsu ?_)
      (try(refine⟨by kernel_rfl,?_⟩))
      iterate 2(try simp(etaStruct := .none)only[push_cast,zab,seval,zaa _ _ _ hlt,←hb,ze1,gi,gj,zaa _ _ _ hid,zaa _ _ _ hi,zaa _ _ _ hj,zaa _ _ _ hjh,zaw,zfb,zac];try refine xsu ?_)
      refine⟨(k+1,harm.set j (harm.getD j default+(zbc (w.troops.getD i default).kind).load),done.set i true),⟨by simp only;omega,hnx⟩,by simp only;omega,To.mk [0,1,2,3] rfl rfl (by decide) ?_ ?_⟩
      ·(iterate 2((try simp(etaStruct := .none)only[push_cast,zab,seval,List.map_set,zac,zfb]);(try(refine xsu ?_;try exact xtI))))
      ·(iterate 2((try simp(etaStruct := .none)only[push_cast,zab,seval,zaa _ _ _ hlt,←hb,ze1,gi,gj,zaa _ _ _ hid,zaa _ _ _ hi,zaa _ _ _ hj,zaa _ _ _ hjh,zaw,zfb,zac]);(try(refine xsu ?_;try exact xtI))))
    ·obtain rfl:k=l.length:=by omega
     rw[List.take_length]at hinv
     have e2:zho w l=harm:=by unfold zho;rw[if_pos e];exact(z64 hl1 hinv.val).symm
     try refine xst ?_
     (first|(refine zau rfl (Wk.of ?_);(try simp(etaStruct := .none)only[push_cast,zab,seval]);first|done|(simp[e,e2, *];done)|(simp_all[e,e2];done))|(refine zau rfl ?_;(try simp(etaStruct := .none)only[push_cast,zab,seval]);(try simp[e,e2, *]);(try exact wkc)))
theorem ydo (w:Wld) (l:List Blw) (hl:zfw w) (hw:zal w=0) (hll:l.length≤200) (ht:w.troops = []):Spec Tryz.prog 88 [zcy w,.c (.sl 2 (l.map ze1))] [] (.tup [.c (.sl 1 ((zho w l).map zac)),I .i64 (zbh w l)]) []:=by
 have e:zbh w l=0:=by unfold zbh;rw[if_neg (by simp[hw]),if_neg (by omega)]
 have e2:zho w l = []:=by unfold zho zoz;rw[if_pos e,ht];rfl
 obtain⟨wf,wb,ws,wm,wt,wn,wo⟩:=w
 simp only at ht
 subst ht
 obtain⟨w,hwd⟩:∃w:Wld,w=⟨wf,wb,ws,wm,[],wn,wo⟩:=⟨_,rfl⟩
 refine spB Tryz.func88 120 [.tmp 4,.tmp 5] Tryz.results88 ?_
 iterate 2(try simp(etaStruct := .none)only[push_cast,zab,seval,List.getD_nil];try refine xsu ?_)
 refine caP (zdf _ hl) ?_
 iterate 2(try simp(etaStruct := .none)only[push_cast,zab,seval,List.getD_nil];try refine xsu ?_)
 refine cI (fun h1 => ?_) fun h1 => ?_
 ·exact absurd hw h1
 ·iterate 2(try simp(etaStruct := .none)only[push_cast,zab,seval,List.getD_nil];try refine xsu ?_)
  refine cI (fun h2 => ?_) fun h2 => ?_
  ·omega
  ·iterate 2(try simp(etaStruct := .none)only[push_cast,zab,seval,List.getD_nil];try refine xsu ?_)
   refine zax (fun _u:Unit=>⟨[(32,I .i64 0),(31,I .i64 0),(30,.c (.sl 7 [])),(7,.map 1),(2,.ptr 0 0 0),(1,.c (.sl 2 (l.map ze1)))],[(0,.blk 28 (znt ⟨wf,wb,ws,wm,[],wn,wo⟩)),(1,.mp false 1 [])],2⟩) (fun _u:Unit=>Tr) (fun _u:Unit=>0) (()) (trI) (To.mk [0,1] rfl rfl (by decide) ?_ ?_) ?_
   ·simp(etaStruct := .none)only[push_cast,zab,seval]
   ·simp(etaStruct := .none)only[push_cast,zab,seval]
   rintro _ _
   iterate 2(try simp(etaStruct := .none)only[push_cast,zab,seval,List.getD_nil];try refine xsu ?_)
   refine cI (fun h3 => ?_) fun h3 => ?_
   ·simp at h3
   ·iterate 2(try simp(etaStruct := .none)only[push_cast,zab,seval,List.getD_nil];try refine xsu ?_)
    refine zax (fun k:Nat=>⟨[(52,I .i64 k),(51,I .i64 l.length),(50,.c (.sl 2 (l.map ze1))),(11,.own 3),(10,.own 2),(7,.map 1),(2,.ptr 0 0 0)],[(0,.blk 28 (znt ⟨wf,wb,ws,wm,[],wn,wo⟩)),(1,.mp false 1 []),(2,.row 3 1 []),(3,.row 4 1 [])],4⟩) (fun k:Nat=>k≤l.length) (fun k:Nat=>l.length-k) (0) (Nat.zero_le _) (To.mk [0,1,2,3] rfl rfl (by decide) ?_ ?_) ?_
    ·simp(etaStruct := .none)only[push_cast,zab,seval]
    ·simp(etaStruct := .none)only[push_cast,zab,seval]
    rintro k hk
    iterate 2(try simp(etaStruct := .none)only[push_cast,zab,seval,List.getD_nil];try refine xsu ?_)
    refine cI (fun h4 => ?_) fun h4 => ?_
    ·have hlt:k<l.length:=by omega
     iterate 2(try simp(etaStruct := .none)only[push_cast,zab,seval,List.getD_nil,zaa _ _ _ hlt,ze1];try refine xsu ?_)
     repeat(with_reducible refine And.intro ?_ ?_;· (simp[zoh];done))
     refine zwo ?_ ?_
     ·simp[zoh]
     iterate 2(try simp(etaStruct := .none)only[push_cast,zab,seval,List.getD_nil,zaa _ _ _ hlt,ze1];try refine xsu ?_)
     (try(refine⟨by kernel_rfl,?_⟩))
     iterate 2(try simp(etaStruct := .none)only[push_cast,zab,seval,List.getD_nil,zaa _ _ _ hlt,ze1];try refine xsu ?_)
     refine cI (fun h5 => ?_) fun h5 => ?_
     ·iterate 2(try simp(etaStruct := .none)only[push_cast,zab,seval,List.getD_nil,zaa _ _ _ hlt,ze1];try refine xsu ?_)
      refine⟨k+1,by omega,by omega,To.mk [0,1,2,3] rfl rfl (by decide) ?_ ?_⟩
      ·(iterate 2((try simp(etaStruct := .none)only[push_cast,zab,seval,List.getD_nil,zaa _ _ _ hlt,ze1]);(try(refine xsu ?_;try exact xtI))))
      ·(iterate 2((try simp(etaStruct := .none)only[push_cast,zab,seval,List.getD_nil,zaa _ _ _ hlt,ze1]);(try(refine xsu ?_;try exact xtI))))
     ·simp[zoh]at h5
    ·iterate 2(try simp(etaStruct := .none)only[push_cast,zab,seval,List.getD_nil];try refine xsu ?_)
     (first|(refine zau rfl (Wk.of ?_);(try simp(etaStruct := .none)only[push_cast,zab,seval]);first|done|(simp[e,e2, *];done)|(simp_all[e,e2];done))|(refine zau rfl ?_;(try simp(etaStruct := .none)only[push_cast,zab,seval]);(try simp[e,e2, *]);(try exact wkc)))
abbrev zzl (w:Wld):List PV := [pI w.f.w,pI w.f.h,.sl 1 (w.f.p.map zac),.sl 2 (w.bases.map za3),.sl 1 (w.stocks.map zac),.sl 1 (w.mines.map zac),.sl 7 (w.troops.map zaw),pI w.next,pI w.now]
theorem ykj (w:Wld) (l:List Blw) (id:Int) (t:Trp):0≤zwd w l id t∧zwd w l id t≤4:=by
 have:=zly t.kind
 unfold zwd
 split
 ·split<;>omega
 ·omega
theorem yex (w:Wld) (l:List Blw) (id:Int):∀ts:List Trp,0≤z4f (ts.map (zwd w l id))∧z4f (ts.map (zwd w l id))≤4*ts.length
 | []=>by simp[z4f]
 | t::r=>by
  have h1:=yex w l id r
  have h2:=ykj w l id t
  simp only[z4f,List.map_cons,List.sum_cons,List.length_cons]at *
  omega
theorem zwe (w:Wld) (l:List Blw) (hl:zfw w) (hll:l.length≤9223372036854775807):Spec Tryz.prog 88 [zcy w,.c (.sl 2 (l.map ze1))] [] (.tup [.c (.sl 1 ((zho w l).map zac)),I .i64 (zbh w l)]) []:=by
 by_cases h:zbh w l=0
 ·have h1:zal w=0:=by unfold zbh at h;split at h;rename_i h1;exact absurd h h1;rename_i h1;simpa using h1
  have h2:l.length≤200:=by unfold zbh at h;rw[if_neg (by simp[h1])]at h;split at h;simp at h;omega
  rcases Nat.eq_zero_or_pos w.troops.length with h3|h3
  ·exact ydo w l hl h1 h2 (List.eq_nil_of_length_eq_zero h3)
  ·exact ydn w l hl h1 h2 h3
 ·exact ydm w l hl hll h
theorem ygr (w:Wld) (hw:zal w=0):Spec Tryz.prog 89 [zcy w] [] (zcy w) []:=by
 obtain⟨w1,w2,w3,w4,w5⟩:=zdi hw
 obtain⟨v1,v2,v3,v4⟩:=zkr w4
 obtain⟨⟨f1,f2⟩,⟨f3,f4⟩,f5,f6⟩:=zbi w1
 have hm:w.f.w*w.f.h≤40*40:=Int.mul_le_mul f2 f4 (by omega) (by omega)
 refine spB Tryz.func89 26 [.cell 2 28] Tryz.results89 ?_
 try refine xst ?_
 refine caP (zfn w.f.p (by omega)) ?_
 try refine xst ?_
 refine caP (zpd w.bases (by omega)) ?_
 try refine xst ?_
 refine caP (zfn w.stocks (by omega)) ?_
 try refine xst ?_
 (try(refine⟨by kernel_rfl,?_⟩))
 try refine xst ?_
 refine caP (zfn w.mines (by omega)) ?_
 try refine xst ?_
 refine caP (zul w.troops (by omega)) ?_
 try refine xst ?_
 (try(refine⟨by kernel_rfl,?_⟩))
 try refine xst ?_
 exact xrz rfl
def yej:Wld:=⟨⟨0,0,[]⟩,[],[],[],[],0,0⟩
def zrb (w:Wld) (l:List Blw) (k:Nat):List Trp:=((w.troops.take k).map (zdu w l)).filter fun t=>decide (0<t.life)
def zo0 (w:Wld) (l:List Blw) (k:Nat):List Int:=(((w.troops.take k).map (zdu w l)).filter fun t => !decide (0<t.life)).map (·.id)
theorem zyn (w:Wld) (l:List Blw) {k:Nat} (h:k<w.troops.length):zrb w l (k+1)=zrb w l k++(if 0<(zdu w l (w.troops.getD k default)).life then [zdu w l (w.troops.getD k default)]else []):=by
 unfold zrb
 rw[zao _ _ h,List.map_append,List.filter_append,List.map_cons,List.map_nil,List.filter_cons,List.filter_nil]
 simp only[decide_eq_true_eq]
theorem zys (w:Wld) (l:List Blw) {k:Nat} (h:k<w.troops.length):zo0 w l (k+1)=zo0 w l k++(if 0<(zdu w l (w.troops.getD k default)).life then []else [(w.troops.getD k default).id]):=by
 unfold zo0
 rw[zao _ _ h,List.map_append,List.filter_append,List.map_cons,List.map_nil,List.filter_cons,List.filter_nil,List.map_append]
 by_cases h2:0<(zdu w l (w.troops.getD k default)).life
 ·rw[if_pos h2,decide_eq_true h2];simp
 ·rw[if_neg h2,decide_eq_false h2];simp[zdu]
theorem z15 (w:Wld) (l:List Blw) (k:Nat):(zrb w l k).length≤k:=by
 have h1:=List.length_filter_le (fun t:Trp=>decide (0<t.life)) ((w.troops.take k).map (zdu w l))
 rw[List.length_map,List.length_take]at h1
 exact Nat.le_trans h1 (Nat.min_le_left _ _)
theorem z2w (w:Wld) (l:List Blw) (k:Nat):(zo0 w l k).length≤k:=by
 unfold zo0
 rw[List.length_map]
 have h1:=List.length_filter_le (fun t:Trp => !decide (0<t.life)) ((w.troops.take k).map (zdu w l))
 rw[List.length_map,List.length_take]at h1
 exact Nat.le_trans h1 (Nat.min_le_left _ _)
theorem z16 (w:Wld) (l:List Blw):zrb w l w.troops.length=zih w l:=by unfold zrb;rw[List.take_length];rfl
theorem z2x (w:Wld) (l:List Blw):zo0 w l w.troops.length=z65 w l:=by unfold zo0;rw[List.take_length];rfl
theorem z2s (w:Wld) (l:List Blw) (id:Int):0≤zf3 w l id∧zf3 w l id≤4*w.troops.length:=yex w l id w.troops
def zes (w:Wld) (l:List Blw):Wld:=if zbh w l=0 then zer w l else yej
def zrn (w:Wld) (l:List Blw):List Int:=if zbh w l=0 then z65 w l else []
theorem ygg {w:Wld} (hw:zal w=0) {k:Nat} (h:k<w.troops.length):1≤(w.troops.getD k default).life∧(w.troops.getD k default).life≤20:=by
 have h1:=(zfe hw h).1
 have:=h1.life
 have k1:(zbc 1).life=10:=rfl
 have k2:(zbc 2).life=20:=rfl
 rcases h1.kind with e|e
 ·rw[e,k1]at this;omega
 ·rw[e,k2]at this;omega
theorem z2l (w:Wld) (l:List Blw) (hl:zfw w) (hll:l.length≤9223372036854775807) (h:zbh w l≠0):Spec Tryz.prog 47 [zcy w,.c (.sl 2 (l.map ze1))] [] (.tup [zcy (zes w l),.c (.sl 1 ((zrn w l).map zac)),I .i64 (zbh w l)]) []:=by
 have e1:zes w l=yej:=by unfold zes;rw[if_neg h]
 have e2:zrn w l = []:=by unfold zrn;rw[if_neg h]
 refine spB Tryz.func47 62 [.cell 4 28,.tmp 5,.tmp 6] Tryz.results47 ?_
 try refine xst ?_
 refine caP (zwe w l hl hll) ?_
 try refine xst ?_
 refine cI (fun h1 => ?_) fun h1 => ?_
 ·try refine xst ?_
  (first|(refine zau rfl (Wk.of ?_);(try simp(etaStruct := .none)only[push_cast,zab,seval]);first|done|(simp[e1,e2,yej, *];done)|(simp_all[e1,e2,yej];done))|(refine zau rfl ?_;(try simp(etaStruct := .none)only[push_cast,zab,seval]);(try simp[e1,e2,yej, *]);(try exact wkc)))
 ·exact absurd h1 h
theorem zrk (w:Wld) (l:List Blw) (hl:zfw w) (hll:l.length≤9223372036854775807) (h:zbh w l=0):Spec Tryz.prog 47 [zcy w,.c (.sl 2 (l.map ze1))] [] (.tup [zcy (zes w l),.c (.sl 1 ((zrn w l).map zac)),I .i64 (zbh w l)]) []:=by
 have hw:zal w=0:=by unfold zbh at h;split at h;rename_i h1;exact absurd h h1;rename_i h1;simpa using h1
 have w3:=(zdi hw).2.2.1
 have hr:zho w l=zoz w l:=by unfold zho;rw[if_pos h]
 have hrl:(zoz w l).length=w.troops.length:=by unfold zoz;rw[List.length_map]
 refine spB Tryz.func47 62 [.cell 4 28,.tmp 5,.tmp 6] Tryz.results47 ?_
 try refine xst ?_
 refine caP (zwe w l hl hll) ?_
 try refine xst ?_
 refine cI (fun h1 => ?_) fun h1 => ?_
 ·exact absurd h h1
 ·try refine xst ?_
  refine caP (ygr w hw) ?_
  try refine xst ?_
  refine zax (fun k:Nat=>⟨[(32,I .i64 k),(31,I .i64 w.troops.length),(30,.c (.sl 7 (w.troops.map zaw))),(10,.own 2),(9,.own 3),(7,.c (.sl 1 ((zho w l).map zac))),(4,.ptr 1 0 0),(2,.ptr 0 0 0)],[(0,.blk 28 (znt w)),(1,.blk 28 [I .i64 0,I .i64 0,.c (.v (.slice none 0 0)),.c (.v (.slice none 0 0)),.c (.v (.slice none 0 0)),.c (.v (.slice none 0 0)),.c (.v (.slice none 0 0)),I .i64 0,I .i64 0]),(2,.row 108 7 ((zrb w l k).map zaw)),(3,.row 3 1 ((zo0 w l k).map zac))],4⟩) (fun k:Nat=>k≤w.troops.length) (fun k:Nat=>w.troops.length-k) (0) (Nat.zero_le _) ((To.nil 9 3 1 rfl).trans (To.mk [0,1,2,3] rfl rfl (by decide) ?_ ?_)) ?_
  ·simp(etaStruct := .none)only[push_cast,zab,seval,zrb,zo0,List.take_zero,List.map_nil,List.filter_nil]
  ·simp(etaStruct := .none)only[push_cast,zab,seval]
  rintro k hk
  try refine xst ?_
  refine cI (fun h2 => ?_) fun h2 => ?_
  ·have hlt:k<w.troops.length:=by omega
   have hrk:k<(zho w l).length:=by rw[hr,hrl];exact hlt
   have hrv:(zho w l).getD k default=zf3 w l (w.troops.getD k default).id:=by
    rw[hr,zae _ _ (by rw[hrl];exact hlt)]
    simp only[zoz,List.getElem_map];rw[zae _ _ hlt]
   have hb:=z2s w l (w.troops.getD k default).id
   have hlb:=ygg hw hlt
   have st1:=zyn w l hlt
   have st2:=zys w l hlt
   have ll1:=z15 w l k
   have ll2:=z2w w l k
   have hwl:(zdu w l (w.troops.getD k default)).life=(w.troops.getD k default).life-zf3 w l (w.troops.getD k default).id:=rfl
   try refine xz5 (gd hlt) za9 (gd hrk) hrv za7 ?_
   (try(refine⟨by kernel_rfl,?_⟩))
   try refine xz5 (gd hlt) za9 (gd hrk) hrv za7 ?_
   refine cI (fun h3 => ?_) fun h3 => ?_
   ·rw[if_pos (by rw[hwl];exact h3)]at st1 st2
    rw[List.append_nil]at st2
    try refine xz5 (gd hlt) za9 (gd hrk) hrv za7 ?_
    refine⟨k+1,by omega,by omega,To.mk [0,1,42,3] rfl rfl (by decide) ?_ ?_⟩
    ·(iterate 2((try simp(etaStruct := .none)only[push_cast,zab,seval,st1,st2,List.map_append,zaw,zdu]);(try(refine xsu ?_;try exact xtI))))
    ·(try(refine xz5 (gd hlt) za9 (gd hrk) hrv za7 ?_;try exact xtI))
   ·rw[if_neg (by rw[hwl];omega)]at st1 st2
    rw[List.append_nil]at st1
    try refine xz5 (gd hlt) za9 (gd hrk) hrv za7 ?_
    refine⟨k+1,by omega,by omega,To.mk [0,1,2,42] rfl rfl (by decide) ?_ ?_⟩
    ·(iterate 2((try simp(etaStruct := .none)only[push_cast,zab,seval,st1,st2,List.map_append,zac]);(try(refine xsu ?_;try exact xtI))))
    ·(try(refine xz5 (gd hlt) za9 (gd hrk) hrv za7 ?_;try exact xtI))
  ·obtain rfl:k=w.troops.length:=by omega
   have e1:zes w l=zer w l:=by unfold zes;rw[if_pos h]
   have e2:zrn w l=z65 w l:=by unfold zrn;rw[if_pos h]
   rw[z16,z2x,e1,e2]
   try refine xst ?_
   (first|(refine zau rfl (Wk.of ?_);(try simp(etaStruct := .none)only[push_cast,zab,seval]);first|done|(simp[zer,h, *];done)|(simp_all[zer,h];done))|(refine zau rfl ?_;(try simp(etaStruct := .none)only[push_cast,zab,seval]);(try simp[zer,h, *]);(try exact wkc)))
end Go.Proofs.YtmjbgbmegbkmhaaGreat
namespace Go.Proofs.YtmjbgbmegbkmhaaGreat
set_option linter.all false
open Go.RowKit
set_option maxRecDepth 100000
def zrg (id:Int) (t:Trp):Bool:=decide (t.id=id)
def yec (a b:Cel):Bool:=zaj b.x (a.x-1) (a.x+1)&&zaj b.y (a.y-1) (a.y+1)
def zbr (t:Trp) (n:Int):Trp:={ t with load:=n }
def zlo (w:Wld) (i m:Nat):Wld:={ w with mines:=w.mines.set m (w.mines.getD m default-1),troops:=w.troops.set i (zbr (w.troops.getD i default) ((w.troops.getD i default).load+1)) }
def ze8 (w:Wld) (d:Ded) (i:Nat):Bool:=decide ((w.troops.getD i default).kind=1)&&decide ((w.troops.getD i default).load<5)&&yec (w.troops.getD i default).c d.c&&inF w.f d.c&&decide (0<w.mines.getD (zam w.f d.c) default)
def zg3 (w:Wld) (i:Nat):Int:=min (w.troops.getD i default).load (1000000-w.stocks.getD (w.troops.getD i default).owner.toNat default)
def zeo (w:Wld) (i:Nat):Wld:={ w with stocks:=w.stocks.set (w.troops.getD i default).owner.toNat (w.stocks.getD (w.troops.getD i default).owner.toNat default+zg3 w i),troops:=w.troops.set i (zbr (w.troops.getD i default) ((w.troops.getD i default).load-zg3 w i)) }
def znj (w:Wld) (i:Nat):Bool:=yec (w.bases.getD (w.troops.getD i default).owner.toNat default) (w.troops.getD i default).c
def zdp (b:Cel):List Cel := [b,⟨b.x-1,b.y-1⟩,⟨b.x,b.y-1⟩,⟨b.x+1,b.y-1⟩,⟨b.x-1,b.y⟩,b,⟨b.x+1,b.y⟩,⟨b.x-1,b.y+1⟩,⟨b.x,b.y+1⟩,⟨b.x+1,b.y+1⟩]
def zrr (w:Wld) (c:Cel):Bool:=zb2 w.f c && !(w.troops.any fun t=>decide (t.c=c))
def ztx (w:Wld) (b:Cel):Option Cel:=(zdp b).find? (zrr w)
def zl4 (w:Wld) (d:Ded):Bool:=decide (0≤d.who)&&decide (d.who<w.bases.length)&&(decide (d.what=1)||decide (d.what=2))&&decide ((zbc d.what).price≤w.stocks.getD d.who.toNat default)&&decide (w.troops.length<100)&&decide (w.next<1000000)
def zdw (w:Wld) (d:Ded) (c:Cel):Wld:={ w with troops:=w.troops ++ [⟨w.next,d.who,d.what,c,(zbc d.what).life,0⟩],next:=w.next+1,stocks:=w.stocks.set d.who.toNat (w.stocks.getD d.who.toNat default-(zbc d.what).price) }
def zf4 (w:Wld) (d:Ded):Wld × Bool :=
 if d.kind=1 then match w.troops.findIdx? (zrg d.who)with
  | some i=>if ze8 w d i then (zlo w i (zam w.f d.c),true)else (w,false)
  | none=>(w,false)
 else if d.kind=2 then match w.troops.findIdx? (zrg d.who)with
  | some i=>if znj w i then (zeo w i,decide (0<zg3 w i))else (w,false)
  | none=>(w,false)
 else if d.kind=3 then (if zl4 w d then match ztx w (w.bases.getD d.who.toNat default)with
  | some c=>(zdw w d c,true)
  | none=>(w,false)
  else (w,false))
 else (w,false)
theorem zsh {w:Wld} {t:Trp} {n:Int} (h:TrpOk w t) (hn:0≤n∧n≤5*(2-t.kind)):TrpOk w (zbr t n):=zhz h.kind h.id h.owner h.at_ h.life hn
theorem zvm {w:Wld} (h:Right w) {i:Nat} (hi:i<w.troops.length):∃o:Nat,(w.troops.getD i default).owner=(o:Int)∧o<w.bases.length∧o<w.stocks.length:=by
 have:=(h.trp i hi).owner
 have hs:=h.sl
 refine⟨(w.troops.getD i default).owner.toNat,by omega,by omega,by omega⟩
theorem z86 {w:Wld} (h:Right w) {c:Cel} (hc:inF w.f c=true):zam w.f c<w.mines.length∧c.y*w.f.w+c.x=((zam w.f c:Nat):Int)∧0≤c.y*w.f.w∧c.y*w.f.w≤1600:=by
 obtain⟨i1,i2,i3,i4,i5⟩:=zbm h.f hc
 have:=h.ml
 unfold zam;omega
theorem zm1 {w:Wld} (h:Right w) {i:Nat} (hi:i<w.troops.length) {n:Int} (hn:0≤n∧n≤5*(2-(w.troops.getD i default).kind)) {st mi:List Int} (hs:st.length=w.stocks.length) (hm:mi.length=w.mines.length) (hs2:∀j,j<st.length→0≤st.getD j default∧st.getD j default≤1000000) (hm2:∀j,j<mi.length→(0≤mi.getD j default∧mi.getD j default≤1000000)∧(mi.getD j default=0∨w.f.p.getD j default=3)) :
 Right { w with stocks:=st,mines:=mi,troops:=w.troops.set i (zbr (w.troops.getD i default) n) }:=by
 have G:=fun p=>zim (zbr (w.troops.getD i default) n) p hi
 refine⟨h.f,h.nb,by simpa using h.nt,by rw[hs];exact h.sl,by rw[hm];exact h.ml,h.nx,h.nw,fun j hj => ?_,hm2,fun k hk => ?_,fun j k hjk hk => ?_⟩
 ·obtain⟨a1,_,a3⟩:=h.base j hj
  exact⟨a1,hs2 j (by rw[hs,h.sl];exact hj),a3⟩
 ·have hk':k<w.troops.length:=by simpa using hk
  have e:∀t,TrpOk w t→TrpOk { w with stocks:=st,mines:=mi,troops:=w.troops.set i (zbr (w.troops.getD i default) n) } t:=fun t ht=>⟨ht.kind,ht.id,ht.owner,ht.at_,ht.x,ht.y,ht.life,ht.load⟩
  simp only[G]
  split
  ·exact e _ (zsh (h.trp i hi) hn)
  ·exact e _ (h.trp k hk')
 ·have hk':k<w.troops.length:=by simpa using hk
  have:=h.ord j k hjk hk'
  simp only[G]
  have f1:∀m,(if m=i then zbr (w.troops.getD i default) n else w.troops.getD m default).id=(w.troops.getD m default).id∧(if m=i then zbr (w.troops.getD i default) n else w.troops.getD m default).c=(w.troops.getD m default).c:=fun m=>by
   split
   ·rename_i e;subst e;exact⟨rfl,rfl⟩
   ·exact⟨rfl,rfl⟩
  rw[(f1 j).1,(f1 k).1,(f1 j).2,(f1 k).2];exact this
theorem zx1 {w:Wld} (h:Right w) {i:Nat} (hi:i<w.troops.length) {d:Ded} (ho:ze8 w d i=true):Right (zlo w i (zam w.f d.c)):=by
 unfold ze8 at ho
 simp only[Bool.and_eq_true,decide_eq_true_eq]at ho
 obtain⟨⟨⟨⟨o1,o2⟩,_⟩,o4⟩,o5⟩:=ho
 obtain⟨m1,_⟩:=z86 h o4
 have hl:=(h.trp i hi).load
 have G:=fun p=>zim (w.mines.getD (zam w.f d.c) default-1) p m1
 refine zm1 h hi (by omega) rfl (by simp) (fun j hj=>(h.base j (by rw[←h.sl];exact hj)).2.1) (fun j hj => ?_)
 have hj':j<w.mines.length:=by simpa using hj
 rw[G]
 split
 ·rename_i e;subst e
  obtain⟨a1,a2⟩:=h.mine _ hj'
  exact⟨by omega,by rcases a2 with a2|a2;omega;exact .inr a2⟩
 ·exact h.mine j hj'
theorem zt3 {w:Wld} (h:Right w) {i:Nat} (hi:i<w.troops.length):0≤zg3 w i∧zg3 w i≤(w.troops.getD i default).load∧w.stocks.getD (w.troops.getD i default).owner.toNat default+zg3 w i≤1000000∧0≤w.stocks.getD (w.troops.getD i default).owner.toNat default:=by
 obtain⟨o,e,ho,hs⟩:=zvm h hi
 have hl:=(h.trp i hi).load
 have hb:=(h.base o ho).2.1
 have e2:(w.troops.getD i default).owner.toNat=o:=by omega
 unfold zg3
 rw[e2];omega
theorem zx3 {w:Wld} (h:Right w) {i:Nat} (hi:i<w.troops.length):Right (zeo w i):=by
 obtain⟨o,e,ho,hs⟩:=zvm h hi
 have e2:(w.troops.getD i default).owner.toNat=o:=by omega
 have hl:=(h.trp i hi).load
 have hn:=zt3 h hi
 unfold zeo
 rw[e2]at hn ⊢
 have G:=fun p=>zim (w.stocks.getD o default+zg3 w i) p hs
 refine zm1 h hi (by omega) (by simp) rfl (fun j hj => ?_) (fun j hj=>h.mine j hj)
 rw[G]
 split
 ·omega
 ·exact(h.base j (by rw[←h.sl];simpa using hj)).2.1
theorem hireOk_iff {w:Wld} {d:Ded} : zl4 w d=true↔((((0≤d.who∧d.who<w.bases.length)∧(d.what=1∨d.what=2))∧(zbc d.what).price≤w.stocks.getD d.who.toNat default)∧w.troops.length<100)∧w.next<1000000:=by
 unfold zl4
 simp only[Bool.and_eq_true,Bool.or_eq_true,decide_eq_true_eq]
theorem z0a {α : Type} [Inhabited α] (l:List α) (x : α) (k:Nat):(l ++ [x]).getD k default=if k<l.length then l.getD k default else if k=l.length then x else default:=by
 by_cases h:k<l.length
 ·rw[if_pos h,zl5 _ _ _ h]
 ·rw[if_neg h]
  by_cases h2:k=l.length
  ·subst h2;rw[if_pos rfl,zae _ _ (by simp)];simp
  ·rw[if_neg h2];simp only[List.getD_eq_getElem?_getD];rw[List.getElem?_eq_none (by simp;omega)];rfl
theorem zx2 {w:Wld} (h:Right w) {d:Ded} (ho:zl4 w d=true) {c:Cel} (hc:zrr w c=true):Right (zdw w d c):=by
 obtain⟨⟨⟨⟨⟨o1,o2⟩,o3⟩,o4⟩,o5⟩,o6⟩:=hireOk_iff.1 ho
 unfold zrr at hc
 simp only[Bool.and_eq_true,Bool.not_eq_true',List.any_eq_false,decide_eq_true_eq]at hc
 obtain⟨c1,c2⟩:=hc
 have hs:d.who.toNat<w.stocks.length:=by rw[h.sl];omega
 have G:=fun p=>zim (w.stocks.getD d.who.toNat default-(zbc d.what).price) p hs
 have hp:0≤(zbc d.what).price:=by rcases o3 with e|e<;>rw[e]<;>decide
 have hx:=h.nx
 have T:=fun k=>z0a w.troops (⟨w.next,d.who,d.what,c,(zbc d.what).life,0⟩:Trp) k
 refine⟨h.f,h.nb,by simp only[zdw,List.length_append,List.length_cons,List.length_nil];omega,by simp only[zdw,List.length_set];exact h.sl,h.ml,by simp only[zdw];omega,h.nw,fun j hj => ?_,h.mine,fun k hk => ?_,fun j k hjk hk => ?_⟩
 ·obtain⟨a1,a2,a3⟩:=h.base j hj
  refine⟨a1,?_,a3⟩
  simp only[zdw,G]
  split
  ·rename_i e;subst e;omega
  ·exact a2
 ·simp only[zdw,List.length_append,List.length_cons,List.length_nil]at hk
  simp only[zdw,T]
  split
  ·rename_i hk2
   have ok:=h.trp k hk2
   exact zhz ok.kind ⟨ok.id.1,by have:=ok.id.2;simp only;omega⟩ ok.owner ok.at_ ok.life ok.load
  ·rw[if_pos (by omega)]
   refine zhz o3 ⟨hx.1,by simp only;omega⟩ ⟨o1,by simp only;omega⟩ c1 ⟨?_,Int.le_refl _⟩ ⟨Int.le_refl _,?_⟩
   ·rcases o3 with e|e<;>simp only<;>rw[e]<;>decide
   ·simp only;omega
 ·simp only[zdw,List.length_append,List.length_cons,List.length_nil]at hk
  simp only[zdw,T]
  rw[if_pos (show j<w.troops.length by omega)]
  split
  ·rename_i hk2
   exact h.ord j k hjk hk2
  ·have hj:j<w.troops.length:=by omega
   rw[if_pos (by omega)]
   have ok:=(h.trp j hj).id
   refine⟨by simp only;omega,fun e => ?_⟩
   exact c2 _ (za0 _ _ hj) e
theorem ziq {w:Wld} {id:Int} {i:Nat} (h:w.troops.findIdx? (zrg id)=some i):i<w.troops.length:=by
 obtain⟨hi,_⟩:=List.findIdx?_eq_some_iff_getElem.1 h
 exact hi
theorem zx4 {w:Wld} (h:Right w) (d:Ded):Right (zf4 w d).1:=by
 unfold zf4
 split
 ·split
  ·rename_i i hi
   split
   ·rename_i ho;exact zx1 h (ziq hi) ho
   ·exact h
  ·exact h
 ·split
  ·split
   ·rename_i i hi
    split
    ·exact zx3 h (ziq hi)
    ·exact h
   ·exact h
  ·split
   ·split
    ·rename_i ho
     split
     ·rename_i c hc;exact zx2 h ho (List.find?_some hc)
     ·exact h
    ·exact h
   ·exact h
def zba (w:Wld):List Ded→Wld × List Bool
 | []=>(w,[])
 | d::r=>((zba (zf4 w d).1 r).1,(zf4 w d).2::(zba (zf4 w d).1 r).2)
theorem zt4 (l:List Ded) (d:Ded):∀w,zba w (l ++ [d])=((zf4 (zba w l).1 d).1,(zba w l).2 ++ [(zf4 (zba w l).1 d).2]):=by
 induction l with
 | nil=>intro w;rfl
 | cons a r ih=>intro w;simp only[List.cons_append,zba];rw[ih]
theorem zlb (l:List Ded):∀ {w:Wld},Right w→Right (zba w l).1:=by
 induction l with
 | nil=>intro w h;exact h
 | cons a r ih=>intro w h;exact ih (zx4 h a)
theorem zy2 (l:List Ded):∀w,(zba w l).2.length=l.length:=by
 induction l with
 | nil=>intro w;rfl
 | cons a r ih=>intro w;simp only[zba,List.length_cons,ih]
end Go.Proofs.YtmjbgbmegbkmhaaGreat
namespace Go.Proofs.YtmjbgbmegbkmhaaGreat
set_option linter.all false
open Go.RowKit
set_option maxRecDepth 100000
set_option maxHeartbeats 1000000
theorem z66 {α : Type} (l:List α) (i:Nat) (d : α) (h:i<l.length):l.getD i d=l[i]:=by simp[h]
abbrev zpl (d:Ded):AV := .agg [I .i64 d.kind,I .i64 d.who,I .i64 d.c.x,I .i64 d.c.y,I .i64 d.what]
abbrev yd5 (w:Wld) (i j k:Nat):List AV := [I .i64 w.f.w,I .i64 w.f.h,.c (.sl 1 (w.f.p.map zac)),.c (.sl 2 (w.bases.map za3)),.own i,.own j,.own k,I .i64 w.next,I .i64 w.now]
abbrev stR (w:Wld):Chunk := .row 3 1 (w.stocks.map zac)
abbrev miR (w:Wld):Chunk := .row 3 1 (w.mines.map zac)
abbrev trR (w:Wld):Chunk := .row 108 7 (w.troops.map zaw)
abbrev zfx (w:Wld):List Chunk := [.blk 200 (yd5 w 1 2 3),stR w,miR w,trR w]
theorem ygx (id:Int) (t:Trp):Spec Tryz.prog 182 ([] ++ [yd1 t] ++ [.fel 1 [[pI id]] 0 0]) [] (B (zrg id t)) []:=by
 refine spB Tryz.func182 8 [.tmp 3] Tryz.results182 ?_
 try refine xst ?_
 (first|(refine zau rfl (Wk.of ?_);(try simp(etaStruct := .none)only[push_cast,zab,seval]);first|done|(simp[zrg, *];done)|(simp_all[zrg];done))|(refine zau rfl ?_;(try simp(etaStruct := .none)only[push_cast,zab,seval]);(try simp[zrg, *]);(try exact wkc)))
theorem zwj (w:Wld) (id:Int) (hw:Right w) (h:w.troops.findIdx? (zrg id)=none):Spec Tryz.prog 165 [.ptr 0 0 0,I .i64 id] (zfx w) (.c (.v (.pointer none))) (zfx w):=by
 have hz:zj8 (zrg id) w.troops = -1:=by unfold zj8;rw[h]
 have hnt:=hw.nt
 refine spB Tryz.func165 22 [.tmp 4] Tryz.results165 ?_
 try refine xst ?_
 refine zcd (zzw _ [] [.fel 1 [[pI id]] 0 0] w.troops (zrg id) (by omega) (fun t _=>ygx id t) (fun _=>rfl) (fun _=>rfl)) (WkL.refl _) rfl ?_
 rw[hz]
 try refine xst ?_
 refine cI (fun h1 => ?_) fun h1 => ?_
 ·try refine xst ?_
  refine zby [0,1,2,3] rfl rfl (by decide) ⟨?_,?_,?_,?_,trivial⟩ trivial ?_<;>simp(etaStruct := .none)only[push_cast,zab,seval]
 ·exact absurd h1 (by decide)
theorem zwi (w:Wld) (id:Int) (i:Nat) (hw:Right w) (h:w.troops.findIdx? (zrg id)=some i):Spec Tryz.prog 165 [.ptr 0 0 0,I .i64 id] (zfx w) (.ptr 3 i 0) (zfx w):=by
 have hz:zj8 (zrg id) w.troops=(i:Int):=by unfold zj8;rw[h]
 have hnt:=hw.nt
 have hi:=ziq h
 refine spB Tryz.func165 22 [.tmp 4] Tryz.results165 ?_
 try refine xst ?_
 refine zcd (zzw _ [] [.fel 1 [[pI id]] 0 0] w.troops (zrg id) (by omega) (fun t _=>ygx id t) (fun _=>rfl) (fun _=>rfl)) (WkL.refl _) rfl ?_
 rw[hz]
 try refine xst ?_
 refine cI (fun h1 => ?_) fun h1 => ?_
 ·omega
 ·try refine xst ?_
  refine zby [0,1,2,3] rfl rfl (by decide) ⟨?_,?_,?_,?_,trivial⟩ trivial ?_<;>simp(etaStruct := .none)only[push_cast,zab,seval]
theorem z88 (a b:Cel) (ha : -1000000≤a.x∧a.x≤1000000 ∧ -1000000≤a.y∧a.y≤1000000):Spec Tryz.prog 166 [zhv a,zhv b] [] (B (yec a b)) []:=by
 refine spB Tryz.func166 35 [.tmp 4] Tryz.results166 ?_
 try refine xst ?_
 (first|(refine zau rfl (Wk.of ?_);(try simp(etaStruct := .none)only[push_cast,zab,seval]);first|done|(simp[yec,zaj,Bool.and_assoc, *];done)|(simp_all[yec,zaj,Bool.and_assoc];done))|(refine zau rfl ?_;(try simp(etaStruct := .none)only[push_cast,zab,seval]);(try simp[yec,zaj,Bool.and_assoc, *]);(try exact wkc)))
theorem zyt (w:Wld) (d:Ded) (hw:Right w) (h:w.troops.findIdx? (zrg d.who)=none):Spec Tryz.prog 135 [.ptr 0 0 0,zpl d] (zfx w) (B false) (zfx w):=by
 refine spB Tryz.func135 88 [.tmp 4] Tryz.results135 ?_
 try refine xst ?_
 refine caM [0,1,2,3] (zwj w d.who hw h) ?_
 try refine xst ?_
 refine zwo ?_ ?_
 ·rfl
 try refine xst ?_
 (try(refine⟨by kernel_rfl,?_⟩))
 try refine xst ?_
 refine cI (fun h1 => ?_) fun h1 => ?_
 ·try refine xst ?_
  refine zby [0,1,2,3] rfl rfl (by decide) ⟨?_,?_,?_,?_,trivial⟩ trivial ?_<;>simp(etaStruct := .none)only[push_cast,zab,seval]
 ·exact absurd h1 (by decide)
theorem z2y (w:Wld) (d:Ded) (i:Nat) (hw:Right w) (h:w.troops.findIdx? (zrg d.who)=some i) (b:Bool) (W:Wld) (hW:(ze8 w d i=true→W=zlo w i (zam w.f d.c)∧b=true)∧(ze8 w d i=false→W=w∧b=false)):Spec Tryz.prog 135 [.ptr 0 0 0,zpl d] (zfx w) (B b) (zfx W):=by
 have hi:=ziq h
 have ok:=hw.trp i hi
 have hav:atV w.f d.c=if inF w.f d.c then (zai w.f d.c,0)else (0,7):=by unfold atV;rw[if_neg (by simp[hw.f])]
 have hx:=ok.x;have hy:=ok.y
 have hfl:=zbi hw.f
 have hld:=ok.load
 refine spB Tryz.func135 88 [.tmp 4] Tryz.results135 ?_
 try refine xz2 (gd hi) za9 ?_
 refine caM [0,1,2,3] (zwi w d.who i hw h) ?_
 try refine xz2 (gd hi) za9 ?_
 refine gcP (fun hcc=>z88 (w.troops.getD i default).c d.c (by omega)) ?_
 try refine xz2 (gd hi) za9 ?_
 (try(refine⟨by kernel_rfl,?_⟩))
 try refine xz2 (gd hi) za9 ?_
 refine cI (fun h1 => ?_) fun h1 => ?_
 ·have e:ze8 w d i=false:=by
   unfold ze8
   simp only[Bool.and_eq_false_iff,decide_eq_false_iff_not]
   rcases h1 with (h1|h1)|h1
   ·exact .inl (.inl (.inl (.inl (by omega))))
   ·exact .inl (.inl (.inl (.inr (by omega))))
   ·exact .inl (.inl (.inr h1))
  obtain⟨rfl,rfl⟩:=hW.2 e
  try refine xz2 (gd hi) za9 ?_
  refine zby [0,1,2,3] rfl rfl (by decide) ⟨?_,?_,?_,?_,trivial⟩ trivial ?_<;>simp(etaStruct := .none)only[push_cast,zab,seval,zlo,zbr,List.map_set,zac,zaw]
 ·try refine xz2 (gd hi) za9 ?_
  refine caP (zzj w.f d.c hw.l.1) ?_
  rw[hav]
  try refine xz2 (gd hi) za9 ?_
  (try(refine⟨by kernel_rfl,?_⟩))
  try refine xz2 (gd hi) za9 ?_
  refine cI (fun h2 => ?_) fun h2 => ?_
  ·have hin:inF w.f d.c=false:=by
    cases hc:inF w.f d.c with
    | false=>rfl
    | true=>rw[hc]at h2;simp at h2
   have e:ze8 w d i=false:=by unfold ze8;rw[hin];simp
   obtain⟨rfl,rfl⟩:=hW.2 e
   try refine xz2 (gd hi) za9 ?_
   refine zby [0,1,2,3] rfl rfl (by decide) ⟨?_,?_,?_,?_,trivial⟩ trivial ?_<;>simp(etaStruct := .none)only[push_cast,zab,seval,zlo,zbr,List.map_set,zac,zaw]
  ·have hin:inF w.f d.c=true:=by
    cases hc:inF w.f d.c with
    | true=>rfl
    | false=>rw[hc]at h2;simp at h2
   obtain⟨m1,m2,m3,m4⟩:=z86 hw hin
   obtain⟨m,hm⟩:∃m,m=zam w.f d.c:=⟨_,rfl⟩
   rw[←hm]at m1 m2
   have hml:=hw.ml
   have hpl:=hw.places
   have ew1:IntKind.i64.wrap (IntKind.i64.wrap (d.c.y*w.f.w)+d.c.x)=(m:Int):=by rw[zak (d.c.y*w.f.w) (by omega) (by omega),zak _ (by omega) (by omega)];exact m2
   have hmb:=(hw.mine m m1).1
   try refine xz5 (gd hi) za9 ew1 (gd m1) za7 ?_
   (try(refine⟨by kernel_rfl,?_⟩))
   try refine xz5 (gd hi) za9 ew1 (gd m1) za7 ?_
   refine cI (fun h3 => ?_) fun h3 => ?_
   ·have e:ze8 w d i=false:=by
     unfold ze8
     rw[←hm,h3];simp
    obtain⟨rfl,rfl⟩:=hW.2 e
    try refine xz5 (gd hi) za9 ew1 (gd m1) za7 ?_
    refine zby [0,1,2,3] rfl rfl (by decide) ⟨?_,?_,?_,?_,trivial⟩ trivial ?_<;>simp(etaStruct := .none)only[push_cast,zab,seval,zlo,zbr,List.map_set,zac,zaw]
   ·have e:ze8 w d i=true:=by
     unfold ze8
     rw[←hm,hin]
     simp only[Bool.and_eq_true,decide_eq_true_eq]
     exact⟨⟨⟨⟨by omega,by omega⟩,h1.2⟩,trivial⟩,by omega⟩
    obtain⟨rfl,rfl⟩:=hW.1 e
    rw[←hm]
    try refine xz5 (gd hi) za9 ew1 (gd m1) za7 ?_
    refine zby [0,1,2,3] rfl rfl (by decide) ⟨?_,?_,?_,?_,trivial⟩ trivial ?_<;>simp(etaStruct := .none)only[push_cast,zab,seval,zlo,zbr,List.map_set,zac,zaw]
theorem zyv (w:Wld) (d:Ded) (hw:Right w) (h:w.troops.findIdx? (zrg d.who)=none):Spec Tryz.prog 136 [.ptr 0 0 0,zpl d] (zfx w) (B false) (zfx w):=by
 refine spB Tryz.func136 80 [.tmp 4] Tryz.results136 ?_
 try refine xst ?_
 refine caM [0,1,2,3] (zwj w d.who hw h) ?_
 try refine xst ?_
 refine zwo ?_ ?_
 ·rfl
 try refine xst ?_
 (try(refine⟨by kernel_rfl,?_⟩))
 try refine xst ?_
 refine cI (fun h1 => ?_) fun h1 => ?_
 ·try refine xst ?_
  refine zby [0,1,2,3] rfl rfl (by decide) ⟨?_,?_,?_,?_,trivial⟩ trivial ?_<;>simp(etaStruct := .none)only[push_cast,zab,seval]
 ·exact absurd h1 (by decide)
theorem drop_zero {w:Wld} (hw:Right w) {i:Nat} (hi:i<w.troops.length) (h:(w.troops.getD i default).load=0):zg3 w i=0∧zeo w i=w:=by
 have hn:=zt3 hw hi
 have h0:zg3 w i=0:=by omega
 obtain⟨o,e,ho,hs⟩:=zvm hw hi
 refine⟨h0,?_⟩
 unfold zeo
 rw[h0,Int.add_zero,Int.sub_zero,zu2 _ _ (by omega)]
 have:zbr (w.troops.getD i default) (w.troops.getD i default).load=w.troops.getD i default:=rfl
 rw[this,zu2 _ _ hi]
theorem z26 (w:Wld) (d:Ded) (i:Nat) (hw:Right w) (h:w.troops.findIdx? (zrg d.who)=some i) (b:Bool) (W:Wld) (hW:(znj w i=true→W=zeo w i∧b=decide (0<zg3 w i))∧(znj w i=false→W=w∧b=false)):Spec Tryz.prog 136 [.ptr 0 0 0,zpl d] (zfx w) (B b) (zfx W):=by
 have hi:=ziq h
 have ok:=hw.trp i hi
 obtain⟨o,eo,ho,hs⟩:=zvm hw hi
 have hn:=zt3 hw hi
 have hb:=hw.base o ho
 have hbx:=inF_iff.1 (ground_iff.1 hb.1).1
 have hfl:=zbi hw.f
 have hld:=ok.load
 have eo2:(w.troops.getD i default).owner.toNat=o:=by omega
 have edN:zg3 w i=min (w.troops.getD i default).load (1000000-w.stocks.getD o default):=by unfold zg3;rw[eo2]
 have ew1:IntKind.i64.wrap (1000000-w.stocks.getD o default)=1000000-w.stocks.getD o default:=zak _ (by omega) (by omega)
 have emn:(if 1000000-w.stocks.getD o default<(w.troops.getD i default).load then 1000000-w.stocks.getD o default else (w.troops.getD i default).load)=zg3 w i:=by rw[edN];split<;>omega
 rw[eo2]at hn
 have ew3:IntKind.i64.wrap ((w.troops.getD i default).load-zg3 w i)=(w.troops.getD i default).load-zg3 w i:=zak _ (by rcases ok.kind with k|k<;>omega) (by rcases ok.kind with k|k<;>omega)
 have setg:∀x:List PV,((w.troops.map zaw).set i x).getD i []=x:=fun x=>by rw[z66 _ _ _ (by simpa using hi)];simp
 refine spB Tryz.func136 80 [.tmp 4] Tryz.results136 ?_
 iterate 2(try simp(etaStruct := .none)only[push_cast,zab,seval,setg,zaa _ _ _ hi,zaw,eo,zaa _ _ _ ho,za3,zaa _ _ _ hs,zac,ew1,emn];try refine xsu ?_)
 refine caM [0,1,2,3] (zwi w d.who i hw h) ?_
 iterate 2(try simp(etaStruct := .none)only[push_cast,zab,seval,setg,zaa _ _ _ hi,zaw,eo,zaa _ _ _ ho,za3,zaa _ _ _ hs,zac,ew1,emn];try refine xsu ?_)
 refine gcP (fun hcc=>z88 (w.bases.getD o default) (w.troops.getD i default).c (by omega)) ?_
 iterate 2(try simp(etaStruct := .none)only[push_cast,zab,seval,setg,zaa _ _ _ hi,zaw,eo,zaa _ _ _ ho,za3,zaa _ _ _ hs,zac,ew1,emn];try refine xsu ?_)
 (try(refine⟨by kernel_rfl,?_⟩))
 iterate 2(try simp(etaStruct := .none)only[push_cast,zab,seval,setg,zaa _ _ _ hi,zaw,eo,zaa _ _ _ ho,za3,zaa _ _ _ hs,zac,ew1,emn];try refine xsu ?_)
 refine cI (fun h1 => ?_) fun h1 => ?_
 ·have hd:W=w∧b=false:=by
   rcases h1 with h1|h1
   ·obtain⟨z1,z2⟩:=drop_zero hw hi h1
    cases hk:znj w i with
    | true=>obtain⟨q1,q2⟩:=hW.1 hk;rw[q1,q2,z1,z2];exact⟨rfl,rfl⟩
    | false=>exact hW.2 hk
   ·exact hW.2 (by unfold znj;rw[eo2];exact h1)
  obtain⟨rfl,rfl⟩:=hd
  iterate 2(try simp(etaStruct := .none)only[push_cast,zab,seval,setg,zaa _ _ _ hi,zaw,eo,zaa _ _ _ ho,za3,zaa _ _ _ hs,zac,ew1,emn];try refine xsu ?_)
  refine zby [0,1,2,3] rfl rfl (by decide) ⟨?_,?_,?_,?_,trivial⟩ trivial ?_
  ·simp(etaStruct := .none)only[push_cast,zab,seval,zeo]
  ·simp(etaStruct := .none)only[push_cast,zab,seval,zeo,eo2,List.map_set,zac]
  ·simp(etaStruct := .none)only[push_cast,zab,seval,zeo]
  ·simp(etaStruct := .none)only[push_cast,zab,seval,zeo,zbr,List.map_set,zaw,eo,ew3]
  ·simp(etaStruct := .none)only[push_cast,zab,seval]
 ·obtain⟨rfl,rfl⟩:=hW.1 (by unfold znj;rw[eo2];exact h1.2)
  iterate 2(try simp(etaStruct := .none)only[push_cast,zab,seval,setg,zaa _ _ _ hi,zaw,eo,zaa _ _ _ ho,za3,zaa _ _ _ hs,zac,ew1,emn];try refine xsu ?_)
  (try(refine⟨by kernel_rfl,?_⟩))
  iterate 2(try simp(etaStruct := .none)only[push_cast,zab,seval,setg,zaa _ _ _ hi,zaw,eo,zaa _ _ _ ho,za3,zaa _ _ _ hs,zac,ew1,emn];try refine xsu ?_)
  (try(refine⟨by kernel_rfl,?_⟩))
  iterate 2(try simp(etaStruct := .none)only[push_cast,zab,seval,setg,zaa _ _ _ hi,zaw,eo,zaa _ _ _ ho,za3,zaa _ _ _ hs,zac,ew1,emn];try refine xsu ?_)
  refine zby [0,1,2,3] rfl rfl (by decide) ⟨?_,?_,?_,?_,trivial⟩ trivial ?_
  ·simp(etaStruct := .none)only[push_cast,zab,seval,zeo]
  ·simp(etaStruct := .none)only[push_cast,zab,seval,zeo,eo2,List.map_set,zac]
  ·simp(etaStruct := .none)only[push_cast,zab,seval,zeo]
  ·simp(etaStruct := .none)only[push_cast,zab,seval,zeo,zbr,List.map_set,zaw,eo,ew3]
  ·simp(etaStruct := .none)only[push_cast,zab,seval]
theorem z97 (F:FuncId) (a b:List AV) (l:List Trp) (p:Trp→Bool) (hl:l.length≤9223372036854775807) (hp:∀n∈l,Spec Tryz.prog F (a ++ [yd1 n]++b) [] (B (p n)) []) (ha:∀h,cvL [] h a=a) (hb:∀h,cvL [] h b=b) :
 Spec Tryz.prog 183 [.c (.sl 7 (l.map zaw)),.clo (.func F) a b] [] (B (l.any p)) []:=by
 refine spB Tryz.func183 9 [.tmp 4] Tryz.results183 ?_
 simp(etaStruct := .none)only[push_cast,zab,seval]
 refine zdt (zzw F a b l p hl hp ha hb) (by simp only[ha,hb,cvL,cv];exact WkL.refl _) ?_
 simp(etaStruct := .none)only[push_cast,zab,seval]
 exact zb0 rfl trivial (Wk.of (by rw[zfm];rfl))
theorem yko (t:Trp) (c:Cel):Spec Tryz.prog 184 ([] ++ [yd1 t] ++ [.fel 2 [[pI c.x,pI c.y]] 0 0]) [] (B (decide (t.c=c))) []:=by
 refine spB Tryz.func184 8 [.tmp 3] Tryz.results184 ?_
 try refine xz1 zds ?_
 exact xrz rfl
theorem z35 (b:Cel) {i j:Nat} (hi:i<3) (hj:j<3):(zdp b).getD (1+3*i+j) default=⟨b.x+((j:Int)-1),b.y+((i:Int)-1)⟩:=by
 have h1:i=0∨i=1∨i=2:=by omega
 have h2:j=0∨j=1∨j=2:=by omega
 obtain⟨x,y⟩:=b
 have e1:x+(((1:Nat):Int)-1)=x:=by omega
 have e2:y+(((1:Nat):Int)-1)=y:=by omega
 have e3:x+(((0:Nat):Int)-1)=x-1:=by omega
 have e4:y+(((0:Nat):Int)-1)=y-1:=by omega
 have e5:x+(((2:Nat):Int)-1)=x+1:=by omega
 have e6:y+(((2:Nat):Int)-1)=y+1:=by omega
 rcases h1 with rfl|rfl|rfl<;>rcases h2 with rfl|rfl|rfl<;>simp only[e1,e2,e3,e4,e5,e6]<;>rfl
theorem zuc (b:Cel) {i j:Nat} (hi:i<3) (hj:j<3):(zdp b).take (1+3*i+(j+1))=(zdp b).take (1+3*i+j) ++ [(⟨b.x+((j:Int)-1),b.y+((i:Int)-1)⟩:Cel)]:=by
 rw[←z35 b hi hj]
 change (zdp b).take ((1+3*i+j)+1)=_
 exact zao _ _ (by rw[show (zdp b).length=10 from rfl];omega)
theorem z21 (w:Wld) (b:Cel) (hw:Right w) (hb : -1000≤b.x∧b.x≤1000 ∧ -1000≤b.y∧b.y≤1000) (c:Cel) (q:Bool) (h:(∀c',ztx w b=some c'→c=c'∧q=true)∧(ztx w b=none→c=⟨0,0⟩∧q=false)):Spec Tryz.prog 167 [.ptr 0 0 0,zhv b] (zfx w) (.tup [zhv c,B q]) (zfx w):=by
 have hal:(zdp b).length=10:=rfl
 have hnt:=hw.nt
 have hav:∀c,atV w.f c=if inF w.f c then (zai w.f c,0)else (0,7):=fun c=>by unfold atV;rw[if_neg (by simp[hw.f])]
 refine spB Tryz.func167 70 [.cell 4 46,.tmp 5] Tryz.results167 ?_
 try refine xst ?_
 refine zax (fun i:Nat=>⟨[(7,I .i64 ((i:Int)-1)),(6,.own 6),(4,.ptr 5 0 0),(3,.ptr 4 0 0),(0,.ptr 0 0 0)],[(0,.blk 200 (yd5 w 1 2 3)),(1,stR w),(2,miR w),(3,trR w),(4,.blk 46 [I .i64 b.x,I .i64 b.y]),(5,.blk 46 [I .i64 0,I .i64 0]),(6,.row 46 2 (((zdp b).take (1+3*i)).map za3))],7⟩) (fun i:Nat=>i≤3) (fun i:Nat=>3-i) (0) (Nat.zero_le _) (To.mk [0,1,2,3,4,5,6] rfl rfl (by decide) ?_ ?_) ?_
 ·simp(etaStruct := .none)only[push_cast,zab,seval,zdp,za3]
 ·simp(etaStruct := .none)only[push_cast,zab,seval,Int.zero_sub]
 rintro i hi
 try refine xst ?_
 refine cI (fun h1 => ?_) fun h1 => ?_
 ·have hi3:i<3:=by omega
  try refine xst ?_
  refine zax (fun j:Nat=>⟨[(8,I .i64 ((j:Int)-1)),(7,I .i64 ((i:Int)-1)),(6,.own 6),(4,.ptr 5 0 0),(3,.ptr 4 0 0),(0,.ptr 0 0 0)],[(0,.blk 200 (yd5 w 1 2 3)),(1,stR w),(2,miR w),(3,trR w),(4,.blk 46 [I .i64 b.x,I .i64 b.y]),(5,.blk 46 [I .i64 0,I .i64 0]),(6,.row 46 2 (((zdp b).take (1+3*i+j)).map za3))],7⟩) (fun j:Nat=>j≤3) (fun j:Nat=>3-j) (0) (Nat.zero_le _) (To.mk [0,1,2,3,4,5,6] rfl rfl (by decide) ?_ ?_) ?_
  ·simp(etaStruct := .none)only[push_cast,zab,seval]
  ·simp(etaStruct := .none)only[push_cast,zab,seval,Int.zero_sub]
  rintro j hj
  try refine xst ?_
  refine cI (fun h2 => ?_) fun h2 => ?_
  ·have hj3:j<3:=by omega
   have hst:=zuc b hi3 hj3
   have hln:((zdp b).take (1+3*i+j)).length≤10:=by rw[List.length_take,hal];omega
   try refine xst ?_
   refine⟨j+1,by omega,by omega,To.mk [0,1,2,3,4,5,8] rfl rfl (by decide) ?_ ?_⟩
   ·(iterate 2((try simp(etaStruct := .none)only[push_cast,zab,seval,hst,List.map_append,za3]);(try(refine xsu ?_;try exact xtI))))
   ·(iterate 2((try simp(etaStruct := .none)only[push_cast,zab,seval,Int.add_sub_cancel,Int.sub_add_cancel]);(try(refine xsu ?_;try exact xtI))))
  ·obtain rfl:j=3:=by omega
   try refine xst ?_
   refine⟨i+1,by omega,by omega,To.mk [0,1,2,3,4,5,6] rfl rfl (by decide) ?_ ?_⟩
   ·(iterate 2((try simp(etaStruct := .none)only[push_cast,zab,seval,Nat.mul_add,Nat.mul_one,Nat.add_assoc]);(try(refine xsu ?_;try exact xtI))))
   ·(iterate 2((try simp(etaStruct := .none)only[push_cast,zab,seval,Int.add_sub_cancel,Int.sub_add_cancel]);(try(refine xsu ?_;try exact xtI))))
 ·obtain rfl:i=3:=by omega
  have hta:(zdp b).take (1+3*3)=zdp b:=rfl
  try refine xst ?_
  refine zax (fun k:Nat=>⟨[(37,I .i64 k),(36,I .i64 10),(35,.own 6),(4,.ptr 5 0 0),(0,.ptr 0 0 0)],[(0,.blk 200 (yd5 w 1 2 3)),(1,stR w),(2,miR w),(3,trR w),(4,.blk 46 [I .i64 b.x,I .i64 b.y]),(5,.blk 46 [I .i64 0,I .i64 0]),(6,.row 46 2 ((zdp b).map za3))],7⟩) (fun k:Nat=>k≤10∧∀j,j<k→zrr w ((zdp b).getD j default)=false) (fun k:Nat=>10-k) (0) (⟨Nat.zero_le _,fun j h=>absurd h (Nat.not_lt_zero _)⟩) (To.mk [0,1,2,3,4,5,6] rfl rfl (by decide) ?_ ?_) ?_
  ·simp(etaStruct := .none)only[push_cast,zab,seval,hta]
  ·simp(etaStruct := .none)only[push_cast,zab,seval,hta,hal]
  rintro k ⟨hk,hn⟩
  try refine xst ?_
  refine zay (fun h3 => ?_) (fun h3 => ?_)
  ·(try replace h3:=xhh h3)
   have hlt:k<(zdp b).length:=by rw[hal];omega
   obtain⟨x,hx⟩:∃x,x=(zdp b).getD k default:=⟨_,rfl⟩
   (iterate 2((try simp(etaStruct := .none) (maxSteps:=1000000)only[push_cast,zab,seval,zaa _ _ _ hlt,←hx,za3]);(try(refine xsu ?_;try exact xtI))))
   refine caP (zzj w.f x hw.l.1) ?_
   rw[hav]
   (iterate 2((try simp(etaStruct := .none) (maxSteps:=1000000)only[push_cast,zab,seval,zaa _ _ _ hlt,←hx,za3]);(try(refine xsu ?_;try exact xtI))))
   (try(refine⟨by kernel_rfl,?_⟩))
   (iterate 2((try simp(etaStruct := .none) (maxSteps:=1000000)only[push_cast,zab,seval,zaa _ _ _ hlt,←hx,za3]);(try(refine xsu ?_;try exact xtI))))
   refine zjz (fun hcc=>z97 _ [] [.fel 2 [[pI x.x,pI x.y]] 0 0] w.troops (fun t=>decide (t.c=x)) (by omega) (fun t _=>yko t x) (fun _=>rfl) (fun _=>rfl)) (WkL.refl _) rfl (by intro hc;(try simp(etaStruct := .none)only[push_cast,zab,seval]);(try simp_all)) ?_
   (iterate 2((try simp(etaStruct := .none) (maxSteps:=1000000)only[push_cast,zab,seval,zaa _ _ _ hlt,←hx,za3]);(try(refine xsu ?_;try exact xtI))))
   refine cI (fun h4 => ?_) fun h4 => ?_
   ·have hfb:zrr w x=true:=by
     unfold zrr zb2
     cases hc:inF w.f x with
     | false=>rw[hc]at h4;simp at h4
     | true =>
      rw[hc]at h4
      simp only[if_true]at h4
      rw[h4.2];simp;exact h4.1.2
    obtain⟨rfl,rfl⟩:=h.1 x (by unfold ztx;rw[hx];exact z7d _ _ k hlt (by rw[←hx];exact hfb) hn)
    (iterate 2((try simp(etaStruct := .none) (maxSteps:=1000000)only[push_cast,zab,seval,zaa _ _ _ hlt,←hx,za3]);(try(refine xsu ?_;try exact xtI))))
    refine zby [0,1,2,3] rfl rfl (by decide) ⟨?_,?_,?_,?_,trivial⟩ ?_ ?_<;>first|exact Wk.refl _|(try simp(etaStruct := .none)only[push_cast,zab,seval])
   ·have hfb:zrr w x=false:=by
     unfold zrr zb2
     cases hc:inF w.f x with
     | false=>rfl
     | true =>
      rw[hc]at h4
      simp only[if_true]at h4
      rcases h4 with h4|h4
      ·by_cases hp:zai w.f x=1
       ·simp[hp]
       ·exact absurd (h4.resolve_left (fun n=>n trivial)) hp
      ·rw[h4];simp
    (iterate 2((try simp(etaStruct := .none) (maxSteps:=1000000)only[push_cast,zab,seval,zaa _ _ _ hlt,←hx,za3]);(try(refine xsu ?_;try exact xtI))))
    refine⟨k+1,⟨by omega,fun j hj=>by
 rcases Nat.lt_or_ge j k with h'|h'
 ·exact hn j h'
 ·rw [show j = k by omega, ← hx]; exact hfb⟩, by omega, To.mk [0, 1, 2, 3, 4, 5, 6] rfl rfl (by decide) ?_ ?_⟩
    ·(iterate 2((try simp(etaStruct := .none) (maxSteps:=1000000)only[push_cast,zab,seval,zaa _ _ _ hlt,←hx,za3]);(try(refine xsu ?_;try exact xtI))))
    ·(iterate 2((try simp(etaStruct := .none) (maxSteps:=1000000)only[push_cast,zab,seval,zaa _ _ _ hlt,←hx,za3]);(try(refine xsu ?_;try exact xtI))))
  ·(try replace h3:=xhh h3)
   obtain⟨rfl,rfl⟩:=h.2 (z3a _ _ (fun j hj=>hn j (by rw[hal]at hj;omega)))
   try refine xst ?_
   refine zby [0,1,2,3] rfl rfl (by decide) ⟨?_,?_,?_,?_,trivial⟩ ?_ ?_<;>first|exact Wk.refl _|(try simp(etaStruct := .none)only[push_cast,zab,seval])
end Go.Proofs.YtmjbgbmegbkmhaaGreat
