/- Lemmas for the proof of topCouncil.proved. -/
import Derived.Test.YtmjbgbmegbkmhaaGreatTCo5
namespace Go.Proofs.YtmjbgbmegbkmhaaGreat
set_option linter.all false
open Go.RowKit
section
variable {α : Type} [Inhabited α] (key : α → Int)
def zc5 (l:List α) (i j:Nat):List α := (l.set i (l.getD j default)).set j (l.getD i default)
theorem zap (l:List α) (i j:Nat):(zc5 l i j).length=l.length:=by simp[zc5]
theorem zbz (l:List α) {i j k:Nat} (hi:i<l.length) (hj:j<l.length) (hk:k<l.length):(zc5 l i j).getD k default=if k=j then l.getD i default else if k=i then l.getD j default else l.getD k default:=by
 unfold zc5
 rw[zae _ _ (by simpa using hk),List.getElem_set,List.getElem_set]
 by_cases h1:j=k
 ·rw[if_pos h1,if_pos h1.symm]
 ·rw[if_neg h1,if_neg (Ne.symm h1)]
  by_cases h2:i=k
  ·rw[if_pos h2,if_pos h2.symm]
  ·rw[if_neg h2,if_neg (Ne.symm h2),zae _ _ hk]
theorem mem_getD {l:List α} {x : α} : x∈l↔∃k,k<l.length∧l.getD k default=x:=by
 constructor
 ·intro h
  obtain⟨k,hk,e⟩:=List.getElem_of_mem h
  exact⟨k,hk,by rw[zae _ _ hk];exact e⟩
 ·rintro⟨k,hk,rfl⟩
  exact za0 l k hk
theorem zk1 (l:List α) {i j:Nat} (hi:i<l.length) (hj:j<l.length) (x : α):x∈zc5 l i j↔x∈l:=by
 rw[mem_getD,mem_getD,zap]
 constructor
 ·rintro⟨k,hk,e⟩
  rw[zbz l hi hj hk]at e
  split at e
  ·exact⟨i,hi,e⟩
  ·split at e
   ·exact⟨j,hj,e⟩
   ·exact⟨k,hk,e⟩
 ·rintro⟨k,hk,e⟩
  by_cases h1:k=i
  ·subst h1
   refine⟨j,hj,?_⟩
   rw[zbz l hi hj hj,if_pos rfl];exact e
  ·by_cases h2:k=j
   ·subst h2
    refine⟨i,hi,?_⟩
    rw[zbz l hi hj hi]
    by_cases h3:i=k
    ·exact absurd h3.symm h1
    ·rw[if_neg h3,if_pos rfl];exact e
   ·exact⟨k,hk,by rw[zbz l hi hj hk,if_neg h2,if_neg h1];exact e⟩
def par (k:Nat):Nat:=(k-1)/2
theorem zej (j:Nat):((j:Int)-1).tdiv 2=((par j:Nat):Int):=by
 cases j with
 | zero=>rfl
 | succ k =>
  rw[show ((k+1:Nat):Int)-1=(k:Int)from by omega,Int.tdiv_eq_ediv_of_nonneg (by omega)]
  simp[par]
def zmw (l:List α) (n:Nat):Prop:=∀k,0<k→k<n→key (l.getD (par k) default)≤key (l.getD k default)
def hup (l:List α) (j:Nat):List α := if par j=j∨¬key (l.getD j default)<key (l.getD (par j) default)then l else hup (zc5 l (par j) j) (par j)
termination_by j
decreasing_by simp only[par,not_or]at *;omega
theorem yct (l:List α) (j:Nat):(hup key l j).length=l.length:=by
 induction j using Nat.strongRecOn generalizing l with
 | _ j ih =>
  rw[hup]
  split
  ·rfl
  ·rename_i h
   rw[ih (par j) (by simp only[par,not_or]at *;omega),zap]
theorem ycs (l:List α) (j:Nat) (hj:j<l.length) (x : α):x∈hup key l j↔x∈l:=by
 induction j using Nat.strongRecOn generalizing l with
 | _ j ih =>
  rw[hup]
  split
  ·rfl
  ·rename_i h
   have:par j<j:=by simp only[par,not_or]at *;omega
   rw[ih (par j) this _ (by rw[zap];omega),zk1 _ (by omega) hj]
theorem z62 (l:List α) (j:Nat) (hj:j<l.length) (h1:∀k,0<k→k<l.length→k≠j→key (l.getD (par k) default)≤key (l.getD k default))
 (h2:0<j→∀k,0<k→k<l.length→par k=j→key (l.getD (par j) default)≤key (l.getD k default)):zmw key (hup key l j) l.length:=by
 induction j using Nat.strongRecOn generalizing l with
 | _ j ih =>
  rw[hup]
  split
  ·rename_i h
   intro k hk hkl
   by_cases e:k=j
   ·subst e
    rcases h with h|h
    ·simp only[par]at h;omega
    ·omega
   ·exact h1 k hk hkl e
  ·rename_i h
   rw[not_or,Decidable.not_not]at h
   obtain⟨e1,e2⟩:=h
   have lt:par j<j:=by simp only[par]at *;omega
   have hi:par j<l.length:=by omega
   have G:∀k,k<l.length→(zc5 l (par j) j).getD k default=if k=j then l.getD (par j) default else if k=par j then l.getD j default else l.getD k default:=fun k hk=>zbz l hi hj hk
   have:=ih (par j) lt (zc5 l (par j) j) (by rw[zap];exact hi) (fun k hk hkl hne=>by
    rw[zap]at hkl
    rw[G k hkl,G (par k) (by simp only[par]at *;omega)]
    by_cases a:k=j
    ·subst a
     rw[if_neg (by omega),if_pos rfl,if_pos rfl];omega
    ·rw[if_neg a,if_neg hne]
     by_cases b:par k=j
     ·rw[if_pos b]
      exact h2 (by omega) k hk hkl b
     ·rw[if_neg b]
      by_cases c:par k=par j
      ·rw[if_pos c]
       have:=h1 k hk hkl a
       rw[c]at this;omega
      ·rw[if_neg c];exact h1 k hk hkl a) (fun hp k hk hkl hpk=>by
    rw[zap]at hkl
    have q1:par (par j)<par j:=by simp only[par]at *;omega
    have q2:=h1 (par j) hp hi (by omega)
    rw[G k hkl,G _ (by omega),if_neg (by omega),if_neg (by omega)]
    by_cases a:k=j
    ·rw[if_pos a];exact q2
    ·have:k≠par j:=by intro e;rw[e]at hpk;omega
     rw[if_neg a,if_neg this]
     have:=h1 k hk hkl a
     rw[hpk]at this;omega)
   rwa [zap]at this
def kid (l:List α) (i n:Nat):Nat:=if 2*i+2<n∧key (l.getD (2*i+2) default)<key (l.getD (2*i+1) default)then 2*i+2 else 2*i+1
theorem zre (l:List α) (i n:Nat):i<kid key l i n:=by unfold kid;split<;>omega
theorem z19 (l:List α) (i n:Nat) (h:2*i+1<n):kid key l i n<n:=by unfold kid;split<;>omega
def hdn (l:List α) (i n:Nat):List α := if n≤2*i+1∨¬key (l.getD (kid key l i n) default)<key (l.getD i default)then l else hdn (zc5 l i (kid key l i n)) (kid key l i n) n
termination_by n-i
decreasing_by
 rename_i h
 have h1:=zre key l i n
 rw[not_or]at h
 omega
theorem zoy (l:List α) (i n:Nat):(hdn key l i n).length=l.length:=by
 induction hm:n-i using Nat.strongRecOn generalizing l i with
 | _ m ih =>
  rw[hdn]
  split
  ·rfl
  ·rename_i h
   have h1:=zre key l i n
   rw[ih _ (by omega) _ _ rfl,zap]
theorem ycw (l:List α) (i n:Nat) (hn:n≤l.length) (x : α):x∈hdn key l i n↔x∈l:=by
 induction hm:n-i using Nat.strongRecOn generalizing l i with
 | _ m ih =>
  rw[hdn]
  split
  ·rfl
  ·rename_i h
   have h1:=zre key l i n
   have h2:=z19 key l i n (by omega)
   rw[ih _ (by omega) _ _ (by rw[zap];exact hn) rfl,zk1 _ (by omega) (by omega)]
theorem ycv (l:List α) (i n k:Nat) (hn:n≤l.length) (hk:n≤k) (hkl:k<l.length):(hdn key l i n).getD k default=l.getD k default:=by
 induction hm:n-i using Nat.strongRecOn generalizing l i with
 | _ m ih =>
  rw[hdn]
  split
  ·rfl
  ·rename_i h
   have h1:=zre key l i n
   have h2:=z19 key l i n (by omega)
   rw[ih _ (by omega) _ _ (by rw[zap];exact hn) (by rw[zap];exact hkl) rfl,zbz _ (by omega) (by omega) hkl,if_neg (by omega),if_neg (by omega)]
theorem z63 (l:List α) (i n:Nat) (hn:n≤l.length) (h1:∀k,0<k→k<n→par k≠i→key (l.getD (par k) default)≤key (l.getD k default))
 (h2:0<i→∀k,0<k→k<n→par k=i→key (l.getD (par i) default)≤key (l.getD k default)):zmw key (hdn key l i n) n:=by
 induction hm:n-i using Nat.strongRecOn generalizing l i with
 | _ m ih =>
  have kd:∀k,0<k→k<n→par k=i→key (l.getD (kid key l i n) default)≤key (l.getD k default):=by
   intro k hk hkn hp
   have:k=2*i+1∨k=2*i+2:=by simp only[par]at hp;omega
   unfold kid
   rcases this with e|e
   ·subst e
    split
    ·rename_i h;omega
    ·exact Int.le_refl _
   ·subst e
    split
    ·exact Int.le_refl _
    ·rename_i h
     by_cases h3:key (l.getD (2*i+2) default)<key (l.getD (2*i+1) default)
     ·exact absurd ⟨hkn,h3⟩ h
     ·omega
  rw[hdn]
  split
  ·rename_i h
   intro k hk hkn
   by_cases e:par k=i
   ·rcases h with h|h
    ·simp only[par]at e;omega
    ·have:=kd k hk hkn e
     rw[e];omega
   ·exact h1 k hk hkn e
  ·rename_i h
   rw[not_or,Decidable.not_not]at h
   have g1:=zre key l i n
   have g2:=z19 key l i n (by omega)
   have gp:par (kid key l i n)=i:=by unfold kid;simp only[par];split<;>omega
   generalize kid key l i n=j at *
   have G:∀k,k<l.length→(zc5 l i j).getD k default=if k=j then l.getD i default else if k=i then l.getD j default else l.getD k default:=fun k hk=>zbz l (by omega) (by omega) hk
   refine ih (n-j) (by omega) (zc5 l i j) j (by rw[zap];exact hn) (fun k hk hkn hpk => ?_) (fun hj k hk hkn hpk => ?_) rfl
   ·have hp:par k<k:=by simp only[par]at *;omega
    rw[G k (by omega),G (par k) (by omega)]
    by_cases a:k=j
    ·subst a
     rw[if_pos rfl,if_neg (by omega),if_pos gp];omega
    ·rw[if_neg a,if_neg hpk]
     by_cases b:k=i
     ·subst b
      rw[if_pos rfl,if_neg (by omega)]
      have:=h2 hk j (by omega) (by omega) gp
      exact this
     ·rw[if_neg b]
      by_cases c:par k=i
      ·rw[if_pos c];exact kd k hk hkn c
      ·rw[if_neg c];exact h1 k hk hkn c
   ·have hp:par k<k:=by simp only[par]at *;omega
    rw[G k (by omega),if_neg (by omega),if_neg (by omega),gp,G i (by omega),if_neg (by omega),if_pos rfl]
    have:=h1 k hk hkn (by omega)
    rw[hpk]at this;exact this
theorem zox {l:List α} {n:Nat} (h:zmw key l n):∀k,k<n→key (l.getD 0 default)≤key (l.getD k default):=by
 intro k
 induction k using Nat.strongRecOn with
 | _ k ih =>
  intro hk
  rcases Nat.eq_zero_or_pos k with e|e
  ·subst e;exact Int.le_refl _
  ·have:=ih (par k) (by simp only[par];omega) (by simp only[par];omega)
   have:=h k e hk
   omega
def zdr (l:List α) (x : α):List α := hup key (l ++ [x]) l.length
def zfy (l:List α):List α := (hdn key (zc5 l 0 (l.length-1)) 0 (l.length-1)).take (l.length-1)
theorem zl5 (l:List α) (x : α) (k:Nat) (h:k<l.length):(l ++ [x]).getD k default=l.getD k default:=by
 rw[zae _ _ (by simp;omega),zae _ _ h,List.getElem_append_left h]
theorem zl2 (l:List α) (x : α):(zdr key l x).length=l.length+1:=by unfold zdr;rw[yct];simp
theorem zdm (l:List α) (x y : α):y∈zdr key l x↔y∈l∨y=x:=by
 unfold zdr
 rw[ycs _ _ _ (by simp)];simp
theorem zjh (l:List α) (x : α) (h:zmw key l l.length):zmw key (zdr key l x) (zdr key l x).length:=by
 rw[zl2]
 have:=z62 key (l ++ [x]) l.length (by simp) (fun k hk hkl hne=>by
  simp only[List.length_append,List.length_cons,List.length_nil]at hkl
  have:par k<k:=by simp only[par]at *;omega
  rw[zl5 _ _ _ (by omega),zl5 _ _ _ (by omega)];exact h k hk (by omega)) (fun _ k hk hkl hp=>by
  simp only[List.length_append,List.length_cons,List.length_nil,par]at *;omega)
 simpa[zdr]using this
theorem zpw (l:List α) (n k:Nat) (h:k<n):(l.take n).getD k default=l.getD k default:=by
 simp only[List.getD_eq_getElem?_getD,List.getElem?_take,if_pos h]
theorem zgr (l:List α):(zfy key l).length=l.length-1:=by unfold zfy;rw[List.length_take,zoy,zap];omega
theorem zik (l:List α) (hl:0<l.length) (h:zmw key l l.length):zmw key (zfy key l) (zfy key l).length:=by
 rw[zgr]
 have:=z63 key (zc5 l 0 (l.length-1)) 0 (l.length-1) (by rw[zap];omega) (fun k hk hkn hp=>by
  have q:par k<k:=by simp only[par]at *;omega
  rw[zbz _ (by omega) (by omega) (by omega),zbz _ (by omega) (by omega) (by omega),if_neg (by omega),if_neg (by omega),if_neg (by omega),if_neg (by omega)]
  exact h k hk (by omega)) (fun h0=>absurd h0 (Nat.lt_irrefl _))
 intro k hk hkn
 unfold zfy
 rw[zpw _ _ _ hkn,zpw _ _ _ (by simp only[par]at *;omega)]
 exact this k hk hkn
theorem zrl (l:List α) (hl:0<l.length):(hdn key (zc5 l 0 (l.length-1)) 0 (l.length-1)).getD (l.length-1) default=l.getD 0 default:=by
 rw[ycv _ _ _ _ _ (by rw[zap];omega) (Nat.le_refl _) (by rw[zap];omega),zbz _ hl (by omega) (by omega),if_pos rfl]
theorem zfp (l:List α) (hl:0<l.length) (x : α):x∈l↔x=l.getD 0 default∨x∈zfy key l:=by
 have e:hdn key (zc5 l 0 (l.length-1)) 0 (l.length-1)=zfy key l ++ [l.getD 0 default]:=by
  have h1:=zrl key l hl
  have h2:(hdn key (zc5 l 0 (l.length-1)) 0 (l.length-1)).length=l.length-1+1:=by rw[zoy,zap];omega
  unfold zfy
  rw[←h1,←zao _ _ (by omega),List.take_of_length_le (by omega)]
 rw[←zk1 l hl (show l.length-1<l.length by omega),←ycw key _ 0 (l.length-1) (by rw[zap];omega),e]
 simp[or_comm]
end
def Adj (W p n:Nat):Prop:=n+W=p∨(n+1=p∧0<p % W)∨(p+1=n∧0<n % W)∨p+W=n
theorem Adj.symm {W p n:Nat} (h:Adj W p n):Adj W n p:=by
 rcases h with h|⟨h,h'⟩|⟨h,h'⟩|h
 ·exact .inr (.inr (.inr h))
 ·exact .inr (.inr (.inl ⟨h,h'⟩))
 ·exact .inr (.inl ⟨h,h'⟩)
 ·exact .inl h
theorem Adj.ne {W p n:Nat} (hW:0<W) (h:Adj W p n):p≠n:=by
 rcases h with h|⟨h,h'⟩|⟨h,h'⟩|h<;>omega
def zmh (W H p:Nat):List Nat:=(if 0<p/W then [p-W]else [])++(if 0<p % W then [p-1]else [])++(if p % W+1<W then [p+1]else [])++(if p/W+1<H then [p+W]else [])
theorem zus {W:Nat} (hW:0<W) (p:Nat):(p+1) % W=if p % W+1=W then 0 else p % W+1:=by
 have h1:=Nat.div_add_mod p W
 have h2:=Nat.mod_lt p hW
 have e:p+1=W*(p/W)+(p % W+1):=by omega
 rw[e,Nat.mul_add_mod]
 split
 ·rename_i h;rw[h,Nat.mod_self]
 ·rename_i h;exact Nat.mod_eq_of_lt (by omega)
theorem zna {W H p n:Nat} (hW:0<W) (hp:p<W*H):n∈zmh W H p↔n<W*H∧Adj W p n:=by
 have h1:=Nat.div_add_mod p W
 have h2:=Nat.mod_lt p hW
 have h3:p/W<H:=by rw[Nat.div_lt_iff_lt_mul hW,Nat.mul_comm];exact hp
 have h4:0<p/W↔W≤p:=by rw[Nat.div_pos_iff];exact⟨fun h=>h.2,fun h=>⟨hW,h⟩⟩
 have h5:p/W+1<H↔p+W<W*H:=by
  have:(p+W)/W=p/W+1:=Nat.add_div_right p hW
  rw[←this,Nat.div_lt_iff_lt_mul hW,Nat.mul_comm]
 have h6:=zus hW p
 have h7:p % W+1<W→p+1<W*H:=by
  intro h
  have:W*(p/W)+W≤W*H:=by rw[←Nat.mul_succ];exact Nat.mul_le_mul_left _ h3
  omega
 unfold zmh Adj
 simp only[List.mem_append]
 constructor
 ·rintro (((h|h)|h)|h)
  ·split at h
   ·rename_i g
    simp only[List.mem_singleton]at h
    have:=h4.1 g
    exact⟨by omega,.inl (by omega)⟩
   ·simp at h
  ·split at h
   ·rename_i g
    simp only[List.mem_singleton]at h
    have:0<p:=Nat.pos_of_ne_zero fun e=>by rw[e]at g;simp at g
    exact⟨by omega,.inr (.inl ⟨by omega,g⟩)⟩
   ·simp at h
  ·split at h
   ·rename_i g
    simp only[List.mem_singleton]at h
    rw[if_neg (by omega)]at h6
    have:=h7 g
    exact⟨by omega,.inr (.inr (.inl ⟨by omega,by rw[h,h6];omega⟩))⟩
   ·simp at h
  ·split at h
   ·rename_i g
    simp only[List.mem_singleton]at h
    have:=h5.1 g
    exact⟨by omega,.inr (.inr (.inr (by omega)))⟩
   ·simp at h
 ·rintro⟨hn,h|⟨h,h'⟩|⟨h,h'⟩|h⟩
  ·refine .inl (.inl (.inl ?_))
   rw[if_pos (h4.2 (by omega))];simp;omega
  ·refine .inl (.inl (.inr ?_))
   rw[if_pos h'];simp;omega
  ·refine .inl (.inr ?_)
   rw[if_pos]
   ·simp;omega
   ·rw[←h,h6]at h'
    split at h'
    ·omega
    ·omega
  ·refine .inr ?_
   rw[if_pos (h5.2 (by omega))];simp;omega
def kV (q:Int):Int:=if q=2 then 3 else 2
theorem zzh (q:Int):2≤kV q∧kV q≤3:=by unfold kV;split<;>omega
theorem zn4 {l:List Int} {i:Nat} (v:Int) (p:Nat) (hi:i<l.length):(l.set i v).getD p default=if p=i then v else l.getD p default:=by
 by_cases h:p=i
 ·subst h;rw[if_pos rfl,zae _ _ (by simpa using hi)];simp
 ·rw[if_neg h]
  simp only[List.getD_eq_getElem?_getD,List.getElem?_set,if_neg (Ne.symm h)]
structure Flood (W : Nat) (pl : List Int) (s : List Nat) (far : List Int) : Prop where
 len:far.length=pl.length
 low:∀p,p<pl.length → -1≤far.getD p default
 src:∀p∈s,far.getD p default=0
 why:∀p,p<pl.length→0≤far.getD p default→(p∈s∧far.getD p default=0)∨∃n,n<pl.length∧Adj W p n∧pl.getD p default≠1∧0≤far.getD n default∧far.getD n default+kV (pl.getD p default)≤far.getD p default
 all:∀p n,p<pl.length→n<pl.length→Adj W p n→0≤far.getD p default→pl.getD n default≠1→0≤far.getD n default∧far.getD n default≤far.getD p default+kV (pl.getD n default)
theorem Flood.le {W:Nat} {pl:List Int} {s:List Nat} {f g:List Int} (hf:Flood W pl s f) (hg:Flood W pl s g):∀(N p:Nat),p<pl.length→0≤f.getD p default→f.getD p default≤N→0≤g.getD p default∧g.getD p default≤f.getD p default:=by
 intro N
 induction N using Nat.strongRecOn with
 | _ N ih =>
  intro p hp h0 hN
  rcases hf.why p hp h0 with ⟨h1,h2⟩|⟨n,hn,ha,hr,h3,h4⟩
  ·rw[hg.src p h1];omega
  ·have hk:=zzh (pl.getD p default)
   obtain⟨k,hk2⟩:=Int.eq_ofNat_of_zero_le h3
   have:=ih k (by omega) n hn h3 (by omega)
   have:=hg.all n p hn hp ha.symm this.1 hr
   omega
theorem Flood.uniq {W:Nat} {pl:List Int} {s:List Nat} {f g:List Int} (hf:Flood W pl s f) (hg:Flood W pl s g):f=g:=by
 refine List.ext_getElem (hf.len.trans hg.len.symm) fun p h1 h2 => ?_
 rw[←zae f p h1,←zae g p h2]
 have hp:p<pl.length:=by rw[←hf.len];exact h1
 have l1:=hf.low p hp
 have l2:=hg.low p hp
 by_cases h:0≤f.getD p default
 ·obtain⟨k,hk⟩:=Int.eq_ofNat_of_zero_le h
  have a:=hf.le hg k p hp h (by omega)
  obtain⟨k',hk'⟩:=Int.eq_ofNat_of_zero_le a.1
  have b:=hg.le hf k' p hp a.1 (by omega)
  omega
 ·by_cases h':0≤g.getD p default
  ·obtain⟨k',hk'⟩:=Int.eq_ofNat_of_zero_le h'
   have b:=hg.le hf k' p hp h' (by omega)
   omega
  ·omega
def ziw (g:Int→Nat) (l:List Int):Nat:=(l.map g).sum
theorem zgk (g:Int→Nat):∀(l:List Int) (i:Nat) (v:Int),i<l.length→ziw g (l.set i v)+g (l.getD i default)=ziw g l+g v
 | [],i,v,h=>by simp at h
 | a::r,0,v,_=>by simp[ziw];omega
 | a::r,i+1,v,h=>by
  have:=zgk g r i v (by simpa using h)
  simp only[ziw,List.set_cons_succ,List.map_cons,List.sum_cons,List.getD_cons_succ]at this ⊢
  omega
theorem zhf (g:Int→Nat) (b:Nat) (hg:∀x,g x≤b):∀l:List Int,ziw g l≤b*l.length
 | []=>by simp[ziw]
 | a::r=>by
  have:=zhf g b hg r
  have:=hg a
  simp only[ziw,List.map_cons,List.sum_cons,List.length_cons,Nat.mul_add]at *
  omega
def ze0 (x:Int):Nat:=if 0≤x then 1 else 0
def z4j (x:Int):Nat:=if 0≤x then x.toNat else 5000
theorem zhj (x:Int):ze0 x≤1:=by unfold ze0;split<;>omega
theorem zwm (n p:Nat) (h:p<n):(List.replicate n (-1:Int)).getD p default = -1:=by rw[zae _ _ (by simpa using h)];simp
structure Itm where
 place:Int
 far:Int
 deriving DecidableEq, Inhabited
structure Dj (W : Nat) (pl : List Int) (s : List Nat) (far : List Int) (q : List Itm) (done : Nat → Nat → Prop) : Prop where
 len:far.length=pl.length
 low:∀p,p<pl.length → -1≤far.getD p default
 heap:zmw Itm.far q q.length
 itm:∀x∈q,∃p:Nat,x.place=(p:Int)∧p<pl.length∧0≤x.far∧x.far≤3*ziw ze0 far∧(∀m,m<pl.length→far.getD m default≤x.far)∧((p∈s∧x.far=0)∨∃n,n<pl.length∧Adj W p n∧pl.getD p default≠1∧0≤far.getD n default∧x.far=far.getD n default+kV (pl.getD p default))
 src:∀p∈s,far.getD p default=0∨(far.getD p default<0∧∃x∈q,x.place=(p:Int)∧x.far=0)
 why:∀p,p<pl.length→0≤far.getD p default→(p∈s∧far.getD p default=0)∨∃n,n<pl.length∧Adj W p n∧pl.getD p default≠1∧0≤far.getD n default∧far.getD n default+kV (pl.getD p default)≤far.getD p default
 all:∀p n,p<pl.length→n<pl.length→Adj W p n→done p n→0≤far.getD p default→pl.getD n default≠1 →
  (0≤far.getD n default∧far.getD n default≤far.getD p default+kV (pl.getD n default))∨(far.getD n default<0∧∃x∈q,x.place=(n:Int)∧x.far≤far.getD p default+kV (pl.getD n default))
section
variable {W : Nat} {pl : List Int} {s : List Nat} {far : List Int} {q : List Itm} {done : Nat → Nat → Prop}
theorem Dj.flood (h:Dj W pl s far [] fun _ _=>True):Flood W pl s far:=by
 refine⟨h.len,h.low,fun p hp => ?_,h.why,fun p n hp hn ha h0 hr => ?_⟩
 ·rcases h.src p hp with h|⟨_,x,hx,_⟩
  ·exact h
  ·simp at hx
 ·rcases h.all p n hp hn ha trivial h0 hr with h|⟨_,x,hx,_⟩
  ·exact h
  ·simp at hx
theorem Dj.skip (h:Dj W pl s far q done) (hq:0<q.length) {p:Nat} (hp:(q.getD 0 default).place=(p:Int)) (h0:0≤far.getD p default):Dj W pl s far (zfy Itm.far q) done:=by
 have M:=zfp Itm.far q hq
 refine⟨h.len,h.low,zik _ _ hq h.heap,fun x hx=>h.itm x ((M x).2 (.inr hx)),fun p' hp' => ?_,h.why,fun p' n h1 h2 h3 h4 h5 h6 => ?_⟩
 ·rcases h.src p' hp' with h7|⟨h7,x,hx,h8,h9⟩
  ·exact .inl h7
  ·refine .inr ⟨h7,x,?_,h8,h9⟩
   rcases (M x).1 hx with e|e
   ·subst e;rw[hp]at h8;have:p=p':=by omega
    subst this;omega
   ·exact e
 ·rcases h.all p' n h1 h2 h3 h4 h5 h6 with h7|⟨h7,x,hx,h8,h9⟩
  ·exact .inl h7
  ·refine .inr ⟨h7,x,?_,h8,h9⟩
   rcases (M x).1 hx with e|e
   ·subst e;rw[hp]at h8;have:p=n:=by omega
    subst this;omega
   ·exact e
theorem Dj.close (hW:0<W) (h:Dj W pl s far q fun _ _=>True) (hq:0<q.length) {p:Nat} (hp:(q.getD 0 default).place=(p:Int)) (h0:far.getD p default<0) :
 p<pl.length∧Dj W pl s (far.set p (q.getD 0 default).far) (zfy Itm.far q) (fun a _=>a≠p):=by
 have M:=zfp Itm.far q hq
 have mem0:q.getD 0 default∈q:=(M _).2 (.inl rfl)
 obtain⟨p',e1,hpl,j0,jb,jm,jw⟩:=h.itm _ mem0
 obtain rfl:p'=p:=by omega
 have zii:∀x∈q,(q.getD 0 default).far≤x.far:=fun x hx=>by
  obtain⟨k,hk,rfl⟩:=mem_getD.1 hx
  exact zox _ h.heap k hk
 have hp'l:p'<far.length:=by rw[h.len];exact hpl
 generalize (q.getD 0 default).far=d at *
 have G:=fun k=>zn4 d k hp'l
 have cnt:ziw ze0 (far.set p' d)=ziw ze0 far+1:=by
  have:=zgk ze0 far p' d hp'l
  simp only[ze0,if_neg (show ¬0≤far.getD p' default by omega),if_pos j0]at this;simpa[ze0]using this
 refine⟨hpl,by rw[List.length_set];exact h.len,fun k hk => ?_,zik _ _ hq h.heap,fun x hx => ?_,fun k hk => ?_,fun k hk hk0 => ?_,fun a n h1 h2 h3 h4 h5 h6 => ?_⟩
 ·rw[G];split
  ·omega
  ·exact h.low k hk
 ·have hx':=(M x).2 (.inr hx)
  obtain⟨k,e2,hk,l0,lb,lm,lw⟩:=h.itm x hx'
  refine⟨k,e2,hk,l0,by rw[cnt];omega,fun m hm => ?_,?_⟩
  ·rw[G];split
   ·exact zii x hx'
   ·exact lm m hm
  ·rcases lw with lw|⟨n,n1,n2,n3,n4,n5⟩
   ·exact .inl lw
   ·refine .inr ⟨n,n1,n2,n3,?_⟩
    rw[G,if_neg (by intro e;subst e;omega)];exact⟨n4,n5⟩
 ·rw[G]
  rcases h.src k hk with h7|⟨h7,x,hx,h8,h9⟩
  ·rw[if_neg (by intro e;subst e;omega)];exact .inl h7
  ·by_cases e:k=p'
   ·subst e
    rw[if_pos rfl]
    have:=zii x hx
    exact .inl (by omega)
   ·rw[if_neg e]
    refine .inr ⟨h7,x,?_,h8,h9⟩
    rcases (M x).1 hx with e3|e3
    ·subst e3;omega
    ·exact e3
 ·rw[G]at hk0 ⊢
  by_cases e:k=p'
  ·subst e
   rw[if_pos rfl]
   rcases jw with jw|⟨n,n1,n2,n3,n4,n5⟩
   ·exact .inl jw
   ·refine .inr ⟨n,n1,n2,n3,?_⟩
    rw[G,if_neg (by intro e;subst e;omega)];omega
  ·rw[if_neg e]at hk0 ⊢
   rcases h.why k hk hk0 with jw|⟨n,n1,n2,n3,n4,n5⟩
   ·exact .inl jw
   ·refine .inr ⟨n,n1,n2,n3,?_⟩
    rw[G,if_neg (by intro e;subst e;omega)];exact⟨n4,n5⟩
 ·rw[G,if_neg h4]at h5
  rw[G,G,if_neg h4]
  rcases h.all a n h1 h2 h3 trivial h5 h6 with h7|⟨h7,x,hx,h8,h9⟩
  ·rw[if_neg (by intro e;subst e;omega)];exact .inl h7
  ·by_cases e:n=p'
   ·subst e
    rw[if_pos rfl]
    have:=zii x hx
    exact .inl ⟨j0,by omega⟩
   ·rw[if_neg e]
    refine .inr ⟨h7,x,?_,h8,h9⟩
    rcases (M x).1 hx with e3|e3
    ·subst e3;omega
    ·exact e3
theorem Dj.look {p n:Nat} (h:Dj W pl s far q done) (hn:n<pl.length) (hp:p<pl.length) (ha:Adj W p n) (h0:0≤far.getD p default) (top:∀m,m<pl.length→far.getD m default≤far.getD p default) (hb:far.getD p default+3≤3*ziw ze0 far) (done':Nat→Nat→Prop) (hd:∀a b,done' a b→done a b∨(a=p∧b=n))
 {q':List Itm} (hq':((pl.getD n default=1∨0≤far.getD n default)∧q'=q)∨(pl.getD n default≠1∧far.getD n default<0∧q'=zdr Itm.far q ⟨(n:Int),far.getD p default+kV (pl.getD n default)⟩)):Dj W pl s far q' done':=by
 have sub:∀x∈q,x∈q':=fun x hx=>by
  rcases hq' with ⟨_,rfl⟩|⟨_,_,rfl⟩
  ·exact hx
  ·exact(zdm _ _ _ _).2 (.inl hx)
 refine⟨h.len,h.low,?_,fun x hx => ?_,fun k hk => ?_,h.why,fun a b h1 h2 h3 h4 h5 h6 => ?_⟩
 ·rcases hq' with ⟨_,rfl⟩|⟨_,_,rfl⟩
  ·exact h.heap
  ·exact zjh _ _ _ h.heap
 ·rcases hq' with ⟨_,rfl⟩|⟨g1,g2,rfl⟩
  ·exact h.itm x hx
  ·rcases (zdm _ _ _ _).1 hx with e|e
   ·exact h.itm x e
   ·subst e
    have hk:=zzh (pl.getD n default)
    exact⟨n,rfl,hn,by simp only;omega,by simp only;omega,fun m hm=>by have:=top m hm;simp only;omega,.inr ⟨p,hp,ha.symm,g1,h0,rfl⟩⟩
 ·rcases h.src k hk with h7|⟨h7,x,hx,h8,h9⟩
  ·exact .inl h7
  ·exact .inr ⟨h7,x,sub x hx,h8,h9⟩
 ·rcases hd a b h4 with h4|⟨rfl,rfl⟩
  ·rcases h.all a b h1 h2 h3 h4 h5 h6 with h7|⟨h7,x,hx,h8,h9⟩
   ·exact .inl h7
   ·exact .inr ⟨h7,x,sub x hx,h8,h9⟩
  ·rcases hq' with ⟨g|g,rfl⟩|⟨g1,g2,rfl⟩
   ·exact absurd g h6
   ·have hk:=zzh (pl.getD b default)
    have:=top b hn
    exact .inl ⟨g,by omega⟩
   ·exact .inr ⟨g2,_,(zdm _ _ _ _).2 (.inr rfl),rfl,Int.le_refl _⟩
theorem Dj.start (hs:∀p∈s,p<pl.length) (hh:zmw Itm.far q q.length) (h1:∀x∈q,∃p∈s,x.place=(p:Int)∧x.far=0) (h2:∀p∈s,∃x∈q,x.place=(p:Int)∧x.far=0):Dj W pl s (List.replicate pl.length (-1)) q fun _ _=>True:=by
 have G:=fun p hp=>zwm pl.length p hp
 refine⟨by simp,fun p hp=>by rw[G p hp];omega,hh,fun x hx => ?_,fun p hp => .inr ⟨by rw[G p (hs p hp)];omega,h2 p hp⟩,fun p hp h0 => ?_,fun p n hp _ _ _ h0 _ => ?_⟩
 ·obtain⟨p,hp,e1,e2⟩:=h1 x hx
  exact⟨p,e1,hs p hp,by omega,by omega,fun m hm=>by rw[G m hm];omega,.inl ⟨hp,e2⟩⟩
 ·rw[G p hp]at h0;omega
 ·rw[G p hp]at h0;omega
end
structure Bf (W : Nat) (pl : List Int) (s : List Nat) (far : List Int) : Prop where
 len:far.length=pl.length
 low:∀p,p<pl.length → -1≤far.getD p default
 src:∀p∈s,far.getD p default=0
 why:∀p,p<pl.length→0≤far.getD p default→(p∈s∧far.getD p default=0)∨∃n,n<pl.length∧Adj W p n∧pl.getD p default≠1∧0≤far.getD n default∧far.getD n default+kV (pl.getD p default)≤far.getD p default
 top:∀p,p<pl.length→far.getD p default≤3*ziw ze0 far
def yh3 (pl far:List Int) (i n:Nat):Prop:=pl.getD i default=1∨far.getD n default<0∨(0≤far.getD i default∧far.getD i default≤far.getD n default+kV (pl.getD i default))
section
variable {W : Nat} {pl : List Int} {s : List Nat} {far : List Int}
theorem Bf.flood (h:Bf W pl s far) (hf:∀i n,i<pl.length→n<pl.length→Adj W i n→yh3 pl far i n):Flood W pl s far:=by
 refine⟨h.len,h.low,h.src,h.why,fun p n hp hn ha h0 hr => ?_⟩
 rcases hf n p hn hp ha.symm with h1|h1|h1
 ·exact absurd h1 hr
 ·omega
 ·exact h1
theorem Bf.better (h:Bf W pl s far) (hl:pl.length≤1600) {i n:Nat} (hi:i<pl.length) (hn:n<pl.length) (ha:Adj W i n) (hne:i≠n) (hf:¬yh3 pl far i n) :
 Bf W pl s (far.set i (far.getD n default+kV (pl.getD i default)))∧ziw z4j (far.set i (far.getD n default+kV (pl.getD i default)))<ziw z4j far:=by
 unfold yh3 at hf
 rw[not_or,not_or]at hf
 obtain⟨f1,f2,f3⟩:=hf
 have hk:=zzh (pl.getD i default)
 have hil:i<far.length:=by rw[h.len];exact hi
 have top:=h.top n hn
 have c1:=zhf ze0 1 zhj far
 rw[h.len]at c1
 obtain⟨d,hd⟩:∃d,d=far.getD n default+kV (pl.getD i default):=⟨_,rfl⟩
 rw[←hd]
 have G:=fun k=>zn4 d k hil
 have cnt:=zgk ze0 far i d hil
 have bg:=zgk z4j far i d hil
 have o1:ze0 d=1:=by unfold ze0;rw[if_pos (by omega)]
 have b1:z4j d=d.toNat:=by unfold z4j;rw[if_pos (by omega)]
 rw[o1]at cnt
 rw[b1]at bg
 have o2:=zhj (far.getD i default)
 refine⟨⟨by rw[List.length_set];exact h.len,fun k hk2 => ?_,fun k hk2 => ?_,fun k hk2 hk0 => ?_,fun k hk2 => ?_⟩,?_⟩
 ·rw[G];split
  ·omega
  ·exact h.low k hk2
 ·rw[G,if_neg]
  ·exact h.src k hk2
  ·intro e;subst e
   have:=h.src _ hk2
   exact f3 ⟨by omega,by omega⟩
 ·rw[G]at hk0 ⊢
  by_cases e:k=i
  ·subst e
   rw[if_pos rfl]
   refine .inr ⟨n,hn,ha,f1,?_⟩
   rw[G,if_neg (Ne.symm hne)];omega
  ·rw[if_neg e]at hk0 ⊢
   rcases h.why k hk2 hk0 with jw|⟨m,n1,n2,n3,n4,n5⟩
   ·exact .inl jw
   ·refine .inr ⟨m,n1,n2,n3,?_⟩
    rw[G]
    split
    ·rename_i e2;subst e2;omega
    ·exact⟨n4,n5⟩
 ·rw[G];split
  ·by_cases hneg:0≤far.getD i default
   ·have:ze0 (far.getD i default)=1:=by unfold ze0;rw[if_pos hneg]
    have:=h.top i hi
    omega
   ·have:ze0 (far.getD i default)=0:=by unfold ze0;rw[if_neg hneg]
    omega
  ·have:=h.top k hk2;omega
 ·by_cases hneg:0≤far.getD i default
  ·have:z4j (far.getD i default)=(far.getD i default).toNat:=by unfold z4j;rw[if_pos hneg]
   omega
  ·have:z4j (far.getD i default)=5000:=by unfold z4j;rw[if_neg hneg]
   omega
end
structure Nod where
 c:Cel
 far:Int
 all:Int
 deriving DecidableEq, Inhabited
def zdx (W p:Nat):Cel:=⟨((p % W:Nat):Int),((p/W:Nat):Int)⟩
theorem zd4 {W p n:Nat} (h:zdx W p=zdx W n):p=n:=by
 unfold zdx at h
 simp only[Cel.mk.injEq]at h
 have h1:=Nat.div_add_mod p W
 have h2:=Nat.div_add_mod n W
 have e1:p % W=n % W:=by omega
 have e2:p/W=n/W:=by omega
 rw[←h1,←h2,e1,e2]
def yhu (W L:Nat) (hh:Nat→Int):Prop:=∀p n,p<L→n<L→Adj W p n→hh p≤hh n+2
structure As (W : Nat) (pl : List Int) (a : Nat) (hh : Nat → Int) (far : List Int) (q : List Nod) (done : Nat → Nat → Prop) : Prop where
 len:far.length=pl.length
 low:∀p,p<pl.length → -1≤far.getD p default
 heap:zmw Nod.all q q.length
 itm:∀x∈q,∃p:Nat,x.c=zdx W p∧p<pl.length∧0≤x.far∧x.far≤3*ziw ze0 far∧x.all=x.far+hh p∧(∀m,m<pl.length→0≤far.getD m default→far.getD m default+hh m≤x.all)∧((p=a∧x.far=0)∨∃n,n<pl.length∧Adj W p n∧pl.getD p default≠1∧0≤far.getD n default∧x.far=far.getD n default+kV (pl.getD p default))
 src:far.getD a default=0∨(far.getD a default<0∧∃x∈q,x.c=zdx W a∧x.far=0)
 why:∀p,p<pl.length→0≤far.getD p default→(p=a∧far.getD p default=0)∨∃n,n<pl.length∧Adj W p n∧pl.getD p default≠1∧0≤far.getD n default∧far.getD p default=far.getD n default+kV (pl.getD p default)
 top:∀p,p<pl.length→far.getD p default≤3*ziw ze0 far
 all:∀p n,p<pl.length→n<pl.length→Adj W p n→done p n→0≤far.getD p default→pl.getD n default≠1 →
  (0≤far.getD n default∧far.getD n default≤far.getD p default+kV (pl.getD n default))∨(far.getD n default<0∧∃x∈q,x.c=zdx W n∧x.far≤far.getD p default+kV (pl.getD n default))
section
variable {W : Nat} {pl : List Int} {a : Nat} {hh : Nat → Int} {far : List Int} {q : List Nod} {done : Nat → Nat → Prop}
theorem As.skip (h:As W pl a hh far q done) (hq:0<q.length) {p:Nat} (hp:(q.getD 0 default).c=zdx W p) (h0:0≤far.getD p default):As W pl a hh far (zfy Nod.all q) done:=by
 have M:=zfp Nod.all q hq
 refine⟨h.len,h.low,zik _ _ hq h.heap,fun x hx=>h.itm x ((M x).2 (.inr hx)),?_,h.why,h.top,fun p' n h1 h2 h3 h4 h5 h6 => ?_⟩
 ·rcases h.src with h7|⟨h7,x,hx,h8,h9⟩
  ·exact .inl h7
  ·refine .inr ⟨h7,x,?_,h8,h9⟩
   rcases (M x).1 hx with e|e
   ·subst e;rw[hp]at h8;have:=zd4 h8;subst this;omega
   ·exact e
 ·rcases h.all p' n h1 h2 h3 h4 h5 h6 with h7|⟨h7,x,hx,h8,h9⟩
  ·exact .inl h7
  ·refine .inr ⟨h7,x,?_,h8,h9⟩
   rcases (M x).1 hx with e|e
   ·subst e;rw[hp]at h8;have:=zd4 h8;subst this;omega
   ·exact e
theorem As.close (hW:0<W) (h:As W pl a hh far q fun _ _=>True) (hq:0<q.length) {p:Nat} (hp:(q.getD 0 default).c=zdx W p) (h0:far.getD p default<0) :
 p<pl.length∧As W pl a hh (far.set p (q.getD 0 default).far) (zfy Nod.all q) (fun x _=>x≠p):=by
 have M:=zfp Nod.all q hq
 have mem0:q.getD 0 default∈q:=(M _).2 (.inl rfl)
 obtain⟨p',e1,hpl,j0,jb,ja,jm,jw⟩:=h.itm _ mem0
 obtain rfl:p=p':=zd4 (hp.symm.trans e1)
 have zii:∀x∈q,(q.getD 0 default).all≤x.all:=fun x hx=>by
  obtain⟨k,hk,rfl⟩:=mem_getD.1 hx
  exact zox _ h.heap k hk
 have hpL:p<far.length:=by rw[h.len];exact hpl
 generalize q.getD 0 default=x0 at *
 obtain⟨c0,d,al⟩:=x0
 simp only at *
 have G:=fun k=>zn4 d k hpL
 have cnt:ziw ze0 (far.set p d)=ziw ze0 far+1:=by
  have:=zgk ze0 far p d hpL
  simp only[ze0,if_neg (show ¬0≤far.getD p default by omega),if_pos j0]at this;simpa[ze0]using this
 refine⟨hpl,by rw[List.length_set];exact h.len,fun k hk => ?_,zik _ _ hq h.heap,fun x hx => ?_,?_,fun k hk hk0 => ?_,fun k hk => ?_,fun u n h1 h2 h3 h4 h5 h6 => ?_⟩
 ·rw[G];split
  ·omega
  ·exact h.low k hk
 ·have hx':=(M x).2 (.inr hx)
  obtain⟨k,e2,hk,l0,lb,la,lm,lw⟩:=h.itm x hx'
  refine⟨k,e2,hk,l0,by rw[cnt];omega,la,fun m hm hm0 => ?_,?_⟩
  ·rw[G]at hm0 ⊢;split
   ·rename_i e;subst e;have:=zii x hx';omega
   ·rename_i e;rw[if_neg e]at hm0;exact lm m hm hm0
  ·rcases lw with lw|⟨n,n1,n2,n3,n4,n5⟩
   ·exact .inl lw
   ·refine .inr ⟨n,n1,n2,n3,?_⟩
    rw[G,if_neg (by intro e;subst e;omega)];exact⟨n4,n5⟩
 ·rw[G]
  rcases h.src with h7|⟨h7,x,hx,h8,h9⟩
  ·rw[if_neg (by intro e;subst e;omega)];exact .inl h7
  ·by_cases e:a=p
   ·subst e
    rw[if_pos rfl]
    have:=zii x hx
    obtain⟨k,e2,_,_,_,la,_,_⟩:=h.itm x hx
    have:=zd4 (e2.symm.trans h8)
    subst this
    exact .inl (by omega)
   ·rw[if_neg e]
    refine .inr ⟨h7,x,?_,h8,h9⟩
    rcases (M x).1 hx with e3|e3
    ·subst e3;exact absurd (zd4 (h8.symm.trans hp)) e
    ·exact e3
 ·rw[G]at hk0 ⊢
  by_cases e:k=p
  ·subst e
   rw[if_pos rfl]
   rcases jw with jw|⟨n,n1,n2,n3,n4,n5⟩
   ·exact .inl jw
   ·refine .inr ⟨n,n1,n2,n3,?_⟩
    rw[G,if_neg (by intro e;subst e;omega)];omega
  ·rw[if_neg e]at hk0 ⊢
   rcases h.why k hk hk0 with jw|⟨n,n1,n2,n3,n4,n5⟩
   ·exact .inl jw
   ·refine .inr ⟨n,n1,n2,n3,?_⟩
    rw[G,if_neg (by intro e;subst e;omega)];exact⟨n4,n5⟩
 ·rw[G,cnt];split
  ·omega
  ·have:=h.top k hk;omega
 ·rw[G,if_neg h4]at h5
  rw[G,G,if_neg h4]
  rcases h.all u n h1 h2 h3 trivial h5 h6 with h7|⟨h7,x,hx,h8,h9⟩
  ·rw[if_neg (by intro e;subst e;omega)];exact .inl h7
  ·by_cases e:n=p
   ·subst e
    rw[if_pos rfl]
    have:=zii x hx
    obtain⟨k,e2,_,_,_,la,_,_⟩:=h.itm x hx
    have:=zd4 (e2.symm.trans h8)
    subst this
    exact .inl ⟨j0,by omega⟩
   ·rw[if_neg e]
    refine .inr ⟨h7,x,?_,h8,h9⟩
    rcases (M x).1 hx with e3|e3
    ·subst e3;exact absurd (zd4 (h8.symm.trans hp)) e
    ·exact e3
theorem As.look (hc:yhu W pl.length hh) {p n:Nat} (h:As W pl a hh far q done) (hn:n<pl.length) (hp:p<pl.length) (ha:Adj W p n) (h0:0≤far.getD p default) (top:∀m,m<pl.length→0≤far.getD m default→far.getD m default+hh m≤far.getD p default+hh p) (hb:far.getD p default+3≤3*ziw ze0 far) (done':Nat→Nat→Prop) (hd:∀x y,done' x y→done x y∨(x=p∧y=n))
 {q':List Nod} (hq':((pl.getD n default=1∨0≤far.getD n default)∧q'=q)∨(pl.getD n default≠1∧far.getD n default<0∧q'=zdr Nod.all q ⟨zdx W n,far.getD p default+kV (pl.getD n default),far.getD p default+kV (pl.getD n default)+hh n⟩)):As W pl a hh far q' done':=by
 have hcn:=hc p n hp hn ha
 have sub:∀x∈q,x∈q':=fun x hx=>by
  rcases hq' with ⟨_,rfl⟩|⟨_,_,rfl⟩
  ·exact hx
  ·exact(zdm _ _ _ _).2 (.inl hx)
 refine⟨h.len,h.low,?_,fun x hx => ?_,?_,h.why,h.top,fun u b h1 h2 h3 h4 h5 h6 => ?_⟩
 ·rcases hq' with ⟨_,rfl⟩|⟨_,_,rfl⟩
  ·exact h.heap
  ·exact zjh _ _ _ h.heap
 ·rcases hq' with ⟨_,rfl⟩|⟨g1,g2,rfl⟩
  ·exact h.itm x hx
  ·rcases (zdm _ _ _ _).1 hx with e|e
   ·exact h.itm x e
   ·subst e
    have hk:=zzh (pl.getD n default)
    exact⟨n,rfl,hn,by simp only;omega,by simp only;omega,rfl,fun m hm hm0=>by have:=top m hm hm0;simp only;omega,.inr ⟨p,hp,ha.symm,g1,h0,rfl⟩⟩
 ·rcases h.src with h7|⟨h7,x,hx,h8,h9⟩
  ·exact .inl h7
  ·exact .inr ⟨h7,x,sub x hx,h8,h9⟩
 ·rcases hd u b h4 with h4|⟨rfl,rfl⟩
  ·rcases h.all u b h1 h2 h3 h4 h5 h6 with h7|⟨h7,x,hx,h8,h9⟩
   ·exact .inl h7
   ·exact .inr ⟨h7,x,sub x hx,h8,h9⟩
  ·rcases hq' with ⟨g|g,rfl⟩|⟨g1,g2,rfl⟩
   ·exact absurd g h6
   ·have hk:=zzh (pl.getD b default)
    have:=top b hn g
    have:=hc u b hp hn ha
    exact .inl ⟨g,by omega⟩
   ·exact .inr ⟨g2,_,(zdm _ _ _ _).2 (.inr rfl),rfl,Int.le_refl _⟩
theorem As.start (ha:a<pl.length):As W pl a hh (List.replicate pl.length (-1)) (zdr Nod.all [] ⟨zdx W a,0,0+hh a⟩) fun _ _=>True:=by
 have G:=fun p hp=>zwm pl.length p hp
 refine⟨by simp,fun p hp=>by rw[G p hp];omega,zjh _ _ _ (fun k h1 h2=>absurd h2 (Nat.not_lt_zero _)),fun x hx => ?_,.inr ⟨by rw[G a ha];omega,_,(zdm _ _ _ _).2 (.inr rfl),rfl,rfl⟩,fun p hp h0 => ?_,fun p hp=>by rw[G p hp];omega,fun p n hp _ _ _ h0 _ => ?_⟩
 ·rcases (zdm _ _ _ _).1 hx with e|e
  ·simp at e
  ·subst e
   exact⟨a,rfl,ha,Int.le_refl _,by simp only;omega,rfl,fun m hm h0=>by rw[G m hm]at h0;omega,.inl ⟨rfl,rfl⟩⟩
 ·rw[G p hp]at h0;omega
 ·rw[G p hp]at h0;omega
variable {F : List Int}
theorem As.up (h:As W pl a hh far q done) (hF:Flood W pl [a] F):∀(N p:Nat),p<pl.length→0≤far.getD p default→far.getD p default≤N→0≤F.getD p default∧F.getD p default≤far.getD p default:=by
 intro N
 induction N using Nat.strongRecOn with
 | _ N ih =>
  intro p hp h0 hN
  rcases h.why p hp h0 with ⟨h1,h2⟩|⟨n,hn,ha,hr,h3,h4⟩
  ·subst h1;rw[hF.src p (by simp)];omega
  ·have hk:=zzh (pl.getD p default)
   obtain⟨k,hk2⟩:=Int.eq_ofNat_of_zero_le h3
   have:=ih k (by omega) n hn h3 (by omega)
   have:=hF.all n p hn hp ha.symm this.1 hr
   omega
theorem As.down (hc:yhu W pl.length hh) (h:As W pl a hh far q fun _ _=>True) (ha:a<pl.length) (hF:Flood W pl [a] F):∀(N p:Nat),p<pl.length→0≤F.getD p default→F.getD p default≤N →
 (0≤far.getD p default∧far.getD p default≤F.getD p default)∨∃x∈q,x.all≤F.getD p default+hh p:=by
 intro N
 induction N using Nat.strongRecOn with
 | _ N ih =>
  intro p hp h0 hN
  have itm:∀x∈q,x.c=zdx W p→x.all=x.far+hh p:=fun x hx e=>by
   obtain⟨k,e2,_,_,_,la,_,_⟩:=h.itm x hx
   have:=zd4 (e2.symm.trans e)
   subst this;exact la
  rcases hF.why p hp h0 with ⟨h1,h2⟩|⟨n,hn,hadj,hr,h3,h4⟩
  ·obtain rfl:p=a:=by simpa using h1
   rcases h.src with h7|⟨_,x,hx,h8,h9⟩
   ·exact .inl (by omega)
   ·exact .inr ⟨x,hx,by rw[itm x hx h8];omega⟩
  ·have hk:=zzh (pl.getD p default)
   obtain⟨k,hk2⟩:=Int.eq_ofNat_of_zero_le h3
   rcases ih k (by omega) n hn h3 (by omega)with ⟨g1,g2⟩|⟨x,hx,hxa⟩
   ·rcases h.all n p hn hp hadj.symm trivial g1 hr with g3|⟨_,x,hx,e,g4⟩
    ·exact .inl (by omega)
    ·exact .inr ⟨x,hx,by rw[itm x hx e];omega⟩
   ·have:=hc n p hn hp hadj.symm
    exact .inr ⟨x,hx,by omega⟩
theorem As.same (hc:yhu W pl.length hh) (h:As W pl a hh far q fun _ _=>True) (ha:a<pl.length) (hF:Flood W pl [a] F) {p:Nat} (hp:p<pl.length) (h0:0≤far.getD p default):far.getD p default=F.getD p default:=by
 obtain⟨N,hN⟩:=Int.eq_ofNat_of_zero_le h0
 have h1:=h.up hF N p hp h0 (by omega)
 obtain⟨M,hM⟩:=Int.eq_ofNat_of_zero_le h1.1
 rcases h.down hc ha hF M p hp h1.1 (by omega)with h2|⟨x,hx,hxa⟩
 ·omega
 ·obtain⟨k,_,_,_,_,_,lm,_⟩:=h.itm x hx
  have:=lm p hp h0
  omega
theorem As.known (hc:yhu W pl.length hh) (h:As W pl a hh far q fun _ _=>True) (ha:a<pl.length) (hF:Flood W pl [a] F) {p:Nat} (hp:p<pl.length) (h0:0≤F.getD p default) (hout:∀x∈q,¬x.all≤F.getD p default+hh p):far.getD p default=F.getD p default:=by
 obtain⟨M,hM⟩:=Int.eq_ofNat_of_zero_le h0
 rcases h.down hc ha hF M p hp h0 (by omega)with h2|⟨x,hx,hxa⟩
 ·exact h.same hc ha hF hp h2.1
 ·exact absurd hxa (hout x hx)
end
theorem zty {W:Nat} {pl:List Int} {s:List Nat} (hW:0<W) (hl:pl.length≤1600):∀(N:Nat) (far:List Int),ziw z4j far≤N→Bf W pl s far→∃F,Flood W pl s F:=by
 intro N
 induction N using Nat.strongRecOn with
 | _ N ih =>
  intro far hN hB
  by_cases hf:∀i n,i<pl.length→n<pl.length→Adj W i n→yh3 pl far i n
  ·exact⟨far,hB.flood hf⟩
  ·simp only[Classical.not_forall]at hf
   obtain⟨i,n,hi,hn,ha,hnf⟩:=hf
   obtain⟨b1,b2⟩:=hB.better hl hi hn ha (Adj.ne hW ha) hnf
   exact ih _ (by omega) _ (Nat.le_refl _) b1
theorem z7c {W:Nat} {pl:List Int} {s:List Nat} (hW:0<W) (hl:pl.length≤1600) (hs:∀p∈s,p<pl.length):∃F,Flood W pl s F:=by
 have G:∀p,p<pl.length→((List.range pl.length).map fun p=>if p∈s then (0:Int)else -1).getD p default=if p∈s then 0 else -1:=fun p hp=>by rw[zae _ _ (by simpa using hp)];simp
 refine zty hW hl _ ((List.range pl.length).map fun p=>if p∈s then (0:Int)else -1) (Nat.le_refl _) ⟨by simp,fun p hp => ?_,fun p hp => ?_,fun p hp h0 => ?_,fun p hp => ?_⟩
 ·rw[G p hp];split<;>omega
 ·rw[G p (hs p hp),if_pos hp]
 ·rw[G p hp]at h0 ⊢
  split at h0
  ·rename_i h;rw[if_pos h];exact .inl ⟨h,rfl⟩
  ·omega
 ·rw[G p hp];split<;>omega
end Go.Proofs.YtmjbgbmegbkmhaaGreat
namespace Go.Proofs.YtmjbgbmegbkmhaaGreat
set_option linter.all false
open Go.RowKit
set_option maxRecDepth 100000
theorem zfm {α : Type} (p : α → Bool) (l:List α):decide (0≤zj8 p l)=l.any p:=by
 unfold zj8
 cases h:l.findIdx? p with
 | none =>
  have:=List.findIdx?_eq_none_iff.1 h
  simp only[show ¬(0:Int) ≤ -1 by omega,decide_false]
  symm;rw[List.any_eq_false];intro x hx;simp[this x hx]
 | some i =>
  obtain⟨hi,h1,_⟩:=List.findIdx?_eq_some_iff_getElem.1 h
  simp only[Int.natCast_nonneg,decide_true]
  symm;rw[List.any_eq_true];exact⟨_,List.getElem_mem hi,h1⟩
theorem ygo (F:FuncId) (a b:List AV) (l:List Int) (p:Int→Bool) (hl:l.length≤9223372036854775807) (hp:∀n∈l,Spec Tryz.prog F (a ++ [I .i64 n]++b) [] (B (p n)) []) (ha:∀h,cvL [] h a=a) (hb:∀h,cvL [] h b=b) :
 Spec Tryz.prog 142 [.c (.sl 1 (l.map zac)),.clo (.func F) a b] [] (I .i64 (zj8 p l)) []:=by
 refine spB Tryz.func142 19 [.tmp 4] Tryz.results142 ?_
 simp(etaStruct := .none)only[push_cast,zab,seval]
 refine zax (fun k:Nat=>⟨[(8,I .i64 k),(7,I .i64 l.length),(0,.c (.sl 1 (l.map zac))),(1,.clo (.func F) a b)],[],0⟩) (fun k=>k≤l.length∧∀j (hj:j<l.length),j<k→p l[j]=false) (fun k=>l.length-k) 0 ⟨Nat.zero_le _,fun j _ h=>by omega⟩ (To.mk [] rfl rfl List.nodup_nil trivial ?_) ?_
 ·simp(etaStruct := .none)only[push_cast,zab,seval,ha,hb]
 ·rintro k ⟨hk,hn⟩
  simp(etaStruct := .none)only[push_cast,zab,seval]
  refine zay (fun h => ?_) (fun h => ?_)
  ·have hlt:k<l.length:=by simpa using h
   simp(etaStruct := .none)only[push_cast,zab,seval,zb4 _ _ _ hlt,zac]
   repeat with_reducible refine obA ?_
   refine zdt (hp _ (List.getElem_mem hlt)) (by simp only[zde,ha,hb,cvL,cv];exact WkL.refl _) ?_
   simp(etaStruct := .none)only[push_cast,zab,seval]
   refine zay (fun h => ?_) (fun h => ?_)
   ·simp(etaStruct := .none)only[push_cast,zab,seval]
    exact zb0 rfl trivial (Wk.of (by rw[zd3 p l k hlt h hn];rfl))
   ·simp(etaStruct := .none)only[push_cast,zab,seval]
    refine⟨k+1,⟨by omega,fun j hj hjk => ?_⟩,by omega,To.mk [] rfl rfl List.nodup_nil trivial ?_⟩
    ·by_cases e:j=k
     ·subst e;exact h
     ·exact hn j hj (by omega)
    ·simp(etaStruct := .none)only[push_cast,zab,seval,ha,hb]
     simp(disch:=omega)only[zak,za6,tdv,tmd]
  ·have hge:k=l.length:=by simp at h;omega
   subst hge
   simp(etaStruct := .none)only[push_cast,zab,seval]
   exact zb0 rfl trivial (Wk.of (by rw[zcw p l (fun j hj=>hn j hj hj)];rfl))
theorem ycn (F:FuncId) (a b:List AV) (l:List Int) (p:Int→Bool) (hl:l.length≤9223372036854775807) (hp:∀n∈l,Spec Tryz.prog F (a ++ [I .i64 n]++b) [] (B (p n)) []) (ha:∀h,cvL [] h a=a) (hb:∀h,cvL [] h b=b) :
 Spec Tryz.prog 101 [.c (.sl 1 (l.map zac)),.clo (.func F) a b] [] (B (l.any p)) []:=by
 refine spB Tryz.func101 9 [.tmp 4] Tryz.results101 ?_
 simp(etaStruct := .none)only[push_cast,zab,seval]
 refine zdt (ygo F a b l p hl hp ha hb) (by simp only[ha,hb,cvL,cv];exact WkL.refl _) ?_
 simp(etaStruct := .none)only[push_cast,zab,seval]
 exact zb0 rfl trivial (Wk.of (by rw[zfm];rfl))
def zaj (n a b:Int):Bool:=decide (a≤n)&&decide (n≤b)
theorem within_iff {n a b:Int} : zaj n a b=true↔a≤n∧n≤b:=by unfold zaj;simp
theorem z4n {n a b:Int} : zaj n a b=false↔¬(a≤n∧n≤b):=by unfold zaj;simp
def zgf (f:Fld):Bool := !zaj f.w 1 40 || !zaj f.h 1 40
def zed (f:Fld):Bool := !decide ((f.p.length:Int)=f.w*f.h)||f.p.any (fun p=>decide (p<0)||decide (4≤p))
def zbv (f:Fld):Int:=if zgf f then 1 else if zed f then 4 else 0
theorem zbi {f:Fld} (h:zbv f=0):(1≤f.w∧f.w≤40)∧(1≤f.h∧f.h≤40)∧(f.p.length:Int)=f.w*f.h∧∀p∈f.p,0≤p∧p<4:=by
 unfold zbv at h
 split at h
 ·simp at h
 ·rename_i h1
  split at h
  ·simp at h
  ·rename_i h2
   simp only[zgf,Bool.or_eq_true,Bool.not_eq_true',not_or,Bool.not_eq_false,within_iff]at h1
   simp only[zed,Bool.or_eq_true,Bool.not_eq_true',decide_eq_false_iff_not,not_or,Decidable.not_not,List.any_eq_true,not_exists,not_and,decide_eq_true_eq]at h2
   exact⟨h1.1,h1.2,h2.1,fun p hp=>by have:=h2.2 p hp;omega⟩
theorem z8q (n:Int):Spec Tryz.prog 100 [I .i64 n] [] (B (zaj n 1 40)) []:=by
 refine spB Tryz.func100 9 [.tmp 2] Tryz.results100 ?_
 try refine xst ?_
 exact zb0 rfl trivial (Wk.of (congrArg B (by unfold zaj;first|rfl|simp)))
theorem yg1 (n:Int):Spec Tryz.prog 102 ([] ++ [I .i64 n] ++ []) [] (B (decide (n<0)||decide (4≤n))) []:=by
 refine spB Tryz.func102 9 [.tmp 2] Tryz.results102 ?_
 try refine xst ?_
 exact zb0 rfl trivial (Wk.refl _)
theorem zww (f:Fld) (hl:f.p.length≤9223372036854775807):Spec Tryz.prog 57 [z29 f] [] (I .i64 (zbv f)) []:=by
 refine spB Tryz.func57 27 [.tmp 2] Tryz.results57 ?_
 try refine xst ?_
 refine zdt (z8q f.w) (WkL.refl _) ?_
 try refine xst ?_
 refine zwn (fun hc=>z8q f.h) (WkL.refl _) (by intro hc;(try simp(etaStruct := .none)only[push_cast,zab,seval]);(try simp_all)) ?_
 try refine xst ?_
 refine zay (fun h1 => ?_) (fun h1 => ?_)
 ·try refine xst ?_
  (first|(refine zau rfl (Wk.of ?_);(try simp(etaStruct := .none)only[push_cast,zab,seval]);first|done|(simp[zbv,zgf,zed, *];done)|(simp_all[zbv,zgf,zed];done))|(refine zau rfl ?_;(try simp(etaStruct := .none)only[push_cast,zab,seval]);(try simp[zbv,zgf,zed, *]);(try exact wkc)))
 ·have hw:zaj f.w 1 40=true∧zaj f.h 1 40=true:=by simpa using h1
  obtain⟨h3,h4⟩:=hw
  rw[within_iff]at h3 h4
  have hm1:0≤f.w*f.h:=Int.mul_nonneg (by omega) (by omega)
  have hm2:f.w*f.h≤40*40:=Int.mul_le_mul h3.2 h4.2 (by omega) (by omega)
  try refine xst ?_
  refine zwn (fun hc=>ycn _ [] [] f.p (fun p=>decide (p<0)||decide (4≤p)) hl (fun n _=>yg1 n) (fun _=>rfl) (fun _=>rfl)) (WkL.refl _) (by intro hc;(try simp(etaStruct := .none)only[push_cast,zab,seval]);(try simp_all)) ?_
  try refine xst ?_
  refine zay (fun h2 => ?_) (fun h2 => ?_)
  ·try refine xst ?_
   (first|(refine zau rfl (Wk.of ?_);(try simp(etaStruct := .none)only[push_cast,zab,seval]);first|done|(simp[zbv,zgf,zed, *];done)|(simp_all[zbv,zgf,zed];done))|(refine zau rfl ?_;(try simp(etaStruct := .none)only[push_cast,zab,seval]);(try simp[zbv,zgf,zed, *]);(try exact wkc)))
  ·try refine xst ?_
   (first|(refine zau rfl (Wk.of ?_);(try simp(etaStruct := .none)only[push_cast,zab,seval]);first|done|(simp[zbv,zgf,zed, *];done)|(simp_all[zbv,zgf,zed];done))|(refine zau rfl ?_;(try simp(etaStruct := .none)only[push_cast,zab,seval]);(try simp[zbv,zgf,zed, *]);(try exact wkc)))
def inF (f:Fld) (c:Cel):Bool:=zaj c.x 0 (f.w-1)&&zaj c.y 0 (f.h-1)
theorem inF_iff {f:Fld} {c:Cel} : inF f c=true↔(0≤c.x∧c.x<f.w)∧(0≤c.y∧c.y<f.h):=by
 unfold inF;rw[Bool.and_eq_true,within_iff,within_iff];omega
theorem inF_f {f:Fld} {c:Cel} : inF f c=false↔¬((0≤c.x∧c.x<f.w)∧(0≤c.y∧c.y<f.h)):=by
 rw[←inF_iff,Bool.not_eq_true]
def zai (f:Fld) (c:Cel):Int:=f.p.getD (c.y*f.w+c.x).toNat default
theorem zbm {f:Fld} {c:Cel} (h:zbv f=0) (hc:inF f c=true):0≤c.y*f.w∧c.y*f.w≤1600∧0≤c.y*f.w+c.x∧c.y*f.w+c.x<f.p.length∧f.p.length≤1600:=by
 obtain⟨h1,h2,h3,_⟩:=zbi h
 obtain⟨h4,h5⟩:=inF_iff.1 hc
 have a1:0≤c.y*f.w:=Int.mul_nonneg (by omega) (by omega)
 have a2:c.y*f.w≤(f.h-1)*f.w:=Int.mul_le_mul_of_nonneg_right (by omega) (by omega)
 have a3:(f.h-1)*f.w=f.w*f.h-f.w:=by rw[Int.sub_mul,Int.mul_comm f.h,Int.one_mul]
 have a4:f.w*f.h≤40*40:=Int.mul_le_mul h1.2 h2.2 (by omega) (by omega)
 omega
def atV (f:Fld) (c:Cel):Int × Int:=if zbv f≠0 then (0,zbv f)else if inF f c then (zai f c,0)else (0,7)
theorem zzj (f:Fld) (c:Cel) (hl:f.p.length≤9223372036854775807):Spec Tryz.prog 129 [z29 f,zhv c] [] (.tup [I .i64 (atV f c).1,I .i64 (atV f c).2]) []:=by
 refine spB Tryz.func129 46 [.tmp 4,.tmp 5] Tryz.results129 ?_
 try refine xst ?_
 refine caP (zww f hl) ?_
 try refine xst ?_
 refine cI (fun h1 => ?_) fun h1 => ?_
 ·try refine xst ?_
  (first|(refine zau rfl (Wk.of ?_);(try simp(etaStruct := .none)only[push_cast,zab,seval]);first|done|(simp[atV,zai, *];done)|(simp_all[atV,zai];done))|(refine zau rfl ?_;(try simp(etaStruct := .none)only[push_cast,zab,seval]);(try simp[atV,zai, *]);(try exact wkc)))
 ·obtain⟨e1,e2,e3,e4⟩:=zbi h1
  try refine xst ?_
  refine cI (fun h2 => ?_) fun h2 => ?_
  ·have hc:inF f c=false:=inF_f.2 (by omega)
   try refine xst ?_
   (first|(refine zau rfl (Wk.of ?_);(try simp(etaStruct := .none)only[push_cast,zab,seval]);first|done|(simp[atV,zai, *];done)|(simp_all[atV,zai];done))|(refine zau rfl ?_;(try simp(etaStruct := .none)only[push_cast,zab,seval]);(try simp[atV,zai, *]);(try exact wkc)))
  ·have hc:inF f c=true:=inF_iff.2 (by omega)
   obtain⟨i1,i2,i3,i4,i5⟩:=zbm h1 hc
   try refine xz2 (gd (show (c.y*f.w+c.x).toNat<f.p.length by omega)) za7 ?_
   (first|(refine zau rfl (Wk.of ?_);(try simp(etaStruct := .none)only[push_cast,zab,seval]);first|done|(simp[atV,zai, *];done)|(simp_all[atV,zai];done))|(refine zau rfl ?_;(try simp(etaStruct := .none)only[push_cast,zab,seval]);(try simp[atV,zai, *]);(try exact wkc)))
end Go.Proofs.YtmjbgbmegbkmhaaGreat
namespace Go.Proofs.YtmjbgbmegbkmhaaGreat
set_option linter.all false
open Go.RowKit
set_option maxRecDepth 100000
set_option maxHeartbeats 400000
def zey (q:Int):Int × Int:=if q=0∨q=3 then (2,0)else if q=2 then (3,0)else if q=1 then (0,9)else (0,1)
theorem yg8 (q:Int):Spec Tryz.prog 181 [I .i64 q] [] (.tup [I .i64 (zey q).1,I .i64 (zey q).2]) []:=by
 refine spB Tryz.func181 12 [.tmp 2,.tmp 3] Tryz.results181 ?_
 try refine xst ?_
 refine cI (fun h1 => ?_) fun h1 => ?_
 ·try refine xst ?_
  refine cI (fun h2 => ?_) fun h2 => ?_
  ·try refine xst ?_
   (first|(refine zau rfl (Wk.of ?_);(try simp(etaStruct := .none)only[push_cast,zab,seval]);first|done|(simp[zey, *];done)|(simp_all[zey];done))|(refine zau rfl ?_;(try simp(etaStruct := .none)only[push_cast,zab,seval]);(try simp[zey, *]);(try exact wkc)))
  ·exact absurd h1 h2
 ·try refine xst ?_
  refine cI (fun h3 => ?_) fun h3 => ?_
  ·try refine xst ?_
   (first|(refine zau rfl (Wk.of ?_);(try simp(etaStruct := .none)only[push_cast,zab,seval]);first|done|(simp[zey, *];done)|(simp_all[zey];done))|(refine zau rfl ?_;(try simp(etaStruct := .none)only[push_cast,zab,seval]);(try simp[zey, *]);(try exact wkc)))
  ·try refine xst ?_
   refine cI (fun h4 => ?_) fun h4 => ?_
   ·try refine xst ?_
    (first|(refine zau rfl (Wk.of ?_);(try simp(etaStruct := .none)only[push_cast,zab,seval]);first|done|(simp[zey, *];done)|(simp_all[zey];done))|(refine zau rfl ?_;(try simp(etaStruct := .none)only[push_cast,zab,seval]);(try simp[zey, *]);(try exact wkc)))
   ·try refine xst ?_
    refine cI (fun h5 => ?_) fun h5 => ?_
    ·try refine xst ?_
     (first|(refine zau rfl (Wk.of ?_);(try simp(etaStruct := .none)only[push_cast,zab,seval]);first|done|(simp[zey, *];done)|(simp_all[zey];done))|(refine zau rfl ?_;(try simp(etaStruct := .none)only[push_cast,zab,seval]);(try simp[zey, *]);(try exact wkc)))
    ·try refine xst ?_
     (first|(refine zau rfl (Wk.of ?_);(try simp(etaStruct := .none)only[push_cast,zab,seval]);first|done|(simp[zey, *];done)|(simp_all[zey];done))|(refine zau rfl ?_;(try simp(etaStruct := .none)only[push_cast,zab,seval]);(try simp[zey, *]);(try exact wkc)))
def zam (f:Fld) (c:Cel):Nat:=(c.y*f.w+c.x).toNat
def yhz (f:Fld):List Cel→Int
 | []=>0
 | c::r=>if inF f c then (if zai f c=1 then 9 else yhz f r)else 7
def zrs (f:Fld) (l:List Cel):Int:=if zbv f≠0 then zbv f else if 100<l.length then 2 else yhz f l
def zas (f:Fld) (l:List Cel) (R:List Int):Prop:=(zrs f l=0→∀far,Flood f.w.toNat f.p (l.map (zam f)) far→R=far)∧(zrs f l≠0→R = [])∧R.length≤f.p.length
theorem zwt (f:Fld) (l:List Cel):∃R,zas f l R:=by
 by_cases h:zrs f l=0∧∃far,Flood f.w.toNat f.p (l.map (zam f)) far
 ·obtain⟨h1,far,hf⟩:=h
  exact⟨far,fun _ g hg=>hf.uniq hg,fun h=>absurd h1 h,by rw[hf.len];exact Nat.le_refl _⟩
 ·exact⟨[],fun h0 far hf=>absurd ⟨h0,far,hf⟩ h,fun _=>rfl,Nat.zero_le _⟩
theorem z7p {q:Int} (h:0≤q∧q<4):(q=1∧zey q=(0,9))∨(q≠1∧zey q=(kV q,0)):=by
 have:q=0∨q=1∨q=2∨q=3:=by omega
 rcases this with rfl|rfl|rfl|rfl
 ·exact .inr ⟨by decide,rfl⟩
 ·exact .inl ⟨rfl,rfl⟩
 ·exact .inr ⟨by decide,rfl⟩
 ·exact .inr ⟨by decide,rfl⟩
def zag (c:Cel):List Cel := [⟨c.x,c.y-1⟩,⟨c.x-1,c.y⟩,⟨c.x+1,c.y⟩,⟨c.x,c.y+1⟩]
def zef (f:Fld) (c:Cel):List Cel:=(zag c).filter (inF f)
theorem znp (f:Fld) {W H i:Nat} (hw:f.w=(W:Int)) (hh:f.h=(H:Int)) (hW:0<W) (hi:i<W*H):(zef f ⟨((i % W:Nat):Int),((i/W:Nat):Int)⟩).map (zam f)=zmh W H i∧∀n∈zef f ⟨((i % W:Nat):Int),((i/W:Nat):Int)⟩,inF f n=true:=by
 refine⟨?_,fun n hn=>(List.mem_filter.1 hn).2⟩
 have h1:=Nat.div_add_mod i W
 have h2:=Nat.mod_lt i hW
 have h3:i/W<H:=by rw[Nat.div_lt_iff_lt_mul hW,Nat.mul_comm];exact hi
 unfold zef zmh zag
 generalize i % W=x at *
 generalize i/W=y at *
 have a1:inF f ⟨(x:Int),(y:Int)-1⟩=decide (0<y):=by
  rw[Bool.eq_iff_iff,inF_iff,decide_eq_true_eq,hw,hh];simp only;omega
 have a2:inF f ⟨(x:Int)-1,(y:Int)⟩=decide (0<x):=by
  rw[Bool.eq_iff_iff,inF_iff,decide_eq_true_eq,hw,hh];simp only;omega
 have a3:inF f ⟨(x:Int)+1,(y:Int)⟩=decide (x+1<W):=by
  rw[Bool.eq_iff_iff,inF_iff,decide_eq_true_eq,hw,hh];simp only;omega
 have a4:inF f ⟨(x:Int),(y:Int)+1⟩=decide (y+1<H):=by
  rw[Bool.eq_iff_iff,inF_iff,decide_eq_true_eq,hw,hh];simp only;omega
 have hyW:(y:Int)*(W:Int)=((W*y:Nat):Int):=by rw[Nat.mul_comm,Int.natCast_mul]
 have b1:0<y→zam f ⟨(x:Int),(y:Int)-1⟩=i-W:=fun h=>by
  unfold zam;simp only;rw[hw,Int.sub_mul,hyW,Int.one_mul]
  have:W*1≤W*y:=Nat.mul_le_mul_left _ h
  omega
 have b2:0<x→zam f ⟨(x:Int)-1,(y:Int)⟩=i-1:=fun h=>by
  unfold zam;simp only;rw[hw,hyW];omega
 have b3:zam f ⟨(x:Int)+1,(y:Int)⟩=i+1:=by
  unfold zam;simp only;rw[hw,hyW];omega
 have b4:zam f ⟨(x:Int),(y:Int)+1⟩=i+W:=by
  unfold zam;simp only;rw[hw,Int.add_mul,hyW,Int.one_mul];omega
 simp only[List.filter_cons,List.filter_nil,a1,a2,a3,a4,decide_eq_true_eq]
 by_cases c1:0<y<;>by_cases c2:0<x<;>by_cases c3:x+1<W<;>by_cases c4:y+1<H<;>simp only[c1,c2,c3,c4,if_true,if_false,List.map_cons,List.map_nil,b3,b4,List.nil_append,List.cons_append,List.append_nil]<;>(first|rw[b1 c1,b2 c2]|rw[b1 c1]|rw[b2 c2]|rfl)
end Go.Proofs.YtmjbgbmegbkmhaaGreat
namespace Go.Proofs.YtmjbgbmegbkmhaaGreat
set_option linter.all false
open Go.RowKit
set_option maxRecDepth 100000
theorem zds (a b:Cel):(decide (a.x=b.x)&&decide (a.y=b.y))=decide (a=b):=by
 rw[Bool.eq_iff_iff];cases a;cases b;simp
theorem yha (l m:List Cel) (hl:l.length≤9223372036854775807) (hm:m.length≤9223372036854775807):Spec Tryz.prog 51 [.c (.sl 2 (l.map za3)),.c (.sl 2 (m.map za3))] [] (B (decide (l=m))) []:=by
 refine spB Tryz.func51 26 [.tmp 4] Tryz.results51 ?_
 try refine xst ?_
 refine cI (fun h1 => ?_) fun h1 => ?_
 ·have e:l≠m:=by intro e;subst e;simp at h1
  try refine xst ?_
  exact zb0 rfl trivial (Wk.of (by rw[decide_eq_false e];rfl))
 ·try refine xst ?_
  refine zax (fun k:Nat=>⟨[(13,I .i64 k),(12,I .i64 l.length),(1,.c (.sl 2 (m.map za3))),(0,.c (.sl 2 (l.map za3)))],[],0⟩) (fun k:Nat=>k≤l.length∧∀j,j<k→l.getD j default=m.getD j default) (fun k:Nat=>l.length-k) (0) (⟨Nat.zero_le _,fun j h=>by omega⟩) (To.mk [] rfl rfl List.nodup_nil trivial ?_) ?_
  ·simp(etaStruct := .none)only[push_cast,zab,seval]
  rintro k ⟨hk,hn⟩
  try refine xst ?_
  refine cI (fun h2 => ?_) fun h2 => ?_
  ·have hlt:k<l.length:=by omega
   have hlt2:k<m.length:=by omega
   try refine xz4 (gd hlt) (gd hlt2) zb5 zds ?_
   (try(refine⟨by kernel_rfl,?_⟩))
   try refine xz4 (gd hlt) (gd hlt2) zb5 zds ?_
   refine cI (fun h3 => ?_) fun h3 => ?_
   ·have e:l≠m:=by intro e;subst e;simp at h3
    try refine xz4 (gd hlt) (gd hlt2) zb5 zds ?_
    exact zb0 rfl trivial (Wk.of (by rw[decide_eq_false e];rfl))
   ·try refine xz4 (gd hlt) (gd hlt2) zb5 zds ?_
    refine⟨k+1,⟨by omega,fun j hj=>by rcases Nat.lt_or_ge j k with h|h;exact hn j h;rw[show j=k by omega];simpa using h3⟩,by omega,To.mk [] rfl rfl List.nodup_nil trivial ?_⟩
    ·(try(refine xz4 (gd hlt) (gd hlt2) zb5 zds ?_;try exact xtI))
  ·have e:l=m:=by
    refine List.ext_getElem (by omega) fun i i1 i2 => ?_
    have:=hn i (by omega)
    rwa [zae _ _ i1,zae _ _ i2]at this
   try refine xst ?_
   exact zb0 rfl trivial (Wk.of (by rw[decide_eq_true e];rfl))
theorem z2c (l m:List Int) (hl:l.length≤9223372036854775807) (hm:m.length≤9223372036854775807):Spec Tryz.prog 52 [.c (.sl 1 (l.map zac)),.c (.sl 1 (m.map zac))] [] (B (decide (l=m))) []:=by
 refine spB Tryz.func52 26 [.tmp 4] Tryz.results52 ?_
 try refine xst ?_
 refine cI (fun h1 => ?_) fun h1 => ?_
 ·have e:l≠m:=by intro e;subst e;simp at h1
  try refine xst ?_
  exact zb0 rfl trivial (Wk.of (by rw[decide_eq_false e];rfl))
 ·try refine xst ?_
  refine zax (fun k:Nat=>⟨[(13,I .i64 k),(12,I .i64 l.length),(1,.c (.sl 1 (m.map zac))),(0,.c (.sl 1 (l.map zac)))],[],0⟩) (fun k:Nat=>k≤l.length∧∀j,j<k→l.getD j default=m.getD j default) (fun k:Nat=>l.length-k) (0) (⟨Nat.zero_le _,fun j h=>by omega⟩) (To.mk [] rfl rfl List.nodup_nil trivial ?_) ?_
  ·simp(etaStruct := .none)only[push_cast,zab,seval]
  rintro k ⟨hk,hn⟩
  try refine xst ?_
  refine cI (fun h2 => ?_) fun h2 => ?_
  ·have hlt:k<l.length:=by omega
   have hlt2:k<m.length:=by omega
   iterate 2(try simp(etaStruct := .none)only[push_cast,zab,seval,zaa _ _ _ hlt,zaa _ _ _ hlt2,zac,decide_not];try refine xsu ?_)
   (try(refine⟨by kernel_rfl,?_⟩))
   iterate 2(try simp(etaStruct := .none)only[push_cast,zab,seval,zaa _ _ _ hlt,zaa _ _ _ hlt2,zac,decide_not];try refine xsu ?_)
   refine cI (fun h3 => ?_) fun h3 => ?_
   ·have e:l≠m:=by intro e;subst e;simp at h3
    iterate 2(try simp(etaStruct := .none)only[push_cast,zab,seval,zaa _ _ _ hlt,zaa _ _ _ hlt2,zac,decide_not];try refine xsu ?_)
    exact zb0 rfl trivial (Wk.of (by rw[decide_eq_false e];rfl))
   ·iterate 2(try simp(etaStruct := .none)only[push_cast,zab,seval,zaa _ _ _ hlt,zaa _ _ _ hlt2,zac,decide_not];try refine xsu ?_)
    refine⟨k+1,⟨by omega,fun j hj=>by rcases Nat.lt_or_ge j k with h|h;exact hn j h;rw[show j=k by omega];simpa using h3⟩,by omega,To.mk [] rfl rfl List.nodup_nil trivial ?_⟩
    ·(iterate 2((try simp(etaStruct := .none)only[push_cast,zab,seval,zaa _ _ _ hlt,zaa _ _ _ hlt2,zac,decide_not]);(try(refine xsu ?_;try exact xtI))))
  ·have e:l=m:=by
    refine List.ext_getElem (by omega) fun i i1 i2 => ?_
    have:=hn i (by omega)
    rwa [zae _ _ i1,zae _ _ i2]at this
   try refine xst ?_
   exact zb0 rfl trivial (Wk.of (by rw[decide_eq_true e];rfl))
end Go.Proofs.YtmjbgbmegbkmhaaGreat
namespace Go.Proofs.YtmjbgbmegbkmhaaGreat
set_option linter.all false
open Go.RowKit
set_option maxRecDepth 100000
set_option maxHeartbeats 1000000
def zb2 (f:Fld) (c:Cel):Bool:=inF f c && !decide (zai f c=1)
structure Knd where
 life:Int
 blow:Int
 load:Int
 price:Int
 deriving DecidableEq, Inhabited
def zbc (k:Int):Knd:=if k=1 then ⟨10,1,1,5⟩else if k=2 then ⟨20,2,4,12⟩else ⟨0,0,0,0⟩
abbrev ymf (k:Knd):AV := .agg [I .i64 k.life,I .i64 k.blow,I .i64 k.load,I .i64 k.price]
def zf5 (p:Nat→Bool):Nat→Bool
 | 0=>true
 | k+1=>zf5 p k&&p k
theorem zbb (p:Nat→Bool):∀n,zf5 p n=true↔∀i,i<n→p i=true
 | 0=>by simp[zf5]
 | n+1=>by
  rw[zf5,Bool.and_eq_true,zbb p n]
  constructor
  ·rintro⟨a,b⟩ i hi
   rcases Nat.lt_or_ge i n with h|h
   ·exact a i h
   ·obtain rfl:i=n:=by omega
    exact b
  ·intro h
   exact⟨fun i hi=>h i (by omega),h n (by omega)⟩
def zmv (w:Wld) (i:Nat):Bool:=zb2 w.f (w.bases.getD i default)&&zaj (w.stocks.getD i default) 0 1000000&&zf5 (fun j => !decide (w.bases.getD j default=w.bases.getD i default)) i
def zmp (w:Wld) (i:Nat):Bool:=zaj (w.mines.getD i default) 0 1000000&&(decide (w.mines.getD i default=0)||decide (w.f.p.getD i default=3))
def yd2 (w:Wld) (t:Trp):Bool:=zaj t.id 1 (w.next-1)&&zaj t.owner 0 ((w.bases.length:Int)-1)&&zb2 w.f t.c&&zaj t.life 1 (zbc t.kind).life&&zaj t.load 0 (5*(2-t.kind))
def z8i (w:Wld) (i:Nat):Bool:=zf5 (fun j=>decide ((w.troops.getD j default).id<(w.troops.getD i default).id) && !decide ((w.troops.getD j default).c=(w.troops.getD i default).c)) i
def ze3 (w:Wld) (i:Nat):Bool:=zaj (w.troops.getD i default).kind 1 2&&(yd2 w (w.troops.getD i default)&&z8i w i)
def zhy (w:Wld):Bool:=zf5 (zmv w) w.bases.length&&zf5 (zmp w) w.mines.length&&zf5 (ze3 w) w.troops.length
def zjs (w:Wld):Bool:=decide (w.stocks.length=w.bases.length)&&decide (w.mines.length=w.f.p.length)&&zaj w.next 1 1000000&&zaj w.now 0 1000000
def zal (w:Wld):Int:=if zbv w.f≠0 then zbv w.f else if 8<w.bases.length∨100<w.troops.length then 2 else if zjs w&&zhy w then 0 else 4
end Go.Proofs.YtmjbgbmegbkmhaaGreat
namespace Go.Proofs.YtmjbgbmegbkmhaaGreat
set_option linter.all false
open Go.RowKit
def zeg (c:Cel):Bool:=decide (-1000≤c.x∧c.x≤1000 ∧ -1000≤c.y∧c.y≤1000)
def lq (n m k:Nat):Nat:=(2*k*m+n)/(2*n)
def lr (n m k:Nat):Nat:=(2*k*m+n) % (2*n)
theorem zol (n m k:Nat) (hn:0<n) (hm:m≤n):(2*n≤lr n m k+2*m→lq n m (k+1)=lq n m k+1∧lr n m (k+1)=lr n m k+2*m-2*n)∧(lr n m k+2*m<2*n→lq n m (k+1)=lq n m k∧lr n m (k+1)=lr n m k+2*m):=by
 have e:2*(k+1)*m+n=(2*k*m+n)+2*m:=by rw[Nat.mul_add,Nat.add_mul];omega
 have hd:=Nat.div_add_mod (2*k*m+n) (2*n)
 have hlt:(2*k*m+n) % (2*n)<2*n:=Nat.mod_lt _ (by omega)
 unfold lq lr
 rw[e]
 constructor
 ·intro h
  have e2:2*k*m+n+2*m=((2*k*m+n) % (2*n)+2*m-2*n)+2*n*((2*k*m+n)/(2*n)+1):=by rw[Nat.mul_add];omega
  rw[e2,Nat.add_mul_div_left _ _ (by omega),Nat.add_mul_mod_self_left,Nat.div_eq_of_lt (by omega),Nat.mod_eq_of_lt (by omega)]
  omega
 ·intro h
  have e2:2*k*m+n+2*m=((2*k*m+n) % (2*n)+2*m)+2*n*((2*k*m+n)/(2*n)):=by omega
  rw[e2,Nat.add_mul_div_left _ _ (by omega),Nat.add_mul_mod_self_left,Nat.div_eq_of_lt (by omega),Nat.mod_eq_of_lt (by omega)]
  omega
theorem ztk (n m:Nat):lq n m 0=0:=by
 unfold lq
 rcases Nat.eq_zero_or_pos n with rfl|h
 ·simp
 ·rw[Nat.mul_zero,Nat.zero_mul,Nat.zero_add];exact Nat.div_eq_of_lt (by omega)
theorem yb6 (n m:Nat):lr n m 0=n:=by
 unfold lr
 rcases Nat.eq_zero_or_pos n with rfl|h
 ·simp
 ·rw[Nat.mul_zero,Nat.zero_mul,Nat.zero_add];exact Nat.mod_eq_of_lt (by omega)
theorem ykd (n m k:Nat) (h:0<n):lr n m k<2*n:=Nat.mod_lt _ (by omega)
theorem z6l (n m k:Nat) (hn:0<n) (hk:k≤n):lq n m k≤m:=by
 unfold lq
 have:2*k*m≤2*n*m:=Nat.mul_le_mul_right _ (by omega)
 have:(2*k*m+n)/(2*n)<m+1:=(Nat.div_lt_iff_lt_mul (by omega)).2 (by rw[Nat.add_mul,Nat.mul_comm m];omega)
 omega
def lpt (a:Cel) (sx sy:Int) (X Y k:Nat):Cel:=if Y≤X then ⟨a.x+sx*k,a.y+sy*lq X Y k⟩else ⟨a.x+sx*lq Y X k,a.y+sy*k⟩
def zzg (a:Cel) (sx sy:Int) (X Y n:Nat):List Cel:=(List.range (n+1)).map (lpt a sx sy X Y)
theorem zi8 {c:Cel} (h:zeg c=true) : -1000≤c.x∧c.x≤1000 ∧ -1000≤c.y∧c.y≤1000:=by simpa[zeg]using h
theorem zq9 (a:Cel) (sx sy:Int) (X Y n:Nat):zzg a sx sy X Y (n+1)=zzg a sx sy X Y n ++ [lpt a sx sy X Y (n+1)]:=by simp[zzg,List.range_succ]
theorem zan (a:Cel) (sx sy:Int) (X Y n:Nat):(zzg a sx sy X Y n).length=n+1:=by simp[zzg]
theorem zom (a:Cel) (sx sy:Int) (X Y:Nat):lpt a sx sy X Y 0=a:=by simp[lpt,ztk]
theorem z6n (a:Cel) (sx sy:Int) (X Y k:Nat) (h1:sx = -1∨sx=0∨sx=1) (h2:sy = -1∨sy=0∨sy=1) (hX:X≤2000) (hY:Y≤2000) (hk:k≤max X Y) (ha:zeg a=true) :
 -3000≤(lpt a sx sy X Y k).x∧(lpt a sx sy X Y k).x≤3000 ∧ -3000≤(lpt a sx sy X Y k).y∧(lpt a sx sy X Y k).y≤3000:=by
 have hn:=zi8 ha
 have key:∀(s:Int) (q:Nat),(s = -1∨s=0∨s=1)→q≤2000 → -2000≤s*q∧s*q≤2000:=by
  intro s q hs hq
  rcases hs with rfl|rfl|rfl<;>omega
 unfold lpt
 split
 ·have hq:lq X Y k≤2000:=by
   rcases Nat.eq_zero_or_pos X with rfl|h
   ·obtain rfl:k=0:=by omega
    rw[ztk];omega
   ·have:=z6l X Y k h (by omega);omega
  have a1:=key sx k h1 (by omega)
  have a2:=key sy _ h2 hq
  simp only;omega
 ·have hq:lq Y X k≤2000:=by have:=z6l Y X k (by omega) (by omega);omega
  have a1:=key sx _ h1 hq
  have a2:=key sy k h2 (by omega)
  simp only;omega
theorem z12 (a:Cel) (sx sy:Int) (X Y k:Nat) (h:Y≤X) (h0:0<X):lpt a sx sy X Y (k+1)=⟨(lpt a sx sy X Y k).x+sx,if 2*X≤lr X Y k+2*Y then (lpt a sx sy X Y k).y+sy else (lpt a sx sy X Y k).y⟩:=by
 simp only[lpt,if_pos h]
 have hs:=zol X Y k h0 h
 have e1:a.x+sx*((k+1:Nat):Int)=a.x+sx*k+sx:=by rw[Int.natCast_add,Int.mul_add];omega
 rw[e1]
 by_cases hc:2*X≤lr X Y k+2*Y
 ·rw[if_pos hc,(hs.1 hc).1,Int.natCast_add,Int.mul_add];congr 1;omega
 ·rw[if_neg hc,(hs.2 (by omega)).1]
theorem z11 (a:Cel) (sx sy:Int) (X Y k:Nat) (h:X<Y):lpt a sx sy X Y (k+1)=⟨if 2*Y≤lr Y X k+2*X then (lpt a sx sy X Y k).x+sx else (lpt a sx sy X Y k).x,(lpt a sx sy X Y k).y+sy⟩:=by
 simp only[lpt,if_neg (show ¬Y≤X by omega)]
 have hs:=zol Y X k (by omega) (by omega)
 have e1:a.y+sy*((k+1:Nat):Int)=a.y+sy*k+sy:=by rw[Int.natCast_add,Int.mul_add];omega
 rw[e1]
 by_cases hc:2*Y≤lr Y X k+2*X
 ·rw[if_pos hc,(hs.1 hc).1,Int.natCast_add,Int.mul_add];congr 1;omega
 ·rw[if_neg hc,(hs.2 (by omega)).1]
end Go.Proofs.YtmjbgbmegbkmhaaGreat
namespace Go.Proofs.YtmjbgbmegbkmhaaGreat
set_option linter.all false
open Go.RowKit
set_option maxRecDepth 100000
set_option maxHeartbeats 2000000
theorem zvt (c:Cel) (hx:ziv c.x) (hy:ziv c.y):Spec Tryz.prog 176 [zhv c] [] (B (zeg c)) []:=by
 refine spB Tryz.func176 23 [.tmp 2] Tryz.results176 ?_
 try refine xst ?_
 refine zb0 rfl trivial (Wk.of ?_)
 simp(etaStruct := .none)only[push_cast,zab,seval]
 simp only[I,B,AV.c.injEq,PV.v.injEq,Value.bool.injEq,zeg,IntKind.wrap_i64]
 rw[Bool.eq_iff_iff]
 simp only[Bool.and_eq_true,decide_eq_true_eq]
 repeat' split
 all_goals omega
theorem zu1 (n:Int) (hn:ziv n) (h:n ≠ -9223372036854775808):Spec Tryz.prog 177 [I .i64 n] [] (.tup [I .i64 n.sign,I .i64 n.natAbs]) []:=by
 refine spB Tryz.func177 13 [.tmp 2,.tmp 3] Tryz.results177 ?_
 try refine xst ?_
 refine cI (fun h1 => ?_) fun h1 => ?_
 ·have e1:n.sign = -1:=Int.sign_eq_neg_one_of_neg h1
  have e2:(n.natAbs:Int) = -n:=by omega
  try refine xz2 e1 e2 ?_
  exact xrz rfl
 ·try refine xst ?_
  refine cI (fun h2 => ?_) fun h2 => ?_
  ·have e1:n.sign=1:=Int.sign_eq_one_of_pos h2
   have e2:(n.natAbs:Int)=n:=by omega
   try refine xst ?_
   exact xrz rfl
  ·obtain rfl:n=0:=by omega
   try refine xst ?_
   exact xrz rfl
theorem sg (d:Int):d.sign = -1∨d.sign=0∨d.sign=1:=by
 rcases Int.lt_trichotomy d 0 with h|h|h
 ·rw[Int.sign_eq_neg_one_of_neg h];omega
 ·rw[h];simp
 ·rw[Int.sign_eq_one_of_pos h];omega
def zlw (a b:Cel):List Cel:=zzg a (b.x-a.x).sign (b.y-a.y).sign (b.x-a.x).natAbs (b.y-a.y).natAbs (max (b.x-a.x).natAbs (b.y-a.y).natAbs)
def zm7 (o:Ord):Bool := !zaj o.by_ 0 7 || !zaj o.kind 1 5 || !zaj o.who 0 1000000 || !zeg o.c || !zaj o.what 0 1000000
def zoc (o:Ord):Bool:=decide (o.kind=5∧o.who≠0)||decide (o.kind≠2∧o.kind≠3∧¬(o.c.x=0∧o.c.y=0))||decide (o.kind≠1∧o.kind≠5∧o.what≠0)
def zev (o:Ord):Int:=if zm7 o then 1 else if zoc o then 4 else 0
theorem zfg {o:Ord} (h:zev o=0):(0≤o.by_∧o.by_≤7)∧(1≤o.kind∧o.kind≤5)∧(0≤o.who∧o.who≤1000000)∧(-1000≤o.c.x∧o.c.x≤1000 ∧ -1000≤o.c.y∧o.c.y≤1000)∧(0≤o.what∧o.what≤1000000) ∧
 (o.kind=5→o.who=0)∧(o.kind≠2→o.kind≠3→o.c=⟨0,0⟩)∧(o.kind≠1→o.kind≠5→o.what=0):=by
 unfold zev at h
 split at h
 ·simp at h
 ·rename_i h1
  split at h
  ·simp at h
  ·rename_i h2
   simp only[zm7,Bool.or_eq_true,Bool.not_eq_true',not_or,Bool.not_eq_false,within_iff,zeg,decide_eq_true_eq]at h1
   simp only[zoc,Bool.or_eq_true,decide_eq_true_eq,not_or]at h2
   obtain⟨⟨⟨⟨a1,a2⟩,a3⟩,a4⟩,a5⟩:=h1
   refine⟨a1,a2,a3,a4,a5,fun h=>by omega,fun h h' => ?_,fun h h'=>by omega⟩
   have:o.c.x=0∧o.c.y=0:=by omega
   cases hc:o.c;rw[hc]at this;simp at this;rw[this.1,this.2]
def zj0:List Ord→Int
 | []=>0
 | o::r=>if zev o≠0 then zev o else zj0 r
theorem zru:∀(l:List Ord) (k:Nat),k<l.length→zj0 (l.drop k)=if zev (l.getD k default)≠0 then zev (l.getD k default)else zj0 (l.drop (k+1)):=by
 intro l k hk
 rw[List.drop_eq_getElem_cons hk,zae _ _ hk];rfl
theorem zhp (l:List Ord):∀k,k≤l.length→(∀j,j<k→zev (l.getD j default)=0)→zj0 l=zj0 (l.drop k)
 | 0,_,_=>by simp
 | k+1,hk,h=>by
  rw[zhp l k (by omega) fun j hj=>h j (by omega),zru l k (by omega),if_neg (fun h'=>h' (h k (by omega)))]
theorem zrt:∀(l:List Ord),zj0 l=0→∀o∈l,zev o=0
 | [],_,o,ho=>by simp at ho
 | a::r,h,o,ho=>by
  unfold zj0 at h
  split at h
  ·rename_i h1;exact absurd h h1
  ·rename_i h1
   rcases List.mem_cons.1 ho with rfl|ho
   ·exact Decidable.not_not.1 h1
   ·exact zrt r h o ho
def zc7 (l:List Ord):Int:=if 100<l.length then 2 else zj0 l
theorem zff {l:List Ord} (h:zc7 l=0):l.length≤100∧∀o∈l,zev o=0:=by
 unfold zc7 at h
 split at h
 ·simp at h
 ·rename_i h1;exact⟨by omega,zrt l h⟩
def zbq (o:Ord):Ord:=⟨o.by_,o.kind,if o.kind=5 then 0 else o.who,if o.kind≠2∧o.kind≠3 then ⟨0,0⟩else o.c,if o.kind≠1∧o.kind≠5 then 0 else o.what⟩
theorem zc8 (a b:Ord):(decide (a.by_=b.by_)&&(decide (a.kind=b.kind)&&(decide (a.who=b.who)&&(decide (a.c.x=b.c.x)&&(decide (a.c.y=b.c.y)&&decide (a.what=b.what))))))=decide (a=b):=by
 rw[Bool.eq_iff_iff];obtain⟨_,_,_,⟨_,_⟩,_⟩:=a;obtain⟨_,_,_,⟨_,_⟩,_⟩:=b;simp[and_assoc]
theorem zbp (o:Ord):decide (zbq o=o) = !zoc o:=by
 obtain⟨b,k,w,⟨x,y⟩,t⟩:=o
 unfold zbq zoc
 rw[Bool.eq_iff_iff]
 simp only[decide_eq_true_eq,Bool.not_eq_true',Bool.or_eq_false_iff,decide_eq_false_iff_not,Ord.mk.injEq,true_and]
 constructor
 ·rintro⟨h1,h2,h3⟩
  refine⟨⟨fun h => ?_,fun h => ?_⟩,fun h => ?_⟩
  ·rw[if_pos h.1]at h1;omega
  ·rw[if_pos ⟨h.1,h.2.1⟩]at h2;simp at h2;omega
  ·rw[if_pos ⟨h.1,h.2.1⟩]at h3;omega
 ·rintro⟨⟨h1,h2⟩,h3⟩
  refine⟨?_,?_,?_⟩
  ·split<;>omega
  ·split
   ·simp;omega
   ·rfl
  ·split<;>omega
theorem zll (c:Cel):(!zaj c.x (-1000) 1000 || !zaj c.y (-1000) 1000) = !zeg c:=by
 unfold zaj zeg
 rw[Bool.eq_iff_iff];simp;omega
theorem ze5 (n a b:Int):Spec Tryz.prog 125 [I .i64 n,I .i64 a,I .i64 b] [] (B (zaj n a b)) []:=by
 refine spB Tryz.func125 15 [.tmp 6] Tryz.results125 ?_
 try refine xst ?_
 exact zb0 rfl trivial (Wk.of (congrArg B (by unfold zaj;first|rfl|simp)))
theorem yhk (o:Ord):Spec Tryz.prog 126 [zpk o] [] (zpk (zbq o)) []:=by
 refine spB Tryz.func126 27 [.cell 2 48] Tryz.results126 ?_
 try refine xst ?_
 refine cI (fun h1 => ?_) fun h1 => ?_
 ·try refine xst ?_
  refine cI (fun h2 => ?_) fun h2 => ?_
  ·try refine xst ?_
   refine cI (fun h3 => ?_) fun h3 => ?_
   ·try refine xst ?_
    (first|(refine zau rfl (Wk.of ?_);(try simp(etaStruct := .none)only[push_cast,zab,seval]);first|done|(simp[zbq, *];done)|(simp_all[zbq];done))|(refine zau rfl ?_;(try simp(etaStruct := .none)only[push_cast,zab,seval]);(try simp[zbq, *]);(try exact wkc)))
   ·have e2:¬(o.kind≠1∧o.kind≠5):=by omega
    try refine xst ?_
    (first|(refine zau rfl (Wk.of ?_);(try simp(etaStruct := .none)only[push_cast,zab,seval]);first|done|(simp[zbq, *];done)|(simp_all[zbq];done))|(refine zau rfl ?_;(try simp(etaStruct := .none)only[push_cast,zab,seval]);(try simp[zbq, *]);(try exact wkc)))
  ·have e1:¬(o.kind≠2∧o.kind≠3):=by omega
   try refine xst ?_
   refine cI (fun h4 => ?_) fun h4 => ?_
   ·try refine xst ?_
    (first|(refine zau rfl (Wk.of ?_);(try simp(etaStruct := .none)only[push_cast,zab,seval]);first|done|(simp[zbq, *];done)|(simp_all[zbq];done))|(refine zau rfl ?_;(try simp(etaStruct := .none)only[push_cast,zab,seval]);(try simp[zbq, *]);(try exact wkc)))
   ·have e2:¬(o.kind≠1∧o.kind≠5):=by omega
    try refine xst ?_
    (first|(refine zau rfl (Wk.of ?_);(try simp(etaStruct := .none)only[push_cast,zab,seval]);first|done|(simp[zbq, *];done)|(simp_all[zbq];done))|(refine zau rfl ?_;(try simp(etaStruct := .none)only[push_cast,zab,seval]);(try simp[zbq, *]);(try exact wkc)))
 ·try refine xst ?_
  refine cI (fun h5 => ?_) fun h5 => ?_
  ·try refine xst ?_
   refine cI (fun h6 => ?_) fun h6 => ?_
   ·try refine xst ?_
    (first|(refine zau rfl (Wk.of ?_);(try simp(etaStruct := .none)only[push_cast,zab,seval]);first|done|(simp[zbq, *];done)|(simp_all[zbq];done))|(refine zau rfl ?_;(try simp(etaStruct := .none)only[push_cast,zab,seval]);(try simp[zbq, *]);(try exact wkc)))
   ·have e2:o.kind=1:=by omega
    try refine xst ?_
    (first|(refine zau rfl (Wk.of ?_);(try simp(etaStruct := .none)only[push_cast,zab,seval]);first|done|(simp[zbq, *];done)|(simp_all[zbq];done))|(refine zau rfl ?_;(try simp(etaStruct := .none)only[push_cast,zab,seval]);(try simp[zbq, *]);(try exact wkc)))
  ·have e1:¬(o.kind≠2∧o.kind≠3):=by omega
   try refine xst ?_
   refine cI (fun h7 => ?_) fun h7 => ?_
   ·try refine xst ?_
    (first|(refine zau rfl (Wk.of ?_);(try simp(etaStruct := .none)only[push_cast,zab,seval]);first|done|(simp[zbq, *];done)|(simp_all[zbq];done))|(refine zau rfl ?_;(try simp(etaStruct := .none)only[push_cast,zab,seval]);(try simp[zbq, *]);(try exact wkc)))
   ·have e2:¬(o.kind≠1∧o.kind≠5):=by omega
    try refine xst ?_
    (first|(refine zau rfl (Wk.of ?_);(try simp(etaStruct := .none)only[push_cast,zab,seval]);first|done|(simp[zbq, *];done)|(simp_all[zbq];done))|(refine zau rfl ?_;(try simp(etaStruct := .none)only[push_cast,zab,seval]);(try simp[zbq, *]);(try exact wkc)))
theorem zfi (o:Ord):Spec Tryz.prog 75 [zpk o] [] (I .i64 (zev o)) []:=by
 refine spB Tryz.func75 43 [.tmp 2] Tryz.results75 ?_
 try refine xz2 (zc8 (zbq o) o) (zbp o) ?_
 refine caP (ze5 o.by_ 0 7) ?_
 try refine xz2 (zc8 (zbq o) o) (zbp o) ?_
 refine gcP (fun hcc=>ze5 o.kind 1 5) ?_
 try refine xz2 (zc8 (zbq o) o) (zbp o) ?_
 refine gcP (fun hcc=>ze5 o.who 0 1000000) ?_
 try refine xz2 (zc8 (zbq o) o) (zbp o) ?_
 refine gcP (fun hcc=>ze5 o.c.x (-1000) 1000) ?_
 try refine xz2 (zc8 (zbq o) o) (zbp o) ?_
 refine gcP (fun hcc=>ze5 o.c.y (-1000) 1000) ?_
 try refine xz2 (zc8 (zbq o) o) (zbp o) ?_
 refine gcP (fun hcc=>ze5 o.what 0 1000000) ?_
 try refine xz2 (zc8 (zbq o) o) (zbp o) ?_
 refine cI (fun h1 => ?_) fun h1 => ?_
 ·have hb:zm7 o=true:=by unfold zm7;rw[←zll];simpa[or_assoc]using h1
  try refine xz2 (zc8 (zbq o) o) (zbp o) ?_
  (first|(refine zau rfl (Wk.of ?_);(try simp(etaStruct := .none)only[push_cast,zab,seval]);first|done|(simp[zev,hb, *];done)|(simp_all[zev,hb];done))|(refine zau rfl ?_;(try simp(etaStruct := .none)only[push_cast,zab,seval]);(try simp[zev,hb, *]);(try exact wkc)))
 ·have hb:zm7 o=false:=by unfold zm7;rw[←zll];simpa[and_assoc]using h1
  try refine xz2 (zc8 (zbq o) o) (zbp o) ?_
  refine caP (yhk o) ?_
  try refine xz2 (zc8 (zbq o) o) (zbp o) ?_
  (try(refine⟨by kernel_rfl,?_⟩))
  try refine xz2 (zc8 (zbq o) o) (zbp o) ?_
  refine cI (fun h2 => ?_) fun h2 => ?_
  ·try refine xz2 (zc8 (zbq o) o) (zbp o) ?_
   (first|(refine zau rfl (Wk.of ?_);(try simp(etaStruct := .none)only[push_cast,zab,seval]);first|done|(simp[zev,hb, *];done)|(simp_all[zev,hb];done))|(refine zau rfl ?_;(try simp(etaStruct := .none)only[push_cast,zab,seval]);(try simp[zev,hb, *]);(try exact wkc)))
  ·try refine xz2 (zc8 (zbq o) o) (zbp o) ?_
   (first|(refine zau rfl (Wk.of ?_);(try simp(etaStruct := .none)only[push_cast,zab,seval]);first|done|(simp[zev,hb, *];done)|(simp_all[zev,hb];done))|(refine zau rfl ?_;(try simp(etaStruct := .none)only[push_cast,zab,seval]);(try simp[zev,hb, *]);(try exact wkc)))
theorem zvr (l:List Ord) (hl:l.length≤9223372036854775807):Spec Tryz.prog 38 [.c (.sl 6 (l.map zdv))] [] (I .i64 (zc7 l)) []:=by
 refine spB Tryz.func38 21 [.tmp 2] Tryz.results38 ?_
 try refine xst ?_
 refine cI (fun h1 => ?_) fun h1 => ?_
 ·have h1':100<l.length:=by omega
  try refine xst ?_
  (first|(refine zau rfl (Wk.of ?_);(try simp(etaStruct := .none)only[push_cast,zab,seval]);first|done|(simp[zc7, *];done)|(simp_all[zc7];done))|(refine zau rfl ?_;(try simp(etaStruct := .none)only[push_cast,zab,seval]);(try simp[zc7, *]);(try exact wkc)))
 ·try refine xst ?_
  refine zax (fun k:Nat=>⟨[(11,I .i64 k),(10,I .i64 l.length),(9,.c (.sl 6 (l.map zdv)))],[],0⟩) (fun k:Nat=>k≤l.length∧∀j,j<k→zev (l.getD j default)=0) (fun k:Nat=>l.length-k) (0) (⟨Nat.zero_le _,fun j h=>by omega⟩) (To.mk [] rfl rfl List.nodup_nil trivial ?_) ?_
  ·simp(etaStruct := .none)only[push_cast,zab,seval]
  rintro k ⟨hk,hn⟩
  try refine xst ?_
  refine cI (fun h2 => ?_) fun h2 => ?_
  ·have hlt:k<l.length:=by omega
   try refine xz2 (gd hlt) zb3 ?_
   refine caP (zfi (l.getD k default)) ?_
   try refine xz2 (gd hlt) zb3 ?_
   refine cI (fun h3 => ?_) fun h3 => ?_
   ·have e:zc7 l=zev (l.getD k default):=by
     unfold zc7
     rw[if_neg (by omega),zhp l k hk hn,zru l k hlt,if_pos h3]
    try refine xz2 (gd hlt) zb3 ?_
    (first|(refine zau rfl (Wk.of ?_);(try simp(etaStruct := .none)only[push_cast,zab,seval]);first|done|(simp[e, *];done)|(simp_all[e];done))|(refine zau rfl ?_;(try simp(etaStruct := .none)only[push_cast,zab,seval]);(try simp[e, *]);(try exact wkc)))
   ·try refine xz2 (gd hlt) zb3 ?_
    refine⟨k+1,⟨by omega,fun j hj=>by rcases Nat.lt_or_ge j k with h|h;exact hn j h;rw[show j=k by omega];exact h3⟩,by omega,To.mk [] rfl rfl List.nodup_nil trivial ?_⟩
    ·(try(refine xz2 (gd hlt) zb3 ?_;try exact xtI))
  ·have e:zc7 l=0:=by
    unfold zc7
    rw[if_neg (by omega),zhp l k hk hn,List.drop_eq_nil_of_le (by omega)];rfl
   try refine xst ?_
   (first|(refine zau rfl (Wk.of ?_);(try simp(etaStruct := .none)only[push_cast,zab,seval]);first|done|(simp[e, *];done)|(simp_all[e];done))|(refine zau rfl ?_;(try simp(etaStruct := .none)only[push_cast,zab,seval]);(try simp[e, *]);(try exact wkc)))
end Go.Proofs.YtmjbgbmegbkmhaaGreat
namespace Go.Proofs.YtmjbgbmegbkmhaaGreat
set_option linter.all false
open Go.RowKit
set_option maxRecDepth 100000
theorem z1c (l:List Ord) (hl:l.length≤2932031007402):Spec Tryz.prog 71 [.c (.sl 6 (l.map zdv))] [] (.own 0) [.row 48 6 (l.map zdv)]:=by
 refine spB Tryz.func71 8 [.tmp 2] Tryz.results71 ?_
 try refine xst ?_
 intro b hb
 try refine xst ?_
 refine zay (fun h => ?_) (fun h => ?_)
 ·try refine xst ?_
  have e:=hb h
  refine zf0 (To.nil 2 48 6 rfl) (zby [0] rfl rfl (by decide) ⟨?_,trivial⟩ trivial ?_)
  ·simp(etaStruct := .none)only[push_cast,zab,seval,e]
  ·simp(etaStruct := .none)only[push_cast,zab,seval]
 ·try refine xst ?_
  refine zby [1] rfl rfl (by decide) ⟨?_,trivial⟩ trivial ?_
  ·simp(etaStruct := .none)only[push_cast,zab,seval]
  ·simp(etaStruct := .none)only[push_cast,zab,seval]
theorem zie (l:List Ord) (hl:l.length≤2932031007402):Spec Tryz.prog 71 [.c (.sl 6 (l.map zdv))] [] (.c (.sl 6 (l.map zdv))) []:=by
 refine spB Tryz.func71 8 [.tmp 2] Tryz.results71 ?_
 try refine xst ?_
 intro b hb
 try refine xst ?_
 refine zay (fun h => ?_) (fun h => ?_)
 ·try refine xst ?_
  exact zb0 rfl trivial (by rw[hb h];exact Wk.nil _)
 ·try refine xst ?_
  exact zb0 rfl trivial (Wk.refl _)
end Go.Proofs.YtmjbgbmegbkmhaaGreat
namespace Go.Proofs.YtmjbgbmegbkmhaaGreat
set_option linter.all false
open Go.RowKit
set_option maxRecDepth 100000
set_option maxHeartbeats 2000000
structure Sea where
 waits:List Ord
 late:Int
 gone:Bool
 deriving DecidableEq, Inhabited
def zbt (s:Sea):List PV := [.sl 6 (s.waits.map zdv),pI s.late,pB s.gone]
theorem zcf (s:Sea):zbt s = [.sl 6 (s.waits.map zdv),pI s.late,pB s.gone]:=rfl
abbrev yh1 (s:Sea):AV := .agg [.c (.sl 6 (s.waits.map zdv)),I .i64 s.late,B s.gone]
def zf9 (s:Sea):Prop:=s.waits.length≤2932031007402
def zjx (i:Int) (o:Ord):Bool := !decide (o.by_=i) || !decide (zev o=0)
def zm0 (s:Sea):Bool := !zaj s.late 0 1000000||(s.gone&&(!decide (s.late=0)||decide (0<s.waits.length)))
def zp7 (s:Sea) (i:Int):Bool := !zm0 s && !s.waits.any (zjx i)
def za4 (l:List Sea):Int :=
 if l.length<1∨8<l.length then 1 else if l.any (fun s=>decide (50<s.waits.length))then 2 else
 if (List.range l.length).all (fun i=>zp7 (l.getD i default) i)then 0 else 4
theorem yfn (F:FuncId) (a b:List AV) (l:List Ord) (p:Ord→Bool) (hl:l.length≤9223372036854775807) (hp:∀n∈l,Spec Tryz.prog F (a ++ [zpk n]++b) [] (B (p n)) []) (ha:∀h,cvL [] h a=a) (hb:∀h,cvL [] h b=b) :
 Spec Tryz.prog 39 [.c (.sl 6 (l.map zdv)),.clo (.func F) a b] [] (I .i64 (zj8 p l)) []:=by
 refine spB Tryz.func39 19 [.tmp 4] Tryz.results39 ?_
 simp(etaStruct := .none)only[push_cast,zab,seval]
 refine zax (fun k:Nat=>⟨[(8,I .i64 k),(7,I .i64 l.length),(0,.c (.sl 6 (l.map zdv))),(1,.clo (.func F) a b)],[],0⟩) (fun k=>k≤l.length∧∀j (hj:j<l.length),j<k→p l[j]=false) (fun k=>l.length-k) 0 ⟨Nat.zero_le _,fun j _ h=>by omega⟩ (To.mk [] rfl rfl List.nodup_nil trivial ?_) ?_
 ·simp(etaStruct := .none)only[push_cast,zab,seval,ha,hb]
 ·rintro k ⟨hk,hn⟩
  simp(etaStruct := .none)only[push_cast,zab,seval]
  refine zay (fun h => ?_) (fun h => ?_)
  ·have hlt:k<l.length:=by simpa using h
   simp(etaStruct := .none)only[push_cast,zab,seval,zb4 _ _ _ hlt,zdv]
   repeat with_reducible refine obA ?_
   refine zdt (hp _ (List.getElem_mem hlt)) (by simp only[zde,ha,hb,cvL,cv];exact WkL.refl _) ?_
   simp(etaStruct := .none)only[push_cast,zab,seval]
   refine zay (fun h => ?_) (fun h => ?_)
   ·simp(etaStruct := .none)only[push_cast,zab,seval]
    exact zb0 rfl trivial (Wk.of (by rw[zd3 p l k hlt h hn];rfl))
   ·simp(etaStruct := .none)only[push_cast,zab,seval]
    refine⟨k+1,⟨by omega,fun j hj hjk => ?_⟩,by omega,To.mk [] rfl rfl List.nodup_nil trivial ?_⟩
    ·by_cases e:j=k
     ·subst e;exact h
     ·exact hn j hj (by omega)
    ·simp(etaStruct := .none)only[push_cast,zab,seval,ha,hb]
     simp(disch:=omega)only[zak,za6,tdv,tmd]
  ·have hge:k=l.length:=by simp at h;omega
   subst hge
   simp(etaStruct := .none)only[push_cast,zab,seval]
   exact zb0 rfl trivial (Wk.of (by rw[zcw p l (fun j hj=>hn j hj hj)];rfl))
theorem ybi (F:FuncId) (a b:List AV) (l:List Ord) (p:Ord→Bool) (hl:l.length≤9223372036854775807) (hp:∀n∈l,Spec Tryz.prog F (a ++ [zpk n]++b) [] (B (p n)) []) (ha:∀h,cvL [] h a=a) (hb:∀h,cvL [] h b=b) :
 Spec Tryz.prog 11 [.c (.sl 6 (l.map zdv)),.clo (.func F) a b] [] (B (l.any p)) []:=by
 refine spB Tryz.func11 9 [.tmp 4] Tryz.results11 ?_
 simp(etaStruct := .none)only[push_cast,zab,seval]
 refine zdt (yfn F a b l p hl hp ha hb) (by simp only[ha,hb,cvL,cv];exact WkL.refl _) ?_
 simp(etaStruct := .none)only[push_cast,zab,seval]
 exact zb0 rfl trivial (Wk.of (by rw[zfm];rfl))
theorem ye6 (F:FuncId) (a b:List AV) (l:List Sea) (p:Sea→Bool) (hl:l.length≤9223372036854775807) (hp:∀n∈l,Spec Tryz.prog F (a ++ [yh1 n]++b) [] (B (p n)) []) (ha:∀h,cvL [] h a=a) (hb:∀h,cvL [] h b=b) :
 Spec Tryz.prog 152 [.c (.sl 3 (l.map zbt)),.clo (.func F) a b] [] (I .i64 (zj8 p l)) []:=by
 refine spB Tryz.func152 19 [.tmp 4] Tryz.results152 ?_
 simp(etaStruct := .none)only[push_cast,zab,seval]
 refine zax (fun k:Nat=>⟨[(8,I .i64 k),(7,I .i64 l.length),(0,.c (.sl 3 (l.map zbt))),(1,.clo (.func F) a b)],[],0⟩) (fun k=>k≤l.length∧∀j (hj:j<l.length),j<k→p l[j]=false) (fun k=>l.length-k) 0 ⟨Nat.zero_le _,fun j _ h=>by omega⟩ (To.mk [] rfl rfl List.nodup_nil trivial ?_) ?_
 ·simp(etaStruct := .none)only[push_cast,zab,seval,ha,hb]
 ·rintro k ⟨hk,hn⟩
  simp(etaStruct := .none)only[push_cast,zab,seval]
  refine zay (fun h => ?_) (fun h => ?_)
  ·have hlt:k<l.length:=by simpa using h
   simp(etaStruct := .none)only[push_cast,zab,seval,zb4 _ _ _ hlt,zbt]
   repeat with_reducible refine obA ?_
   refine zdt (hp _ (List.getElem_mem hlt)) (by simp only[zde,ha,hb,cvL,cv];exact WkL.refl _) ?_
   simp(etaStruct := .none)only[push_cast,zab,seval]
   refine zay (fun h => ?_) (fun h => ?_)
   ·simp(etaStruct := .none)only[push_cast,zab,seval]
    exact zb0 rfl trivial (Wk.of (by rw[zd3 p l k hlt h hn];rfl))
   ·simp(etaStruct := .none)only[push_cast,zab,seval]
    refine⟨k+1,⟨by omega,fun j hj hjk => ?_⟩,by omega,To.mk [] rfl rfl List.nodup_nil trivial ?_⟩
    ·by_cases e:j=k
     ·subst e;exact h
     ·exact hn j hj (by omega)
    ·simp(etaStruct := .none)only[push_cast,zab,seval,ha,hb]
     simp(disch:=omega)only[zak,za6,tdv,tmd]
  ·have hge:k=l.length:=by simp at h;omega
   subst hge
   simp(etaStruct := .none)only[push_cast,zab,seval]
   exact zb0 rfl trivial (Wk.of (by rw[zcw p l (fun j hj=>hn j hj hj)];rfl))
theorem yaw (F:FuncId) (a b:List AV) (l:List Sea) (p:Sea→Bool) (hl:l.length≤9223372036854775807) (hp:∀n∈l,Spec Tryz.prog F (a ++ [yh1 n]++b) [] (B (p n)) []) (ha:∀h,cvL [] h a=a) (hb:∀h,cvL [] h b=b) :
 Spec Tryz.prog 121 [.c (.sl 3 (l.map zbt)),.clo (.func F) a b] [] (B (l.any p)) []:=by
 refine spB Tryz.func121 9 [.tmp 4] Tryz.results121 ?_
 simp(etaStruct := .none)only[push_cast,zab,seval]
 refine zdt (ye6 F a b l p hl hp ha hb) (by simp only[ha,hb,cvL,cv];exact WkL.refl _) ?_
 simp(etaStruct := .none)only[push_cast,zab,seval]
 exact zb0 rfl trivial (Wk.of (by rw[zfm];rfl))
theorem yfk (o:Ord) (i:Int):Spec Tryz.prog 153 ([] ++ [zpk o] ++ [.fel 1 [[.v (.int .i64 i)]] 0 0]) [] (B (zjx i o)) []:=by
 refine spB Tryz.func153 13 [.tmp 3] Tryz.results153 ?_
 try refine xst ?_
 refine gcP (fun hcc=>zfi o) ?_
 try refine xst ?_
 (first|(refine zau rfl (Wk.of ?_);(try simp(etaStruct := .none)only[push_cast,zab,seval]);first|done|(simp[zjx, *];done)|(simp_all[zjx];done))|(refine zau rfl ?_;(try simp(etaStruct := .none)only[push_cast,zab,seval]);(try simp[zjx, *]);(try exact wkc)))
theorem zh6 (s:Sea):(decide (s.late<0)||decide (1000000<s.late)||(s.gone&&(!decide (s.late=0)||decide (0<(s.waits.length:Int)))))=zm0 s:=by
 unfold zm0 zaj
 rw[Bool.eq_iff_iff];simp
theorem z42 (s:Sea) (i:Int) (hl:zf9 s):Spec Tryz.prog 123 [yh1 s,I .i64 i] [] (B (zp7 s i)) []:=by
 unfold zf9 at hl
 refine spB Tryz.func123 33 [.tmp 4] Tryz.results123 ?_
 try refine xz1 (zh6 s) ?_
 refine cI (fun h1 => ?_) fun h1 => ?_
 ·try refine xz1 (zh6 s) ?_
  (first|(refine zau rfl (Wk.of ?_);(try simp(etaStruct := .none)only[push_cast,zab,seval]);first|done|(simp[zp7, *];done)|(simp_all[zp7];done))|(refine zau rfl ?_;(try simp(etaStruct := .none)only[push_cast,zab,seval]);(try simp[zp7, *]);(try exact wkc)))
 ·try refine xz1 (zh6 s) ?_
  refine zcd (ybi _ [] [.fel 1 [[.v (.int .i64 i)]] 0 0] s.waits (zjx i) (by omega) (fun o _=>yfk o i) (fun _=>rfl) (fun _=>rfl)) (WkL.refl _) rfl ?_
  try refine xz1 (zh6 s) ?_
  (first|(refine zau rfl (Wk.of ?_);(try simp(etaStruct := .none)only[push_cast,zab,seval]);first|done|(simp[zp7, *];done)|(simp_all[zp7];done))|(refine zau rfl ?_;(try simp(etaStruct := .none)only[push_cast,zab,seval]);(try simp[zp7, *]);(try exact wkc)))
theorem ye7 (s:Sea) (hl:zf9 s):Spec Tryz.prog 122 ([] ++ [yh1 s] ++ []) [] (B (decide (50<s.waits.length))) []:=by
 unfold zf9 at hl
 refine spB Tryz.func122 7 [.tmp 2] Tryz.results122 ?_
 try refine xst ?_
 exact zb0 rfl trivial (Wk.of (congrArg B (by rw[Bool.eq_iff_iff];simp;omega)))
theorem zdy (l:List Sea) (hl:l.length≤9223372036854775807) (hs:∀s∈l,zf9 s):Spec Tryz.prog 73 [.c (.sl 3 (l.map zbt))] [] (I .i64 (za4 l)) []:=by
 refine spB Tryz.func73 27 [.tmp 2] Tryz.results73 ?_
 try refine xst ?_
 refine cI (fun h1 => ?_) fun h1 => ?_
 ·have e:za4 l=1:=by unfold za4;rw[if_pos (by omega)]
  try refine xst ?_
  (first|(refine zau rfl (Wk.of ?_);(try simp(etaStruct := .none)only[push_cast,zab,seval]);first|done|(simp[e, *];done)|(simp_all[e];done))|(refine zau rfl ?_;(try simp(etaStruct := .none)only[push_cast,zab,seval]);(try simp[e, *]);(try exact wkc)))
 ·try refine xst ?_
  refine caP (yaw _ [] [] l (fun s=>decide (50<s.waits.length)) hl (fun s hh=>ye7 s (hs s hh)) (fun _=>rfl) (fun _=>rfl)) ?_
  try refine xst ?_
  refine cI (fun h2 => ?_) fun h2 => ?_
  ·have e:za4 l=2:=by unfold za4;rw[if_neg (by omega),if_pos h2]
   try refine xst ?_
   (first|(refine zau rfl (Wk.of ?_);(try simp(etaStruct := .none)only[push_cast,zab,seval]);first|done|(simp[e, *];done)|(simp_all[e];done))|(refine zau rfl ?_;(try simp(etaStruct := .none)only[push_cast,zab,seval]);(try simp[e, *]);(try exact wkc)))
  ·try refine xst ?_
   refine zax (fun k:Nat=>⟨[(17,I .i64 k),(16,I .i64 l.length),(15,.c (.sl 3 (l.map zbt)))],[],0⟩) (fun k:Nat=>k≤l.length∧∀j,j<k→zp7 (l.getD j default) j=true) (fun k:Nat=>l.length-k) (0) (⟨Nat.zero_le _,fun j h=>by omega⟩) (To.mk [] rfl rfl List.nodup_nil trivial ?_) ?_
   ·simp(etaStruct := .none)only[push_cast,zab,seval]
   rintro k ⟨hk,hn⟩
   try refine xst ?_
   refine cI (fun h3 => ?_) fun h3 => ?_
   ·have hlt:k<l.length:=by omega
    try refine xz2 (gd hlt) zcf ?_
    refine caP (z42 (l.getD k default) k (hs _ (by rw[zae _ _ hlt];exact List.getElem_mem hlt))) ?_
    try refine xz2 (gd hlt) zcf ?_
    refine cI (fun h4 => ?_) fun h4 => ?_
    ·have e:za4 l=4:=by
      unfold za4
      rw[if_neg (by omega),if_neg (by rw[h2];simp),if_neg]
      rw[List.all_eq_true]
      intro hh
      have:=hh k (by simp;omega)
      rw[h4]at this;simp at this
     try refine xz2 (gd hlt) zcf ?_
     (first|(refine zau rfl (Wk.of ?_);(try simp(etaStruct := .none)only[push_cast,zab,seval]);first|done|(simp[e, *];done)|(simp_all[e];done))|(refine zau rfl ?_;(try simp(etaStruct := .none)only[push_cast,zab,seval]);(try simp[e, *]);(try exact wkc)))
    ·try refine xz2 (gd hlt) zcf ?_
     refine⟨k+1,⟨by omega,fun j hj=>by rcases Nat.lt_or_ge j k with h|h;exact hn j h;rw[show j=k by omega];exact h4⟩,by omega,To.mk [] rfl rfl List.nodup_nil trivial ?_⟩
     ·(try(refine xz2 (gd hlt) zcf ?_;try exact xtI))
   ·have e:za4 l=0:=by
     unfold za4
     rw[if_neg (by omega),if_neg (by rw[h2];simp),if_pos]
     rw[List.all_eq_true]
     intro i hi
     exact hn i (by simp at hi;omega)
    try refine xst ?_
    (first|(refine zau rfl (Wk.of ?_);(try simp(etaStruct := .none)only[push_cast,zab,seval]);first|done|(simp[e, *];done)|(simp_all[e];done))|(refine zau rfl ?_;(try simp(etaStruct := .none)only[push_cast,zab,seval]);(try simp[e, *]);(try exact wkc)))
theorem z8p (l:List Sea) (hl:l.length≤100000) (hs:∀s∈l,zf9 s):Spec Tryz.prog 76 [.c (.sl 3 (l.map zbt))] [] (.own 0) [.row 169 3 (l.map zbt)]:=by
 refine spB Tryz.func76 25 [.tmp 2] Tryz.results76 ?_
 iterate 2(try simp(etaStruct := .none)only[push_cast,zab,seval,List.length_take,List.length_map];try refine xsu ?_)
 refine zax (fun k:Nat=>⟨[(11,I .i64 k),(10,I .i64 l.length),(9,.c (.sl 3 (l.map zbt))),(3,.own 0)],[(0,.row 169 3 ((l.take k).map zbt))],1⟩) (fun k:Nat=>k≤l.length) (fun k:Nat=>l.length-k) (0) (Nat.zero_le _) (To.mk [0] rfl rfl (by decide) ?_ ?_) ?_
 ·simp(etaStruct := .none)only[push_cast,zab,seval]
 ·simp(etaStruct := .none)only[push_cast,zab,seval]
 rintro k hk
 iterate 2(try simp(etaStruct := .none)only[push_cast,zab,seval,List.length_take,List.length_map];try refine xsu ?_)
 refine cI (fun h1 => ?_) fun h1 => ?_
 ·have hlt:k<l.length:=by omega
  iterate 2(try simp(etaStruct := .none)only[push_cast,zab,seval,List.length_take,List.length_map,zaa _ _ _ hlt,zbt];try refine xsu ?_)
  have ts:=zao l k hlt
  refine caP (zie (l.getD k default).waits (hs _ (by rw[zae _ _ hlt];exact List.getElem_mem hlt))) ?_
  iterate 2(try simp(etaStruct := .none)only[push_cast,zab,seval,List.length_take,List.length_map,zaa _ _ _ hlt,zbt];try refine xsu ?_)
  refine⟨k+1,by omega,by omega,To.mk [3] rfl rfl (by decide) ?_ ?_⟩
  ·(iterate 2((try simp(etaStruct := .none)only[push_cast,zab,seval,ts,List.map_append,zbt]);(try(refine xsu ?_;try exact xtI))))
  ·(iterate 2((try simp(etaStruct := .none)only[push_cast,zab,seval,List.length_take,List.length_map,zaa _ _ _ hlt,zbt]);(try(refine xsu ?_;try exact xtI))))
 ·obtain rfl:k=l.length:=by omega
  iterate 2(try simp(etaStruct := .none)only[push_cast,zab,seval,List.length_take,List.length_map];try refine xsu ?_)
  refine zby [0] rfl rfl (by decide) ⟨?_,trivial⟩ trivial ?_
  ·simp(etaStruct := .none)only[push_cast,zab,seval,List.take_length]
  ·simp(etaStruct := .none)only[push_cast,zab,seval]
end Go.Proofs.YtmjbgbmegbkmhaaGreat
namespace Go.Proofs.YtmjbgbmegbkmhaaGreat
set_option linter.all false
open Go.RowKit
def tkS (most:Int):List Ord→List Sea→List Ord × List Sea
 | out,[]=>(out,[])
 | out,s::r =>
  if 0<s.waits.length∧(out.length:Int)<most then ((tkS most (out ++ [s.waits.getD 0 default]) r).1,⟨s.waits.drop 1,s.late,s.gone⟩::(tkS most (out ++ [s.waits.getD 0 default]) r).2)
  else ((tkS most out r).1,s::(tkS most out r).2)
def yd3 (l:List Sea):Nat:=(l.map fun s=>s.waits.length).sum
theorem zsp (most:Int):∀(l:List Sea) (out:List Ord),(tkS most out l).1.length+yd3 (tkS most out l).2=out.length+yd3 l
 | [],out=>by simp[tkS,yd3]
 | s::r,out=>by
  unfold tkS
  split
  ·rename_i h
   have:=zsp most r (out ++ [s.waits.getD 0 default])
   simp only[yd3,List.map_cons,List.sum_cons,List.length_append,List.length_cons,List.length_nil,List.length_drop]at this ⊢
   omega
  ·have:=zsp most r out
   simp only[yd3,List.map_cons,List.sum_cons]at this ⊢
   omega
theorem zun (most:Int):∀(l:List Sea) (out:List Ord),out.length≤(tkS most out l).1.length
 | [],out=>by simp[tkS]
 | s::r,out=>by
  unfold tkS
  split
  ·have:=zun most r (out ++ [s.waits.getD 0 default]);simp only[List.length_append,List.length_cons,List.length_nil]at this ⊢;omega
  ·exact zun most r out
theorem zz1 (most:Int):∀(l:List Sea) (out:List Ord),(out.length:Int)≤max most 0→((tkS most out l).1.length:Int)≤max most 0
 | [],out,h=>by simpa[tkS]using h
 | s::r,out,h=>by
  unfold tkS
  split
  ·exact zz1 most r _ (by simp;omega)
  ·exact zz1 most r out h
theorem zz0 (most:Int):∀(l:List Sea) (out:List Ord),(tkS most out l).2.length=l.length
 | [],out=>by simp[tkS]
 | s::r,out=>by unfold tkS;split<;>simp[zz0 most r]
theorem zum (most:Int):∀(l:List Sea) (out:List Ord),(tkS most out l).1.length=out.length→tkS most out l=(out,l)
 | [],out,_=>by simp[tkS]
 | s::r,out,h=>by
  unfold tkS at h ⊢
  split at h
  ·have:=zun most r (out ++ [s.waits.getD 0 default])
   simp only[List.length_append,List.length_cons,List.length_nil]at this h
   omega
  ·rename_i hc
   rw[if_neg hc,zum most r out h]
def zr9 (most:Int) (x:List Ord × List Sea):Prop:=¬((x.1.length:Int)<most)∨∀s∈x.2,s.waits.length=0
theorem znz {most:Int} : ∀ {l:List Sea} {out:List Ord},zr9 most (out,l)→tkS most out l=(out,l)
 | [],out,_=>by simp[tkS]
 | s::r,out,h=>by
  have hc:¬(0<s.waits.length∧(out.length:Int)<most):=by
   rcases h with h|h
   ·exact fun q=>h q.2
   ·have:=h s (by simp);omega
  unfold tkS
  rw[if_neg hc,znz (l:=r) (out:=out) (by rcases h with h|h;exact .inl h;exact .inr fun s hs=>h s (by simp[hs]))]
theorem zz6 {most:Int} {x:List Ord × List Sea} (h:zr9 most x):tkS most x.1 x.2=x:=by
 obtain⟨a,b⟩:=x
 exact znz h
def itS (most:Int):Nat→List Ord × List Sea→List Ord × List Sea
 | 0,x=>x
 | n+1,x=>itS most n (tkS most x.1 x.2)
theorem zkl (most:Int):∀(n:Nat) (x:List Ord × List Sea),itS most (n+1) x=tkS most (itS most n x).1 (itS most n x).2
 | 0,x=>rfl
 | n+1,x=>by rw[itS,zkl most n];rfl
theorem ztn (most:Int) (x:List Ord × List Sea) (a:Nat) (h:tkS most (itS most a x).1 (itS most a x).2=itS most a x):∀d,itS most (a+d) x=itS most a x
 | 0=>rfl
 | d+1=>by rw[←Nat.add_assoc,zkl,ztn most x a h d,h]
theorem ygm (most:Int) (x:List Ord × List Sea) (a b:Nat) (ha:tkS most (itS most a x).1 (itS most a x).2=itS most a x) (hb:tkS most (itS most b x).1 (itS most b x).2=itS most b x):itS most a x=itS most b x:=by
 rcases Nat.le_total a b with h|h
 ·rw[show b=a+(b-a)by omega,ztn most x a ha]
 ·rw[show a=b+(a-b)by omega,ztn most x b hb]
def zbo (s:Sea):Sea:=⟨s.waits,if 0<s.waits.length then 0 else if s.gone then s.late else min (s.late+1) 1000000,s.gone⟩
def zcx (most:Int) (l:List Sea):List Ord × List Sea:=itS most 50 ([],l.map zbo)
theorem zzz (most:Int) (n:Nat):∀(l:List Sea) (out:List Ord),((tkS most out l).1.length:Int)<most→(∀s∈l,s.waits.length≤n+1)→∀s∈(tkS most out l).2,s.waits.length≤n
 | [],out,_,_,s,hs=>by simp[tkS]at hs
 | x::r,out,h,hl,s,hs=>by
  unfold tkS at h hs
  split at h
  ·rename_i hc
   rw[if_pos hc]at hs
   simp only at h hs
   rcases List.mem_cons.1 hs with rfl|hs
   ·have:=hl x (by simp);simp only[List.length_drop];omega
   ·exact zzz most n r _ h (fun s hs=>hl s (by simp[hs])) s hs
  ·rename_i hc
   rw[if_neg hc]at hs
   simp only at h hs
   rcases List.mem_cons.1 hs with rfl|hs
   ·have:=zun most r out;omega
   ·exact zzz most n r _ h (fun s hs=>hl s (by simp[hs])) s hs
theorem z84 {most:Int} {x:List Ord × List Sea} (h:zr9 most x):∀n,itS most n x=x
 | 0=>rfl
 | n+1=>by
  have:=znz (l:=x.2) (out:=x.1) h
  rw[itS,this];exact z84 h n
theorem zv8 (most:Int):∀(n:Nat) (x:List Ord × List Sea),(∀s∈x.2,s.waits.length≤n)→zr9 most (itS most n x)
 | 0,x,h => .inr fun s hs=>Nat.le_zero.1 (h s hs)
 | n+1,x,h=>by
  rw[itS]
  by_cases hc:((tkS most x.1 x.2).1.length:Int)<most
  ·exact zv8 most n _ (zzz most n x.2 x.1 hc h)
  ·have hs:zr9 most (tkS most x.1 x.2) := .inl hc
   rw[z84 hs];exact hs
theorem z7t {most:Int} {l:List Sea} {n:Nat} (hw:∀s∈l,s.waits.length≤50) (h:tkS most (itS most n ([],l.map zbo)).1 (itS most n ([],l.map zbo)).2=itS most n ([],l.map zbo)):zcx most l=itS most n ([],l.map zbo):=by
 have hs:∀m,50≤m→tkS most (itS most m ([],l.map zbo)).1 (itS most m ([],l.map zbo)).2=itS most m ([],l.map zbo):=fun m hm=>by
  refine zz6 (zv8 most m _ fun s hs => ?_)
  obtain⟨t,ht,rfl⟩:=List.mem_map.1 hs
  exact Nat.le_trans (hw t ht) hm
 have key:∀m,50≤m→itS most m ([],l.map zbo)=itS most n ([],l.map zbo):=fun m hm=>ygm most _ m n (hs m hm) h
 unfold zcx
 exact key 50 (Nat.le_refl _)
theorem zcb {l:List Sea} (h:za4 l=0):1≤l.length∧l.length≤8∧(∀s∈l,s.waits.length≤50)∧∀k,k<l.length→zp7 (l.getD k default) k=true:=by
 unfold za4 at h
 split at h
 ·simp at h
 ·split at h
  ·simp at h
  ·rename_i h1 h2
   split at h
   ·rename_i h3
    refine⟨by omega,by omega,fun s hs => ?_,fun k hk => ?_⟩
    ·simp only[List.any_eq_true,decide_eq_true_eq,not_exists,not_and]at h2
     have:=h2 s hs;omega
    ·exact List.all_eq_true.1 h3 k (by simpa using hk)
   ·simp at h
theorem zsw {s:Sea} {i:Int} (h:zp7 s i=true):(0≤s.late∧s.late≤1000000)∧(s.gone=true→s.late=0∧s.waits.length=0)∧∀o∈s.waits,o.by_=i∧zev o=0:=by
 unfold zp7 zm0 at h
 simp only[Bool.and_eq_true,Bool.not_eq_true',Bool.or_eq_false_iff,Bool.not_eq_false',within_iff,List.any_eq_false]at h
 refine⟨h.1.1,fun hg => ?_,fun o ho => ?_⟩
 ·have:=h.1.2
  rw[hg]at this
  simp at this
  exact⟨this.1,by rw[this.2];rfl⟩
 ·have:=h.2 o ho
  unfold zjx at this
  simp at this
  exact this
theorem yc7 {α : Type} [Inhabited α] (l:List α) (i:Nat) (h:i<l.length):l.drop i=l.getD i default::l.drop (i+1):=by rw[List.drop_eq_getElem_cons h,zae _ _ h]
theorem z5e {l:List Sea} {i:Nat} {x:Sea} (h:∀s∈l,zf9 s) (hx:zf9 x):∀s∈l.set i x,zf9 s:=fun s hs=>by
 rcases List.mem_or_eq_of_mem_set hs with h'|h'
 ·exact h s h'
 ·rw[h'];exact hx
end Go.Proofs.YtmjbgbmegbkmhaaGreat
namespace Go.Proofs.YtmjbgbmegbkmhaaGreat
set_option linter.all false
open Go.RowKit
set_option maxRecDepth 100000
set_option maxHeartbeats 1000000
def zfw (w:Wld):Prop:=w.f.p.length≤9223372036854775807∧w.bases.length≤9223372036854775807∧w.stocks.length≤9223372036854775807∧w.mines.length≤9223372036854775807∧w.troops.length≤9223372036854775807
abbrev znt (w:Wld):List AV := [I .i64 w.f.w,I .i64 w.f.h,.c (.sl 1 (w.f.p.map zac)),.c (.sl 2 (w.bases.map za3)),.c (.sl 1 (w.stocks.map zac)),.c (.sl 1 (w.mines.map zac)),.c (.sl 7 (w.troops.map zaw)),I .i64 w.next,I .i64 w.now]
abbrev yd1 (t:Trp):AV := .agg [I .i64 t.id,I .i64 t.owner,I .i64 t.kind,I .i64 t.c.x,I .i64 t.c.y,I .i64 t.life,I .i64 t.load]
abbrev yk2 (t:Trp):List AV := [I .i64 t.id,I .i64 t.owner,I .i64 t.kind,I .i64 t.c.x,I .i64 t.c.y,I .i64 t.life,I .i64 t.load]
theorem zsf {w:Wld} (hf:zbv w.f=0) (hb:¬(8<w.bases.length∨100<w.troops.length)) (h1:zjs w=true) (h:zhy w=true):zal w=0:=by
 unfold zal;rw[if_neg (by simp[hf]),if_neg hb,h1,h];rfl
theorem z3q (l:List Cel) (v:Cel) (hl:l.length≤9223372036854775807):Spec Tryz.prog 143 [.c (.sl 2 (l.map za3)),zhv v] [] (I .i64 (zj8 (fun x=>decide (v=x)) l)) []:=by
 refine spB Tryz.func143 19 [.tmp 4] Tryz.results143 ?_
 try refine xst ?_
 refine zax (fun k:Nat=>⟨[(8,I .i64 k),(7,I .i64 l.length),(3,.ptr 0 0 0),(0,.c (.sl 2 (l.map za3)))],[(0,.blk 46 [I .i64 v.x,I .i64 v.y])],1⟩) (fun k:Nat=>k≤l.length∧∀j (hj:j<l.length),j<k→decide (v=l[j])=false) (fun k:Nat=>l.length-k) (0) (⟨Nat.zero_le _,fun j _ h=>by omega⟩) (To.mk [0] rfl rfl (by decide) ?_ ?_) ?_
 ·simp(etaStruct := .none)only[push_cast,zab,seval]
 ·simp(etaStruct := .none)only[push_cast,zab,seval]
 rintro k ⟨hk,hn⟩
 try refine xst ?_
 refine zay (fun h1 => ?_) (fun h1 => ?_)
 ·(try replace h1:=xhh h1)
  have hlt:k<l.length:=by omega
  try refine xz3 (gd hlt) zb5 zds ?_
  (try(refine⟨by kernel_rfl,?_⟩))
  try refine xz3 (gd hlt) zb5 zds ?_
  refine cI (fun h2 => ?_) fun h2 => ?_
  ·try refine xz3 (gd hlt) zb5 zds ?_
   exact zb0 rfl trivial (Wk.of (by rw[zd3 (fun x=>decide (v=x)) l k hlt (by rw[←zae _ _ hlt];simpa using h2) hn];rfl))
  ·try refine xz3 (gd hlt) zb5 zds ?_
   refine⟨k+1,⟨by omega,fun j hj hjk=>by
 rcases Nat.lt_or_ge j k with h|h
 ·simpa using hn j hj h
 ·obtain rfl:j=k:=by omega
  rw[←zae _ _ hj];simpa using h2⟩,by omega,To.mk [0] rfl rfl (by decide) ?_ ?_⟩
   ·(try(refine xz3 (gd hlt) zb5 zds ?_;try exact xtI))
   ·(try(refine xz3 (gd hlt) zb5 zds ?_;try exact xtI))
 ·(try replace h1:=xhh h1)
  try refine xst ?_
  exact zb0 rfl trivial (Wk.of (by rw[zcw (fun x=>decide (v=x)) l (fun j hj=>hn j hj (by omega))];rfl))
theorem zr4 (l:List Cel) (v:Cel) (hl:l.length≤9223372036854775807):Spec Tryz.prog 104 [.c (.sl 2 (l.map za3)),zhv v] [] (B (l.any (fun x=>decide (v=x)))) []:=by
 refine spB Tryz.func104 9 [.tmp 4] Tryz.results104 ?_
 iterate 2(try simp(etaStruct := .none)only[push_cast,zab,seval,zfm];try refine xsu ?_)
 refine caP (z3q l v hl) ?_
 iterate 2(try simp(etaStruct := .none)only[push_cast,zab,seval,zfm];try refine xsu ?_)
 exact xrz rfl
theorem zk0 (f:Fld) (c:Cel) (h:zbv f=0) (hl:f.p.length≤9223372036854775807):Spec Tryz.prog 103 [z29 f,zhv c] [] (B (zb2 f c)) []:=by
 refine spB Tryz.func103 19 [.tmp 4] Tryz.results103 ?_
 try refine xst ?_
 refine caP (zzj f c hl) ?_
 try refine xst ?_
 exact zb0 rfl trivial (Wk.of (congrArg B (by unfold atV zb2;rw[if_neg (by simp[h])];cases inF f c<;>simp)))
theorem zbk (n a b:Int):Spec Tryz.prog 105 [I .i64 n,I .i64 a,I .i64 b] [] (B (zaj n a b)) []:=by
 refine spB Tryz.func105 15 [.tmp 6] Tryz.results105 ?_
 try refine xst ?_
 exact zb0 rfl trivial (Wk.of (congrArg B (by unfold zaj;first|rfl|simp)))
def zf2 (k:Int):Int:=if k=1∨k=2 then 0 else 1
theorem zhe (k:Int):Spec Tryz.prog 106 [I .i64 k] [] (.tup [ymf (zbc k),I .i64 (zf2 k)]) []:=by
 refine spB Tryz.func106 12 [.cell 2 222,.tmp 3] Tryz.results106 ?_
 try refine xst ?_
 refine cI (fun h1 => ?_) fun h1 => ?_
 ·try refine xst ?_
  (first|(refine zau rfl (Wk.of ?_);(try simp(etaStruct := .none)only[push_cast,zab,seval]);first|done|(simp[zbc,zf2, *];done)|(simp_all[zbc,zf2];done))|(refine zau rfl ?_;(try simp(etaStruct := .none)only[push_cast,zab,seval]);(try simp[zbc,zf2, *]);(try exact wkc)))
 ·try refine xst ?_
  refine cI (fun h2 => ?_) fun h2 => ?_
  ·try refine xst ?_
   (first|(refine zau rfl (Wk.of ?_);(try simp(etaStruct := .none)only[push_cast,zab,seval]);first|done|(simp[zbc,zf2, *];done)|(simp_all[zbc,zf2];done))|(refine zau rfl ?_;(try simp(etaStruct := .none)only[push_cast,zab,seval]);(try simp[zbc,zf2, *]);(try exact wkc)))
  ·try refine xst ?_
   (first|(refine zau rfl (Wk.of ?_);(try simp(etaStruct := .none)only[push_cast,zab,seval]);first|done|(simp[zbc,zf2, *];done)|(simp_all[zbc,zf2];done))|(refine zau rfl ?_;(try simp(etaStruct := .none)only[push_cast,zab,seval]);(try simp[zbc,zf2, *]);(try exact wkc)))
theorem z71 (w:Wld) (i:Nat) (hi:i<w.bases.length):((w.bases.take i).any fun x=>decide (w.bases.getD i default=x)) = !zf5 (fun j => !decide (w.bases.getD j default=w.bases.getD i default)) i:=by
 rw[Bool.eq_iff_iff,Bool.not_eq_true',←Bool.not_eq_true,zbb,List.any_eq_true]
 constructor
 ·rintro⟨x,hx,h⟩ hh
  obtain⟨j,hj,rfl⟩:=List.getElem_of_mem hx
  rw[List.length_take]at hj
  have:=hh j (by omega)
  rw[List.getElem_take]at h
  rw[zae _ _ (by omega)]at this
  simp only[decide_eq_true_eq]at h
  simp only[Bool.not_eq_true',decide_eq_false_iff_not]at this
  exact this h.symm
 ·intro hh
  apply Classical.byContradiction
  intro hn
  apply hh
  intro j hj
  simp only[Bool.not_eq_true',decide_eq_false_iff_not]
  intro he
  apply hn
  refine⟨w.bases.getD j default,?_,decide_eq_true he.symm⟩
  rw[zae _ _ (by omega)]
  exact List.mem_take_iff_getElem.2 ⟨j,by omega,rfl⟩
def zd2 (w:Wld):Bool:=decide (w.stocks.length=w.bases.length)&&zf5 (zmv w) w.bases.length
def zig (w:Wld):Bool:=decide (w.mines.length=w.f.p.length)&&zf5 (zmp w) w.mines.length
def zc4 (w:Wld):Bool:=zaj w.next 1 1000000&&zaj w.now 0 1000000&&zf5 (ze3 w) w.troops.length
theorem ptm (w:Wld):(zd2 w&&zig w&&zc4 w)=(zjs w&&zhy w):=by
 unfold zd2 zig zc4 zjs zhy
 cases decide (w.stocks.length=w.bases.length)<;>cases decide (w.mines.length=w.f.p.length)<;>cases zaj w.next 1 1000000<;>cases zaj w.now 0 1000000<;>simp
theorem zkp {p:Nat→Bool} {n k:Nat} (h:k<n) (hp:p k=false):zf5 p n=false:=by
 rw[←Bool.not_eq_true,zbb];intro hh
 have:=hh k h
 rw[hp]at this;simp at this
theorem zxn (w:Wld) (hl:zfw w) (hf:zbv w.f=0):Spec Tryz.prog 58 [zcy w] [] (B (zd2 w)) []:=by
 obtain⟨l1,l2,l3,l4,l5⟩:=hl
 refine spB Tryz.func58 43 [.tmp 2] Tryz.results58 ?_
 try refine xst ?_
 refine cI (fun h1 => ?_) fun h1 => ?_
 ·have e:zd2 w=false:=by unfold zd2;rw[decide_eq_false (by omega)];rfl
  try refine xst ?_
  (first|(refine zau rfl (Wk.of ?_);(try simp(etaStruct := .none)only[push_cast,zab,seval]);first|done|(simp[e, *];done)|(simp_all[e];done))|(refine zau rfl ?_;(try simp(etaStruct := .none)only[push_cast,zab,seval]);(try simp[e, *]);(try exact wkc)))
 ·have hls:w.stocks.length=w.bases.length:=by omega
  try refine xst ?_
  refine zax (fun k:Nat=>⟨[(15,I .i64 k),(14,I .i64 w.bases.length),(13,.c (.sl 2 (w.bases.map za3))),(1,.ptr 0 0 0)],[(0,.blk 28 (znt w))],1⟩) (fun k:Nat=>k≤w.bases.length∧zf5 (zmv w) k=true) (fun k:Nat=>w.bases.length-k) (0) (⟨Nat.zero_le _,rfl⟩) (To.mk [0] rfl rfl (by decide) ?_ ?_) ?_
  ·simp(etaStruct := .none)only[push_cast,zab,seval]
  ·simp(etaStruct := .none)only[push_cast,zab,seval]
  rintro k ⟨hk,hn⟩
  try refine xst ?_
  refine cI (fun h2 => ?_) fun h2 => ?_
  ·have hlt:k<w.bases.length:=by omega
   have hlt2:k<w.stocks.length:=by omega
   have et:(w.bases.map za3).take k=(w.bases.take k).map za3:=by rw[List.map_take]
   have ba:=z71 w k hlt
   try refine xz5 (gd hlt) zb5 (gd hlt2) za7 et ?_
   refine caP (zk0 w.f (w.bases.getD k default) hf l1) ?_
   try refine xz5 (gd hlt) zb5 (gd hlt2) za7 et ?_
   refine gcP (fun hcc=>zr4 (w.bases.take k) (w.bases.getD k default) (by rw[List.length_take];omega)) ?_
   try refine xz5 (gd hlt) zb5 (gd hlt2) za7 et ?_
   refine gcP (fun hcc=>zbk (w.stocks.getD k default) 0 1000000) ?_
   try refine xz5 (gd hlt) zb5 (gd hlt2) za7 et ?_
   (try(refine⟨by kernel_rfl,?_⟩))
   try refine xz5 (gd hlt) zb5 (gd hlt2) za7 et ?_
   refine cI (fun h3 => ?_) fun h3 => ?_
   ·have e0:zmv w k=false:=by
     unfold zmv
     rw[ba]at h3
     rcases h3 with (h|h)|h
     ·rw[h];rfl
     ·have h':zf5 (fun j => !decide (w.bases.getD j default=w.bases.getD k default)) k=false:=by simpa using h
      rw[h'];simp
     ·rw[h];simp
    have e:zd2 w=false:=by unfold zd2;rw[zkp hlt e0];simp
    try refine xz5 (gd hlt) zb5 (gd hlt2) za7 et ?_
    (first|(refine zau rfl (Wk.of ?_);(try simp(etaStruct := .none)only[push_cast,zab,seval]);first|done|(simp[e, *];done)|(simp_all[e];done))|(refine zau rfl ?_;(try simp(etaStruct := .none)only[push_cast,zab,seval]);(try simp[e, *]);(try exact wkc)))
   ·have e0:zmv w k=true:=by
     unfold zmv
     rw[ba]at h3
     rw[h3.1.1,h3.2]
     simpa using h3.1.2
    try refine xz5 (gd hlt) zb5 (gd hlt2) za7 et ?_
    refine⟨k+1,⟨by omega,by rw[zf5,hn,e0];rfl⟩,by omega,To.mk [0] rfl rfl (by decide) ?_ ?_⟩
    ·(try(refine xz5 (gd hlt) zb5 (gd hlt2) za7 et ?_;try exact xtI))
    ·(try(refine xz5 (gd hlt) zb5 (gd hlt2) za7 et ?_;try exact xtI))
  ·obtain rfl:k=w.bases.length:=by omega
   have e:zd2 w=true:=by unfold zd2;rw[decide_eq_true hls,hn];rfl
   try refine xst ?_
   (first|(refine zau rfl (Wk.of ?_);(try simp(etaStruct := .none)only[push_cast,zab,seval]);first|done|(simp[e, *];done)|(simp_all[e];done))|(refine zau rfl ?_;(try simp(etaStruct := .none)only[push_cast,zab,seval]);(try simp[e, *]);(try exact wkc)))
theorem z4y (w:Wld) (hl:zfw w):Spec Tryz.prog 59 [zcy w] [] (B (zig w)) []:=by
 obtain⟨l1,l2,l3,l4,l5⟩:=hl
 refine spB Tryz.func59 38 [.tmp 2] Tryz.results59 ?_
 try refine xst ?_
 refine cI (fun h1 => ?_) fun h1 => ?_
 ·have e:zig w=false:=by unfold zig;rw[decide_eq_false (by omega)];rfl
  try refine xst ?_
  (first|(refine zau rfl (Wk.of ?_);(try simp(etaStruct := .none)only[push_cast,zab,seval]);first|done|(simp[e, *];done)|(simp_all[e];done))|(refine zau rfl ?_;(try simp(etaStruct := .none)only[push_cast,zab,seval]);(try simp[e, *]);(try exact wkc)))
 ·have hls:w.mines.length=w.f.p.length:=by omega
  try refine xst ?_
  refine zax (fun k:Nat=>⟨[(16,I .i64 k),(15,I .i64 w.mines.length),(14,.c (.sl 1 (w.mines.map zac))),(1,.ptr 0 0 0)],[(0,.blk 28 (znt w))],1⟩) (fun k:Nat=>k≤w.mines.length∧zf5 (zmp w) k=true) (fun k:Nat=>w.mines.length-k) (0) (⟨Nat.zero_le _,rfl⟩) (To.mk [0] rfl rfl (by decide) ?_ ?_) ?_
  ·simp(etaStruct := .none)only[push_cast,zab,seval]
  ·simp(etaStruct := .none)only[push_cast,zab,seval]
  rintro k ⟨hk,hn⟩
  try refine xst ?_
  refine cI (fun h2 => ?_) fun h2 => ?_
  ·have hlt:k<w.mines.length:=by omega
   have hlt2:k<w.f.p.length:=by omega
   try refine xz3 (gd hlt) (gd hlt2) za7 ?_
   refine caP (zbk (w.mines.getD k default) 0 1000000) ?_
   try refine xz3 (gd hlt) (gd hlt2) za7 ?_
   refine cI (fun h3 => ?_) fun h3 => ?_
   ·have e0:zmp w k=false:=by
     unfold zmp
     rcases h3 with h|⟨h,h'⟩
     ·rw[h];rfl
     ·rw[decide_eq_false (by omega),decide_eq_false (by omega)];simp
    have e:zig w=false:=by unfold zig;rw[zkp hlt e0];simp
    try refine xz3 (gd hlt) (gd hlt2) za7 ?_
    (first|(refine zau rfl (Wk.of ?_);(try simp(etaStruct := .none)only[push_cast,zab,seval]);first|done|(simp[e, *];done)|(simp_all[e];done))|(refine zau rfl ?_;(try simp(etaStruct := .none)only[push_cast,zab,seval]);(try simp[e, *]);(try exact wkc)))
   ·have e0:zmp w k=true:=by
     unfold zmp
     rw[h3.1]
     have:=within_iff.1 h3.1
     simp only[Bool.true_and,Bool.or_eq_true,decide_eq_true_eq]
     omega
    try refine xz3 (gd hlt) (gd hlt2) za7 ?_
    refine⟨k+1,⟨by omega,by rw[zf5,hn,e0];rfl⟩,by omega,To.mk [0] rfl rfl (by decide) ?_ ?_⟩
    ·(try(refine xz3 (gd hlt) (gd hlt2) za7 ?_;try exact xtI))
    ·(try(refine xz3 (gd hlt) (gd hlt2) za7 ?_;try exact xtI))
  ·obtain rfl:k=w.mines.length:=by omega
   have e:zig w=true:=by unfold zig;rw[decide_eq_true hls,hn];rfl
   try refine xst ?_
   (first|(refine zau rfl (Wk.of ?_);(try simp(etaStruct := .none)only[push_cast,zab,seval]);first|done|(simp[e, *];done)|(simp_all[e];done))|(refine zau rfl ?_;(try simp(etaStruct := .none)only[push_cast,zab,seval]);(try simp[e, *]);(try exact wkc)))
def zhm (w:Wld) (i:Nat):Int:=if i=0 then 0 else (w.troops.getD (i-1) default).id
theorem ycf (w:Wld):zhm w 0=0:=rfl
theorem yce (w:Wld) (k:Nat):zhm w (k+1)=(w.troops.getD k default).id:=by simp[zhm]
def ziz (w:Wld) (k:Nat) (c:Cel):Bool := !zf5 (fun j => !decide ((w.troops.getD j default).c=c)) k
theorem yav (w:Wld) (c:Cel):ziz w 0 c=false:=rfl
theorem zxt (w:Wld) (k:Nat) (c:Cel):ziz w (k+1) c=(ziz w k c||decide ((w.troops.getD k default).c=c)):=by
 unfold ziz;rw[zf5];simp[Bool.not_and]
theorem zph (p q:Nat→Bool):∀n,zf5 (fun j=>p j&&q j) n=(zf5 p n&&zf5 q n)
 | 0=>rfl
 | n+1=>by
  rw[zf5,zf5,zf5,zph p q n]
  cases zf5 p n<;>cases zf5 q n<;>cases p n<;>cases q n<;>rfl
theorem zv6 {w:Wld} {k:Nat} (h:zf5 (ze3 w) k=true) (t:Trp):0≤zhm w k∧(zhm w k<t.id↔1≤t.id∧zf5 (fun j=>decide ((w.troops.getD j default).id<t.id)) k=true):=by
 have hh:=(zbb _ _).1 h
 cases k with
 | zero=>simp[zhm,zf5];omega
 | succ k =>
  have hk:=hh k (by omega)
  unfold ze3 yd2 z8i at hk
  simp only[Bool.and_eq_true,zph,within_iff]at hk
  have h2:=(zbb _ _).1 hk.2.2.1
  have el:zhm w (k+1)=(w.troops.getD k default).id:=by simp[zhm]
  rw[el,zbb]
  refine⟨by omega,fun h3=>⟨by omega,fun j hj => ?_⟩,fun h3 => ?_⟩
  ·rw[decide_eq_true_eq]
   rcases Nat.lt_or_ge j k with h4|h4
   ·have:=h2 j h4
    rw[decide_eq_true_eq]at this;omega
   ·rw[show j=k by omega];exact h3
  ·have:=h3.2 k (by omega)
   rwa [decide_eq_true_eq]at this
theorem zpt {w:Wld} {k:Nat} (h:zf5 (ze3 w) k=true):ze3 w k=(zaj (w.troops.getD k default).kind 1 2&&zaj (w.troops.getD k default).id (zhm w k+1) (w.next-1)&&zaj (w.troops.getD k default).owner 0 ((w.bases.length:Int)-1)&&zb2 w.f (w.troops.getD k default).c&&zaj (w.troops.getD k default).life 1 (zbc (w.troops.getD k default).kind).life&&zaj (w.troops.getD k default).load 0 (5*(2-(w.troops.getD k default).kind)) && !ziz w k (w.troops.getD k default).c):=by
 obtain⟨_,h2⟩:=zv6 h (w.troops.getD k default)
 unfold ze3 yd2 z8i ziz
 rw[zph,Bool.not_not]
 have e:zaj (w.troops.getD k default).id (zhm w k+1) (w.next-1)=(zaj (w.troops.getD k default).id 1 (w.next-1)&&zf5 (fun j=>decide ((w.troops.getD j default).id<(w.troops.getD k default).id)) k):=by
  rw[Bool.eq_iff_iff,Bool.and_eq_true,within_iff,within_iff]
  constructor
  ·rintro⟨a,b⟩
   have:=h2.1 (by omega)
   exact⟨⟨this.1,b⟩,this.2⟩
  ·rintro⟨⟨a,b⟩,c⟩
   have:=h2.2 ⟨a,c⟩
   exact⟨by omega,b⟩
 rw[e]
 cases zaj (w.troops.getD k default).kind 1 2<;>cases zaj (w.troops.getD k default).id 1 (w.next-1)<;>cases zaj (w.troops.getD k default).owner 0 ((w.bases.length:Int)-1)<;>cases zb2 w.f (w.troops.getD k default).c<;>cases zaj (w.troops.getD k default).life 1 (zbc (w.troops.getD k default).kind).life<;>cases zaj (w.troops.getD k default).load 0 (5*(2-(w.troops.getD k default).kind))<;>simp
theorem ygk {k:Int} (h:¬zf2 k=0):zaj k 1 2=false:=by
 rw[z4n];unfold zf2 at h;split at h<;>omega
theorem ygj {k:Int} (h:zf2 k=0):zaj k 1 2=true:=by
 rw[within_iff];unfold zf2 at h;split at h<;>omega
theorem zrd {k:Int} (h:zaj k 1 2=true):5*(2-k)=if k=1 then 5 else 0:=by
 rw[within_iff]at h;split<;>omega
def zso (c:Cel):List Int := [c.x,c.y]
theorem tkeyC_inj {a b:Cel} : zso a=zso b↔a=b:=by
 cases a;cases b;simp[zso]
theorem zzv (w:Wld) (hl:zfw w) (hf:zbv w.f=0) (hn1:zaj w.next 1 1000000=true) (hn2:zaj w.now 0 1000000=true):Spec Tryz.prog 60 [zcy w] [] (B (zc4 w)) []:=by
 obtain⟨l1,l2,l3,l4,l5⟩:=hl
 have hnx:=within_iff.1 hn1
 refine spB Tryz.func60 96 [.tmp 2] Tryz.results60 ?_
 iterate 2(try simp(etaStruct := .none)only[push_cast,zab,seval,beq_self_eq_true];try refine xsu ?_)
 refine zax (fun x:Nat × List (List Int × Int)=>⟨[(14,I .i64 x.1),(13,I .i64 w.troops.length),(12,.c (.sl 7 (w.troops.map zaw))),(4,.map 1),(3,I .i64 (zhm w x.1)),(1,.ptr 0 0 0)],[(0,.blk 28 (znt w)),(1,.mp true 2 x.2)],2⟩) (fun x:Nat × List (List Int × Int)=>x.1≤w.troops.length∧zf5 (ze3 w) x.1=true∧(∀c:Cel,zc1 (zso c) x.2=if ziz w x.1 c then 1 else 0)) (fun x:Nat × List (List Int × Int)=>w.troops.length-x.1) ((0,[])) (⟨Nat.zero_le _,rfl,fun c=>by rw[yav];rfl⟩) (To.mk [0,1] rfl rfl (by decide) ?_ ?_) ?_
 ·simp(etaStruct := .none)only[push_cast,zab,seval]
 ·simp(etaStruct := .none)only[push_cast,zab,seval,ycf]
 rintro⟨k,es⟩ ⟨hk,hn,hm⟩
 simp only at hk hn hm
 iterate 2(try simp(etaStruct := .none)only[push_cast,zab,seval,beq_self_eq_true];try refine xsu ?_)
 refine zay (fun h1 => ?_) (fun h1 => ?_)
 ·(try replace h1:=xhh h1)
  have hlt:k<w.troops.length:=by omega
  have hla:=(zv6 hn (w.troops.getD k default)).1
  have hla2:zhm w k≤1000000:=by
   unfold zhm
   split
   ·omega
   ·have:=(zbb _ _).1 hn (k-1) (by omega)
    unfold ze3 yd2 at this
    simp only[Bool.and_eq_true,within_iff]at this
    omega
  iterate 2(try simp(etaStruct := .none)only[push_cast,zab,seval,beq_self_eq_true,zaa _ _ _ hlt,zaw];try refine xsu ?_)
  refine caP (zhe (w.troops.getD k default).kind) ?_
  iterate 2(try simp(etaStruct := .none)only[push_cast,zab,seval,beq_self_eq_true,zaa _ _ _ hlt,zaw];try refine xsu ?_)
  refine znk (fun _u:Unit=>⟨[(14,I .i64 k),(13,I .i64 w.troops.length),(12,.c (.sl 7 (w.troops.map zaw))),(9,I .i64 (if (w.troops.getD k default).kind=1 then 5 else 0)),(8,I .i64 (zf2 (w.troops.getD k default).kind)),(7,.ptr 3 0 0),(6,.ptr 2 0 0),(4,.map 1),(3,I .i64 (zhm w k)),(1,.ptr 0 0 0)],[(0,.blk 28 (znt w)),(1,.mp true 2 es),(2,.blk 108 (yk2 (w.troops.getD k default))),(3,.blk 222 [I .i64 (zbc (w.troops.getD k default).kind).life,I .i64 (zbc (w.troops.getD k default).kind).blow,I .i64 (zbc (w.troops.getD k default).kind).load,I .i64 (zbc (w.troops.getD k default).kind).price])],4⟩) (fun _u:Unit=>Tr) (fun h2 => ?_) (fun h2 => ?_) ?_
  ·(try replace h2:=xhh h2)
   iterate 2(try simp(etaStruct := .none)only[push_cast,zab,seval,beq_self_eq_true,zaa _ _ _ hlt,zaw];try refine xsu ?_)
   refine⟨(),trI,To.mk [0,1,2,3] rfl rfl (by decide) ?_ ?_⟩
   ·(iterate 2((try simp(etaStruct := .none)only[push_cast,zab,seval,beq_self_eq_true,zaa _ _ _ hlt,zaw]);(try(refine xsu ?_;try exact xtI))))
   ·(iterate 2((try simp(etaStruct := .none)only[push_cast,zab,seval,if_pos h2]);(try(refine xsu ?_;try exact xtI))))
  ·(try replace h2:=xhh h2)
   iterate 2(try simp(etaStruct := .none)only[push_cast,zab,seval,beq_self_eq_true,zaa _ _ _ hlt,zaw];try refine xsu ?_)
   refine⟨(),trI,To.mk [0,1,2,3] rfl rfl (by decide) ?_ ?_⟩
   ·(iterate 2((try simp(etaStruct := .none)only[push_cast,zab,seval,beq_self_eq_true,zaa _ _ _ hlt,zaw]);(try(refine xsu ?_;try exact xtI))))
   ·(iterate 2((try simp(etaStruct := .none)only[push_cast,zab,seval,if_neg h2]);(try(refine xsu ?_;try exact xtI))))
  ·rintro _ _
   iterate 2(try simp(etaStruct := .none)only[push_cast,zab,seval,beq_self_eq_true,zaa _ _ _ hlt,zaw];try refine xsu ?_)
   refine gcP (fun hcc=>zbk (w.troops.getD k default).id (zhm w k+1) (w.next-1)) ?_
   iterate 2(try simp(etaStruct := .none)only[push_cast,zab,seval,beq_self_eq_true,zaa _ _ _ hlt,zaw];try refine xsu ?_)
   refine gcP (fun hcc=>zbk (w.troops.getD k default).owner 0 ((w.bases.length:Int)-1)) ?_
   iterate 2(try simp(etaStruct := .none)only[push_cast,zab,seval,beq_self_eq_true,zaa _ _ _ hlt,zaw];try refine xsu ?_)
   refine gcP (fun hcc=>zk0 w.f (w.troops.getD k default).c hf l1) ?_
   iterate 2(try simp(etaStruct := .none)only[push_cast,zab,seval,beq_self_eq_true,zaa _ _ _ hlt,zaw];try refine xsu ?_)
   refine gcP (fun hcc=>zbk (w.troops.getD k default).life 1 (zbc (w.troops.getD k default).kind).life) ?_
   iterate 2(try simp(etaStruct := .none)only[push_cast,zab,seval,beq_self_eq_true,zaa _ _ _ hlt,zaw];try refine xsu ?_)
   refine gcP (fun hcc=>zbk (w.troops.getD k default).load 0 (if (w.troops.getD k default).kind=1 then 5 else 0)) ?_
   iterate 2(try simp(etaStruct := .none)only[push_cast,zab,seval,beq_self_eq_true,zaa _ _ _ hlt,zaw];try refine xsu ?_)
   refine cI (fun h3 => ?_) fun h3 => ?_
   ·have e0:ze3 w k=false:=by
     rw[zpt hn]
     rcases h3 with ((((h|h)|h)|h)|h)|h
     ·rw[ygk h];rfl
     ·rw[h];simp
     ·rw[h];simp
     ·rw[h];simp
     ·rw[h];simp
     ·cases hkk:zaj (w.troops.getD k default).kind 1 2 with
      | false=>rfl
      | true=>rw[zrd hkk,h];simp
    have e:zc4 w=false:=by unfold zc4;rw[zkp hlt e0];simp
    iterate 2(try simp(etaStruct := .none)only[push_cast,zab,seval,beq_self_eq_true,zaa _ _ _ hlt,zaw];try refine xsu ?_)
    (first|(refine zau rfl (Wk.of ?_);(try simp(etaStruct := .none)only[push_cast,zab,seval]);first|done|(simp[e, *];done)|(simp_all[e];done))|(refine zau rfl ?_;(try simp(etaStruct := .none)only[push_cast,zab,seval]);(try simp[e, *]);(try exact wkc)))
   ·have hkk:=ygj h3.1.1.1.1.1
    have e0:ze3 w k = !ziz w k (w.troops.getD k default).c:=by
     rw[zpt hn,hkk,zrd hkk,h3.1.1.1.1.2,h3.1.1.1.2,h3.1.1.2,h3.1.2,h3.2];rfl
    have hg:zc1 [(w.troops.getD k default).c.x,(w.troops.getD k default).c.y] es=if ziz w k (w.troops.getD k default).c=true then 1 else 0:=hm (w.troops.getD k default).c
    have hg2:0≤zc1 [(w.troops.getD k default).c.x,(w.troops.getD k default).c.y] es∧zc1 [(w.troops.getD k default).c.x,(w.troops.getD k default).c.y] es≤1:=by rw[hg];split<;>omega
    obtain⟨es',hes'⟩:∃es',es'=zgq [(w.troops.getD k default).c.x,(w.troops.getD k default).c.y] (zc1 [(w.troops.getD k default).c.x,(w.troops.getD k default).c.y] es+1) es:=⟨_,rfl⟩
    have hp1:=zvz [(w.troops.getD k default).c.x,(w.troops.getD k default).c.y] (zc1 [(w.troops.getD k default).c.x,(w.troops.getD k default).c.y] es+1) es
    have hp2:=fun c=>zb6 [(w.troops.getD k default).c.x,(w.troops.getD k default).c.y] (zso c) (zc1 [(w.troops.getD k default).c.x,(w.troops.getD k default).c.y] es+1) es
    rw[←hes']at hp1 hp2
    have hmp:=zln [(w.troops.getD k default).c.x,(w.troops.getD k default).c.y] es
    iterate 2(try simp(etaStruct := .none)only[push_cast,zab,seval,beq_self_eq_true,zaa _ _ _ hlt,zaw,zah,←hes',hp1];try refine xsu ?_)
    (try(refine⟨by kernel_rfl,?_⟩))
    iterate 2(try simp(etaStruct := .none)only[push_cast,zab,seval,beq_self_eq_true,zaa _ _ _ hlt,zaw,zah,←hes',hp1];try refine xsu ?_)
    refine cI (fun h4 => ?_) fun h4 => ?_
    ·have hs:ziz w k (w.troops.getD k default).c=true:=by
      cases hs:ziz w k (w.troops.getD k default).c with
      | true=>rfl
      | false=>rw[hg,hs]at h4;simp at h4
     have e:zc4 w=false:=by unfold zc4;rw[zkp hlt (by rw[e0,hs];rfl)];simp
     iterate 2(try simp(etaStruct := .none)only[push_cast,zab,seval,beq_self_eq_true,zaa _ _ _ hlt,zaw,zah,←hes',hp1];try refine xsu ?_)
     (first|(refine zau rfl (Wk.of ?_);(try simp(etaStruct := .none)only[push_cast,zab,seval]);first|done|(simp[e, *];done)|(simp_all[e];done))|(refine zau rfl ?_;(try simp(etaStruct := .none)only[push_cast,zab,seval]);(try simp[e, *]);(try exact wkc)))
    ·have hs:ziz w k (w.troops.getD k default).c=false:=by
      cases hs:ziz w k (w.troops.getD k default).c with
      | false=>rfl
      | true=>rw[hg,hs]at h4;simp at h4
     iterate 2(try simp(etaStruct := .none)only[push_cast,zab,seval,beq_self_eq_true,zaa _ _ _ hlt,zaw,zah,←hes',hp1];try refine xsu ?_)
     refine⟨(k+1,es'),⟨by simp only;omega,by simp only;rw[zf5,hn,e0,hs];rfl,fun c=>by
 simp only
 rw[hp2 c,zxt,hg,hs]
 by_cases hc:(w.troops.getD k default).c=c
 ·rw[if_pos (show zso c = [(w.troops.getD k default).c.x,(w.troops.getD k default).c.y]from tkeyC_inj.2 hc.symm),decide_eq_true hc];simp
 ·rw [if_neg (show ¬ zso c = [(w.troops.getD k default).c.x, (w.troops.getD k default).c.y] from fun h => hc (tkeyC_inj.1 h).symm), decide_eq_false hc, hm c, Bool.or_false]⟩, by simp only; omega, To.mk [0, 1] rfl rfl (by decide) ?_ ?_⟩
     ·(iterate 2((try simp(etaStruct := .none)only[push_cast,zab,seval,beq_self_eq_true,zaa _ _ _ hlt,zaw,zah,←hes',hp1]);(try(refine xsu ?_;try exact xtI))))
     ·(try(refine xz1 yce ?_;try exact xtI))
 ·(try replace h1:=xhh h1)
  obtain rfl:k=w.troops.length:=by omega
  have e:zc4 w=true:=by unfold zc4;rw[hn1,hn2,hn];rfl
  iterate 2(try simp(etaStruct := .none)only[push_cast,zab,seval,beq_self_eq_true];try refine xsu ?_)
  refine caP (zbk w.next 1 1000000) ?_
  iterate 2(try simp(etaStruct := .none)only[push_cast,zab,seval,beq_self_eq_true];try refine xsu ?_)
  refine gcP (fun hcc=>zbk w.now 0 1000000) ?_
  iterate 2(try simp(etaStruct := .none)only[push_cast,zab,seval,beq_self_eq_true];try refine xsu ?_)
  exact zb0 rfl trivial (Wk.of (by rw[e,hn1,hn2];rfl))
theorem zsl (w:Wld) (hl:zfw w) (hf:zbv w.f=0) (hb:(zaj w.next 1 1000000&&zaj w.now 0 1000000)=false):Spec Tryz.prog 60 [zcy w] [] (B (zc4 w)) []:=by
 obtain⟨l1,l2,l3,l4,l5⟩:=hl
 have e:zc4 w=false:=by unfold zc4;rw[hb];rfl
 refine spB Tryz.func60 96 [.tmp 2] Tryz.results60 ?_
 iterate 2(try simp(etaStruct := .none)only[push_cast,zab,seval,beq_self_eq_true];try refine xsu ?_)
 refine zax (fun x:Nat × Int × List (List Int × Int)=>⟨[(14,I .i64 x.1),(13,I .i64 w.troops.length),(12,.c (.sl 7 (w.troops.map zaw))),(4,.map 1),(3,I .i64 x.2.1),(1,.ptr 0 0 0)],[(0,.blk 28 (znt w)),(1,.mp true 2 x.2.2)],2⟩) (fun x:Nat × Int × List (List Int × Int)=>x.1≤w.troops.length) (fun x:Nat × Int × List (List Int × Int)=>w.troops.length-x.1) ((0,0,[])) (Nat.zero_le _) (To.mk [0,1] rfl rfl (by decide) ?_ ?_) ?_
 ·simp(etaStruct := .none)only[push_cast,zab,seval]
 ·simp(etaStruct := .none)only[push_cast,zab,seval]
 rintro⟨k,last,es⟩ hk
 simp only at hk
 iterate 2(try simp(etaStruct := .none)only[push_cast,zab,seval,beq_self_eq_true];try refine xsu ?_)
 refine cI (fun h1 => ?_) fun h1 => ?_
 ·have hlt:k<w.troops.length:=by omega
  iterate 2(try simp(etaStruct := .none)only[push_cast,zab,seval,beq_self_eq_true,zaa _ _ _ hlt,zaw];try refine xsu ?_)
  refine caP (zhe (w.troops.getD k default).kind) ?_
  iterate 2(try simp(etaStruct := .none)only[push_cast,zab,seval,beq_self_eq_true,zaa _ _ _ hlt,zaw];try refine xsu ?_)
  refine znk (fun m:Int=>⟨[(14,I .i64 k),(13,I .i64 w.troops.length),(12,.c (.sl 7 (w.troops.map zaw))),(9,I .i64 m),(8,I .i64 (zf2 (w.troops.getD k default).kind)),(7,.ptr 3 0 0),(6,.ptr 2 0 0),(4,.map 1),(3,I .i64 last),(1,.ptr 0 0 0)],[(0,.blk 28 (znt w)),(1,.mp true 2 es),(2,.blk 108 (yk2 (w.troops.getD k default))),(3,.blk 222 [I .i64 (zbc (w.troops.getD k default).kind).life,I .i64 (zbc (w.troops.getD k default).kind).blow,I .i64 (zbc (w.troops.getD k default).kind).load,I .i64 (zbc (w.troops.getD k default).kind).price])],4⟩) (fun m:Int=>Tr) (fun h2 => ?_) (fun h2 => ?_) ?_
  ·(try replace h2:=xhh h2)
   iterate 2(try simp(etaStruct := .none)only[push_cast,zab,seval,beq_self_eq_true,zaa _ _ _ hlt,zaw];try refine xsu ?_)
   refine⟨5,trI,To.mk [0,1,2,3] rfl rfl (by decide) ?_ ?_⟩
   ·(iterate 2((try simp(etaStruct := .none)only[push_cast,zab,seval,beq_self_eq_true,zaa _ _ _ hlt,zaw]);(try(refine xsu ?_;try exact xtI))))
   ·(iterate 2((try simp(etaStruct := .none)only[push_cast,zab,seval,beq_self_eq_true,zaa _ _ _ hlt,zaw]);(try(refine xsu ?_;try exact xtI))))
  ·(try replace h2:=xhh h2)
   iterate 2(try simp(etaStruct := .none)only[push_cast,zab,seval,beq_self_eq_true,zaa _ _ _ hlt,zaw];try refine xsu ?_)
   refine⟨0,trI,To.mk [0,1,2,3] rfl rfl (by decide) ?_ ?_⟩
   ·(iterate 2((try simp(etaStruct := .none)only[push_cast,zab,seval,beq_self_eq_true,zaa _ _ _ hlt,zaw]);(try(refine xsu ?_;try exact xtI))))
   ·(iterate 2((try simp(etaStruct := .none)only[push_cast,zab,seval,beq_self_eq_true,zaa _ _ _ hlt,zaw]);(try(refine xsu ?_;try exact xtI))))
  ·rintro m _
   iterate 2(try simp(etaStruct := .none)only[push_cast,zab,seval,beq_self_eq_true,zaa _ _ _ hlt,zaw];try refine xsu ?_)
   refine gcP (fun hcc=>zbk (w.troops.getD k default).id _ _) ?_
   iterate 2(try simp(etaStruct := .none)only[push_cast,zab,seval,beq_self_eq_true,zaa _ _ _ hlt,zaw];try refine xsu ?_)
   refine gcP (fun hcc=>zbk (w.troops.getD k default).owner 0 ((w.bases.length:Int)-1)) ?_
   iterate 2(try simp(etaStruct := .none)only[push_cast,zab,seval,beq_self_eq_true,zaa _ _ _ hlt,zaw];try refine xsu ?_)
   refine gcP (fun hcc=>zk0 w.f (w.troops.getD k default).c hf l1) ?_
   iterate 2(try simp(etaStruct := .none)only[push_cast,zab,seval,beq_self_eq_true,zaa _ _ _ hlt,zaw];try refine xsu ?_)
   refine gcP (fun hcc=>zbk (w.troops.getD k default).life 1 (zbc (w.troops.getD k default).kind).life) ?_
   iterate 2(try simp(etaStruct := .none)only[push_cast,zab,seval,beq_self_eq_true,zaa _ _ _ hlt,zaw];try refine xsu ?_)
   refine gcP (fun hcc=>zbk (w.troops.getD k default).load 0 m) ?_
   iterate 2(try simp(etaStruct := .none)only[push_cast,zab,seval,beq_self_eq_true,zaa _ _ _ hlt,zaw];try refine xsu ?_)
   refine cI (fun h3 => ?_) fun h3 => ?_
   ·iterate 2(try simp(etaStruct := .none)only[push_cast,zab,seval,beq_self_eq_true,zaa _ _ _ hlt,zaw];try refine xsu ?_)
    (first|(refine zau rfl (Wk.of ?_);(try simp(etaStruct := .none)only[push_cast,zab,seval]);first|done|(simp[e, *];done)|(simp_all[e];done))|(refine zau rfl ?_;(try simp(etaStruct := .none)only[push_cast,zab,seval]);(try simp[e, *]);(try exact wkc)))
   ·have hmp:=zln [(w.troops.getD k default).c.x,(w.troops.getD k default).c.y] es
    iterate 2(try simp(etaStruct := .none)only[push_cast,zab,seval,beq_self_eq_true,zaa _ _ _ hlt,zaw,zah];try refine xsu ?_)
    (try(refine⟨by kernel_rfl,?_⟩))
    iterate 2(try simp(etaStruct := .none)only[push_cast,zab,seval,beq_self_eq_true,zaa _ _ _ hlt,zaw,zah];try refine xsu ?_)
    refine cI (fun h4 => ?_) fun h4 => ?_
    ·iterate 2(try simp(etaStruct := .none)only[push_cast,zab,seval,beq_self_eq_true,zaa _ _ _ hlt,zaw,zah];try refine xsu ?_)
     (first|(refine zau rfl (Wk.of ?_);(try simp(etaStruct := .none)only[push_cast,zab,seval]);first|done|(simp[e, *];done)|(simp_all[e];done))|(refine zau rfl ?_;(try simp(etaStruct := .none)only[push_cast,zab,seval]);(try simp[e, *]);(try exact wkc)))
    ·iterate 2(try simp(etaStruct := .none)only[push_cast,zab,seval,beq_self_eq_true,zaa _ _ _ hlt,zaw,zah];try refine xsu ?_)
     refine⟨(k+1,(w.troops.getD k default).id,zgq [(w.troops.getD k default).c.x,(w.troops.getD k default).c.y] (IntKind.i64.wrap (zc1 [(w.troops.getD k default).c.x,(w.troops.getD k default).c.y] es+1)) es),by simp only;omega,by simp only;omega,To.mk [0,1] rfl rfl (by decide) ?_ ?_⟩
     ·(iterate 2((try simp(etaStruct := .none)only[push_cast,zab,seval,beq_self_eq_true,zaa _ _ _ hlt,zaw,zah]);(try(refine xsu ?_;try exact xtI))))
     ·(iterate 2((try simp(etaStruct := .none)only[push_cast,zab,seval,beq_self_eq_true,zaa _ _ _ hlt,zaw,zah]);(try(refine xsu ?_;try exact xtI))))
 ·iterate 2(try simp(etaStruct := .none)only[push_cast,zab,seval,beq_self_eq_true];try refine xsu ?_)
  refine caP (zbk w.next 1 1000000) ?_
  iterate 2(try simp(etaStruct := .none)only[push_cast,zab,seval,beq_self_eq_true];try refine xsu ?_)
  refine gcP (fun hcc=>zbk w.now 0 1000000) ?_
  iterate 2(try simp(etaStruct := .none)only[push_cast,zab,seval,beq_self_eq_true];try refine xsu ?_)
  exact zb0 rfl trivial (Wk.of (by rw[e,hb];rfl))
theorem zsm (w:Wld) (hl:zfw w) (hf:zbv w.f=0):Spec Tryz.prog 60 [zcy w] [] (B (zc4 w)) []:=by
 cases hb:(zaj w.next 1 1000000&&zaj w.now 0 1000000)with
 | false=>exact zsl w hl hf hb
 | true=>rw[Bool.and_eq_true]at hb;exact zzv w hl hf hb.1 hb.2
theorem zdf (w:Wld) (hl:zfw w):Spec Tryz.prog 17 [zcy w] [] (I .i64 (zal w)) []:=by
 refine spB Tryz.func17 33 [.tmp 2] Tryz.results17 ?_
 try refine xst ?_
 refine caP (zww w.f hl.1) ?_
 try refine xst ?_
 refine cI (fun h1 => ?_) fun h1 => ?_
 ·have e:zal w=zbv w.f:=by unfold zal;rw[if_pos (by simpa using h1)]
  try refine xst ?_
  (first|(refine zau rfl (Wk.of ?_);(try simp(etaStruct := .none)only[push_cast,zab,seval]);first|done|(simp[e, *];done)|(simp_all[e];done))|(refine zau rfl ?_;(try simp(etaStruct := .none)only[push_cast,zab,seval]);(try simp[e, *]);(try exact wkc)))
 ·have hf:zbv w.f=0:=by simpa using h1
  try refine xst ?_
  refine cI (fun h2 => ?_) fun h2 => ?_
  ·have e:zal w=2:=by unfold zal;rw[if_neg (by simp[hf]),if_pos (by omega)]
   try refine xst ?_
   (first|(refine zau rfl (Wk.of ?_);(try simp(etaStruct := .none)only[push_cast,zab,seval]);first|done|(simp[e, *];done)|(simp_all[e];done))|(refine zau rfl ?_;(try simp(etaStruct := .none)only[push_cast,zab,seval]);(try simp[e, *]);(try exact wkc)))
  ·have hb:¬(8<w.bases.length∨100<w.troops.length):=by omega
   try refine xst ?_
   refine caP (zxn w hl hf) ?_
   try refine xst ?_
   refine gcP (fun hcc=>z4y w hl) ?_
   try refine xst ?_
   refine gcP (fun hcc=>zsm w hl hf) ?_
   try refine xst ?_
   refine cI (fun h3 => ?_) fun h3 => ?_
   ·have e:zal w=4:=by
     unfold zal;rw[if_neg (by simp[hf]),if_neg hb,if_neg]
     rw[←ptm]
     rcases h3 with (h|h)|h<;>rw[h]<;>simp
    try refine xst ?_
    (first|(refine zau rfl (Wk.of ?_);(try simp(etaStruct := .none)only[push_cast,zab,seval]);first|done|(simp[e, *];done)|(simp_all[e];done))|(refine zau rfl ?_;(try simp(etaStruct := .none)only[push_cast,zab,seval]);(try simp[e, *]);(try exact wkc)))
   ·have e:zal w=0:=by
     unfold zal;rw[if_neg (by simp[hf]),if_neg hb,if_pos]
     rw[←ptm,h3.1.1,h3.1.2,h3.2];rfl
    try refine xst ?_
    (first|(refine zau rfl (Wk.of ?_);(try simp(etaStruct := .none)only[push_cast,zab,seval]);first|done|(simp[e, *];done)|(simp_all[e];done))|(refine zau rfl ?_;(try simp(etaStruct := .none)only[push_cast,zab,seval]);(try simp[e, *]);(try exact wkc)))
theorem zdi {w:Wld} (h:zal w=0):zbv w.f=0∧w.bases.length≤8∧w.troops.length≤100∧zjs w=true∧zhy w=true:=by
 unfold zal at h
 split at h
 ·rename_i h1;exact absurd h h1
 ·rename_i h1
  split at h
  ·simp at h
  ·rename_i h2
   split at h
   ·rename_i h3
    rw[Bool.and_eq_true]at h3
    exact⟨Decidable.not_not.1 h1,by omega,by omega,h3.1,h3.2⟩
   ·simp at h
theorem zkr {w:Wld} (h:zjs w=true):w.stocks.length=w.bases.length∧w.mines.length=w.f.p.length∧(1≤w.next∧w.next≤1000000)∧0≤w.now∧w.now≤1000000:=by
 unfold zjs at h
 simp only[Bool.and_eq_true,decide_eq_true_eq,within_iff]at h
 exact⟨h.1.1.1,h.1.1.2,h.1.2,h.2⟩
structure TrpOk (w : Wld) (t : Trp) : Prop where
 kind:t.kind=1∨t.kind=2
 id:1≤t.id∧t.id≤w.next-1
 owner:0≤t.owner∧t.owner≤(w.bases.length:Int)-1
 at_:zb2 w.f t.c=true
 x:0≤t.c.x∧t.c.x<w.f.w
 y:0≤t.c.y∧t.c.y<w.f.h
 life:1≤t.life∧t.life≤(zbc t.kind).life
 load:0≤t.load∧t.load≤5*(2-t.kind)
theorem ground_iff {f:Fld} {c:Cel} : zb2 f c=true↔inF f c=true∧zai f c≠1:=by unfold zb2;simp
theorem zfe {w:Wld} (h:zal w=0) {k:Nat} (hk:k<w.troops.length):TrpOk w (w.troops.getD k default)∧z8i w k=true:=by
 obtain⟨_,_,_,_,h5⟩:=zdi h
 unfold zhy at h5
 simp only[Bool.and_eq_true]at h5
 have:=(zbb _ _).1 h5.2 k hk
 unfold ze3 yd2 at this
 simp only[Bool.and_eq_true,within_iff]at this
 obtain⟨a,⟨⟨⟨⟨b,c⟩,d⟩,e⟩,f⟩,g⟩:=this
 have hi:=inF_iff.1 (ground_iff.1 d).1
 exact⟨⟨by omega,b,c,d,hi.1,hi.2,e,f⟩,g⟩
theorem zps {w:Wld} (h:zal w=0) {t:Trp} (ht:t∈w.troops):TrpOk w t:=by
 obtain⟨i,hi,rfl⟩:=List.getElem_of_mem ht
 have:=(zfe h hi).1
 rwa [zae _ _ hi]at this
theorem zzw (F:FuncId) (a b:List AV) (l:List Trp) (p:Trp→Bool) (hl:l.length≤9223372036854775807) (hp:∀n∈l,Spec Tryz.prog F (a ++ [yd1 n]++b) [] (B (p n)) []) (ha:∀h,cvL [] h a=a) (hb:∀h,cvL [] h b=b) :
 Spec Tryz.prog 86 [.c (.sl 7 (l.map zaw)),.clo (.func F) a b] [] (I .i64 (zj8 p l)) []:=by
 refine spB Tryz.func86 19 [.tmp 4] Tryz.results86 ?_
 simp(etaStruct := .none)only[push_cast,zab,seval]
 refine zax (fun k:Nat=>⟨[(8,I .i64 k),(7,I .i64 l.length),(0,.c (.sl 7 (l.map zaw))),(1,.clo (.func F) a b)],[],0⟩) (fun k=>k≤l.length∧∀j (hj:j<l.length),j<k→p l[j]=false) (fun k=>l.length-k) 0 ⟨Nat.zero_le _,fun j _ h=>by omega⟩ (To.mk [] rfl rfl List.nodup_nil trivial ?_) ?_
 ·simp(etaStruct := .none)only[push_cast,zab,seval,ha,hb]
 ·rintro k ⟨hk,hn⟩
  simp(etaStruct := .none)only[push_cast,zab,seval]
  refine zay (fun h => ?_) (fun h => ?_)
  ·have hlt:k<l.length:=by simpa using h
   simp(etaStruct := .none)only[push_cast,zab,seval,zb4 _ _ _ hlt,zaw]
   repeat with_reducible refine obA ?_
   refine zdt (hp _ (List.getElem_mem hlt)) (by simp only[zde,ha,hb,cvL,cv];exact WkL.refl _) ?_
   simp(etaStruct := .none)only[push_cast,zab,seval]
   refine zay (fun h => ?_) (fun h => ?_)
   ·simp(etaStruct := .none)only[push_cast,zab,seval]
    exact zb0 rfl trivial (Wk.of (by rw[zd3 p l k hlt h hn];rfl))
   ·simp(etaStruct := .none)only[push_cast,zab,seval]
    refine⟨k+1,⟨by omega,fun j hj hjk => ?_⟩,by omega,To.mk [] rfl rfl List.nodup_nil trivial ?_⟩
    ·by_cases e:j=k
     ·subst e;exact h
     ·exact hn j hj (by omega)
    ·simp(etaStruct := .none)only[push_cast,zab,seval,ha,hb]
     simp(disch:=omega)only[zak,za6,tdv,tmd]
  ·have hge:k=l.length:=by simp at h;omega
   subst hge
   simp(etaStruct := .none)only[push_cast,zab,seval]
   exact zb0 rfl trivial (Wk.of (by rw[zcw p l (fun j hj=>hn j hj hj)];rfl))
theorem zt1 {α : Type} [Inhabited α] (p : α → Bool) (l:List α) (k:Nat) (h:k<l.length):(l.take (k+1)).filter p=if p (l.getD k default)then (l.take k).filter p ++ [l.getD k default]else (l.take k).filter p:=by
 rw[zao l k h,List.filter_append,List.filter_cons,List.filter_nil]
 split<;>simp
structure Blw where
 by_:Int
 at_:Int
 deriving DecidableEq, Inhabited
def ze1 (b:Blw):List PV := [pI b.by_,pI b.at_]
theorem yk8 (b:Blw):ze1 b = [pI b.by_,pI b.at_]:=rfl
structure Gop where
 id:Int
 to:Cel
 deriving DecidableEq, Inhabited
def zex (g:Gop):List PV := [pI g.id,pI g.to.x,pI g.to.y]
theorem zne (g:Gop):zex g = [pI g.id,pI g.to.x,pI g.to.y]:=rfl
structure Ded where
 kind:Int
 who:Int
 c:Cel
 what:Int
 deriving DecidableEq, Inhabited
def zmk (d:Ded):List PV := [pI d.kind,pI d.who,pI d.c.x,pI d.c.y,pI d.what]
theorem yg5 (d:Ded):zmk d = [pI d.kind,pI d.who,pI d.c.x,pI d.c.y,pI d.what]:=rfl
def zdd (w:Wld) (i:Int):Option Trp:=w.troops.find? fun t=>decide (t.id=i)
def z8j:Trp:=⟨0,0,0,⟨0,0⟩,0,0⟩
theorem z7d {α : Type} [Inhabited α] (p : α → Bool) (l:List α) (k:Nat) (h:k<l.length) (hp:p (l.getD k default)=true) (hn:∀j,j<k→p (l.getD j default)=false):l.find? p=some (l.getD k default):=by
 induction l generalizing k with
 | nil=>simp at h
 | cons a r ih =>
  cases k with
  | zero=>simp only[List.getD_cons_zero]at hp ⊢;rw[List.find?_cons,hp]
  | succ k =>
   have h0:=hn 0 (by omega)
   simp only[List.getD_cons_zero]at h0
   rw[List.find?_cons,h0]
   simp only[List.getD_cons_succ]at hp ⊢
   exact ih k (by simpa using h) hp (fun j hj=>by have:=hn (j+1) (by omega);simpa using this)
theorem z3a {α : Type} [Inhabited α] (p : α → Bool) (l:List α) (hn:∀j,j<l.length→p (l.getD j default)=false):l.find? p=none:=by
 rw[List.find?_eq_none]
 intro x hx
 obtain⟨i,hi,rfl⟩:=List.getElem_of_mem hx
 have:=hn i hi
 rw[zae _ _ hi]at this
 simp[this]
def zdq (o:Ord) (w:Wld):Bool:=if o.kind=5 then decide (o.by_<w.bases.length)else match zdd w o.who with|some t=>decide (t.owner=o.by_)|none=>false
def z4l (o:Ord):List Blw:=if o.kind=1 then [⟨o.who,o.what⟩]else []
def z4k (o:Ord):List Gop:=if o.kind=2 then [⟨o.who,o.c⟩]else []
def z7m (o:Ord):Ded:=⟨o.kind-2,if o.kind=5 then o.by_ else o.who,o.c,o.what⟩
def zxi (o:Ord):List Ded:=if 2<o.kind then [z7m o]else []
def zcr (l:List Ord) (w:Wld):List Blw:=(l.filter fun o=>zdq o w).flatMap z4l
def ze9 (l:List Ord) (w:Wld):List Gop:=(l.filter fun o=>zdq o w).flatMap z4k
def zcg (l:List Ord) (w:Wld):List Ded:=(l.filter fun o=>zdq o w).flatMap zxi
theorem zl8 {α : Type} (p:Ord→Bool) (f:Ord→List α) (l:List Ord) (k:Nat) (h:k<l.length):((l.take (k+1)).filter p).flatMap f=((l.take k).filter p).flatMap f++(if p (l.getD k default)then f (l.getD k default)else []):=by
 rw[zt1 p l k h]
 split<;>simp
theorem zfq {α : Type} (p:Ord→Bool) (f:Ord→List α) (hf:∀o,(f o).length≤1):∀l:List Ord,((l.filter p).flatMap f).length≤l.length
 | []=>by simp
 | a::r=>by
  have:=zfq p f hf r
  have h1:=hf a
  rw[List.filter_cons]
  split
  ·rw[List.flatMap_cons,List.length_append,List.length_cons];omega
  ·rw[List.length_cons];omega
theorem zxj (o:Ord):(z4l o).length≤1:=by unfold z4l;split<;>simp
theorem zxg (o:Ord):(z4k o).length≤1:=by unfold z4k;split<;>simp
theorem zxh (o:Ord):(zxi o).length≤1:=by unfold zxi;split<;>simp
end Go.Proofs.YtmjbgbmegbkmhaaGreat
namespace Go.Proofs.YtmjbgbmegbkmhaaGreat
set_option linter.all false
open Go.RowKit
set_option maxRecDepth 100000
set_option maxHeartbeats 400000
theorem zkx (a b:Trp):(decide (a.id=b.id)&&(decide (a.owner=b.owner)&&(decide (a.kind=b.kind)&&(decide (a.c.x=b.c.x)&&(decide (a.c.y=b.c.y)&&(decide (a.life=b.life)&&decide (a.load=b.load)))))))=decide (a=b):=by
 rw[Bool.eq_iff_iff];obtain⟨_,_,_,⟨_,_⟩,_,_⟩:=a;obtain⟨_,_,_,⟨_,_⟩,_,_⟩:=b;simp[and_assoc]
theorem yeu (l m:List Trp) (hl:l.length≤9223372036854775807) (hm:m.length≤9223372036854775807):Spec Tryz.prog 53 [.c (.sl 7 (l.map zaw)),.c (.sl 7 (m.map zaw))] [] (B (decide (l=m))) []:=by
 refine spB Tryz.func53 26 [.tmp 4] Tryz.results53 ?_
 try refine xst ?_
 refine cI (fun h1 => ?_) fun h1 => ?_
 ·have e:l≠m:=by intro e;subst e;simp at h1
  try refine xst ?_
  exact zb0 rfl trivial (Wk.of (by rw[decide_eq_false e];rfl))
 ·try refine xst ?_
  refine zax (fun k:Nat=>⟨[(13,I .i64 k),(12,I .i64 l.length),(1,.c (.sl 7 (m.map zaw))),(0,.c (.sl 7 (l.map zaw)))],[],0⟩) (fun k:Nat=>k≤l.length∧∀j,j<k→l.getD j default=m.getD j default) (fun k:Nat=>l.length-k) (0) (⟨Nat.zero_le _,fun j h=>by omega⟩) (To.mk [] rfl rfl List.nodup_nil trivial ?_) ?_
  ·simp(etaStruct := .none)only[push_cast,zab,seval]
  rintro k ⟨hk,hn⟩
  try refine xst ?_
  refine cI (fun h2 => ?_) fun h2 => ?_
  ·have hlt:k<l.length:=by omega
   have hlt2:k<m.length:=by omega
   try refine xz4 (gd hlt) (gd hlt2) za9 zkx ?_
   (try(refine⟨by kernel_rfl,?_⟩))
   try refine xz4 (gd hlt) (gd hlt2) za9 zkx ?_
   refine cI (fun h3 => ?_) fun h3 => ?_
   ·have e:l≠m:=by intro e;subst e;simp at h3
    try refine xz4 (gd hlt) (gd hlt2) za9 zkx ?_
    exact zb0 rfl trivial (Wk.of (by rw[decide_eq_false e];rfl))
   ·try refine xz4 (gd hlt) (gd hlt2) za9 zkx ?_
    refine⟨k+1,⟨by omega,fun j hj=>by rcases Nat.lt_or_ge j k with h|h;exact hn j h;rw[show j=k by omega];simpa using h3⟩,by omega,To.mk [] rfl rfl List.nodup_nil trivial ?_⟩
    ·(try(refine xz4 (gd hlt) (gd hlt2) za9 zkx ?_;try exact xtI))
  ·have e:l=m:=by
    refine List.ext_getElem (by omega) fun i i1 i2 => ?_
    have:=hn i (by omega)
    rwa [zae _ _ i1,zae _ _ i2]at this
   try refine xst ?_
   exact zb0 rfl trivial (Wk.of (by rw[decide_eq_true e];rfl))
theorem zsy (a b:Fld) (ha:a.p.length≤9223372036854775807) (hb:b.p.length≤9223372036854775807):Spec Tryz.prog 50 [z29 a,z29 b] [] (B (decide (a=b))) []:=by
 have e:decide (a=b)=(decide (a.w=b.w)&&decide (a.h=b.h)&&decide (a.p=b.p)):=by
  rw[Bool.eq_iff_iff];obtain⟨_,_,_⟩:=a;obtain⟨_,_,_⟩:=b;simp[and_assoc]
 refine spB Tryz.func50 24 [.tmp 4] Tryz.results50 ?_
 try refine xst ?_
 refine gcP (fun hcc=>z2c a.p b.p ha hb) ?_
 try refine xst ?_
 (first|(refine zau rfl (Wk.of ?_);(try simp(etaStruct := .none)only[push_cast,zab,seval]);first|done|(simp[e, *];done)|(simp_all[e];done))|(refine zau rfl ?_;(try simp(etaStruct := .none)only[push_cast,zab,seval]);(try simp[e, *]);(try exact wkc)))
theorem zsx (a b:Wld) (ha:zfw a) (hb:zfw b):Spec Tryz.prog 15 [zcy a,zcy b] [] (B (decide (a=b))) []:=by
 have e:decide (a=b)=(decide (a.f=b.f)&&decide (a.bases=b.bases)&&decide (a.stocks=b.stocks)&&decide (a.mines=b.mines)&&decide (a.troops=b.troops)&&decide (a.next=b.next)&&decide (a.now=b.now)):=by
  rw[Bool.eq_iff_iff];obtain⟨_,_,_,_,_,_,_⟩:=a;obtain⟨_,_,_,_,_,_,_⟩:=b;simp[and_assoc]
 obtain⟨a1,a2,a3,a4,a5⟩:=ha
 obtain⟨b1,b2,b3,b4,b5⟩:=hb
 refine spB Tryz.func15 52 [.tmp 4] Tryz.results15 ?_
 try refine xst ?_
 refine caP (zsy a.f b.f a1 b1) ?_
 try refine xst ?_
 refine gcP (fun hcc=>yha a.bases b.bases a2 b2) ?_
 try refine xst ?_
 refine gcP (fun hcc=>z2c a.stocks b.stocks a3 b3) ?_
 try refine xst ?_
 refine gcP (fun hcc=>z2c a.mines b.mines a4 b4) ?_
 try refine xst ?_
 refine gcP (fun hcc=>yeu a.troops b.troops a5 b5) ?_
 try refine xst ?_
 (first|(refine zau rfl (Wk.of ?_);(try simp(etaStruct := .none)only[push_cast,zab,seval]);first|done|(simp[e, *];done)|(simp_all[e];done))|(refine zau rfl ?_;(try simp(etaStruct := .none)only[push_cast,zab,seval]);(try simp[e, *]);(try exact wkc)))
theorem zgd (l:List Int) (hl:l.length≤17592186044415):Spec Tryz.prog 41 [.c (.sl 1 (l.map zac))] [] (.own 0) [.row 3 1 (l.map zac)]:=by
 refine spB Tryz.func41 8 [.tmp 2] Tryz.results41 ?_
 try refine xst ?_
 intro b hb
 try refine xst ?_
 refine zay (fun h => ?_) (fun h => ?_)
 ·try refine xst ?_
  have e:=hb h
  refine zf0 (To.nil 2 3 1 rfl) (zby [0] rfl rfl (by decide) ⟨?_,trivial⟩ trivial ?_)
  ·simp(etaStruct := .none)only[push_cast,zab,seval,e]
  ·simp(etaStruct := .none)only[push_cast,zab,seval]
 ·try refine xst ?_
  refine zby [1] rfl rfl (by decide) ⟨?_,trivial⟩ trivial ?_
  ·simp(etaStruct := .none)only[push_cast,zab,seval]
  ·simp(etaStruct := .none)only[push_cast,zab,seval]
theorem zfn (l:List Int) (hl:l.length≤17592186044415):Spec Tryz.prog 41 [.c (.sl 1 (l.map zac))] [] (.c (.sl 1 (l.map zac))) []:=by
 refine spB Tryz.func41 8 [.tmp 2] Tryz.results41 ?_
 try refine xst ?_
 intro b hb
 try refine xst ?_
 refine zay (fun h => ?_) (fun h => ?_)
 ·try refine xst ?_
  exact zb0 rfl trivial (by rw[hb h];exact Wk.nil _)
 ·try refine xst ?_
  exact zb0 rfl trivial (Wk.refl _)
theorem z3r (l:List Cel) (hl:l.length≤8796093022207):Spec Tryz.prog 42 [.c (.sl 2 (l.map za3))] [] (.own 0) [.row 46 2 (l.map za3)]:=by
 refine spB Tryz.func42 8 [.tmp 2] Tryz.results42 ?_
 try refine xst ?_
 intro b hb
 try refine xst ?_
 refine zay (fun h => ?_) (fun h => ?_)
 ·try refine xst ?_
  have e:=hb h
  refine zf0 (To.nil 2 46 2 rfl) (zby [0] rfl rfl (by decide) ⟨?_,trivial⟩ trivial ?_)
  ·simp(etaStruct := .none)only[push_cast,zab,seval,e]
  ·simp(etaStruct := .none)only[push_cast,zab,seval]
 ·try refine xst ?_
  refine zby [1] rfl rfl (by decide) ⟨?_,trivial⟩ trivial ?_
  ·simp(etaStruct := .none)only[push_cast,zab,seval]
  ·simp(etaStruct := .none)only[push_cast,zab,seval]
theorem zpd (l:List Cel) (hl:l.length≤8796093022207):Spec Tryz.prog 42 [.c (.sl 2 (l.map za3))] [] (.c (.sl 2 (l.map za3))) []:=by
 refine spB Tryz.func42 8 [.tmp 2] Tryz.results42 ?_
 try refine xst ?_
 intro b hb
 try refine xst ?_
 refine zay (fun h => ?_) (fun h => ?_)
 ·try refine xst ?_
  exact zb0 rfl trivial (by rw[hb h];exact Wk.nil _)
 ·try refine xst ?_
  exact zb0 rfl trivial (Wk.refl _)
theorem zpr (l:List Trp) (hl:l.length≤2513169434916):Spec Tryz.prog 44 [.c (.sl 7 (l.map zaw))] [] (.own 0) [.row 108 7 (l.map zaw)]:=by
 refine spB Tryz.func44 8 [.tmp 2] Tryz.results44 ?_
 try refine xst ?_
 intro b hb
 try refine xst ?_
 refine zay (fun h => ?_) (fun h => ?_)
 ·try refine xst ?_
  have e:=hb h
  refine zf0 (To.nil 2 108 7 rfl) (zby [0] rfl rfl (by decide) ⟨?_,trivial⟩ trivial ?_)
  ·simp(etaStruct := .none)only[push_cast,zab,seval,e]
  ·simp(etaStruct := .none)only[push_cast,zab,seval]
 ·try refine xst ?_
  refine zby [1] rfl rfl (by decide) ⟨?_,trivial⟩ trivial ?_
  ·simp(etaStruct := .none)only[push_cast,zab,seval]
  ·simp(etaStruct := .none)only[push_cast,zab,seval]
theorem zul (l:List Trp) (hl:l.length≤2513169434916):Spec Tryz.prog 44 [.c (.sl 7 (l.map zaw))] [] (.c (.sl 7 (l.map zaw))) []:=by
 refine spB Tryz.func44 8 [.tmp 2] Tryz.results44 ?_
 try refine xst ?_
 intro b hb
 try refine xst ?_
 refine zay (fun h => ?_) (fun h => ?_)
 ·try refine xst ?_
  exact zb0 rfl trivial (by rw[hb h];exact Wk.nil _)
 ·try refine xst ?_
  exact zb0 rfl trivial (Wk.refl _)
end Go.Proofs.YtmjbgbmegbkmhaaGreat
namespace Go.Proofs.YtmjbgbmegbkmhaaGreat
set_option linter.all false
open Go.RowKit
set_option maxRecDepth 100000
set_option maxHeartbeats 2000000
theorem zra (a b:Cel):(zlw a b).length=max (b.x-a.x).natAbs (b.y-a.y).natAbs+1:=by simp[zlw,zan]
theorem z6m (a:Cel) (sx sy:Int) (X Y k L m:Nat) (hL:L=max X Y) (hm:m=min X Y) (h0:0<L) :
 lpt a sx sy X Y (k+1)=⟨if Y≤X∨2*L≤lr L m k+2*m then (lpt a sx sy X Y k).x+sx else (lpt a sx sy X Y k).x,if X<Y∨2*L≤lr L m k+2*m then (lpt a sx sy X Y k).y+sy else (lpt a sx sy X Y k).y⟩ ∧
 (lr L m (k+1):Int)=if 2*L≤lr L m k+2*m then (lr L m k:Int)+2*m-2*L else lr L m k+2*m:=by
 by_cases h:Y≤X
 ·obtain rfl:L=X:=by omega
  obtain rfl:m=Y:=by omega
  have st:=zol L m k h0 h
  rw[z12 a sx sy L m k h h0,if_pos (show m≤L∨2*L≤lr L m k+2*m from Or.inl h)]
  by_cases hc:2*L≤lr L m k+2*m
  ·rw[if_pos hc,if_pos (show L<m∨2*L≤lr L m k+2*m from Or.inr hc),if_pos hc];exact⟨rfl,by have:=(st.1 hc).2;omega⟩
  ·rw[if_neg hc,if_neg (show ¬(L<m∨2*L≤lr L m k+2*m)by omega),if_neg hc];exact⟨rfl,by have:=(st.2 (by omega)).2;omega⟩
 ·obtain rfl:L=Y:=by omega
  obtain rfl:m=X:=by omega
  have st:=zol L m k h0 (by omega)
  rw[z11 a sx sy m L k (by omega),if_pos (show m<L∨2*L≤lr L m k+2*m from Or.inl (by omega))]
  by_cases hc:2*L≤lr L m k+2*m
  ·rw[if_pos hc,if_pos (show L≤m∨2*L≤lr L m k+2*m from Or.inr hc),if_pos hc];exact⟨rfl,by have:=(st.1 hc).2;omega⟩
  ·rw[if_neg hc,if_neg (show ¬(L≤m∨2*L≤lr L m k+2*m)by omega),if_neg hc];exact⟨rfl,by have:=(st.2 (by omega)).2;omega⟩
theorem z10 (a:Cel) (sx sy:Int) (X Y:Nat):zzg a sx sy X Y 0 = [a]:=by simp[zzg,zom]
theorem ydj (a b:Cel) (ha:zeg a=true) (hb:zeg b=true):Spec Tryz.prog 157 [zhv a,zhv b] [] (.tup [.c (.sl 2 ((zlw a b).map za3)),I .i64 0]) []:=by
 have hx:=zi8 ha
 have hy:=zi8 hb
 obtain⟨sx,hsx⟩:∃s,s=(b.x-a.x).sign:=⟨_,rfl⟩
 obtain⟨sy,hsy⟩:∃s,s=(b.y-a.y).sign:=⟨_,rfl⟩
 obtain⟨X,hX⟩:∃s,s=(b.x-a.x).natAbs:=⟨_,rfl⟩
 obtain⟨Y,hY⟩:∃s,s=(b.y-a.y).natAbs:=⟨_,rfl⟩
 have gx:=sg (b.x-a.x)
 have gy:=sg (b.y-a.y)
 rw[←hsx]at gx
 rw[←hsy]at gy
 have S1:=zu1 (b.x-a.x) (by omega) (by omega)
 have S2:=zu1 (b.y-a.y) (by omega) (by omega)
 have hX2:X≤2000:=by omega
 have hY2:Y≤2000:=by omega
 unfold zlw
 rw[←hsx,←hX]at S1 ⊢
 rw[←hsy,←hY]at S2 ⊢
 obtain⟨L,hL⟩:∃L,L=max X Y:=⟨_,rfl⟩
 obtain⟨m,hm⟩:∃m,m=min X Y:=⟨_,rfl⟩
 rw[←hL]
 have LR:=fun k h0=>ykd L m k h0
 have NR:=fun k hk=>z6n a sx sy X Y k gx gy hX2 hY2 hk ha
 clear hsx hsy hX hY
 refine spB Tryz.func157 93 [.tmp 4,.tmp 5] Tryz.results157 ?_
 try refine xz1 zan ?_
 refine caP (zvt a (by omega) (by omega)) ?_
 try refine xz1 zan ?_
 refine gcP (fun hcc=>zvt b (by omega) (by omega)) ?_
 try refine xz1 zan ?_
 refine cI (fun h1 => ?_) fun h1 => ?_
 ·simp[ha,hb]at h1
 ·try refine xz1 zan ?_
  refine caP (S1) ?_
  try refine xz1 zan ?_
  refine caP (S2) ?_
  try refine xz1 zan ?_
  refine znk (fun _u:Unit=>⟨[(10,I .i64 L),(11,I .i64 m),(9,I .i64 Y),(8,I .i64 sy),(7,I .i64 X),(6,I .i64 sx),(2,.ptr 0 0 0)],[(0,.blk 46 [I .i64 a.x,I .i64 a.y])],1⟩) (fun _u:Unit=>Tr) (fun h2 => ?_) (fun h2 => ?_) ?_
  ·(try replace h2:=xhh h2)
   obtain rfl:L=Y:=by omega
   obtain rfl:m=X:=by omega
   try refine xz1 zan ?_
   refine⟨(),trI,To.mk [0] rfl rfl (by decide) ?_ ?_⟩
   ·(try(refine xz1 zan ?_;try exact xtI))
   ·(try(refine xz1 zan ?_;try exact xtI))
  ·(try replace h2:=xhh h2)
   obtain rfl:L=X:=by omega
   obtain rfl:m=Y:=by omega
   try refine xz1 zan ?_
   refine⟨(),trI,To.mk [0] rfl rfl (by decide) ?_ ?_⟩
   ·(try(refine xz1 zan ?_;try exact xtI))
   ·(try(refine xz1 zan ?_;try exact xtI))
  ·rintro _ _
   try refine xz1 zan ?_
   refine zax (fun k:Nat=>⟨[(51,I .i64 k),(50,I .i64 L),(13,I .i64 ((lr L m k:Int)-L)),(12,.own 1),(11,I .i64 m),(10,I .i64 L),(9,I .i64 Y),(8,I .i64 sy),(7,I .i64 X),(6,I .i64 sx),(2,.ptr 0 0 0)],[(0,.blk 46 [I .i64 (lpt a sx sy X Y k).x,I .i64 (lpt a sx sy X Y k).y]),(1,.row 46 2 ((zzg a sx sy X Y k).map za3))],2⟩) (fun k:Nat=>k≤L) (fun k:Nat=>L-k) (0) (Nat.zero_le _) (To.mk [0,1] rfl rfl (by decide) ?_ ?_) ?_
   ·simp(etaStruct := .none)only[push_cast,zab,seval,zom,z10,za3]
   ·simp(etaStruct := .none)only[push_cast,zab,seval,zom,yb6,Int.sub_self]
   rintro k hk
   try refine xz1 zan ?_
   refine cI (fun h3 => ?_) fun h3 => ?_
   ·have hlt:k<L:=by omega
    obtain⟨ST,SR⟩:=z6m a sx sy X Y k L m hL hm (by omega)
    have hlr:=LR k (by omega)
    have hnr:=NR k (by omega)
    have hnr2:=NR (k+1) (by omega)
    try refine xz1 zan ?_
    refine znk (fun o:Bool=>⟨[(51,I .i64 k),(50,I .i64 L),(14,B o),(13,I .i64 ((lr L m (k+1):Int)-L)),(12,.own 1),(11,I .i64 m),(10,I .i64 L),(9,I .i64 Y),(8,I .i64 sy),(7,I .i64 X),(6,I .i64 sx),(2,.ptr 0 0 0)],[(0,.blk 46 [I .i64 (lpt a sx sy X Y k).x,I .i64 (lpt a sx sy X Y k).y]),(1,.row 46 2 ((zzg a sx sy X Y k).map za3))],2⟩) (fun o:Bool=>(o=true↔2*L≤lr L m k+2*m)) (fun h4 => ?_) (fun h4 => ?_) ?_
    ·(try replace h4:=xhh h4)
     have e1:(lr L m k:Int)-L+2*m-2*L=(lr L m (k+1):Int)-L:=by rw[SR,if_pos (by omega)];omega
     have e2:decide ((L:Int)≤(lr L m k:Int)-L+2*m)=true:=by simp;omega
     try refine xz3 zan e1 e2 ?_
     refine⟨true,by simp;omega,To.mk [0,1] rfl rfl (by decide) ?_ ?_⟩
     ·(try(refine xz3 zan e1 e2 ?_;try exact xtI))
     ·(try(refine xz3 zan e1 e2 ?_;try exact xtI))
    ·(try replace h4:=xhh h4)
     have e1:(lr L m k:Int)-L+2*m=(lr L m (k+1):Int)-L:=by rw[SR,if_neg (by omega)];omega
     have e2:decide ((L:Int)≤(lr L m (k+1):Int)-L)=false:=by rw[←e1];simp;omega
     try refine xz3 zan e1 e2 ?_
     refine⟨false,by simp;omega,To.mk [0,1] rfl rfl (by decide) ?_ ?_⟩
     ·(try(refine xz3 zan e1 e2 ?_;try exact xtI))
     ·(try(refine xz3 zan e1 e2 ?_;try exact xtI))
    ·rintro o ho
     try refine xz1 zan ?_
     refine znk (fun _u:Unit=>⟨[(51,I .i64 k),(50,I .i64 L),(14,B o),(13,I .i64 ((lr L m (k+1):Int)-L)),(12,.own 1),(11,I .i64 m),(10,I .i64 L),(9,I .i64 Y),(8,I .i64 sy),(7,I .i64 X),(6,I .i64 sx),(2,.ptr 0 0 0)],[(0,.blk 46 [I .i64 (lpt a sx sy X Y (k+1)).x,I .i64 (lpt a sx sy X Y k).y]),(1,.row 46 2 ((zzg a sx sy X Y k).map za3))],2⟩) (fun _u:Unit=>Tr) (fun h5 => ?_) (fun h5 => ?_) ?_
     ·(try replace h5:=xhh h5)
      rw[ho]at h5
      have e1:(lpt a sx sy X Y k).x+sx=(lpt a sx sy X Y (k+1)).x:=by rw[ST];simp only;rw[if_pos (by omega)]
      try refine xz2 zan e1 ?_
      refine⟨(),trI,To.mk [0,1] rfl rfl (by decide) ?_ ?_⟩
      ·(try(refine xz2 zan e1 ?_;try exact xtI))
      ·(try(refine xz2 zan e1 ?_;try exact xtI))
     ·(try replace h5:=xhh h5)
      rw[Bool.eq_false_iff,ne_eq,ho]at h5
      have e1:(lpt a sx sy X Y k).x=(lpt a sx sy X Y (k+1)).x:=by rw[ST];simp only;rw[if_neg (by omega)]
      try refine xz1 zan ?_
      refine⟨(),trI,To.mk [0,1] rfl rfl (by decide) ?_ ?_⟩
      ·simp(etaStruct := .none)only[push_cast,zab,seval]
       rw[←e1]
       simp(etaStruct := .none)only[push_cast,zab,seval]
      ·(try(refine xz1 zan ?_;try exact xtI))
     ·rintro _ _
      try refine xz1 zan ?_
      refine cI (fun h6 => ?_) fun h6 => ?_
      ·rw[ho]at h6
       have e1:(lpt a sx sy X Y k).y+sy=(lpt a sx sy X Y (k+1)).y:=by rw[ST];simp only;rw[if_pos (by omega)]
       try refine xz2 zan e1 ?_
       refine⟨k+1,by omega,by omega,To.mk [0,3] rfl rfl (by decide) ?_ ?_⟩
       ·(iterate 2((try simp(etaStruct := .none)only[push_cast,zab,seval,zq9,List.map_append,za3]);(try(refine xsu ?_;try exact xtI))))
       ·(try(refine xz2 zan e1 ?_;try exact xtI))
      ·rw[Bool.eq_false_iff,ne_eq,ho]at h6
       have e1:(lpt a sx sy X Y k).y=(lpt a sx sy X Y (k+1)).y:=by rw[ST];simp only;rw[if_neg (by omega)]
       try refine xz1 zan ?_
       refine⟨k+1,by omega,by omega,To.mk [0,3] rfl rfl (by decide) ?_ ?_⟩
       ·iterate 2(try simp(etaStruct := .none)only[push_cast,zab,seval,zq9,List.map_append,za3];try refine xsu ?_)
        rw[←e1]
        exact⟨Wk.refl _,rfl⟩
       ·(try(refine xz1 zan ?_;try exact xtI))
   ·obtain rfl:k=L:=by omega
    try refine xz1 zan ?_
    exact xrz rfl
end Go.Proofs.YtmjbgbmegbkmhaaGreat
namespace Go.Proofs.YtmjbgbmegbkmhaaGreat
set_option linter.all false
open Go.RowKit
theorem zuf (d:Int) (q:Nat) (hq:q≤d.natAbs) (f:Int):min f (f+d)≤f+d.sign*q∧f+d.sign*q≤max f (f+d):=by
 rcases Int.lt_trichotomy d 0 with h|h|h
 ·rw[Int.sign_eq_neg_one_of_neg h];omega
 ·subst h;simp
 ·rw[Int.sign_eq_one_of_pos h];omega
theorem yb7 (a b:Cel) (k:Nat) (hk:k≤max (b.x-a.x).natAbs (b.y-a.y).natAbs) :
 (min a.x b.x≤(lpt a (b.x-a.x).sign (b.y-a.y).sign (b.x-a.x).natAbs (b.y-a.y).natAbs k).x∧(lpt a (b.x-a.x).sign (b.y-a.y).sign (b.x-a.x).natAbs (b.y-a.y).natAbs k).x≤max a.x b.x) ∧
 (min a.y b.y≤(lpt a (b.x-a.x).sign (b.y-a.y).sign (b.x-a.x).natAbs (b.y-a.y).natAbs k).y∧(lpt a (b.x-a.x).sign (b.y-a.y).sign (b.x-a.x).natAbs (b.y-a.y).natAbs k).y≤max a.y b.y):=by
 have ex:a.x+(b.x-a.x)=b.x:=by omega
 have ey:a.y+(b.y-a.y)=b.y:=by omega
 unfold lpt
 split
 ·rename_i h
  have hq:lq (b.x-a.x).natAbs (b.y-a.y).natAbs k≤(b.y-a.y).natAbs:=by
   rcases Nat.eq_zero_or_pos (b.x-a.x).natAbs with h0|h0
   ·have:k=0:=by omega
    subst this;rw[ztk];omega
   ·exact z6l _ _ _ h0 (by omega)
  have w1:=zuf (b.x-a.x) k (by omega) a.x
  have w2:=zuf (b.y-a.y) _ hq a.y
  rw[ex]at w1;rw[ey]at w2
  exact⟨w1,w2⟩
 ·rename_i h
  have hq:lq (b.y-a.y).natAbs (b.x-a.x).natAbs k≤(b.x-a.x).natAbs:=z6l _ _ _ (by omega) (by omega)
  have w1:=zuf (b.y-a.y) k (by omega) a.y
  have w2:=zuf (b.x-a.x) _ hq a.x
  rw[ey]at w1;rw[ex]at w2
  exact⟨w2,w1⟩
theorem z6q (a b:Cel) (k:Nat) (hk:k≤max (b.x-a.x).natAbs (b.y-a.y).natAbs):(zlw a b).getD k default=lpt a (b.x-a.x).sign (b.y-a.y).sign (b.x-a.x).natAbs (b.y-a.y).natAbs k:=by
 rw[zae _ _ (by rw[zra];omega)]
 simp[zlw,zzg]
theorem zwb {f:Fld} {c:Cel} (h:zbv f=0) (hc:inF f c=true):zeg c=true:=by
 obtain⟨h1,h2,_,_⟩:=zbi h
 obtain⟨h3,h4⟩:=inF_iff.1 hc
 unfold zeg;simp;omega
theorem yb9 {f:Fld} {a b:Cel} (ha:inF f a=true) (hb:inF f b=true) (k:Nat) (hk:k≤max (b.x-a.x).natAbs (b.y-a.y).natAbs):inF f ((zlw a b).getD k default)=true:=by
 rw[z6q a b k hk]
 have:=yb7 a b k hk
 rw[inF_iff]at ha hb ⊢
 omega
theorem z6p {f:Fld} {a b:Cel} (h:zbv f=0) (ha:inF f a=true) (hb:inF f b=true):(b.x-a.x).natAbs≤39∧(b.y-a.y).natAbs≤39:=by
 obtain⟨h1,h2,_,_⟩:=zbi h
 rw[inF_iff]at ha hb
 omega
def znn (p:Int):Bool:=decide (p % 3=0)
def ztd (f:Fld) (a b:Cel):Bool:=(List.range (max (b.x-a.x).natAbs (b.y-a.y).natAbs-1)).all fun k=>znn (zai f ((zlw a b).getD (k+1) default))
theorem ybm {f:Fld} {a b:Cel} (h:∀k,0<k→k<max (b.x-a.x).natAbs (b.y-a.y).natAbs→znn (zai f ((zlw a b).getD k default))=true):ztd f a b=true:=by
 unfold ztd
 rw[List.all_eq_true]
 intro k hk
 exact h (k+1) (by omega) (by simp at hk;omega)
theorem ybn {f:Fld} {a b:Cel} {k:Nat} (h0:0<k) (h1:k<max (b.x-a.x).natAbs (b.y-a.y).natAbs) (h:znn (zai f ((zlw a b).getD k default))=false):ztd f a b=false:=by
 unfold ztd
 rw[List.all_eq_false]
 refine⟨k-1,by simp;omega,?_⟩
 rw[show k-1+1=k by omega,h];simp
def zjy (f:Fld) (a b:Cel):Bool:=ztd f a b||ztd f b a
theorem z5t {f:Fld} (h:zbv f=0) {c:Cel} (hc:inF f c=true):0≤zai f c∧zai f c<4:=by
 obtain⟨_,_,_,h4⟩:=zbi h
 obtain⟨_,_,i3,i4,_⟩:=zbm h hc
 have hl:(c.y*f.w+c.x).toNat<f.p.length:=by omega
 unfold zai
 rw[zae _ _ hl]
 exact h4 _ (List.getElem_mem hl)
end Go.Proofs.YtmjbgbmegbkmhaaGreat
namespace Go.Proofs.YtmjbgbmegbkmhaaGreat
set_option linter.all false
open Go.RowKit
set_option maxRecDepth 100000
set_option maxHeartbeats 2000000
theorem z9k (f:Fld) (a b:Cel) (hf:zbv f=0) (ha:inF f a=true) (hb:inF f b=true):Spec Tryz.prog 130 [z29 f,zhv a,zhv b] [] (B (ztd f a b)) []:=by
 have CS:=ydj a b (zwb hf ha) (zwb hf hb)
 have LL:=zra a b
 have LF:=z6p hf ha hb
 have LI:=fun k hk=>yb9 ha hb k hk
 have LT := @ybm f a b
 have LN := @ybn f a b
 have PL:f.p.length≤1600:=(zbm hf ha).2.2.2.2
 generalize zlw a b=l at CS LL LI LT LN
 obtain⟨L,hL⟩:∃L,L=max (b.x-a.x).natAbs (b.y-a.y).natAbs:=⟨_,rfl⟩
 rw[←hL]at LL LI LT LN
 have hLL:L≤39:=by omega
 clear hL
 refine spB Tryz.func130 45 [.tmp 6] Tryz.results130 ?_
 iterate 2(try simp(etaStruct := .none)only[push_cast,zab,seval,LL,Int.add_sub_cancel];try refine xsu ?_)
 refine caP (CS) ?_
 iterate 2(try simp(etaStruct := .none)only[push_cast,zab,seval,LL,Int.add_sub_cancel];try refine xsu ?_)
 refine cI (fun h1 => ?_) fun h1 => ?_
 ·have hl2:L≤1:=by omega
  have e:=LT (fun k h0 h1=>by omega)
  iterate 2(try simp(etaStruct := .none)only[push_cast,zab,seval,LL,Int.add_sub_cancel];try refine xsu ?_)
  (first|(refine zau rfl (Wk.of ?_);(try simp(etaStruct := .none)only[push_cast,zab,seval]);first|done|(simp[e, *];done)|(simp_all[e];done))|(refine zau rfl ?_;(try simp(etaStruct := .none)only[push_cast,zab,seval]);(try simp[e, *]);(try exact wkc)))
 ·have e3:((l.map za3).take L).drop 1=((l.take L).drop 1).map za3:=by rw[List.map_drop,List.map_take]
  have e4:((l.take L).drop 1).length=L-1:=by simp;omega
  have e5:∀k,k<L-1→((l.take L).drop 1).getD k default=l.getD (k+1) default:=by intro k hk;simp[List.getD_eq_getElem?_getD,List.getElem?_drop,List.getElem?_take,show k+1<L by omega,Nat.add_comm]
  iterate 2(try simp(etaStruct := .none)only[push_cast,zab,seval,LL,Int.add_sub_cancel,e3,e4];try refine xsu ?_)
  refine zax (fun k:Nat=>⟨[(28,I .i64 k),(27,I .i64 (L-1:Nat)),(26,.c (.sl 2 (((l.take L).drop 1).map za3))),(3,.ptr 0 0 0)],[(0,.blk 24 [I .i64 f.w,I .i64 f.h,.c (.sl 1 (f.p.map zac))])],1⟩) (fun k:Nat=>k≤L-1∧∀j,0<j→j≤k→znn (zai f (l.getD j default))=true) (fun k:Nat=>L-1-k) (0) (⟨Nat.zero_le _,fun j h h'=>by omega⟩) (To.mk [0] rfl rfl (by decide) ?_ ?_) ?_
  ·simp(etaStruct := .none)only[push_cast,zab,seval]
  ·simp(etaStruct := .none)only[push_cast,zab,seval]
  rintro k ⟨hk,hn⟩
  iterate 2(try simp(etaStruct := .none)only[push_cast,zab,seval,LL,Int.add_sub_cancel,e3,e4];try refine xsu ?_)
  refine cI (fun h2 => ?_) fun h2 => ?_
  ·have hlt:k<L-1:=by omega
   have hlt2:k<((l.take L).drop 1).length:=by omega
   have e6:=e5 k hlt
   have hin:=LI (k+1) (by omega)
   have AT:=zzj f (l.getD (k+1) default) (by omega)
   have AV:atV f (l.getD (k+1) default)=(zai f (l.getD (k+1) default),0):=by unfold atV;rw[if_neg (by simp[hf]),if_pos hin]
   rw[AV]at AT
   have p03:=z5t hf hin
   iterate 2(try simp(etaStruct := .none)only[push_cast,zab,seval,LL,Int.add_sub_cancel,e3,e4,zaa _ _ _ hlt2,za3,e6];try refine xsu ?_)
   refine caP (AT) ?_
   iterate 2(try simp(etaStruct := .none)only[push_cast,zab,seval,LL,Int.add_sub_cancel,e3,e4,zaa _ _ _ hlt2,za3,e6];try refine xsu ?_)
   refine cI (fun h3 => ?_) fun h3 => ?_
   ·have hc:znn (zai f (l.getD (k+1) default))=false:=decide_eq_false (by omega)
    have e:=LN (by omega) (by omega) hc
    iterate 2(try simp(etaStruct := .none)only[push_cast,zab,seval,LL,Int.add_sub_cancel,e3,e4,zaa _ _ _ hlt2,za3,e6];try refine xsu ?_)
    (first|(refine zau rfl (Wk.of ?_);(try simp(etaStruct := .none)only[push_cast,zab,seval]);first|done|(simp[e, *];done)|(simp_all[e];done))|(refine zau rfl ?_;(try simp(etaStruct := .none)only[push_cast,zab,seval]);(try simp[e, *]);(try exact wkc)))
   ·have hc:znn (zai f (l.getD (k+1) default))=true:=decide_eq_true (by omega)
    iterate 2(try simp(etaStruct := .none)only[push_cast,zab,seval,LL,Int.add_sub_cancel,e3,e4,zaa _ _ _ hlt2,za3,e6];try refine xsu ?_)
    refine⟨k+1,⟨by omega,fun j h0 h1=>by rcases Nat.lt_or_ge k j with h|h;rw[show j=k+1 by omega];exact hc;exact hn j h0 h⟩,by omega,To.mk [0] rfl rfl (by decide) ?_ ?_⟩
    ·(iterate 2((try simp(etaStruct := .none)only[push_cast,zab,seval,LL,Int.add_sub_cancel,e3,e4,zaa _ _ _ hlt2,za3,e6]);(try(refine xsu ?_;try exact xtI))))
    ·(iterate 2((try simp(etaStruct := .none)only[push_cast,zab,seval,LL,Int.add_sub_cancel,e3,e4,zaa _ _ _ hlt2,za3,e6]);(try(refine xsu ?_;try exact xtI))))
  ·have e:=LT (fun j h0 h1=>hn j h0 (by omega))
   iterate 2(try simp(etaStruct := .none)only[push_cast,zab,seval,LL,Int.add_sub_cancel,e3,e4];try refine xsu ?_)
   (first|(refine zau rfl (Wk.of ?_);(try simp(etaStruct := .none)only[push_cast,zab,seval]);first|done|(simp[e, *];done)|(simp_all[e];done))|(refine zau rfl ?_;(try simp(etaStruct := .none)only[push_cast,zab,seval]);(try simp[e, *]);(try exact wkc)))
theorem yk9 (f:Fld) (c:Cel):(atV f c).2=if zbv f≠0 then zbv f else if inF f c then 0 else 7:=by
 unfold atV;split
 ·rfl
 ·split<;>rfl
theorem ymn {f:Fld} {c:Cel} (h:(atV f c).2=0):zbv f=0∧inF f c=true:=by
 rw[yk9]at h
 split at h
 ·rename_i h1;exact absurd h h1
 ·rename_i h1
  split at h
  ·rename_i h2;exact⟨Decidable.not_not.1 h1,h2⟩
  ·simp at h
def zp5 (f:Fld) (a b:Cel):Bool × Int:=if zbv f≠0 then (false,zbv f)else if inF f a&&inF f b then (zjy f a b,0)else (false,7)
theorem ye4 (f:Fld) (a b:Cel) (hl:f.p.length≤9223372036854775807):Spec Tryz.prog 159 [z29 f,zhv a,zhv b] [] (.tup [B (zp5 f a b).1,I .i64 (zp5 f a b).2]) []:=by
 refine spB Tryz.func159 38 [.tmp 6,.tmp 7] Tryz.results159 ?_
 try refine xst ?_
 refine zax (fun k:Nat=>⟨[(15,I .i64 k),(14,.agg [I .i64 a.x,I .i64 a.y,I .i64 b.x,I .i64 b.y]),(5,.ptr 2 0 0),(4,.ptr 1 0 0),(3,.ptr 0 0 0)],[(0,.blk 24 [I .i64 f.w,I .i64 f.h,.c (.sl 1 (f.p.map zac))]),(1,.blk 46 [I .i64 a.x,I .i64 a.y]),(2,.blk 46 [I .i64 b.x,I .i64 b.y])],3⟩) (fun k:Nat=>k≤2∧(0<k→zbv f=0∧inF f a=true)∧(1<k→inF f b=true)) (fun k:Nat=>2-k) (0) (⟨by omega,fun h=>by omega,fun h=>by omega⟩) (To.mk [0,1,2] rfl rfl (by decide) ?_ ?_) ?_
 ·simp(etaStruct := .none)only[push_cast,zab,seval]
 ·simp(etaStruct := .none)only[push_cast,zab,seval]
 rintro k ⟨hk,q1,q2⟩
 try refine xst ?_
 refine cI (fun h1 => ?_) fun h1 => ?_
 ·obtain⟨c,hc1,hc2,hc3⟩:∃c:Cel,(k=0→c=a)∧(k=1→c=b)∧List.take 2 (List.drop (k*2) [AV.c (PV.v (.int .i64 a.x)),.c (.v (.int .i64 a.y)),.c (.v (.int .i64 b.x)),.c (.v (.int .i64 b.y))]) = [.c (.v (.int .i64 c.x)),.c (.v (.int .i64 c.y))]:=by
   rcases (show k=0∨k=1 by omega)with rfl|rfl
   ·exact⟨a,fun _=>rfl,fun h=>by omega,rfl⟩
   ·exact⟨b,fun h=>by omega,fun _=>rfl,rfl⟩
  try refine xz1 hc3 ?_
  refine caP (zzj f c hl) ?_
  try refine xz1 hc3 ?_
  refine cI (fun h2 => ?_) fun h2 => ?_
  ·have e2:=yk9 f c
   have e3:zp5 f a b=(false,(atV f c).2):=by
    unfold zp5
    by_cases hf:zbv f=0
    ·rw[if_neg (by simp[hf])]
     rw[if_neg (by simp[hf])]at e2
     cases hc:inF f c with
     | true=>rw[hc]at e2;exact absurd e2 h2
     | false =>
      rw[hc]at e2
      rw[e2]
      rcases (show k=0∨k=1 by omega)with h|h
      ·rw[←hc1 h,hc];rfl
      ·rw[←hc2 h,hc];simp
    ·rw[if_pos hf]at e2 ⊢;rw[e2]
   try refine xz1 hc3 ?_
   (first|(refine zau rfl (Wk.of ?_);(try simp(etaStruct := .none)only[push_cast,zab,seval]);first|done|(simp[e3, *];done)|(simp_all[e3];done))|(refine zau rfl ?_;(try simp(etaStruct := .none)only[push_cast,zab,seval]);(try simp[e3, *]);(try exact wkc)))
  ·obtain⟨a1,a2⟩:=ymn h2
   try refine xz1 hc3 ?_
   refine⟨k+1,⟨by omega,fun _=>⟨a1,by rcases (show k=0∨k=1 by omega)with h|h;rw[←hc1 h];exact a2;exact(q1 (by omega)).2⟩,fun h=>by rw[←hc2 (by omega)];exact a2⟩,by omega,To.mk [0,1,2] rfl rfl (by decide) ?_ ?_⟩
   ·(try(refine xz1 hc3 ?_;try exact xtI))
   ·(try(refine xz1 hc3 ?_;try exact xtI))
 ·obtain⟨hf,ha⟩:=q1 (by omega)
  have hb:=q2 (by omega)
  have e4:zp5 f a b=(zjy f a b,0):=by unfold zp5;rw[if_neg (by simp[hf]),if_pos (by simp[ha,hb])]
  try refine xst ?_
  refine caP (z9k f a b hf ha hb) ?_
  try refine xst ?_
  refine gcP (fun hcc=>z9k f b a hf hb ha) ?_
  try refine xst ?_
  (first|(refine zau rfl (Wk.of ?_);(try simp(etaStruct := .none)only[push_cast,zab,seval]);first|done|(simp[e4,zjy, *];done)|(simp_all[e4,zjy];done))|(refine zau rfl ?_;(try simp(etaStruct := .none)only[push_cast,zab,seval]);(try simp[e4,zjy, *]);(try exact wkc)))
end Go.Proofs.YtmjbgbmegbkmhaaGreat
namespace Go.Proofs.YtmjbgbmegbkmhaaGreat
set_option linter.all false
open Go.RowKit
set_option maxRecDepth 100000
def z6t (a b:Cel):Nat:=max (a.x-b.x).natAbs (a.y-b.y).natAbs
def zj3 (w:Wld) (x y:Trp):Bool := !decide (x.owner=y.owner)&&decide ((z6t x.c y.c:Int)≤(zbc x.kind).blow)&&zjy w.f x.c y.c
def zmt (w:Wld) (b:Blw):Bool:=(zdd w b.by_).isSome&&(zdd w b.at_).isSome&&zj3 w ((zdd w b.by_).getD z8j) ((zdd w b.at_).getD z8j)
def zl3 (w:Wld) (t:Trp) (b:Blw):Bool:=decide (b.by_=t.id)&&zmt w b
def zwd (w:Wld) (l:List Blw) (id:Int) (t:Trp):Int:=match l.find? (zl3 w t)with|some b=>if b.at_=id then (zbc t.kind).load else 0|none=>0
def z4f (l:List Int):Int:=l.sum
theorem zur:∀(l:List Int) (i:Nat) (v:Int),i<l.length→z4f (l.set i v)=z4f l-l.getD i default+v
 | [],i,v,h=>by simp at h
 | a::r,0,v,_=>by simp[z4f];omega
 | a::r,i+1,v,h=>by
  have:=zur r i v (by simpa using h)
  simp only[z4f,List.set_cons_succ,List.sum_cons,List.getD_cons_succ]at this ⊢
  omega
def zf3 (w:Wld) (l:List Blw) (id:Int):Int:=z4f (w.troops.map (zwd w l id))
def Ups (w:Wld):Prop:=∀i j,i<j→j<w.troops.length→(w.troops.getD i default).id<(w.troops.getD j default).id
theorem yen {w:Wld} (h:zal w=0):Ups w:=by
 intro i j hij hj
 have h2:=(zfe h hj).2
 unfold z8i at h2
 have:=(zbb _ _).1 h2 i hij
 simp only[Bool.and_eq_true,decide_eq_true_eq]at this
 exact this.1
theorem Ups.ne {w:Wld} (h:Ups w) {i j:Nat} (hi:i<w.troops.length) (hj:j<w.troops.length) (hne:i≠j):(w.troops.getD i default).id≠(w.troops.getD j default).id:=by
 rcases Nat.lt_or_gt_of_ne hne with h1|h1
 ·have:=h i j h1 hj;omega
 ·have:=h j i h1 hi;omega
theorem zyz {w:Wld} {n:Int} (h:(zdd w n).isSome=true):∃i,i<w.troops.length∧(w.troops.getD i default).id=n∧(zdd w n).getD z8j=w.troops.getD i default:=by
 unfold zdd at *
 obtain⟨t,ht⟩:=Option.isSome_iff_exists.1 h
 have hm:=List.mem_of_find?_eq_some ht
 have hp:=List.find?_some ht
 obtain⟨i,hi,e⟩:=mem_getD.1 hm
 refine⟨i,hi,by rw[e];simpa using hp,by rw[ht,e];rfl⟩
theorem zrm (w:Wld) (l:List Blw) (b:Blw) (id:Int) (t:Trp):zwd w (l ++ [b]) id t=if l.any (zl3 w t)=false∧zl3 w t b=true then (if b.at_=id then (zbc t.kind).load else 0)else zwd w l id t:=by
 unfold zwd
 rw[List.find?_append]
 cases h:l.find? (zl3 w t)with
 | some x =>
  have hx:=List.find?_some h
  have hm:=List.mem_of_find?_eq_some h
  have:l.any (zl3 w t)=true:=List.any_eq_true.2 ⟨x,hm,hx⟩
  rw[if_neg (by simp[this])];rfl
 | none =>
  have:l.any (zl3 w t)=false:=by rw[List.any_eq_false];intro x hx;exact List.find?_eq_none.1 h x hx
  rw[this]
  cases hp:zl3 w t b with
  | true=>simp[hp]
  | false=>simp[hp]
theorem z2n (w:Wld) (l:List Blw) (id:Int) (t:Trp) (h:l.any (zl3 w t)=false):zwd w l id t=0:=by
 unfold zwd
 rw[List.find?_eq_none.2 (fun x hx=>by have:=List.any_eq_false.1 h x hx;simpa using this)]
theorem z2r {w:Wld} (hu:Ups w) (l:List Blw) (b:Blw) (id:Int) (h:zmt w b=false∨∃i,i<w.troops.length∧(w.troops.getD i default).id=b.by_∧l.any (zl3 w (w.troops.getD i default))=true):zf3 w (l ++ [b]) id=zf3 w l id:=by
 unfold zf3
 congr 1
 refine List.map_congr_left fun t ht => ?_
 rw[zrm,if_neg]
 rintro⟨h1,h2⟩
 rcases h with h|⟨i,hi,e,h3⟩
 ·unfold zl3 at h2;rw[h]at h2;simp at h2
 ·obtain⟨j,hj,rfl⟩:=mem_getD.1 ht
  by_cases hij:i=j
  ·subst hij;rw[h3]at h1;simp at h1
  ·have:=hu.ne hi hj hij
   unfold zl3 at h2
   simp only[Bool.and_eq_true,decide_eq_true_eq]at h2
   omega
theorem z2q {w:Wld} (hu:Ups w) (l:List Blw) (b:Blw) (id:Int) (hb:zmt w b=true) {i:Nat} (hi:i<w.troops.length) (hid:(w.troops.getD i default).id=b.by_) (hn:l.any (zl3 w (w.troops.getD i default))=false) :
 zf3 w (l ++ [b]) id=zf3 w l id+(if b.at_=id then (zbc (w.troops.getD i default).kind).load else 0):=by
 have e:w.troops.map (zwd w (l ++ [b]) id)=(w.troops.map (zwd w l id)).set i (if b.at_=id then (zbc (w.troops.getD i default).kind).load else 0):=by
  refine List.ext_getElem (by simp) fun j h1 h2 => ?_
  rw[List.length_map]at h1
  rw[List.getElem_map,List.getElem_set,zrm,←zae _ _ h1]
  by_cases hij:i=j
  ·subst hij
   rw[if_pos rfl,if_pos ⟨hn,by unfold zl3;rw[hb,hid];simp⟩]
  ·have:=hu.ne hi h1 hij
   rw[if_neg hij,if_neg,List.getElem_map,←zae _ _ h1]
   rintro⟨_,h3⟩
   unfold zl3 at h3
   simp only[Bool.and_eq_true,decide_eq_true_eq]at h3
   omega
 unfold zf3
 rw[e,zur _ _ _ (by simpa using hi)]
 have:(w.troops.map (zwd w l id)).getD i default=0:=by
  rw[zae _ _ (by simpa using hi),List.getElem_map,←zae _ _ hi]
  exact z2n _ _ _ _ hn
 omega
theorem zwf (w:Wld) (id:Int):zf3 w [] id=0:=by
 unfold zf3 z4f
 induction w.troops with
 | nil=>rfl
 | cons a r ih=>rw[List.map_cons,List.sum_cons,ih];rfl
def zoz (w:Wld) (l:List Blw):List Int:=w.troops.map fun t=>zf3 w l t.id
def zbh (w:Wld) (l:List Blw):Int:=if zal w≠0 then zal w else if 200<l.length then 2 else 0
def zho (w:Wld) (l:List Blw):List Int:=if zbh w l=0 then zoz w l else []
def zdu (w:Wld) (l:List Blw) (t:Trp):Trp:={ t with life:=t.life-zf3 w l t.id }
def zih (w:Wld) (l:List Blw):List Trp:=(w.troops.map (zdu w l)).filter fun t=>decide (0<t.life)
def z65 (w:Wld) (l:List Blw):List Int:=((w.troops.map (zdu w l)).filter fun t => !decide (0<t.life)).map (·.id)
def zer (w:Wld) (l:List Blw):Wld:={ w with troops:=zih w l }
end Go.Proofs.YtmjbgbmegbkmhaaGreat
namespace Go.Proofs.YtmjbgbmegbkmhaaGreat
set_option linter.all false
open Go.RowKit
set_option maxRecDepth 100000
set_option maxHeartbeats 400000
theorem zoq (a b:Cel):(if (b.x-a.x).natAbs<(b.y-a.y).natAbs then ((b.y-a.y).natAbs:Int)else ((b.x-a.x).natAbs:Int))=(z6t a b:Int):=by
 unfold z6t;split<;>omega
theorem zoo (a b:Cel) (ha:zeg a=true) (hb:zeg b=true):Spec Tryz.prog 158 [zhv a,zhv b] [] (.tup [I .i64 (z6t a b:Nat),I .i64 (((b.x-a.x).natAbs+(b.y-a.y).natAbs:Nat):Int),I .i64 0]) []:=by
 have ha1:=ha
 have hb1:=hb
 unfold zeg at ha1 hb1
 rw[decide_eq_true_eq]at ha1 hb1
 refine spB Tryz.func158 43 [.tmp 4,.tmp 5,.tmp 6] Tryz.results158 ?_
 try refine xst ?_
 refine caP (zvt a ⟨by omega,by omega⟩ ⟨by omega,by omega⟩) ?_
 try refine xst ?_
 refine gcP (fun hcc=>zvt b ⟨by omega,by omega⟩ ⟨by omega,by omega⟩) ?_
 try refine xst ?_
 refine cI (fun h1 => ?_) fun h1 => ?_
 ·rw[ha,hb]at h1;simp at h1
 ·try refine xst ?_
  refine caP (zu1 (b.x-a.x) ⟨by omega,by omega⟩ (by omega)) ?_
  try refine xst ?_
  refine caP (zu1 (b.y-a.y) ⟨by omega,by omega⟩ (by omega)) ?_
  try refine xst ?_
  (first|(refine zau rfl (Wk.of ?_);(try simp(etaStruct := .none)only[push_cast,zab,seval]);first|done|(simp[zoq, *];done)|(simp_all[zoq];done))|(refine zau rfl ?_;(try simp(etaStruct := .none)only[push_cast,zab,seval]);(try simp[zoq, *]);(try exact wkc)))
theorem z49 {f:Fld} {a b:Cel} (hf:zbv f=0) (ha:inF f a=true) (hb:inF f b=true):zp5 f a b=(zjy f a b,0):=by
 unfold zp5;rw[if_neg (by simp[hf]),if_pos (by simp[ha,hb])]
theorem zvu {f:Fld} {c:Cel} (hf:zbv f=0) (h:inF f c=true):zeg c=true:=by
 have h1:=inF_iff.1 h
 obtain⟨h2,h3,_⟩:=zbi hf
 unfold zeg
 rw[decide_eq_true_eq];omega
theorem z7o (w:Wld) (x y:Trp) (hl:zfw w) (hw:zal w=0) (hx:x∈w.troops) (hy:y∈w.troops):Spec Tryz.prog 131 [zcy w,yd1 x,yd1 y] [] (B (zj3 w x y)) []:=by
 obtain⟨hf,_⟩:=zdi hw
 have ox:=zps hw hx
 have oy:=zps hw hy
 have ix:=(ground_iff.1 ox.at_).1
 have iy:=(ground_iff.1 oy.at_).1
 have es:=z49 hf ix iy
 refine spB Tryz.func131 51 [.tmp 6] Tryz.results131 ?_
 try refine xst ?_
 refine caP (zhe x.kind) ?_
 try refine xst ?_
 refine caP (zoo x.c y.c (zvu hf ix) (zvu hf iy)) ?_
 try refine xst ?_
 refine cI (fun h1 => ?_) fun h1 => ?_
 ·have e:zj3 w x y=false:=by
   unfold zj3
   rcases h1 with h|h
   ·simp[h]
   ·simp only[Bool.and_eq_false_iff];exact .inl (.inr (by simpa using h))
  try refine xst ?_
  (first|(refine zau rfl (Wk.of ?_);(try simp(etaStruct := .none)only[push_cast,zab,seval]);first|done|(simp[e, *];done)|(simp_all[e];done))|(refine zau rfl ?_;(try simp(etaStruct := .none)only[push_cast,zab,seval]);(try simp[e, *]);(try exact wkc)))
 ·have e:zj3 w x y=zjy w.f x.c y.c:=by
   unfold zj3
   rw[decide_eq_false h1.1,decide_eq_true h1.2];simp
  try refine xst ?_
  refine caP (ye4 w.f x.c y.c hl.1) ?_
  try refine xst ?_
  rw[es]
  (first|(refine zau rfl (Wk.of ?_);(try simp(etaStruct := .none)only[push_cast,zab,seval]);first|done|(simp[e, *];done)|(simp_all[e];done))|(refine zau rfl ?_;(try simp(etaStruct := .none)only[push_cast,zab,seval]);(try simp[e, *]);(try exact wkc)))
def IdxM (w:Wld) (k:Nat) (es:List (List Int × Int)):Prop:=(∀i:Int,zlq [i] es=(w.troops.take k).any fun t=>decide (t.id=i))∧∀j,j<k→zc1 [(w.troops.getD j default).id] es=(j:Int)
theorem IdxM.step {w:Wld} (hu:Ups w) {k:Nat} {es:List (List Int × Int)} (h:IdxM w k es) (hk:k<w.troops.length):IdxM w (k+1) (zgq [(w.troops.getD k default).id] (k:Int) es):=by
 refine⟨fun i => ?_,fun j hj => ?_⟩
 ·rw[zlp,zao _ _ hk,List.any_append,h.1 i]
  simp only[List.any_cons,List.any_nil,Bool.or_false,List.cons.injEq,and_true]
  by_cases hi:i=(w.troops.getD k default).id
  ·rw[if_pos hi,decide_eq_true hi.symm,Bool.or_true]
  ·rw[if_neg hi,decide_eq_false (Ne.symm hi),Bool.or_false]
 ·rw[zb6]
  by_cases hjk:j=k
  ·subst hjk;rw[if_pos rfl]
  ·have:=hu j k (by omega) hk
   rw[if_neg (fun h=>by have:=(List.cons.inj h).1;omega)]
   exact h.2 j (by omega)
theorem z1y {k:List Int} {es:List (List Int × Int)} (h:zlq k es=false):zc1 k es=0:=by
 unfold zlq at h;unfold zc1
 cases hm:zcn k 0 es with
 | none=>rfl
 | some p=>rw[hm]at h;simp at h
theorem IdxM.get {w:Wld} {es:List (List Int × Int)} (h:IdxM w w.troops.length es) (hpos:0<w.troops.length) (a:Int):∃i:Nat,i<w.troops.length∧zc1 [a] es=(i:Int)∧zlq [a] es=(zdd w a).isSome∧((zdd w a).isSome=true→(w.troops.getD i default).id=a∧(zdd w a).getD z8j=w.troops.getD i default):=by
 have h1:=h.1 a
 rw[List.take_length]at h1
 cases hf:zdd w a with
 | none =>
  have e:zlq [a] es=false:=by
   rw[h1,List.any_eq_false]
   intro x hx
   have:=List.find?_eq_none.1 hf x hx
   simpa using this
  exact⟨0,hpos,z1y e,e,fun h=>by simp at h⟩
 | some t =>
  obtain⟨i,hi,e1,e2⟩:=zyz (w:=w) (n:=a) (by rw[hf];rfl)
  refine⟨i,hi,?_,?_,fun _=>⟨e1,by rw[←hf];exact e2⟩⟩
  ·rw[←e1];exact h.2 i hi
  ·rw[h1,List.any_eq_true.2 ⟨w.troops.getD i default,za0 _ _ hi,by simpa using e1⟩];rfl
theorem zly (k:Int):0≤(zbc k).load∧(zbc k).load≤4:=by unfold zbc;split<;>(try split)<;>simp
theorem z64 {w:Wld} {l:List Blw} {harm:List Int} (hl:harm.length=w.troops.length) (h:∀j,j<w.troops.length→harm.getD j default=zf3 w l (w.troops.getD j default).id):harm=zoz w l:=by
 refine List.ext_getElem (by unfold zoz;rw[List.length_map];exact hl) fun j h1 h2 => ?_
 have:=h j (by omega)
 rw[zae _ _ h1,zae _ _ (by omega)]at this
 simp only[zoz,List.getElem_map];exact this
theorem yjs {l:List Bool} {i:Nat} (v:Bool) (p:Nat) (hi:i<l.length):(l.set i v).getD p default=if p=i then v else l.getD p default:=by
 by_cases h:p=i
 ·subst h;rw[if_pos rfl,zae _ _ (by simpa using hi)];simp
 ·rw[if_neg h]
  simp only[List.getD_eq_getElem?_getD,List.getElem?_set,if_neg (Ne.symm h)]
theorem ye3 {l:List Int} {i:Nat} (v:Int) (p:Nat) (hi:i<l.length):(l.set i v).getD p default=if p=i then v else l.getD p default:=by
 by_cases h:p=i
 ·subst h;rw[if_pos rfl,zae _ _ (by simpa using hi)];simp
 ·rw[if_neg h]
  simp only[List.getD_eq_getElem?_getD,List.getElem?_set,if_neg (Ne.symm h)]
theorem ydm (w:Wld) (l:List Blw) (hl:zfw w) (hll:l.length≤9223372036854775807) (h:zbh w l≠0):Spec Tryz.prog 88 [zcy w,.c (.sl 2 (l.map ze1))] [] (.tup [.c (.sl 1 ((zho w l).map zac)),I .i64 (zbh w l)]) []:=by
 have e2:zho w l = []:=by unfold zho;rw[if_neg h]
 refine spB Tryz.func88 120 [.tmp 4,.tmp 5] Tryz.results88 ?_
 try refine xst ?_
 refine caP (zdf w hl) ?_
 try refine xst ?_
 refine cI (fun h1 => ?_) fun h1 => ?_
 ·have e:zbh w l=zal w:=by unfold zbh;rw[if_pos h1]
  try refine xst ?_
  (first|(refine zau rfl (Wk.of ?_);(try simp(etaStruct := .none)only[push_cast,zab,seval]);first|done|(simp[e,e2, *];done)|(simp_all[e,e2];done))|(refine zau rfl ?_;(try simp(etaStruct := .none)only[push_cast,zab,seval]);(try simp[e,e2, *]);(try exact wkc)))
 ·try refine xst ?_
  refine cI (fun h2 => ?_) fun h2 => ?_
  ·have e:zbh w l=2:=by unfold zbh;rw[if_neg (by simpa using h1),if_pos (by omega)]
   try refine xst ?_
   (first|(refine zau rfl (Wk.of ?_);(try simp(etaStruct := .none)only[push_cast,zab,seval]);first|done|(simp[e,e2, *];done)|(simp_all[e,e2];done))|(refine zau rfl ?_;(try simp(etaStruct := .none)only[push_cast,zab,seval]);(try simp[e,e2, *]);(try exact wkc)))
  ·exact absurd (by unfold zbh;rw[if_neg (by simpa using h1),if_neg (by omega)]) h
end Go.Proofs.YtmjbgbmegbkmhaaGreat
namespace Go.Proofs.YtmjbgbmegbkmhaaGreat
set_option linter.all false
open Go.RowKit
set_option maxRecDepth 100000
set_option maxHeartbeats 1000000
def zbu (x:Nod):List PV := [pI x.c.x,pI x.c.y,pI x.far,pI x.all]
theorem zqz (x:Nod):zbu x = [pI x.c.x,pI x.c.y,pI x.far,pI x.all]:=rfl
abbrev yd8 (x:Nod):AV := .agg [I .i64 x.c.x,I .i64 x.c.y,I .i64 x.far,I .i64 x.all]
theorem zqx (l:List Nod):Spec Tryz.prog 190 [.c (.sl 4 (l.map zbu))] [] (I .i64 l.length) []:=by
 refine spB Tryz.func190 5 [.tmp 2] Tryz.results190 ?_
 try refine xst ?_
 exact xrz rfl
theorem zoe (l:List Nod) (i j:Nat) (hi:i<l.length) (hj:j<l.length):Spec Tryz.prog 216 [.c (.sl 4 (l.map zbu)),I .i64 i,I .i64 j] [] (B (decide ((l.getD i default).all<(l.getD j default).all))) []:=by
 refine spB Tryz.func216 18 [.tmp 6] Tryz.results216 ?_
 try refine xz3 (gd hi) (gd hj) zqz ?_
 (try(refine⟨by kernel_rfl,?_⟩))
 try refine xz3 (gd hi) (gd hj) zqz ?_
 exact xrz rfl
theorem zob (l:List Nod) (i j:Nat) (hi:i<l.length) (hj:j<l.length):Spec Tryz.prog 217 [.own 0,I .i64 i,I .i64 j] [.row 327 4 (l.map zbu)] (.tup []) [.row 327 4 ((zc5 l i j).map zbu)]:=by
 have hj2:j<(l.set i (l.getD j default)).length:=by rw[List.length_set];exact hj
 refine spB Tryz.func217 20 [] Tryz.results217 ?_
 try refine xz3 (gd hi) (gd hj) zqz ?_
 (try(refine⟨by kernel_rfl,?_⟩))
 try refine xz3 (gd hi) (gd hj) zqz ?_
 refine zby [0] rfl rfl (by decide) ⟨?_,trivial⟩ trivial ?_<;>simp(etaStruct := .none)only[push_cast,zab,seval,zc5,←List.map_set,List.length_map,List.map_set,zbu]
theorem z52 (f:Fld) (b:Cel) (far:List Int)(l:List Nod) (x:Nod) (hl:l.length≤1000000):Spec Tryz.prog 219 [.ptr 0 0 6,.ifc 327 (yd8 x)] [.blk 300 [I .i64 f.w,I .i64 f.h,.c (.sl 1 (f.p.map zac)),I .i64 b.x,I .i64 b.y,.own 1,.own 2],.row 3 1 (far.map zac),.row 327 4 (l.map zbu)] (.tup []) [.blk 300 [I .i64 f.w,I .i64 f.h,.c (.sl 1 (f.p.map zac)),I .i64 b.x,I .i64 b.y,.own 1,.own 3],.row 3 1 (far.map zac),.dead,.row 327 4 ((l ++ [x]).map zbu)]:=by
 refine spB Tryz.func219 13 [] Tryz.results219 ?_
 try refine xst ?_
 (try(refine⟨by kernel_rfl,?_⟩))
 try refine xst ?_
 refine zby [0,1,2,31] rfl rfl (by decide) ⟨?_,?_,?_,?_,trivial⟩ trivial ?_<;>simp(etaStruct := .none)only[push_cast,zab,seval,List.map_append,zbu]
theorem ybl (f:Fld) (b:Cel) (far:List Int)(l:List Nod) (n:Nat) (hn:l.length=n+1) (hl:l.length≤1000001):Spec Tryz.prog 218 [.ptr 0 0 6] [.blk 300 [I .i64 f.w,I .i64 f.h,.c (.sl 1 (f.p.map zac)),I .i64 b.x,I .i64 b.y,.own 1,.own 2],.row 3 1 (far.map zac),.row 327 4 (l.map zbu)] (.ifc 327 (yd8 (l.getD n default))) [.blk 300 [I .i64 f.w,I .i64 f.h,.c (.sl 1 (f.p.map zac)),I .i64 b.x,I .i64 b.y,.own 1,.own 3],.row 3 1 (far.map zac),.dead,.row 327 4 ((l.take n).map zbu)]:=by
 have hlt:n<l.length:=by omega
 have e1:IntKind.i64.wrap ((l.length:Int)-1)=(n:Int):=by rw[zak _ (by omega) (by omega)];omega
 refine spB Tryz.func218 23 [.tmp 2] Tryz.results218 ?_
 try refine xz3 e1 (gd hlt) zqz ?_
 refine zf0 (To.cutC 0 6 2 n 327 4 300 _ (l.map zbu) rfl rfl rfl (by rw[List.length_map];omega)) ?_
 refine zby [0,1,2,4] rfl rfl (by decide) ⟨?_,?_,?_,?_,trivial⟩ trivial ?_<;>simp(etaStruct := .none)only[push_cast,zab,seval,List.map_take,List.set_cons_zero,List.set_cons_succ]
theorem yfm (f:Fld) (b:Cel) (far:List Int)(l:List Nod) (j:Nat) (hj:j<l.length) (hl:l.length≤1000001):Spec Tryz.prog 196 [.ifc 325 (.ptr 0 0 6),I .i64 j] [.blk 300 [I .i64 f.w,I .i64 f.h,.c (.sl 1 (f.p.map zac)),I .i64 b.x,I .i64 b.y,.own 1,.own 2],.row 3 1 (far.map zac),.row 327 4 (l.map zbu)] (.tup []) [.blk 300 [I .i64 f.w,I .i64 f.h,.c (.sl 1 (f.p.map zac)),I .i64 b.x,I .i64 b.y,.own 1,.own 2],.row 3 1 (far.map zac),.row 327 4 ((hup Nod.all l j).map zbu)]:=by
 refine spB Tryz.func196 23 [] Tryz.results196 ?_
 try refine xz1 zej ?_
 refine zax (fun x:List Nod × Nat=>⟨[(1,I .i64 x.2),(0,.ifc 325 (.ptr 0 0 6))],[(0,.blk 300 [I .i64 f.w,I .i64 f.h,.c (.sl 1 (f.p.map zac)),I .i64 b.x,I .i64 b.y,.own 1,.own 2]),(1,.row 3 1 (far.map zac)),(2,.row 327 4 (x.1.map zbu))],3⟩) (fun x:List Nod × Nat=>x.2<x.1.length∧x.1.length≤1000001∧hup Nod.all x.1 x.2=hup Nod.all l j) (fun x:List Nod × Nat=>x.2) ((l,j)) (⟨hj,hl,rfl⟩) (To.mk [0,1,2] rfl rfl (by decide) ?_ ?_) ?_
 ·simp(etaStruct := .none)only[push_cast,zab,seval]
 ·simp(etaStruct := .none)only[push_cast,zab,seval]
 rintro⟨m,i⟩ ⟨hi,hm,hu⟩
 simp only at hi hm hu
 have lp:par i≤i:=by simp only[par];omega
 have hp:par i<m.length:=by omega
 try refine xz1 zej ?_
 refine zjz (fun hcc=>zoe m i (par i) hi hp) (WkL.refl _) rfl (by intro hc;(try simp(etaStruct := .none)only[push_cast,zab,seval]);(try simp_all)) ?_
 try refine xz1 zej ?_
 refine cI (fun h1 => ?_) fun h1 => ?_
 ·have e:hup Nod.all m i=m:=by
   rw[hup,if_pos]
   rcases h1 with h|h
   ·exact .inl (by omega)
   ·exact .inr (by omega)
  rw[←hu,e]
  try refine xz1 zej ?_
  refine zby [0,1,2] rfl rfl (by decide) ⟨?_,?_,?_,trivial⟩ trivial ?_<;>simp(etaStruct := .none)only[push_cast,zab,seval]
 ·have e:hup Nod.all m i=hup Nod.all (zc5 m (par i) i) (par i):=by rw[hup,if_neg];rintro (h|h)<;>omega
  have lt:par i<i:=by omega
  try refine xz1 zej ?_
  refine caM [2] (zob m (par i) i hp hi) ?_
  try refine xz1 zej ?_
  refine⟨(zc5 m (par i) i,par i),⟨by rw[zap];exact hp,by rw[zap];exact hm,by rw[←hu,e]⟩,lt,To.mk [0,1,2] rfl rfl (by decide) ?_ ?_⟩
  ·(try(refine xz1 zej ?_;try exact xtI))
  ·(try(refine xz1 zej ?_;try exact xtI))
theorem z56 (f:Fld) (b:Cel) (far:List Int)(l:List Nod) (x:Nod) (hl:l.length≤1000000):Spec Tryz.prog 189 [.ifc 325 (.ptr 0 0 6),.ifc 327 (yd8 x)] [.blk 300 [I .i64 f.w,I .i64 f.h,.c (.sl 1 (f.p.map zac)),I .i64 b.x,I .i64 b.y,.own 1,.own 2],.row 3 1 (far.map zac),.row 327 4 (l.map zbu)] (.tup []) [.blk 300 [I .i64 f.w,I .i64 f.h,.c (.sl 1 (f.p.map zac)),I .i64 b.x,I .i64 b.y,.own 1,.own 3],.row 3 1 (far.map zac),.dead,.row 327 4 ((zdr Nod.all l x).map zbu)]:=by
 have hlen:(l ++ [x]).length=l.length+1:=by simp
 have e1:IntKind.i64.wrap (((l ++ [x]).length:Int)-1)=(l.length:Int):=by rw[zak _ (by omega) (by omega)];omega
 refine spB Tryz.func189 12 [] Tryz.results189 ?_
 try refine xz1 e1 ?_
 refine caM [0,1,2] (z52 f b far l x hl) ?_
 try refine xz1 e1 ?_
 refine zcd (zqx (l ++ [x])) (WkL.refl _) rfl ?_
 try refine xz1 e1 ?_
 refine caM [0,1,3] (yfm f b far (l ++ [x]) l.length (by omega) (by omega)) ?_
 try refine xz1 e1 ?_
 refine zby [0,1,2,3] rfl rfl (by decide) ⟨?_,?_,?_,?_,trivial⟩ trivial ?_<;>simp(etaStruct := .none)only[push_cast,zab,seval,zdr]
theorem ybx (f:Fld) (b:Cel) (far:List Int)(l:List Nod) (n:Nat) (hn:n≤l.length) (hl:l.length≤1000001):Spec Tryz.prog 197 [.ifc 325 (.ptr 0 0 6),I .i64 0,I .i64 n] [.blk 300 [I .i64 f.w,I .i64 f.h,.c (.sl 1 (f.p.map zac)),I .i64 b.x,I .i64 b.y,.own 1,.own 2],.row 3 1 (far.map zac),.row 327 4 (l.map zbu)] .undef [.blk 300 [I .i64 f.w,I .i64 f.h,.c (.sl 1 (f.p.map zac)),I .i64 b.x,I .i64 b.y,.own 1,.own 2],.row 3 1 (far.map zac),.row 327 4 ((hdn Nod.all l 0 n).map zbu)]:=by
 refine spB Tryz.func197 48 [.tmp 6] Tryz.results197 ?_
 try refine xst ?_
 refine zax (fun x:List Nod × Nat=>⟨[(7,I .i64 x.2),(2,I .i64 n),(1,I .i64 0),(0,.ifc 325 (.ptr 0 0 6))],[(0,.blk 300 [I .i64 f.w,I .i64 f.h,.c (.sl 1 (f.p.map zac)),I .i64 b.x,I .i64 b.y,.own 1,.own 2]),(1,.row 3 1 (far.map zac)),(2,.row 327 4 (x.1.map zbu))],3⟩) (fun x:List Nod × Nat=>x.2≤n∧n≤x.1.length∧x.1.length≤1000001∧hdn Nod.all x.1 x.2 n=hdn Nod.all l 0 n) (fun x:List Nod × Nat=>n-x.2) ((l,0)) (⟨Nat.zero_le _,hn,hl,rfl⟩) (To.mk [0,1,2] rfl rfl (by decide) ?_ ?_) ?_
 ·simp(etaStruct := .none)only[push_cast,zab,seval]
 ·simp(etaStruct := .none)only[push_cast,zab,seval]
 rintro⟨m,i⟩ ⟨hi,hm,hm2,hu⟩
 simp only at hi hm hm2 hu
 obtain⟨a,ha⟩:∃a:Nat,a=2*i+1:=⟨_,rfl⟩
 obtain⟨b,hb⟩:∃b:Nat,b=2*i+2:=⟨_,rfl⟩
 have e1:IntKind.i64.wrap (IntKind.i64.wrap (2*(i:Int))+1)=(a:Int):=by rw[zak (2*_) (by omega) (by omega),zak _ (by omega) (by omega)];omega
 have e2:IntKind.i64.wrap ((a:Int)+1)=(b:Int):=by rw[zak _ (by omega) (by omega)];omega
 simp(etaStruct := .none)only[push_cast,zab,seval,e1,e2]
 try refine xst ?_
 refine cI (fun h1 => ?_) fun h1 => ?_
 ·have e:hdn Nod.all m i n=m:=by rw[hdn,if_pos];exact .inl (by omega)
  rw[←hu,e]
  try refine xst ?_
  refine zby [0,1,2] rfl rfl (by decide) ⟨?_,?_,?_,trivial⟩ trivial (Wk.undef _)<;>simp(etaStruct := .none)only[push_cast,zab,seval]
 ·try refine xz2 e1 e2 ?_
  refine zjz (fun hcc=>zoe m b a (by simp only[decide_eq_true_eq]at hcc;omega) (by omega)) (WkL.refl _) rfl (by intro hc;(try simp(etaStruct := .none)only[push_cast,zab,seval]);(try simp_all)) ?_
  try refine xz2 e1 e2 ?_
  refine cI (fun h2 => ?_) fun h2 => ?_
  ·have ek:kid Nod.all m i n=b:=by unfold kid;rw[←ha,←hb,if_pos ⟨by omega,h2.2⟩]
   try refine xz2 e1 e2 ?_
   refine zcd (zoe m b i (by omega) (by omega)) (WkL.refl _) rfl ?_
   try refine xz2 e1 e2 ?_
   refine cI (fun h3 => ?_) fun h3 => ?_
   ·have e:hdn Nod.all m i n=m:=by rw[hdn,if_pos];rw[ek];exact .inr (by omega)
    rw[←hu,e]
    try refine xz2 e1 e2 ?_
    refine zby [0,1,2] rfl rfl (by decide) ⟨?_,?_,?_,trivial⟩ trivial (Wk.undef _)<;>simp(etaStruct := .none)only[push_cast,zab,seval]
   ·have e:hdn Nod.all m i n=hdn Nod.all (zc5 m i b) b n:=by rw[hdn,if_neg,ek];rw[ek];rintro (h|h)<;>omega
    try refine xz2 e1 e2 ?_
    refine caM [2] (zob m i b (by omega) (by omega)) ?_
    try refine xz2 e1 e2 ?_
    refine⟨(zc5 m i b,b),⟨by simp only;omega,by rw[zap];exact hm,by rw[zap];exact hm2,by rw[←hu,e]⟩,by simp only;omega,To.mk [0,1,2] rfl rfl (by decide) ?_ ?_⟩
    ·(try(refine xz2 e1 e2 ?_;try exact xtI))
    ·(try(refine xz2 e1 e2 ?_;try exact xtI))
  ·have ek:kid Nod.all m i n=a:=by unfold kid;rw[←ha,←hb,if_neg (fun h=>by have:=h.1;have:=h.2;omega)]
   try refine xz2 e1 e2 ?_
   refine zcd (zoe m a i (by omega) (by omega)) (WkL.refl _) rfl ?_
   try refine xz2 e1 e2 ?_
   refine cI (fun h4 => ?_) fun h4 => ?_
   ·have e:hdn Nod.all m i n=m:=by rw[hdn,if_pos];rw[ek];exact .inr (by omega)
    rw[←hu,e]
    try refine xz2 e1 e2 ?_
    refine zby [0,1,2] rfl rfl (by decide) ⟨?_,?_,?_,trivial⟩ trivial (Wk.undef _)<;>simp(etaStruct := .none)only[push_cast,zab,seval]
   ·have e:hdn Nod.all m i n=hdn Nod.all (zc5 m i a) a n:=by rw[hdn,if_neg,ek];rw[ek];rintro (h|h)<;>omega
    try refine xz2 e1 e2 ?_
    refine caM [2] (zob m i a (by omega) (by omega)) ?_
    try refine xz2 e1 e2 ?_
    refine⟨(zc5 m i a,a),⟨by simp only;omega,by rw[zap];exact hm,by rw[zap];exact hm2,by rw[←hu,e]⟩,by simp only;omega,To.mk [0,1,2] rfl rfl (by decide) ?_ ?_⟩
    ·(try(refine xz2 e1 e2 ?_;try exact xtI))
    ·(try(refine xz2 e1 e2 ?_;try exact xtI))
theorem ybv (f:Fld) (b:Cel) (far:List Int)(l:List Nod) (h0:0<l.length) (hl:l.length≤1000001):Spec Tryz.prog 191 [.ifc 325 (.ptr 0 0 6)] [.blk 300 [I .i64 f.w,I .i64 f.h,.c (.sl 1 (f.p.map zac)),I .i64 b.x,I .i64 b.y,.own 1,.own 2],.row 3 1 (far.map zac),.row 327 4 (l.map zbu)] (.ifc 327 (yd8 (l.getD 0 default))) [.blk 300 [I .i64 f.w,I .i64 f.h,.c (.sl 1 (f.p.map zac)),I .i64 b.x,I .i64 b.y,.own 1,.own 3],.row 3 1 (far.map zac),.dead,.row 327 4 ((zfy Nod.all l).map zbu)]:=by
 obtain⟨n,hn⟩:∃n,l.length=n+1:=⟨l.length-1,by omega⟩
 have e1:IntKind.i64.wrap ((l.length:Int)-1)=(n:Int):=by rw[zak _ (by omega) (by omega)];omega
 have e2:=zrl Nod.all l h0
 have e3:zfy Nod.all l=(hdn Nod.all (zc5 l 0 n) 0 n).take n:=by unfold zfy;rw[hn];rfl
 rw[hn,Nat.add_sub_cancel]at e2
 rw[←e2,e3]
 refine spB Tryz.func191 15 [.tmp 2] Tryz.results191 ?_
 try refine xz1 e1 ?_
 refine zcd (zqx l) (WkL.refl _) rfl ?_
 try refine xz1 e1 ?_
 refine caM [2] (zob l 0 n h0 (by omega)) ?_
 try refine xz1 e1 ?_
 refine caM [0,1,2] (ybx f b far (zc5 l 0 n) n (by rw[zap];omega) (by rw[zap];omega)) ?_
 try refine xz1 e1 ?_
 refine caM [0,1,2] (ybl f b far (hdn Nod.all (zc5 l 0 n) 0 n) n (by rw[zoy,zap];exact hn) (by rw[zoy,zap];exact hl)) ?_
 try refine xz1 e1 ?_
 refine zby [0,1,2,3] rfl rfl (by decide) ⟨?_,?_,?_,?_,trivial⟩ trivial ?_<;>simp(etaStruct := .none)only[push_cast,zab,seval]
end Go.Proofs.YtmjbgbmegbkmhaaGreat
