/- Lemmas for the proof of topMist.proved. -/
import Derived.Test.YtmjbgbmegbkmhaaGreatTMi8
namespace Go.Proofs.YtmjbgbmegbkmhaaGreat
set_option linter.all false
open Go.RowKit
set_option maxRecDepth 100000
set_option maxHeartbeats 1000000
theorem z6m {α : Type} (l:List α) (p q : α → Bool) (h:∀x,q x=true→p x=true):(l.filter p).any q=l.any q:=by
 induction l with
 | nil=>rfl
 | cons a l ih =>
  rw[List.filter_cons]
  split
  ·rw[List.any_cons,List.any_cons,ih]
  ·rename_i hp
   rw[List.any_cons,ih]
   cases hq:q a with
   | true=>exact absurd (h a hq) hp
   | false=>rfl
theorem zzb (w:Wld) (p:Int) (c:Cel):zt2 w p c=(zfq w.f (w.bases.getD p.toNat default) 3 c||w.troops.any fun t=>decide (t.owner=p)&&zfq w.f t.c 5 c):=by
 unfold zt2 z8z;rw[List.take_length]
theorem ztz (w:Wld) (p:Int) (c:Cel):zt2 (zcr w p) p c=zt2 w p c:=by
 rw[zzb,zzb]
 show (_||(w.troops.filter (zbr w p)).any _)=_
 rw[z6m]
 ·rfl
 ·intro t ht
  rw[Bool.and_eq_true]at ht
  unfold zbr;rw[ht.1];rfl
theorem zxa (l:List Int) (q:Nat) (x:Int):((List.replicate ((List.replicate l.length (0:Int)).set q x).length 0).set q (((List.replicate l.length 0).set q x).getD q default))=(List.replicate l.length 0).set q x:=by
 rw[List.length_set,List.length_replicate]
 by_cases h:q<l.length
 ·rw[List.getD_eq_getElem?_getD,List.getElem?_set,if_pos rfl,if_pos (by simpa using h)];rfl
 ·rw[List.set_eq_of_length_le (by simp;omega),List.set_eq_of_length_le (by simp;omega)]
theorem zx6 (w:Wld) (p:Int):mvK (zcr w p) p (mvK w p w.mines.length).length=mvK w p w.mines.length:=by
 have hl:=zdo w p w.mines.length
 refine zek (zdo _ _ _) fun i hi => ?_
 rw[zdo]at hi
 have hi:i<w.mines.length:=by rw[←hl];exact hi
 rw[ziz (zcr w p) p _ i (by show i<(mvK w p w.mines.length).length;omega),ztz]
 show (if i<_∧zt2 w p (zb8 w.f.w i)=false then 0 else (mvK w p w.mines.length).getD i default)=_
 split
 ·rename_i h
  rw[ziz w p _ i hi,if_pos ⟨hi,h.2⟩]
 ·rfl
theorem zzc (w:Wld) (p:Int):zcr (zcr w p) p=zcr w p:=by
 have ht:(w.troops.filter (zbr w p)).filter (zbr (zcr w p) p)=w.troops.filter (zbr w p):=by
  have:zbr (zcr w p) p=zbr w p:=by funext t;unfold zbr;rw[ztz]
  rw[this,List.filter_filter]
  congr 1;funext t;exact Bool.and_self _
 have hm:=zx6 w p
 have hs:=zxa w.stocks p.toNat (w.stocks.getD p.toNat default)
 show Wld.mk _ _ _ (mvK (zcr w p) p (mvK w p w.mines.length).length) _ _ _=_
 rw[hm]
 show Wld.mk _ _ ((List.replicate ((List.replicate w.stocks.length (0:Int)).set p.toNat (w.stocks.getD p.toNat default)).length 0).set p.toNat (((List.replicate w.stocks.length 0).set p.toNat (w.stocks.getD p.toNat default)).getD p.toNat default)) _ ((w.troops.filter (zbr w p)).filter (zbr (zcr w p) p)) (zjl ((w.troops.filter (zbr w p)).filter (zbr (zcr w p) p))) _=_
 rw[hs,ht]
 rfl
theorem zt4 (w:Wld) (p:Int):zcr (zgt w) p=zgt (zcr w p):=rfl
theorem zqw (f:Fld) (WR:Cel→List Int) (ts:List Trp):∀k,zdt f WR [] ts k=(ts,[])
 | 0=>rfl
 | k+1=>by
  rw[zff,zqw f WR ts k]
  rfl
theorem zt8 {w:Wld} (WR:Cel→List Int) (h:Right w):zd6 WR w []=zgt w:=by
 unfold zd6
 congr 1
 unfold tkC
 show (za9 (tkB WR w []) []).1=w
 show tkB WR w []=w
 unfold tkB
 have hA:tkA w []=w:=zmt h
 rw[hA]
 show zz3 w (zdt w.f WR [] w.troops w.troops.length).1=w
 rw[zqw]
 rfl
theorem zpl {w:Wld} (h:Right w) (hn:w.now<1000000):zbo [] w=0:=by
 have hs:zb4 [] w=0:=by
  unfold zb4
  rw[h.e]
  rfl
 unfold zbo
 rw[hs,if_neg (fun x=>x rfl),if_neg (by omega)]
theorem zst {w:Wld} (h:Right w):w.troops.Pairwise fun a b=>a.id<b.id∧a.c≠b.c:=by
 rw[List.pairwise_iff_getElem]
 intro i j hi hj hij
 have:=h.ord i j hij hj
 rw[zac _ _ hi,zac _ _ hj]at this
 exact this
theorem z1s {w:Wld} {l:List Trp} (hp:l.Pairwise fun a b=>a.id<b.id∧a.c≠b.c):∀t∈l,t.id≤zjl l-1:=by
 intro t ht
 obtain⟨i,hi,rfl⟩:=List.getElem_of_mem ht
 obtain⟨n,hn⟩:∃n,l.length=n+1:=⟨l.length-1,by omega⟩
 rw[znd l n hn,zac _ _ (by omega)]
 rcases Nat.lt_or_ge i n with h|h
 ·have:=List.pairwise_iff_getElem.1 hp i n hi (by omega) h
  omega
 ·have e:i=n:=by omega
  subst e;omega
theorem zw5 {w:Wld} {p:Int} (h:Right w) (hp:0≤p∧p<w.bases.length):Right (zcr w p):=by
 have hP:=zst h
 have hF:(w.troops.filter (zbr w p)).Pairwise fun a b=>a.id<b.id∧a.c≠b.c:=hP.filter _
 have hmem:∀t∈w.troops.filter (zbr w p),TrpOk w t:=fun t ht=>by
  obtain⟨i,hi,rfl⟩:=List.getElem_of_mem (List.mem_filter.1 ht).1
  have:=h.trp i hi
  rwa [zac _ _ hi]at this
 have hlast:1≤zjl (w.troops.filter (zbr w p))∧zjl (w.troops.filter (zbr w p))≤1000000:=by
  unfold zjl
  split
  ·rename_i t ht
   have:=(hmem t (List.mem_of_getLast? ht)).id
   have:=h.nx
   omega
  ·decide
 have hsl:=h.sl
 refine⟨h.f,h.nb,Nat.le_trans (List.length_filter_le _ _) h.nt,?_,?_,hlast,h.nw,fun i hi => ?_,fun i hi => ?_,fun k hk => ?_,fun j k hjk hk => ?_⟩
 ·show ((List.replicate w.stocks.length (0:Int)).set _ _).length=w.bases.length
  rw[List.length_set,List.length_replicate];exact h.sl
 ·show (mvK w p w.mines.length).length=_
  rw[zdo];exact h.ml
 ·have hi:i<w.bases.length:=hi
  obtain⟨a1,a2,a3⟩:=h.base i hi
  refine⟨a1,?_,a3⟩
  have e:((List.replicate w.stocks.length (0:Int)).set p.toNat (w.stocks.getD p.toNat default)).getD i default=if p.toNat=i then w.stocks.getD i default else 0:=by
   rw[List.getD_eq_getElem?_getD,List.getElem?_set]
   by_cases hpi:p.toNat=i
   ·rw[if_pos hpi,if_pos hpi,if_pos (by rw[List.length_replicate];omega),hpi];rfl
   ·rw[if_neg hpi,if_neg hpi,List.getElem?_replicate,if_pos (by omega)];rfl
  show 0≤((List.replicate w.stocks.length (0:Int)).set p.toNat (w.stocks.getD p.toNat default)).getD i default∧((List.replicate w.stocks.length (0:Int)).set p.toNat (w.stocks.getD p.toNat default)).getD i default≤1000000
  rw[e]
  split
  ·exact a2
  ·decide
 ·have hi:i<w.mines.length:=by rw[←zdo w p w.mines.length];exact hi
  obtain⟨a1,a2⟩:=h.mine i hi
  show (0≤(mvK w p w.mines.length).getD i default∧(mvK w p w.mines.length).getD i default≤1000000)∧((mvK w p w.mines.length).getD i default=0∨w.f.p.getD i default=3)
  rw[ziz w p _ i hi]
  split
  ·exact⟨by decide,.inl rfl⟩
  ·exact⟨a1,a2⟩
 ·have hk:k<(w.troops.filter (zbr w p)).length:=hk
  have ok:=hmem _ (zaz _ k hk)
  have hid:=z1s (w:=w) hF _ (zaz _ k hk)
  exact⟨ok.kind,⟨ok.id.1,hid⟩,ok.owner,ok.at_,ok.x,ok.y,ok.life,ok.load⟩
 ·have hk:k<(w.troops.filter (zbr w p)).length:=hk
  have:=List.pairwise_iff_getElem.1 hF j k (by omega) hk hjk
  show ((w.troops.filter (zbr w p)).getD j default).id<((w.troops.filter (zbr w p)).getD k default).id∧((w.troops.filter (zbr w p)).getD j default).c≠((w.troops.filter (zbr w p)).getD k default).c
  rw[zac _ _ (by omega),zac _ _ hk]
  exact this
end Go.Proofs.YtmjbgbmegbkmhaaGreat
namespace Go.Proofs.YtmjbgbmegbkmhaaGreat
set_option linter.all false
open Go.RowKit
set_option maxRecDepth 100000
set_option maxHeartbeats 2000000
theorem zvj {w:Wld} {p:Int} (h:zam w=0) (hp:0≤p∧p<w.bases.length):zes w p=0:=by
 unfold zes
 rw[if_neg (fun x=>x h),if_neg]
 rw[(within_iff).2 (by omega)];decide
theorem zsk (w:Wld) (hl:ze8 w):Spec Tryz.prog 15 [zcx w,zcx w] [] (B true) []:=by
 have:=zsl w w hl hl
 rwa [decide_eq_true rfl]at this
theorem zzl (w:Wld) (p:Int) (WR:Cel→List Int) (hWR:∀a,zas w.f [a] (WR a)) (hl:ze8 w) (h0:zes w p=0) (hn:w.now<1000000):Spec Tryz.prog 4 [zcx w,I .i64 p] [] (B true) []:=by
 have V0:=zoc w p hl
 obtain⟨a1,a2⟩:=z1e h0
 have R:=zcn a1
 have RV:=zw5 R a2
 have T1:=zkl w [] WR hWR hl (by simp)
 have T2:=zkl (zcr w p) [] WR hWR RV.l (by simp)
 have E1:=zpl R hn
 have E2:=zpl RV hn
 have X1:zjr WR w []=zgt w:=by
  rw[show zjr WR w []=zd6 WR w []from if_pos E1]
  exact zt8 WR R
 have X2:zjr WR (zcr w p) []=zgt (zcr w p):=by
  rw[show zjr WR (zcr w p) []=zd6 WR (zcr w p) []from if_pos E2]
  exact zt8 WR RV
 have RU1:=zha R hn
 have RU2:=zha RV hn
 have M1:zes (zgt w) p=0:=zvj RU1.e a2
 have M2:zes (zgt (zcr w p)) p=0:=zvj RU2.e a2
 have V1:=zoc (zgt w) p RU1.l
 have V2:=zoc (zgt (zcr w p)) p RU2.l
 rw[if_pos M1,M1,zt4]at V1
 rw[if_pos M2,M2,zt4,zzc]at V2
 rw[if_pos h0,h0]at V0
 rw[X1,E1]at T1
 rw[X2,E2]at T2
 have SW:=zsk (zgt (zcr w p)) RU2.l
 clear X1 X2 E1 E2 M1 M2 RU1 RU2 hWR
 generalize zgt (zcr w p)=v2 at *
 generalize zcr w p=v at *
 generalize zgt w=u at *
 refine spB Tryz.func4 78 [.tmp 4] Tryz.results4 ?_
 (iterate 2((try simp(etaStruct := .none)only[push_cast,seval]);(try(refine xsu ?_;try exact xtI))))
 refine caP (V0) ?_
 (iterate 2((try simp(etaStruct := .none)only[push_cast,seval]);(try(refine xsu ?_;try exact xtI))))
 refine caP (zs4) ?_
 (iterate 2((try simp(etaStruct := .none)only[push_cast,seval]);(try(refine xsu ?_;try exact xtI))))
 refine cI (fun h1 => ?_) fun h1 => ?_
 ·omega
 ·(iterate 2((try simp(etaStruct := .none)only[push_cast,seval]);(try(refine xsu ?_;try exact xtI))))
  refine zdl (T1) (by exact⟨Wk.refl _,Wk.nil _,trivial⟩) ?_
  (iterate 2((try simp(etaStruct := .none)only[push_cast,seval]);(try(refine xsu ?_;try exact xtI))))
  refine zdl (T2) (by exact⟨Wk.refl _,Wk.nil _,trivial⟩) ?_
  (iterate 2((try simp(etaStruct := .none)only[push_cast,seval]);(try(refine xsu ?_;try exact xtI))))
  refine caP (V1) ?_
  (iterate 2((try simp(etaStruct := .none)only[push_cast,seval]);(try(refine xsu ?_;try exact xtI))))
  refine caP (V2) ?_
  (iterate 2((try simp(etaStruct := .none)only[push_cast,seval]);(try(refine xsu ?_;try exact xtI))))
  refine gcP (fun hcc=>SW) ?_
  (iterate 2((try simp(etaStruct := .none)only[push_cast,seval]);(try(refine xsu ?_;try exact xtI))))
  exact xrz rfl
theorem zzk (w:Wld) (p:Int) (hl:ze8 w) (h0:¬(zes w p=0∧w.now<1000000)):Spec Tryz.prog 4 [zcx w,I .i64 p] [] (B true) []:=by
 have V0:=zoc w p hl
 generalize (if zes w p=0 then zcr w p else default)=v at *
 generalize zes w p=e at *
 refine spB Tryz.func4 78 [.tmp 4] Tryz.results4 ?_
 (iterate 2((try simp(etaStruct := .none)only[push_cast,seval]);(try(refine xsu ?_;try exact xtI))))
 refine caP (V0) ?_
 (iterate 2((try simp(etaStruct := .none)only[push_cast,seval]);(try(refine xsu ?_;try exact xtI))))
 refine caP (zs4) ?_
 (iterate 2((try simp(etaStruct := .none)only[push_cast,seval]);(try(refine xsu ?_;try exact xtI))))
 refine cI (fun h1 => ?_) fun h1 => ?_
 ·(iterate 2((try simp(etaStruct := .none)only[push_cast,seval]);(try(refine xsu ?_;try exact xtI))))
  refine caP (zs4) ?_
  (iterate 2((try simp(etaStruct := .none)only[push_cast,seval]);(try(refine xsu ?_;try exact xtI))))
  exact xrz rfl
 ·omega
end Go.Proofs.YtmjbgbmegbkmhaaGreat
namespace Go.Proofs.YtmjbgbmegbkmhaaGreat
set_option linter.all false
open Go.RowKit Go.ChangeShapes Go.WideShapes Go.ChangeAt
def RelCs (w:World) (ps:List PV) (cs:List Value):Prop:=∀(j:Nat) p u,ps[j]? = some p→cs[j]? = some u→RelP w (· < w.heap.size) p u
theorem RelCs.nil {w:World} : RelCs w [] []:=fun j p u h=>by simp at h
theorem RelCs.cons {w:World} {p:PV} {u:Value} {ps:List PV} {cs:List Value} (h:RelP w (· < w.heap.size) p u) (h':RelCs w ps cs):RelCs w (p::ps) (u::cs):=by
 intro j q v h1 h2
 cases j with
 | zero=>simp at h1 h2;subst h1 h2;exact h
 | succ j=>exact h' j q v (by simpa using h1) (by simpa using h2)
theorem RelCs.append {w:World} : ∀ {ps qs:List PV} {cs ds:List Value},ps.length=cs.length→RelCs w ps cs→RelCs w qs ds→RelCs w (ps++qs) (cs++ds)
 | [],_,[],_,_,_,h=>h
 | [],_,_::_,_,hl,_,_=>by simp at hl
 | _::_,_,[],_,hl,_,_=>by simp at hl
 | p::ps,qs,c::cs,ds,hl,h,h'=>by
  refine RelCs.cons (h 0 p c rfl rfl) (RelCs.append (by simpa using hl) (fun j q v h1 h2=>h (j+1) q v (by simpa using h1) (by simpa using h2)) h')
def OpA (P:Program) (T sz:Nat) (w:World) {α : Type} (pv : α → List PV) (ok : α → Prop):Prop :=
 ∃(β : Type) (enc : β → List Value) (okb : β → Prop) (f : β → α),Opens P T sz w enc okb∧∀y,okb y→ok (f y)∧(pv (f y)).length=sz∧(enc y).length=sz∧RelCs w (pv (f y)) (enc y)
section
variable {P : Program} {T : Nat} {w : World}
theorem OpA.i64 (h:P.underlying T=some (.int .i64)):OpA P T 1 w zad zik :=
 ⟨_,_,_,id,Opens.i64 h,fun y hy=>⟨hy,rfl,rfl,.cons (zqc rfl) .nil⟩⟩
theorem OpA.u64 (h:P.underlying T=some (.int .u64)):OpA P T 1 w zme (fun n=>n<18446744073709551616) :=
 ⟨_,_,_,id,Opens.u64 h,fun y hy=>⟨hy,rfl,rfl,.cons (zqc rfl) .nil⟩⟩
def yjt (n:Nat):List PV := [.v (.int .u32 n)]
theorem OpA.u32 (h:P.underlying T=some (.int .u32)):OpA P T 1 w yjt (fun n=>n<4294967296) :=
 ⟨_,_,_,id,Opens.u32 h,fun y hy=>⟨hy,rfl,rfl,.cons (zqc rfl) .nil⟩⟩
theorem OpA.bool (h:P.underlying T=some .bool):OpA P T 1 w zcu (fun _=>True) :=
 ⟨_,_,_,id,Opens.bool h,fun y hy=>⟨hy,rfl,rfl,.cons (zqc rfl) .nil⟩⟩
theorem OpA.str (h:P.underlying T=some .string):OpA P T 1 w ydm (fun s=>s.size≤140737488351232) :=
 ⟨_,_,_,id,Opens.str h,fun y hy=>⟨hy,rfl,rfl,.cons (zqc rfl) .nil⟩⟩
theorem OpA.map {sz:Nat} {α β : Type} {pv : α → List PV} {ok : α → Prop} {pv' : β → List PV} {ok' : β → Prop} (h:OpA P T sz w pv ok) (f : α → β) (hf:∀x,pv' (f x)=pv x) (hok:∀x,ok x→ok' (f x)):OpA P T sz w pv' ok':=by
 obtain⟨γ,enc,okb,g,h1,h2⟩:=h
 exact⟨γ,enc,okb,fun y=>f (g y),h1,fun y hy=>by obtain⟨a,b,c,d⟩:=h2 y hy;exact⟨hok _ a,by rw[hf];exact b,c,by rw[hf];exact d⟩⟩
theorem OpA.slice {E sz bts:Nat} {α : Type} {pv : α → List PV} {ok : α → Prop} (hT:P.underlying T=some (.slice E)) (hc:P.cellsOf E=sz) (hsz:0<sz) (hby:P.bytesOf E=bts) (hE:OpA P E sz w pv ok) :
 OpA P T 1 w (fun xs:List α => [.sl sz (xs.map pv)]) (fun xs=>(∀x∈xs,ok x)∧xs.length*bts≤140737488351232∧xs.length≤9223372036854775807):=by
 obtain⟨γ,enc,okb,g,h1,h2⟩:=hE
 refine⟨_,_,_,fun s=>s.xs.map g,Opens.slice hT hc hsz hby h1,fun s hs=>⟨⟨?_,?_,?_⟩,rfl,rfl,?_⟩⟩
 ·intro x hx
  obtain⟨y,hy,rfl⟩:=List.mem_map.1 hx
  exact(h2 y (hs.each y hy).1).1
 ·have:=hs.reach
  have h3:s.xs.length*bts≤s.c*bts:=Nat.mul_le_mul_right _ hs.cap
  simp only[List.length_map];omega
 ·have h3:=hs.cap;have h4:=hs.max;unfold maxLen at h4;simp only[List.length_map];omega
 ·refine .cons ?_ .nil
  have:=yd3 (pv:=fun y=>pv (g y)) hs fun y hy ho=>by
   obtain⟨_,a,b,d⟩:=h2 y ho
   exact⟨a,d⟩
  simpa[List.map_map,Function.comp_def]using this
def OpAF (P:Program) (w:World) (fs:List Field) (o sz:Nat) {α : Type} (pv : α → List PV) (ok : α → Prop):Prop :=
 ∃(β : Type) (enc : β → List Value) (okb : β → Prop) (f : β → α),OpensF P w fs o sz enc okb∧∀y,okb y→ok (f y)∧(pv (f y)).length=sz∧(enc y).length=sz∧RelCs w (pv (f y)) (enc y)
theorem OpAF.nil {o:Nat} : OpAF P w [] o 0 (fun _:Unit => []) (fun _=>True) :=
 ⟨_,_,_,id,OpensF.nil,fun y hy=>⟨trivial,rfl,rfl,.nil⟩⟩
theorem OpAF.cons {f:Field} {fs:List Field} {o n sz:Nat} {α β : Type} {pv : α → List PV} {ok : α → Prop} {pv' : β → List PV} {ok' : β → Prop}
 (ho:f.offset=o) (hn:P.cellsOf f.type=n) (h:OpA P f.type n w pv ok) (h':OpAF P w fs (o+n) sz pv' ok') :
 OpAF P w (f::fs) o (n+sz) (fun x : α × β => pv x.1++pv' x.2) (fun x=>ok x.1∧ok' x.2):=by
 obtain⟨γ,enc,okb,g,h1,h2⟩:=h
 obtain⟨γ',enc',okb',g',h1',h2'⟩:=h'
 refine⟨_,_,_,fun y=>(g y.1,g' y.2),OpensF.cons ho hn h1 h1',fun y hy => ?_⟩
 obtain⟨a,b,c,d⟩:=h2 y.1 hy.1
 obtain⟨a',b',c',d'⟩:=h2' y.2 hy.2
 exact⟨⟨a,a'⟩,by simp[b,b'],by simp[c,c'],.append (by rw[b,c]) d d'⟩
theorem OpA.struct {sz:Nat} {fs:Array Field} {α : Type} {pv : α → List PV} {ok : α → Prop} (hT:P.underlying T=some (.struct fs)) (hc:P.cellsOf T=sz) (h:OpAF P w fs.toList 0 sz pv ok):OpA P T sz w pv ok:=by
 obtain⟨γ,enc,okb,g,h1,h2⟩:=h
 exact⟨γ,enc,okb,g,Opens.struct hT hc h1,h2⟩
theorem OpA.arg {sz:Nat} {α : Type} {pv : α → List PV} {ok : α → Prop} (h:OpA P T sz w pv ok) {H:Type} {eH:TypeId × Value→H} {v:Value} {d:DataW H} {p:List MemPlace}
 (hT:DataW.Trod eH P w 0 (fun _=>true) true T v d p) {ts:List TypeId} {ds:List (DataW H)} (hz:(DataW.weightsEach P ts ds).all (· ≤ reachBytes)=true) (j:Nat) (h1:ts[j]? = some T) (h2:ds[j]? = some d):∃x : α,ok x∧(pv x).length=v.cells.toList.length∧RelCs w (pv x) v.cells.toList:=by
 obtain⟨γ,enc,okb,g,k1,k2⟩:=h
 obtain⟨y,hy,ho⟩:=Opens.arg k1 hT hz j h1 h2
 obtain⟨a,b,c,e⟩:=k2 y ho
 exact⟨g y,a,by rw[hy,b,c],by rw[hy];exact e⟩
theorem z90 {p:PV} {v:Value} (hv:v.cells = #[v]) (hr:RelCs w [p] v.cells.toList):RelA (· < 0) w (· < w.heap.size) (fun _=>none) (.c p) v :=
 z77 (hr 0 p v rfl (by rw[hv];rfl))
theorem zm0 {U:Nat→Prop} {β : Nat→Option Bind} : ∀ {ps:List PV} {cs:List Value},ps.length=cs.length→RelCs w ps cs→RelL U w (· < w.heap.size) β (ps.map .c) cs
 | [],[],_,_=>zux
 | [],_::_,h,_=>by simp at h
 | _::_,[],h,_=>by simp at h
 | p::ps,c::cs,h,hr=>by
  rw[List.map_cons]
  exact zk8 (z77 (hr 0 p c rfl rfl)) (zm0 (by simpa using h) fun j q v h1 h2=>hr (j+1) q v (by simpa using h1) (by simpa using h2))
theorem z92 {ps:List PV} {v:Value} {cs:List Value} (hv:v = .agg cs.toArray) (hl:ps.length=v.cells.toList.length) (hr:RelCs w ps v.cells.toList):RelA (· < 0) w (· < w.heap.size) (fun _=>none) (.agg (ps.map .c)) v:=by
 subst hv
 have e:(Value.agg cs.toArray).cells.toList=cs:=rfl
 rw[e]at hl hr
 refine z42 (zm0 hl hr) fun x hx => ?_
 obtain⟨j,hj,rfl⟩:=List.getElem_of_mem hx
 exact(hr j ps[j] cs[j] (by simp) (by simp)).one
theorem yal {base:Nat} {k:IntKind} {v:Value} (ht:P.underlying T=some (.int k)) (h:Value.okWide P w .any base T v):v.cells = #[v]:=by obtain⟨n,rfl⟩:=okWide_int ht h;rfl
end
end Go.Proofs.YtmjbgbmegbkmhaaGreat
