/- Lemmas for the proof of deskSays.proved. -/
import Derived.Test.YtgggemkjaccbhaaGreatDoorDSa1
import Derived.MapKept
import Derived.Scope
import Derived.RangeFuncLeaves
import Derived.RangeFuncRecord
import Derived.ControlIn
import Derived.RangeFuncNested
namespace Go.Proofs.YtgggemkjaccbhaaGreatDoor
set_option linter.all false
open Go.RowKit
set_option maxRecDepth 100000
set_option maxHeartbeats 4000000
section
variable {P : Program} {W : World} {N U F : Nat → Prop} {β : Nat → Option Bind} {h hT : Nat → Chunk} {w : World}
def z2q (P:Program) (kt:TypeId) (agg:Bool) (n:Nat):Prop :=
 (agg=false∧n=1∧∃k,P.underlying kt=some (.int k))∨(agg=true∧(∃fs,P.underlying kt=some (.struct fs))∧zex P 9 kt=some (List.replicate n 0))
def ybc (k:List Int):List Value:=k.map (.int .i64)
theorem zjx:∀(a b:List Int),a.length=b.length→zcj (List.replicate a.length 0) (ybc a) (ybc b)=some (decide (a=b))
 | [],[],_=>by simp[zcj,ybc]
 | x::a,y::b,hl=>by
  have hl':a.length=b.length:=by simpa using hl
  have:=zjx a b hl'
  simp only[ybc]at this
  simp only[ybc,List.length_cons,List.replicate_succ,List.map_cons,zcj,zxu,if_true,this]
  rw[oI,Bool.eq_iff_iff];simp
 | [],_::_,hl=>by simp at hl
 | _::_,[],hl=>by simp at hl
theorem zxh {kt:TypeId} {n:Nat} {fs:Array Field} (h:P.underlying kt=some (.struct fs)) (k:List Int):zln true k=mkV P kt (ybc k):=by
 rw[zee h];rfl
theorem zl7 (n:Nat) (k:IntKind) (a:Int):Instr.sameBits n (.int k a) (.int k a)=true:=by cases n<;>simp[Instr.sameBits]
theorem zt7 (n:Nat) (agg:Bool) (k:List Int):Instr.sameBits (n+1) (zln agg k) (zln agg k)=true:=by
 cases agg with
 | false=>exact zl7 _ _ _
 | true =>
  simp only[zln,if_true,Instr.sameBits,bJ,List.all_eq_true]
  refine⟨by simp,fun p hp=>?_⟩
  have key:∀(l:List Int) (p:Value × Value),p∈(l.map (Value.int IntKind.i64)).zip (l.map (Value.int IntKind.i64))→Instr.sameBits n p.1 p.2=true:=by
   intro l
   induction l with
   | nil=>intro p hp;simp at hp
   | cons a r ih =>
    intro p hp
    simp only[List.map_cons,List.zip_cons_cons,List.mem_cons]at hp
    rcases hp with rfl|hp
    ·exact zl7 _ _ _
    ·exact ih p hp
  exact key k p (by simpa using hp)
theorem zt0 (agg:Bool) (k:List Int) (w:World):(Instr.keyThatStays (zln agg k) (zln agg k)).run P w = .ok (zln agg k) w:=by
 simp[Instr.keyThatStays,zt7]
theorem z7s {kt:TypeId} {agg:Bool} {n:Nat} (T:z2q P kt agg n) {a b:List Int} (ha:a.length=n) (hb:b.length=n) (w:World):(Op.equal kt (zln agg a) (zln agg b)).run P w = .ok (decide (a=b)) w:=by
 rcases T with ⟨rfl,rfl,k,hu⟩|⟨rfl,⟨fs,hu⟩,hf⟩
 ·obtain⟨x,rfl⟩:=List.length_eq_one_iff.1 ha
  obtain⟨y,rfl⟩:=List.length_eq_one_iff.1 hb
  have hf:zex P 9 kt=some [0]:=by simp only[zex,hu]
  have e1:∀z:Int,zln false [z]=mkV P kt (ybc [z]):=fun z=>by rw[zc9 hu (by simp)];rfl
  rw[e1,e1]
  exact zit 9 10000 (by omega) kt _ hf _ _ _ w (zjx [x] [y] rfl)
 ·rw[zxh (n:=n) hu,zxh (n:=n) hu]
  subst ha
  exact zit 9 10000 (by omega) kt _ hf _ _ _ w (zjx a b hb.symm)
def zdh (k:List Int):Nat→List (List Int × Int)→Option (Nat × Int)
 | _,[]=>none
 | i,(k',v)::r=>if k=k' then some (i,v)else zdh k (i+1) r
theorem zra {kt:TypeId} {agg:Bool} {n:Nat} (T:z2q P kt agg n) {k:List Int} (hk:k.length=n) (w:World):∀(es:List (List Int × Int)) (i j:Nat),(∀e∈es,e.1.length=n) →
 (Instr.findAsking kt (zln agg k) (zcq agg j es) i).run P w = .ok ((zdh k i es).map fun p=>(p.1,.int .i64 p.2)) w
 | [],_,_,_=>by simp[zcq,Instr.findAsking,zdh]
 | (k',v)::r,i,j,he=>by
  have h1:=z7s T hk (he (k',v) (by simp)) w
  have h2:=zra T hk w r (i+1) (j+1) fun e h=>he e (by simp[h])
  simp only[zcq,Instr.findAsking,zdh,Sem.run_bind,h1,Result.andThen_ok]
  by_cases e:k=k'
  ·simp[e]
  ·simp[e,h2]
theorem z5r {k:IntKind} {x:List Int} (hx:x.length=1):∀(es:List (List Int × Int)) (i j:Nat),(∀e∈es,e.1.length=1) →
 Instr.findNow (.int k) (zln false x) (zcq false j es) i=some ((zdh x i es).map fun p=>(p.1,.int .i64 p.2))
 | [],_,_,_=>by simp[zcq,Instr.findNow,zdh]
 | (k',v)::r,i,j,he=>by
  have h2:=z5r (k:=k) hx r (i+1) (j+1) fun e h=>he e (by simp[h])
  obtain⟨a,rfl⟩:=List.length_eq_one_iff.1 hx
  obtain⟨b,hb⟩:=List.length_eq_one_iff.1 (he (k',v) (by simp))
  simp only at hb
  subst hb
  simp only[zcq,Instr.findNow,zdh,zln,Bool.false_eq_true,if_false,List.headD_cons,Instr.sameNow,if_true]at h2 ⊢
  by_cases e:a=b
  ·simp[e]
  ·rw[beq_eq_false_iff_ne.2 e];simp[e,h2]
theorem zsy {kt:TypeId} {agg:Bool} {n:Nat} (T:z2q P kt agg n) {k:List Int} (hk:k.length=n) (w:World) (es:List (List Int × Int)) (he:∀e∈es,e.1.length=n) :
 (Instr.findKey kt (zln agg k) (zcq agg 0 es)).run P w = .ok ((zdh k 0 es).map fun p=>(p.1,.int .i64 p.2)) w:=by
 rcases T with ⟨rfl,rfl,q,hu⟩|⟨rfl,⟨fs,hu⟩,hf⟩
 ·exact MapKept.run_findKey hu (z5r hk es 0 0 he)
 ·have hA:=zra (.inr ⟨rfl,⟨fs,hu⟩,hf⟩) hk w es 0 0 he
  simp only[Instr.findKey,Sem.run_bind,run_underlying hu,Result.andThen_ok]
  cases es with
  | nil=>simp[zcq,Instr.findNow,zdh]
  | cons e r =>
   obtain⟨k',v⟩:=e
   have:Instr.findNow (.struct fs) (zln true k) (zcq true 0 ((k',v)::r)) 0=none:=by simp[zcq,Instr.findNow,Instr.sameNow]
   rw[this];exact hA
theorem zl2:∀(d D:Nat),d≤D→∀(t:TypeId) (n:List Nat),zex P d t=some n→∀(us:List Value),us.length=n.length→∀(e:Bool) (w:World),(Instr.checkKey e D t (mkV P t us)).run P w = .ok () w
 | 0,_,_,t,n,h=>by simp[zex]at h
 | d+1,0,hD,_,_,_=>by omega
 | d+1,D+1,hD,t,n,h=>by
  intro us hl e w
  have sc:∀u,P.underlying t=some u→(∀fs,u ≠ .struct fs)→(∀e l,u ≠ .array l e)→(∀m,u ≠ .interface m)→(Instr.checkKey e (D+1) t (mkV P t us)).run P w = .ok () w:=by
   intro u hu h1 h2 h3
   unfold Instr.checkKey
   simp only[Sem.run_bind,run_underlying hu,Result.andThen_ok]
   cases u<;>simp_all
  simp only[zex]at h
  split at h
  ·rename_i hu;exact sc _ hu (by simp) (by simp) (by simp)
  ·rename_i hu;exact sc _ hu (by simp) (by simp) (by simp)
  ·rename_i hu;exact sc _ hu (by simp) (by simp) (by simp)
  ·rename_i fs hu
   split at h
   ·simp at h
   ·rw[zee hu]
    unfold Instr.checkKey
    simp only[Sem.run_bind,run_underlying hu,Result.andThen_ok]
    rw[←Array.forIn_toList]
    have key:∀(l:List Field) (o:Nat) (m:List Nat),zku P (zex P d) o l=some m→o+m.length≤us.length →
     ((forIn l PUnit.unit fun (f:Field) (_:PUnit)=>(do
       if f.name ≠ "_" then
        Instr.checkKey e D f.type (←part f.type us.toArray f.offset)
        pure (ForInStep.yield PUnit.unit)
       else pure (ForInStep.yield PUnit.unit):Sem (ForInStep PUnit))):Sem PUnit).run P w = .ok PUnit.unit w:=by
     intro l
     induction l with
     | nil=>intro o m _ _;simp
     | cons f r ih =>
      intro o m hm ho
      simp only[zku]at hm
      split at hm
      ·rename_i n' hn'
       split at hm
       ·rename_i hc
        simp only[bJ,bne_iff_ne,ne_eq]at hc
        have ho1:=Nat.eq_of_beq_eq_true hc.1.2
        have hn1:=Nat.eq_of_beq_eq_true hc.2
        split at hm
        ·rename_i m' hm'
         simp only[oI]at hm
         subst hm
         simp only[List.length_append]at ho
         have p1:=zof (o:=o) hn' hn1 us (by omega) w
         have c1:=zl2 d D (by omega) f.type n' hn' ((us.drop o).take n'.length) (by simp;omega) e w
         have hi:=ih (o+n'.length) m' hm' (by omega)
         rw[List.forIn_cons]
         rw[if_pos hc.1.1]
         simp only[Sem.run_bind,ho1,p1,Result.andThen_ok,c1,Sem.run_pure]
         exact hi
        ·simp at hm
       ·simp at hm
      ·simp at hm
    rw[key fs.toList 0 n h (by omega)];rfl
  ·simp at h
theorem zzs (k:List Int):∀(es:List (List Int × Int)) (j i:Nat) (v:Int),zdh k j es=some (i,v)→j≤i∧es[i-j]? = some (k,v)
 | [],_,_,_,h=>by simp[zdh]at h
 | (k',v')::r,j,i,v,h=>by
  simp only[zdh]at h
  split at h
  ·rename_i e
   simp only[oI,pJ]at h
   obtain⟨rfl,rfl⟩:=h
   subst e
   simp
  ·obtain⟨h1,h2⟩:=zzs k r (j+1) i v h
   refine⟨by omega,?_⟩
   rw[show i-j=(i-(j+1))+1 from by omega];simpa using h2
theorem zhc (agg:Bool):∀(es:List (List Int × Int)) (j i:Nat),(zcq agg j es)[i]? = (es[i]?).map fun e=>⟨zln agg e.1,.int .i64 e.2,j+i⟩
 | [],_,i=>by simp[zcq]
 | (k,v)::r,j,0=>by simp[zcq]
 | (k,v)::r,j,i+1=>by
  have:=zhc agg r (j+1) i
  simp only[zcq,List.getElem?_cons_succ,this]
  rw[show j+1+i=j+(i+1)from by omega]
theorem zvq (agg:Bool) (es:List (List Int × Int)):∀j,(zcq agg j es).length=es.length:=by
 induction es with
 | nil=>intro j;rfl
 | cons e r ih=>intro j;obtain⟨k,v⟩:=e;simp[zcq,ih]
theorem zly (agg:Bool) (k:List Int) (v:Int):∀(es:List (List Int × Int)) (j:Nat),zcq agg j (es ++ [(k,v)])=zcq agg j es ++ [⟨zln agg k,.int .i64 v,j+es.length⟩]
 | [],_=>by simp[zcq]
 | (k',v')::r,j=>by
  have:=zly agg k v r (j+1)
  simp only[List.cons_append,zcq,this,List.length_cons]
  rw[show j+1+r.length=j+(r.length+1)from by omega]
def zr9 (i:Nat) (v:Int) (es:List (List Int × Int)):List (List Int × Int):=es.modify i fun e=>(e.1,v)
theorem z0o (agg:Bool) (es:List (List Int × Int)) (i:Nat) (v:Int):((zcq agg 0 es).toArray.modify i fun e => { e with val := .int .i64 v })=(zcq agg 0 (zr9 i v es)).toArray:=by
 apply Array.ext'
 rw[Array.toList_modify]
 apply List.ext_getElem?
 intro j
 rw[List.getElem?_modify]
 simp only[zhc,zr9,List.getElem?_modify]
 cases es[j]? with
 | none=>simp
 | some e=>by_cases h:i=j<;>simp[h]
theorem ybs (agg:Bool) (es:List (List Int × Int)) (i:Nat) (k:List Int) (v:Int) (h:es[i]? = some (k,v)):((zcq agg 0 es).toArray.modify i fun e => { e with key:=zln agg k })=(zcq agg 0 es).toArray:=by
 apply Array.ext'
 rw[Array.toList_modify]
 apply List.ext_getElem?
 intro j
 rw[List.getElem?_modify]
 simp only[zhc]
 by_cases e:i=j
 ·subst e;rw[h];simp
 ·simp[e]
def zd6 (k:List Int) (es:List (List Int × Int)):Int:=match zdh k 0 es with|some (_,v)=>v|none=>0
def zos (k:List Int) (es:List (List Int × Int)):Bool:=(zdh k 0 es).isSome
def z5z (k:List Int) (es:List (List Int × Int)):Nat:=match zdh k 0 es with|some (i,_)=>i|none=>es.length
def zgl (k:List Int) (es:List (List Int × Int)):List (List Int × Int):=match zdh k 0 es with|some _=>es|none=>es ++ [(k,0)]
def zij (k:List Int) (v:Int) (es:List (List Int × Int)):List (List Int × Int):=zr9 (z5z k es) v (zgl k es)
def z16:List AV→Option (List Int)
 | []=>some []
 | .c (.v (.int .i64 n))::r=>match z16 r with|some l=>some (n::l)|none=>none
 | _=>none
def kty (P:Program) (kt:TypeId):Option (Bool × Nat) :=
 match ty P kt with
 | some ⟨.int _,_,_,_,_⟩=>some (false,1)
 | some ⟨.st _,_,_,_,_⟩=>match zex P 9 kt with
  | some ns=>if ns.all (fun i=>Nat.beq i 0)then some (true,ns.length)else none
  | none=>none
 | _=>none
def yja:AV→Option (Bool × List Int)
 | .c (.v (.int .i64 n))=>some (false,[n])
 | .agg cs=>match z16 cs with|some l=>some (true,l)|none=>none
 | _=>none
def zxk (P:Program) (t:TypeId):Bool:=match P.info? t with|some i=>(match i.zero with|some (.int .i64 0)=>true|_=>false)|none=>false
def zov (P:Program) (h:Nat→Chunk) (t:TypeId) (x k:AV):Option (Nat × Bool × Nat × List (List Int × Int) × List Int) :=
 match ty P t with
 | some ⟨.mp kt et,_,_,_,_⟩=>match x with
  | .map id=>match h id with
   | .mp a n es=>match kty P kt,yja k with
    | some (a',n'),some (a'',l)=>if (a == a')&&(a == a'')&&Nat.beq n n'&&Nat.beq n l.length&&zxk P et then some (id,a,n,es,l)else none
    | _,_=>none
   | _=>none
  | _=>none
 | _=>none
def ex3 (P:Program) (g:Operand→AV) (h:Nat→Chunk) (m:Nat):Op→Option (Prop × Eff)
 | .makeMap t none=>match ty P t with
  | some ⟨.mp kt et,_,_,_,_⟩=>match kty P kt with
   | some (a,n)=>some (True,⟨.map m,[(m,.mp a n [])],1⟩)
   | none=>none
  | _=>none
 | .lookup t x k ok=>match zov P h t (g x) (g k)with
  | some (_,_,_,es,l)=>some (True,⟨if ok then .tup [I .i64 (zd6 l es),B (zos l es)]else I .i64 (zd6 l es),[],0⟩)
  | none=>none
 | .mapEntry t x k=>match zov P h t (g x) (g k)with
  | some (id,a,n,es,l)=>some (True,⟨.tup [I .i64 (zd6 l es),I .i64 (z5z l es)],[(id,.mp a n (zgl l es))],0⟩)
  | none=>none
 | .mapUpdate t x k v=>match zov P h t (g x) (g k),g v with
  | some (id,a,n,es,l),.c (.v (.int .i64 y))=>some (True,⟨.undef,[(id,.mp a n (zij l y es))],0⟩)
  | _,_=>none
 | .entryStore t x s v=>match g x,g s,g v with
  | .map id,.c (.v (.int .i64 i)),.c (.v (.int .i64 y))=>match h id with
   | .mp a n es=>some (0≤i∧i.toNat<es.length,⟨.undef,[(id,.mp a n (zr9 i.toNat y es))],0⟩)
   | _=>none
  | _,_,_=>none
 | .typeAssert x _ t false=>match g x,ty P t with
  | .ifc u y,some ⟨k,_,_,_,_⟩=>match k with
   | .ifc=>none
   | _=>if Nat.beq u t then some (True,⟨y,[],0⟩)else none
  | _,_=>none
 | .call ⟨.builtin .copy,args,ts⟩=>match args.toList,ts.toList with
  | [d,x],[t,t']=>if Nat.beq t t' then z0w P h t (g d) (g x)else none
  | _,_=>none
 | .call ⟨.builtin .clear,args,ts⟩=>match args.toList,ts.toList with
  | [d],[t]=>zs7 P h t (g d)
  | _,_=>none
 | .buildSlice t len parts=>match ex2 P g h m (.buildSlice t len parts)with
  | some r=>some r
  | none=>z2b (z1g h (parts.toList.map fun p=>g p.2)) (ex2 P (fun o=>fz (z1g h (parts.toList.map fun p=>g p.2)) h (g o)) (fzH (z1g h (parts.toList.map fun p=>g p.2)) h) m (.buildSlice t len parts))
 | .store t a x=>match ex2 P g h m (.store t a x)with
  | some r=>some r
  | none=>z2b (z4n h (g x)) (ex2 P (fun o=>fz (z4n h (g x)) h (g o)) (fzH (z4n h (g x)) h) m (.store t a x))
 | op=>ex2 P g h m op
theorem yi7 {kt:TypeId} {a:Bool} {n:Nat} (h:kty P kt=some (a,n)):z2q P kt a n:=by
 unfold kty at h
 split at h
 ·rename_i k _ _ _ _ ht
  simp only[oI,pJ]at h
  obtain⟨rfl,rfl⟩:=h
  obtain⟨_,u,_,h2,h3,_⟩:=zbf ht
  have:=zm2 h3
  subst this
  exact .inl ⟨rfl,rfl,k,h2⟩
 ·rename_i ht
  split at h
  ·rename_i ns hn
   split at h
   ·rename_i hz
    simp only[oI,pJ]at h
    obtain⟨rfl,rfl⟩:=h
    obtain⟨_,u,_,h2,h3,_⟩:=zbf ht
    obtain⟨fs,rfl,_⟩:=zsj h3
    refine .inr ⟨rfl,⟨fs,h2⟩,?_⟩
    rw[hn]
    congr 1
    refine List.eq_replicate_iff.2 ⟨rfl,fun b hb=>?_⟩
    exact Nat.eq_of_beq_eq_true (List.all_eq_true.1 hz b hb)
   ·simp at h
  ·simp at h
 ·simp at h
theorem zve:∀ {cs:List AV} {l:List Int},z16 cs=some l→∀ {vs:List Value},RelL U w F β cs vs→vs=l.map (.int .i64)
 | [],l,h,vs,hr=>by simp[z16]at h;subst h;simpa[RelL]using hr
 | x::r,l,h,vs,hr=>by
  simp only[RelL]at hr
  obtain⟨u,us,rfl,h1,h2⟩:=hr
  unfold z16 at h
  split at h
  ·simp at *
  ·rename_i n r' heq
   obtain⟨rfl,rfl⟩:=List.cons.inj heq
   split at h
   ·rename_i l' hl'
    simp only[oI]at h
    subst h
    rw[(relC.1 h1).1,zve hl' h2];rfl
   ·simp at h
  ·simp at h
theorem yba {x:AV} {a:Bool} {l:List Int} (h:yja x=some (a,l)) {u:Value} (hr:RelA U w F β x u):u=zln a l:=by
 unfold yja at h
 split at h
 ·simp only[oI,pJ]at h
  obtain⟨rfl,rfl⟩:=h
  rw[(relC.1 hr).1];rfl
 ·split at h
  ·rename_i l' hl'
   simp only[oI,pJ]at h
   obtain⟨rfl,rfl⟩:=h
   simp only[RelA]at hr
   obtain⟨vs,rfl,h1,_⟩:=hr
   have:=zve hl' h1
   simp only[zln,if_true,←this]
  ·simp at h
 ·simp at h
theorem zgq {kt:TypeId} {a:Bool} {n:Nat} (T:z2q P kt a n) {l:List Int} (hl:l.length=n) (e:Bool) (w:World):(Instr.checkKey e 10000 kt (zln a l)).run P w = .ok () w:=by
 rcases T with ⟨rfl,rfl,k,hu⟩|⟨rfl,⟨fs,hu⟩,hf⟩
 ·obtain⟨x,rfl⟩:=List.length_eq_one_iff.1 hl
  have hf:zex P 9 kt=some [0]:=by simp only[zex,hu]
  have e1:zln false [x]=mkV P kt (ybc [x]):=by rw[zc9 hu (by simp)];rfl
  rw[e1]
  exact zl2 9 10000 (by omega) kt _ hf _ rfl e w
 ·rw[zxh (n:=n) hu]
  exact zl2 9 10000 (by omega) kt _ hf _ (by simp[ybc,hl]) e w
theorem yfx {u:TypeDesc} {k e:TypeId} (h:zd1 P u = .mp k e):u = .map k e:=by
 unfold zd1 at h
 cases u<;>simp at h
 simp[h]
theorem zsc (M:MemOk W N U F β h w) (hs:∀id,hT id ≠ .dead→hT id=h id) {t:TypeId} {x k:AV} {id:Nat} {a:Bool} {n:Nat} {es:List (List Int × Int)} {l:List Int} (he:zov P hT t x k=some (id,a,n,es,l))
 {u uk:Value} (hx:RelA U w F β x u) (hk:RelA U w F β k uk) :
 ∃kt et bd g,P.underlying t=some (.map kt et)∧z2q P kt a n∧l.length=n ∧ β id=some bd∧bd.b=some g∧u = .map (some g)∧uk=zln a l∧w.heap[g]? = some (.map (zcq a 0 es).toArray es.length)∧(∀e∈es,e.1.length=n)∧∀w',(zeroValue et).run P w' = .ok (.int .i64 0) w':=by
 unfold zov at he
 split at he
 ·rename_i kt et _ _ _ _ ht
  split at he
  ·rename_i id'
   split at he
   ·rename_i a' n' es' hc
    split at he
    ·rename_i b m c l' hkt hka
     split at he
     ·rename_i hq
      simp only[bJ,beq_iff_eq]at hq
      obtain⟨⟨⟨⟨rfl,rfl⟩,h3⟩,h4⟩,h5⟩:=hq
      have h3:=Nat.eq_of_beq_eq_true h3
      have h4:=Nat.eq_of_beq_eq_true h4
      subst h3
      simp only[oI,pJ]at he
      obtain⟨rfl,rfl,rfl,rfl,rfl⟩:=he
      obtain⟨_,ud,_,e2,e3,_⟩:=zbf ht
      have:=yfx e3
      subst this
      obtain⟨bd,hb,h0,g,hg,hh⟩:=M.get hs hc (by simp)
      simp only[RelA]at hx
      have hu:=hx.2.2 bd hb
      rw[hg]at hu
      refine⟨kt,et,bd,g,e2,yi7 hkt,h4.symm,hb,hg,hu,yba hka hk,hh,h0,fun w'=>?_⟩
      unfold zxk at h5
      split at h5
      ·rename_i i hi
       split at h5
       ·rename_i hz;exact zfc hi hz w'
       ·simp at h5
      ·simp at h5
     ·simp at he
    ·simp at he
   ·simp at he
  ·simp at he
 ·simp at he
theorem zy5 {x y:AV} {u v:Value} (h1:RelA U w F β x u) (h2:RelA U w F β y v):RelL U w F β [x,y] [u,v]:=by simp only[RelL];exact⟨u,[v],rfl,h1,v,[],rfl,h2,rfl⟩
theorem zh1 (M:MemOk W N U F β h w) (m:Nat) {id:Nat} {bd:Bind} (hb : β id=some bd) {g:Nat} (hg:bd.b=some g) {o:Obj} (ho:w.heap[g]? = some o) {a:Bool} {n:Nat} {es:List (List Int × Int)} (h0:∀e∈es,e.1.length=n) {x:AV} {v:Value} (hx:∀(U F:Nat→Prop) (w:World) (β : Nat→Option Bind),RelA U w F β x v) :
 StepTo W N U F β h w m ⟨x,[(id,.mp a n es)],0⟩ v { w with heap:=w.heap.setIfInBounds g (.map (zcq a 0 es).toArray es.length) }:=by
 obtain⟨k1,k2⟩:=MapKept.heap_set (o' := .map (zcq a 0 es).toArray es.length) ho
 obtain⟨F',β',M',E',_,hF⟩:=zid (w':={ w with heap:=w.heap.setIfInBounds g (.map (zcq a 0 es).toArray es.length) }) M m hb hg rfl rfl rfl (by simp) (fun b hne=>k2 b hne) (c := .mp a n es) (fun _=>⟨h0,g,hg,k1⟩) v
 exact⟨F',β',M',E',hx _ _ _ _,hF⟩
theorem zot {k:List Int} {es:List (List Int × Int)} {i:Nat} {v:Int} (h:zdh k 0 es=some (i,v)):es[i]? = some (k,v):=by simpa using (zzs k es 0 i v h).2
theorem zu5 (M:MemOk W N U F β h w) (hs:∀id,hT id ≠ .dead→hT id=h id) (m:Nat) {t:TypeId} {x k:AV} {id:Nat} {a:Bool} {n:Nat} {es:List (List Int × Int)} {l:List Int} (he:zov P hT t x k=some (id,a,n,es,l))
 {u uk:Value} (hx:RelA U w F β x u) (hk:RelA U w F β k uk) :
 ∃z w',(Instr.mapEntry t u uk).run P w = .ok z w'∧StepTo W N U F β h w m ⟨.tup [I .i64 (zd6 l es),I .i64 (z5z l es)],[(id,.mp a n (zgl l es))],0⟩ z w':=by
 obtain⟨kt,et,bd,g,h1,h2,h3,h4,h5,rfl,rfl,h6,h7,h8⟩:=zsc M hs he hx hk
 have hrel:∀(v:Int) (p:Nat) (U F:Nat→Prop) (w:World) (β : Nat→Option Bind),RelA U w F β (.tup [I .i64 v,I .i64 p]) (.tuple #[.int .i64 v,.int .i64 p]):=fun v p U F w β => by
  simp only[RelA];exact⟨_,rfl,zy5 (relI.2 rfl) (relI.2 rfl)⟩
 have hf:=zsy h2 h3 w es h7
 cases hm:zdh l 0 es with
 | none =>
  rw[hm]at hf
  refine⟨_,_,?_,zh1 M m h4 h5 h6 (es:=zgl l es) (by
   unfold zgl;rw[hm];intro e hee;rcases List.mem_append.1 hee with q|q;exact h7 e q;simp at q;subst q;exact h3) (hrel _ _)⟩
  ·simp only[Instr.mapEntry,Sem.run_bind,run_underlying h1,Result.andThen_ok,MapKept.run_getObj_map h6,zgq h2 h3 false w,hf,Option.map_none,h8,MapKept.run_setObj_map _ h6,Sem.run_pure]
   unfold zgl zd6 z5z
   rw[hm]
   simp only[zly,List.length_append,List.length_cons,List.length_nil,Nat.zero_add]
   congr 1
   simp
 | some p =>
  obtain⟨i,v⟩:=p
  rw[hm]at hf
  have hi:=zot hm
  have he0:(zcq a 0 es).toArray[i]? = some ⟨zln a l,.int .i64 v,i⟩:=by rw[List.getElem?_toArray,zhc,hi];simp
  refine⟨_,_,?_,zh1 M m h4 h5 h6 (es:=zgl l es) (by unfold zgl;rw[hm];exact h7) (hrel _ _)⟩
  ·simp only[Instr.mapEntry,Sem.run_bind,run_underlying h1,Result.andThen_ok,MapKept.run_getObj_map h6,zgq h2 h3 false w,hf,Option.map_some,he0,Option.getD_some,zt0,MapKept.run_setObj_map _ h6,Sem.run_pure,ybs a es i l v hi]
   unfold zgl zd6 z5z
   rw[hm]
   rfl
theorem zsb (M:MemOk W N U F β h w) (hs:∀id,hT id ≠ .dead→hT id=h id) (m:Nat) {t:TypeId} {x k:AV} {id:Nat} {a:Bool} {n:Nat} {es:List (List Int × Int)} {l:List Int} {y:Int} (he:zov P hT t x k=some (id,a,n,es,l))
 {u uk:Value} (hx:RelA U w F β x u) (hk:RelA U w F β k uk) :
 ∃w',(Instr.mapUpdate t u uk (.int .i64 y)).run P w = .ok () w'∧StepTo W N U F β h w m ⟨.undef,[(id,.mp a n (zij l y es))],0⟩ undef w':=by
 obtain⟨kt,et,bd,g,h1,h2,h3,h4,h5,rfl,rfl,h6,h7,h8⟩:=zsc M hs he hx hk
 have hrel:∀(U F:Nat→Prop) (w:World) (β : Nat→Option Bind),RelA U w F β .undef undef:=fun U F w β => by simp only[RelA]
 have hf:=zsy h2 h3 w es h7
 have hlen:∀(es':List (List Int × Int)) (i:Nat),(∀e∈es',e.1.length=n)→∀e∈zr9 i y es',e.1.length=n:=by
  intro es' i hh e hee
  unfold zr9 at hee
  obtain⟨j,hj,rfl⟩:=List.getElem_of_mem hee
  rw[List.getElem_modify]
  have:=hh _ (List.getElem_mem (l:=es') (n:=j) (by simpa using hj))
  split<;>exact this
 cases hm:zdh l 0 es with
 | none =>
  rw[hm]at hf
  have e1:zij l y es=es ++ [(l,y)]:=by
   unfold zij zr9 z5z zgl
   rw[hm]
   apply List.ext_getElem?
   intro j
   rw[List.getElem?_modify]
   rcases Nat.lt_trichotomy j es.length with hj|hj|hj
   ·rw[List.getElem?_append_left hj,List.getElem?_append_left hj];simp[Nat.ne_of_gt hj]
   ·subst hj;simp
   ·rw[List.getElem?_eq_none (by simp;omega),List.getElem?_eq_none (by simp;omega)];rfl
  refine⟨_,?_,zh1 M m h4 h5 h6 (es:=zij l y es) (by
   rw[e1];intro e hee;rcases List.mem_append.1 hee with q|q;exact h7 e q;simp at q;subst q;exact h3) hrel⟩
  simp only[Instr.mapUpdate,Sem.run_bind,run_underlying h1,Result.andThen_ok,MapKept.run_getObj_map h6,zgq h2 h3 false w,hf,Option.map_none,MapKept.run_setObj_map _ h6]
  rw[e1]
  simp only[zly,List.length_append,List.length_cons,List.length_nil,Nat.zero_add]
  congr 1
  simp
 | some p =>
  obtain⟨i,v⟩:=p
  rw[hm]at hf
  have hi:=zot hm
  have he0:(zcq a 0 es).toArray[i]? = some ⟨zln a l,.int .i64 v,i⟩:=by rw[List.getElem?_toArray,zhc,hi];simp
  have e1:zij l y es=zr9 i y es:=by unfold zij z5z zgl;rw[hm]
  have e2:((zcq a 0 es).toArray.modify i fun e => { e with key:=zln a l,val := .int .i64 y })=(zcq a 0 (zr9 i y es)).toArray:=by
   rw[←z0o]
   apply Array.ext'
   rw[Array.toList_modify,Array.toList_modify]
   apply List.ext_getElem?
   intro j
   rw[List.getElem?_modify,List.getElem?_modify]
   simp only[zhc]
   by_cases e:i=j
   ·subst e;rw[hi];simp
   ·simp[e]
  refine⟨_,?_,zh1 M m h4 h5 h6 (es:=zij l y es) (by rw[e1];exact hlen es i h7) hrel⟩
  simp only[Instr.mapUpdate,Sem.run_bind,run_underlying h1,Result.andThen_ok,MapKept.run_getObj_map h6,zgq h2 h3 false w,hf,Option.map_some,he0,Option.getD_some,zt0,MapKept.run_setObj_map _ h6,e2,e1]
  simp[zr9]
theorem z13 (M:MemOk W N U F β h w) (hs:∀id,hT id ≠ .dead→hT id=h id) (m:Nat) {t:TypeId} {x k:AV} {id:Nat} {a:Bool} {n:Nat} {es:List (List Int × Int)} {l:List Int} (ok:Bool) (he:zov P hT t x k=some (id,a,n,es,l))
 {u uk:Value} (hx:RelA U w F β x u) (hk:RelA U w F β k uk) :
 ∃z,(Instr.lookup t u uk ok).run P w = .ok z w∧RelA U w F β (if ok then .tup [I .i64 (zd6 l es),B (zos l es)]else I .i64 (zd6 l es)) z:=by
 obtain⟨kt,et,bd,g,h1,h2,h3,h4,h5,rfl,rfl,h6,h7,h8⟩:=zsc M hs he hx hk
 have hf:=zsy h2 h3 w es h7
 have hrel:RelA U w F β (if ok then .tup [I .i64 (zd6 l es),B (zos l es)]else I .i64 (zd6 l es)) (if ok then .tuple #[.int .i64 (zd6 l es),.bool (zos l es)]else .int .i64 (zd6 l es)):=by
  cases ok with
  | true=>simp only[if_true,RelA];exact⟨_,rfl,zy5 (relI.2 rfl) (relB.2 rfl)⟩
  | false=>exact relI.2 rfl
 refine⟨_,?_,hrel⟩
 unfold zd6 zos
 cases hm:zdh l 0 es with
 | none =>
  rw[hm]at hf
  cases ok<;>simp[Instr.lookup,run_underlying h1,MapKept.run_getObj_map h6,zgq h2 h3 _ w,hf,Result.andThen,h8]
 | some p =>
  obtain⟨i,v⟩:=p
  rw[hm]at hf
  cases ok<;>simp[Instr.lookup,run_underlying h1,MapKept.run_getObj_map h6,zgq h2 h3 _ w,hf,Result.andThen]
theorem zpt (M:MemOk W N U F β h w) (hs:∀id,hT id ≠ .dead→hT id=h id) (m:Nat) {t:TypeId} {id:Nat} {a:Bool} {n:Nat} {es:List (List Int × Int)} {i y:Int} (hc:hT id = .mp a n es) (hi0:0≤i) (hi:i.toNat<es.length)
 {u:Value} (hx:RelA U w F β (.map id) u) :
 ∃w',(Instr.entryStore t u (.int .i64 i) (.int .i64 y)).run P w = .ok () w'∧StepTo W N U F β h w m ⟨.undef,[(id,.mp a n (zr9 i.toNat y es))],0⟩ undef w':=by
 obtain⟨bd,hb,h0,g,hg,hh⟩:=M.get hs hc (by simp)
 simp only[RelA]at hx
 have hu:=hx.2.2 bd hb
 rw[hg]at hu
 subst hu
 obtain⟨i',rfl⟩:=Int.eq_ofNat_of_zero_le hi0
 simp only[Int.toNat_natCast]at hi ⊢
 have hfi:(zcq a 0 es).toArray.findIdx? (fun e=>(e.born:Int) == (i':Int))=some i':=by
  rw[Array.findIdx?_eq_some_iff_getElem]
  have hl:i'<(zcq a 0 es).toArray.size:=by simp[zvq];exact hi
  have at_:∀j (hj:j<(zcq a 0 es).toArray.size),((zcq a 0 es).toArray[j]).born=j:=by
   intro j hj
   have h1:=zhc a es 0 j
   have hj':j<(zcq a 0 es).length:=by simpa using hj
   have hj2:j<es.length:=by rwa [zvq]at hj'
   rw[List.getElem?_eq_getElem hj',List.getElem?_eq_getElem hj2]at h1
   simp only[Option.map_some,oI]at h1
   simp[h1]
  refine⟨hl,by rw[at_ i' hl];simp,fun j hj=>?_⟩
  rw[at_ j (by omega)]
  simp;omega
 refine⟨_,?_,zh1 M m hb hg hh (es:=zr9 i' y es) (by
  intro e hee
  unfold zr9 at hee
  obtain⟨j,hj,rfl⟩:=List.getElem_of_mem hee
  rw[List.getElem_modify]
  have:=h0 _ (List.getElem_mem (l:=es) (n:=j) (by simpa using hj))
  split<;>exact this) (fun U F w β => by simp only[RelA])⟩
 have hl2:(zr9 i' y es).length=es.length:=by simp[zr9]
 simp only[Instr.entryStore,Sem.run_bind,Result.andThen_ok,MapKept.run_getObj_map hh,asInt,asIntOf,Sem.run_pure,hfi,MapKept.run_setObj_map _ hh,z0o,hl2]
theorem ygv (M:MemOk W N U F β h w) (hs:∀id,hT id ≠ .dead→hT id=h id) {m:Nat} (hm:¬U m) {g:Operand→AV} {ev:Operand→Value} {o:Oper} (G:∀x∈o.op.operands.toList,RelA U w F β (g x) (ev x)) {φ : Prop} {r:Eff} (he:ex3 P g hT m o.op=some (φ,r)) (hφ : φ) :
 ∃n w',(execOp ev o).run P w = .ok n w'∧z15 n=true∧StepTo W N U F β h w m r (nv n) w':=by
 have frz:∀(Z:List Nat),z2b Z (ex2 P (fun o=>fz Z hT (g o)) (fzH Z hT) m o.op)=some (φ,r)→∃n w',(execOp ev o).run P w = .ok n w'∧z15 n=true∧StepTo W N U F β h w m r (nv n) w':=by
  intro Z hz
  cases hx:ex2 P (fun o=>fz Z hT (g o)) (fzH Z hT) m o.op with
  | none=>rw[hx]at hz;simp[z2b]at hz
  | some q =>
   obtain⟨ψ,v,ups,fr⟩:=q
   rw[hx]at hz
   simp only[z2b,oI,pJ]at hz
   obtain⟨rfl,rfl⟩:=hz
   obtain⟨n,w',k1,k2,k3⟩:=zs1 (z7k M Z) (hT:=fzH Z hT) (fun id hd=>by
    unfold fzH at hd ⊢
    cases hzz:inZ Z id with
    | true=>simp[hzz]at hd
    | false=>rw[hzz]at hd;exact hs id hd) hm (g:=fun o=>fz Z hT (g o)) (fun x hx=>zqy M hs Z _ _ (G x hx)) hx hφ
   exact⟨n,w',k1,k2,k3.behind M Z⟩
 unfold ex3 at he
 split at he
 ·rename_i t hop
  split at he
  ·rename_i kt et _ _ _ _ ht
   split at he
   ·rename_i a n hk
    simp only[oI,pJ]at he
    obtain⟨rfl,rfl⟩:=he
    refine⟨.value (.map (some w.heap.size)),w.alloc (.map #[] 0),?_,rfl,?_⟩
    ·simp only[execOp,hop,Instr.makeMap,Option.map_none,Sem.run_bind,run_newObj,Result.andThen_ok,Sem.run_pure]
     try rfl
    ·refine zrm M hm (.map #[] 0) ⟨.map (some w.heap.size),some w.heap.size,0,0,[]⟩ rfl (fun E=>⟨(by intro e he;simp at he),w.heap.size,rfl,heap_alloc_new w (.map #[] 0)⟩) ?_
     simp only[RelA]
     refine⟨.inr ⟨Nat.le_refl _,by omega⟩,rfl,fun bd hb=>?_⟩
     simp only[zb2,if_true,oI]at hb
     subst hb;rfl
   ·simp at he
  ·simp at he
 ·rename_i t x k ok hop
  split at he
  ·rename_i id a n es l hma
   simp only[oI,pJ]at he
   obtain⟨rfl,rfl⟩:=he
   obtain⟨z,k1,k2⟩:=z13 M hs m ok hma (G x (by simp[hop,Op.operands])) (G k (by simp[hop,Op.operands]))
   exact⟨.value z,w,by simp only[execOp,hop,Sem.run_bind,k1,Result.andThen_ok,Sem.run_pure],rfl,zbq M m k2⟩
  ·simp at he
 ·rename_i t x k hop
  split at he
  ·rename_i id a n es l hma
   simp only[oI,pJ]at he
   obtain⟨rfl,rfl⟩:=he
   obtain⟨z,w',k1,k2⟩:=zu5 M hs m hma (G x (by simp[hop,Op.operands])) (G k (by simp[hop,Op.operands]))
   exact⟨.value z,w',by simp only[execOp,hop,Sem.run_bind,k1,Result.andThen_ok,Sem.run_pure],rfl,k2⟩
  ·simp at he
 ·rename_i t x k v hop
  split at he
  ·rename_i id a n es l y hma hy
   simp only[oI,pJ]at he
   obtain⟨rfl,rfl⟩:=he
   obtain⟨w',k1,k2⟩:=zsb (y:=y) M hs m hma (G x (by simp[hop,Op.operands])) (G k (by simp[hop,Op.operands]))
   have hv:=G v (by simp[hop,Op.operands])
   rw[hy]at hv
   rw[←(relC.1 hv).1]at k1
   exact⟨.skip,w',by simp only[execOp,hop,Sem.run_bind,k1,Result.andThen_ok,Sem.run_pure],rfl,k2⟩
  ·simp at he
 ·rename_i t x s v hop
  split at he
  ·rename_i id i y hx hsv hy
   split at he
   ·rename_i a n es hc
    simp only[oI,pJ]at he
    obtain⟨rfl,rfl⟩:=he
    have hxr:=G x (by simp[hop,Op.operands])
    have hsr:=G s (by simp[hop,Op.operands])
    have hvr:=G v (by simp[hop,Op.operands])
    rw[hx]at hxr;rw[hsv]at hsr;rw[hy]at hvr
    obtain⟨w',k1,k2⟩:=zpt (P:=P) (t:=t) (y:=y) M hs m hc hφ.1 hφ.2 hxr
    rw[←(relC.1 hsr).1,←(relC.1 hvr).1]at k1
    exact⟨.skip,w',by simp only[execOp,hop,Sem.run_bind,k1,Result.andThen_ok,Sem.run_pure],rfl,k2⟩
   ·simp at he
  ·simp at he
 ·rename_i x xt t hop
  split at he
  ·rename_i u y k _ _ _ _ hx hk
   have hxr:=G x (by simp[hop,Op.operands])
   rw[hx]at hxr
   simp only[RelA]at hxr
   obtain⟨z,hz,hr⟩:=hxr
   obtain⟨_,d,_,h2,h3,_⟩:=zbf hk
   split at he
   ·simp at he
   ·rename_i hki
    split at he
    ·rename_i hut
     simp only[oI,pJ]at he
     obtain⟨rfl,rfl⟩:=he
     have hut':=Nat.eq_of_beq_eq_true hut
     subst hut'
     refine⟨.value z,w,?_,rfl,zbq M m hr⟩
     have:∀ms,d ≠ .interface ms:=fun ms h=>hki (by rw[←h3,h];rfl)
     simp only[execOp,hop,Instr.typeAssert,Sem.run_bind,run_underlying h2,Result.andThen_ok,hz]
     cases d<;>first|(simp;done)|(exact absurd rfl (this _))
    ·simp at he
  ·simp at he
 ·rename_i args ts hop
  split at he
  ·rename_i d x t t' ha ht
   split at he
   ·rename_i heq
    have:=Nat.eq_of_beq_eq_true heq
    subst this
    have ha':args = #[d,x]:=by rw[←ha]
    have ht':ts = #[t,t]:=by rw[←ht]
    subst ha' ht'
    obtain⟨z,w',h1,h2⟩:=yb2 (ty':=o.type) M hs m he hφ (G d (by simp[hop,Op.operands,Call.operands])) (G x (by simp[hop,Op.operands,Call.operands]))
    refine⟨.value z,w',?_,rfl,h2⟩
    simp only[execOp,hop,resolve,Sem.run_bind,Sem.run_pure,Result.andThen_ok,invoke,builtin,List.map_toArray,List.map_cons,List.map_nil,h1]
   ·simp at he
  ·simp at he
 ·rename_i args ts hop
  split at he
  ·rename_i d t ha ht
   have ha':args = #[d]:=by rw[←ha]
   have ht':ts = #[t]:=by rw[←ht]
   subst ha' ht'
   obtain⟨z,w',h1,h2⟩:=z73 (ty':=o.type) M hs m he hφ (G d (by simp[hop,Op.operands,Call.operands]))
   refine⟨.value z,w',?_,rfl,h2⟩
   simp only[execOp,hop,resolve,Sem.run_bind,Sem.run_pure,Result.andThen_ok,invoke,builtin,List.map_toArray,List.map_cons,List.map_nil,h1]
  ·simp at he
 ·rename_i t len parts hop
  split at he
  ·rename_i q hq
   rw[←hop]at hq
   exact zs1 M hs hm G (by rw[hq];exact he) hφ
  ·rw[←hop]at he;exact frz _ he
 ·rename_i t a x hop
  split at he
  ·rename_i q hq
   rw[←hop]at hq
   exact zs1 M hs hm G (by rw[hq];exact he) hφ
  ·rw[←hop]at he;exact frz _ he
 ·exact zs1 M hs hm G he hφ
end
def zuz (P:Program) (t:TypeId) (name:String):Option (FuncId × Bool × Option TypeId) :=
 match P.info? t,P.underlying t with
 | some i,some d=>match i.methods.find? (·.name == name)with
  | some m=>if m.path.isEmpty then (match m.func with|some (f,p)=>some (f,p,match d with | .pointer e=>some e|_=>none)|none=>none)else none
  | none=>none
 | _,_=>none
def yh1 (P:Program) (h:Nat→Chunk) (x:AV) (name:String):Option (Prop × FuncId × AV) :=
 match x with
 | .ifc t y=>match zuz P t name with
  | some (f,true,some _)=>some (True,f,y)
  | some (f,false,some e)=>match zox P h e y with
   | some (φ,z)=>some (φ,f,z)
   | none=>none
  | _=>none
 | _=>none
section
variable {P : Program} {W : World} {N U F : Nat → Prop} {β : Nat → Option Bind} {h hT : Nat → Chunk} {w : World}
theorem zqq {t:TypeId} {name:String} {f:FuncId} {p:Bool} {e:TypeId} (h:zuz P t name=some (f,p,some e)):∃i m,P.info? t=some i∧P.underlying t=some (.pointer e)∧i.methods.find? (·.name == name)=some m∧m.path = #[]∧m.func=some (f,p):=by
 unfold zuz at h
 split at h
 ·rename_i i d h1 h2
  split at h
  ·rename_i m hm
   split at h
   ·rename_i hp
    split at h
    ·rename_i f' p' hf
     simp only[oI,pJ]at h
     obtain⟨rfl,rfl,h3⟩:=h
     split at h3
     ·rename_i e'
      simp only[oI]at h3
      subst h3
      exact⟨i,m,h1,h2,hm,by simpa using hp,hf⟩
     ·simp at h3
    ·simp at h
   ·simp at h
  ·simp at h
 ·simp at h
theorem yf5 (M:MemOk W N U F β h w) (hs:∀id,hT id ≠ .dead→hT id=h id) {x z:AV} {name:String} {φ : Prop} {f:FuncId} (he:yh1 P hT x name=some (φ,f,z)) (hφ : φ) {v:Value} (hv:RelA U w F β x v) :
 ∃t y r,v = .iface t y∧(∀n,(Go.method (n+1) t y name).run P w = .ok (f,r) w)∧RelA U w F β z r:=by
 unfold yh1 at he
 split at he
 ·rename_i t y
  simp only[RelA]at hv
  obtain⟨u,rfl,hu⟩:=hv
  split at he
  ·rename_i f' e hm
   simp only[oI,pJ]at he
   obtain⟨rfl,rfl,rfl⟩:=he
   obtain⟨i,m,h1,h2,h3,h4,h5⟩:=zqq hm
   refine⟨t,u,u,rfl,fun n=>?_,hu⟩
   simp[Go.method,Go.typeInfo,h1,h3,h4,h5,Go.follow,Go.receiverAt,Go.Place.get,run_underlying h2]
  ·rename_i f' e hm
   split at he
   ·rename_i ψ q hl
    simp only[oI,pJ]at he
    obtain⟨rfl,rfl,rfl⟩:=he
    obtain⟨i,m,h1,h2,h3,h4,h5⟩:=zqq hm
    obtain⟨r,hr1,hr2⟩:=zsf M hs hl hφ hu
    refine⟨t,u,r,rfl,fun n=>?_,hr2⟩
    have hp:∃a,u = .pointer (some a):=by
     unfold zox at hl
     split at hl
     ·split at hl
      ·rename_i φ' cs hc
       obtain⟨b,o,vs,rfl,_⟩:=zvy M hs hc (by
        split at hl
        ·simp only[oI,pJ]at hl;rw[hl.1];exact hφ
        ·simp at hl) hu
       exact⟨_,rfl⟩
      ·simp at hl
     ·simp at hl
    obtain⟨a,rfl⟩:=hp
    have hr1':(loadVar e a).run P w = .ok r w:=by
     simpa[Instr.loadAt,Instr.sureAddr]using hr1
    have hk : ∀ nm : String, (Builtin.ssaWrapNilChk_ #[t] t #[.pointer (some a), strVal "", strVal nm]).run P w = .ok (.pointer (some a)) w := fun _ => rfl
    simp[Go.method,Go.typeInfo,h1,h3,h4,h5,Go.follow,Go.receiverAt,Go.Place.get,run_underlying h2,hk,asAddr,hr1']
   ·simp at he
  ·simp at he
 ·simp at he
end
def zzo (P:Program) (h:Nat→Chunk) (t:TypeId) (x i:AV):Option (Prop × AV) :=
 match i,x with
 | .c (.v (.int _ n)),.own id=>match h id,ty P t with
  | .nst _ sz _ _ _ xs _ _,some ⟨.sl e,_,_,_,_⟩=>match ty P e with
   | some d=>some (d.size=sz∧0≤n∧n<xs.length,.ptr id n.toNat 0)
   | none=>none
  | _,_=>none
 | _,_=>none
def zzm (P:Program) (h:Nat→Chunk) (t:TypeId) (x:AV):Option (Prop × AV) :=
 match x with
 | .own id=>match h id,ty P t with
  | .nst _ _ _ _ _ xs _ _,some ⟨.sl _,_,_,_,_⟩=>some (True,I .i64 xs.length)
  | _,_=>none
 | _=>none
def zr6 (P:Program) (h:Nat→Chunk) (t:TypeId) (p:AV):Option (Prop × AV) :=
 match p with
 | .ptr id i o=>match h id,ty P t with
  | .nst _ sz c _ _ xs _ op,some d=>if !d.agg&&Nat.beq d.size 1 then (if Nat.beq o c then (match op with
    | some (j,k)=>some (i=j,.own k)
    | none=>none)
   else if Nat.blt o sz then some (i<xs.length,.c ((xs.getD i []).getD o .undef))else none)else none
  | .row _ sz xs,some d=>if d.agg&&Nat.blt sz d.size&&Nat.beq i 0&&Nat.beq o 0 then some (d.size=xs.length*sz,.agg (xs.flatten.map .c))else none
  | _,_=>none
 | _=>none
def zm0 (P:Program) (h:Nat→Chunk) (t:TypeId) (p x:AV):Option (Prop × Eff) :=
 match p with
 | .ptr id i o=>match h id,ty P t with
  | .nst e sz c e2 sz2 xs ys op,some d=>if Nat.beq d.size 1 then (if Nat.beq o c then (match x with
    | .own k=>match op with
     | some (j,_)=>some (i=j∧i<xs.length,⟨.undef,[(id,.nst e sz c e2 sz2 xs ys (some (i,k)))],0⟩)
     | none=>some (i<xs.length,⟨.undef,[(id,.nst e sz c e2 sz2 xs ys (some (i,k)))],0⟩)
    | _=>none)
   else match x with
    | .c q=>if Nat.blt o sz then some (i<xs.length,⟨.undef,[(id,.nst e sz c e2 sz2 (xs.set i ((xs.getD i []).set o q)) ys op)],0⟩)else none
    | _=>none)else none
  | _,_=>none
 | _=>none
section
variable {P : Program} {W : World} {N U F : Nat → Prop} {β : Nat → Option Bind} {h hT : Nat → Chunk} {w : World}
theorem yaq (M:MemOk W N U F β h w) (hs:∀id,hT id ≠ .dead→hT id=h id) {t:TypeId} {y i x:AV} {φ : Prop} (he:zzo P hT t y i=some (φ,x)) (hφ : φ) {v u:Value} (hv:RelA U w F β y v) (hi:RelA U w F β i u) :
 ∃z,(Instr.indexAt t v u).run P w = .ok z w∧RelA U w F β x z:=by
 unfold zzo at he
 split at he
 ·rename_i k n id
  obtain⟨rfl,_⟩:=relC.1 hi
  split at he
  ·rename_i e0 sz c e2 sz2 xs ys op e _ _ _ _ hc ht
   obtain⟨_,_,_,h2,h3,_⟩:=zbf ht
   have:=zc4 h3
   subst this
   split at he
   ·rename_i d hd
    obtain⟨j,de,e1,e2',e3,e4,e5,_⟩:=z8z hd
    simp only[oI,pJ]at he
    obtain⟨rfl,rfl⟩:=he
    obtain⟨p1,p2,p3⟩:=hφ
    obtain⟨bd,hb,q1,q2,q3,q4,q5,q6⟩:=M.get hs hc (by simp)
    simp only[RelA]at hv
    rw[hv.2.2 bd hb]
    rcases q6 with ⟨_,rfl,_⟩|⟨g,cap,cur,q7,q8,_⟩
    ·simp at p3;omega
    ·rw[q8]
     refine⟨.pointer (some ((⟨g,0,none⟩:Addr).add (n.toNat*d.size))),by simp[Instr.indexAt,asIntOf,run_underlying h2,p2,p3,zba e1,e5],?_⟩
     simp only[RelA]
     refine⟨hv.1,rfl,fun bd' hb'=>?_⟩
     rw[hb]at hb';cases hb'
     exact⟨g,q7,by rw[Addr.add_lit,p1,q1.1,Nat.zero_add,Nat.add_zero]⟩
   ·simp at he
  ·simp at he
 ·simp at he
theorem yao (M:MemOk W N U F β h w) (hs:∀id,hT id ≠ .dead→hT id=h id) {t:TypeId} {y x:AV} {φ : Prop} (he:zzm P hT t y=some (φ,x)) {v:Value} (hv:RelA U w F β y v) (ts:Array TypeId) (ht0:ts[0]? = some t) (vs:Array Value) (hv0:vs[0]? = some v) (ty':TypeId) :
 ∃z,(Builtin.len_ ts ty' vs).run P w = .ok z w∧RelA U w F β x z:=by
 unfold zzm at he
 split at he
 ·split at he
  ·rename_i hc ht
   obtain⟨_,_,_,k1,k4,_⟩:=zbf ht
   have:=zc4 k4
   subst this
   simp only[oI,pJ]at he
   obtain⟨_,rfl⟩:=he
   obtain⟨bd,hb,q1,q2,q3,q4,q5,q6⟩:=M.get hs hc (by simp)
   simp only[RelA]at hv
   have hvv:=hv.2.2 bd hb
   rcases q6 with ⟨_,rfl,q7,_⟩|⟨g,cap,cur,q7,q8,_⟩
   ·rw[q7]at hvv
    subst hvv
    exact⟨_,by simp[Builtin.len_,ht0,hv0,run_underlying k1,goInt],relI.2 rfl⟩
   ·rw[q8]at hvv
    subst hvv
    exact⟨_,by simp[Builtin.len_,ht0,hv0,run_underlying k1,goInt],relI.2 rfl⟩
  ·simp at he
 ·simp at he
theorem NCell.one {bs:List Nat} {c e2 sz2:Nat} {x:PV} {y:List (List PV)} {o:Option Nat} {j:Nat} {u:Value} (h:NCell U w F β bs c e2 sz2 x y o j u):u.oneCell'=true:=by
 unfold NCell at h
 split at h
 ·split at h
  ·exact h.2.1
  ·exact h.one
 ·exact h.one
theorem z5v (M:MemOk W N U F β h w) (hs:∀id,hT id ≠ .dead→hT id=h id) {t:TypeId} {p x:AV} {φ : Prop} (he:zr6 P hT t p=some (φ,x)) (hφ : φ) {v:Value} (hv:RelA U w F β p v) :
 ∃z,(Instr.loadAt t v).run P w = .ok z w∧RelA U w F β x z:=by
 unfold zr6 at he
 split at he
 ·rename_i id i o
  split at he
  ·rename_i e sz c e2 sz2 xs ys op d hc hd
   split at he
   ·rename_i had
    simp only[bJ,Bool.not_eq_true']at had
    obtain⟨had,hd1⟩:=had
    obtain⟨i1,u1,h1,h2,rfl⟩:=zfb hd
    simp only at had
    obtain⟨bd,hb,q1,q2,q3,q4,q5,q6⟩:=M.get hs hc (by simp)
    simp only[RelA]at hv
    obtain⟨g,hg,rfl⟩:=hv.2.2 bd hb
    rcases q6 with ⟨q7,_⟩|⟨g',cap,cur,q7,q8,q9,q10,q11,q12,q13,q14⟩
    ·rw[hg]at q7;simp at q7
    rw[hg]at q7;cases q7
    have fin:∀(j:Nat),o=j→j<sz→i<xs.length→∃u,(Instr.loadAt t (.pointer (some ⟨g,i*bd.sz+o,none⟩))).run P w = .ok u w∧NCell U w F β bd.bs c e2 sz2 ((xs.getD i []).getD j .undef) (ys.getD i []) (zr3 op i) j u:=by
     intro j hoj hj hi
     subst hoj
     have hx:xs[i]? = some xs[i]:=by simp[hi]
     have hy:ys[i]? = some (ys.getD i []):=by
      have:i<ys.length:=by rw[q3];exact hi
      simp[this]
     have hl:xs[i].length=sz:=q5 _ (List.getElem_mem hi)
     have hp:xs[i][o]? = some ((xs.getD i []).getD o .undef):=by
      have:o<xs[i].length:=by rw[hl];exact hj
      simp[hi,this]
     obtain⟨u,hu,hn⟩:=q14.cells i _ _ hx hy o _ hp
     refine⟨u,?_,hn⟩
     rw[←q1.1]at hu
     simp[Instr.loadAt,Instr.sureAddr,loadVar,zec h2,had,hu]
    split at he
    ·rename_i hoc
     have hoc:=Nat.eq_of_beq_eq_true hoc
     split at he
     ·rename_i j k
      simp only[oI,pJ]at he
      obtain⟨rfl,rfl⟩:=he
      have hi:=(q14.opu _ _ rfl).2
      subst hφ
      obtain⟨u,r1,r2⟩:=fin c hoc q4 hi
      refine⟨u,r1,?_⟩
      unfold NCell at r2
      simp only[zr3,if_true]at r2
      simp only[RelA]
      exact r2
     ·simp at he
    ·rename_i hoc
     split at he
     ·rename_i hos
      have hos:o<sz:=Nat.le_of_ble_eq_true hos
      simp only[oI,pJ]at he
      obtain⟨rfl,rfl⟩:=he
      obtain⟨u,r1,r2⟩:=fin o rfl hos hφ
      refine⟨u,r1,?_⟩
      unfold NCell at r2
      rw[if_neg (fun h=>hoc (by rw[h];exact Nat.beq_refl c))]at r2
      simp only[RelA]
      exact r2
     ·simp at he
   ·simp at he
  ·rename_i e sz xs d hc hd
   split at he
   ·rename_i had
    simp only[bJ]at had
    obtain⟨⟨⟨had,_⟩,hi0⟩,ho0⟩:=had
    obtain rfl:=Nat.eq_of_beq_eq_true hi0
    obtain rfl:=Nat.eq_of_beq_eq_true ho0
    simp only[oI,pJ]at he
    obtain⟨rfl,rfl⟩:=he
    obtain⟨i1,u1,h1,h2,rfl⟩:=zfb hd
    simp only at had hφ
    obtain⟨bd,hb,q1,q2,q3,q4⟩:=M.get hs hc (by simp)
    simp only[RelA]at hv
    obtain⟨g,hg,rfl⟩:=hv.2.2 bd hb
    rcases q4 with ⟨q7,_⟩|⟨g',cap,cur,q7,q8,q9,q10,q11,q12,q13⟩
    ·rw[hg]at q7;simp at q7
    rw[hg]at q7;cases q7
    obtain⟨vs,v1,v2,v3⟩:=RelC.vals (U:=U) (β := β) (zhv q13)
    have hvl:vs.length=xs.length*sz:=by
     have q:=v1.len
     rw[List.length_map,zir q3]at q
     exact q
    have hld:=run_loadCells_list (P:=P) (w:=w) ⟨g,0,none⟩ vs (fun j u hu=>by rw[Addr.add_lit];exact v2 j u hu)
    rw[hvl,←hφ]at hld
    refine⟨.agg vs.toArray,?_,by simp only[RelA];exact⟨_,rfl,by simpa using v1,by simpa using v3⟩⟩
    rw[show 0*bd.sz+0=0 by omega]
    simp[Instr.loadAt,Instr.sureAddr,loadVar,zec h2,had,zba h1,hld]
   ·simp at he
  ·simp at he
 ·simp at he
theorem z1v (M:MemOk W N U F β h w) (hs:∀id,hT id ≠ .dead→hT id=h id) (m:Nat) {t:TypeId} {p x:AV} {φ : Prop} {r:Eff} (he:zm0 P hT t p x=some (φ,r)) (hφ : φ) {pv xv:Value} (hp:RelA U w F β p pv) (hx:RelA U w F β x xv) :
 ∃w',(Instr.storeAt t pv xv).run P w = .ok () w'∧StepTo W N U F β h w m r undef w':=by
 unfold zm0 at he
 split at he
 ·rename_i id i o
  split at he
  ·rename_i e sz c e2 sz2 xs ys op d hc hd
   obtain⟨j1,de,e1,e2',e3,e4,e5,_⟩:=z8z hd
   split at he
   ·rename_i hd1
    have hd1:=Nat.eq_of_beq_eq_true hd1
    obtain⟨bd,hb,q1,q2,q3,q4,q5,q6⟩:=M.get hs hc (by simp)
    simp only[RelA]at hp
    obtain⟨g,hg,rfl⟩:=hp.2.2 bd hb
    rcases q6 with ⟨q7,_⟩|⟨g',cap,cur,q7,q8,q9,q10,q11,q12,q13,q14⟩
    ·rw[hg]at q7;simp at q7
    rw[hg]at q7;cases q7
    have run:o<sz→i<xs.length→xv.oneCell'=true→(Instr.storeAt t (.pointer (some ⟨g,i*bd.sz+o,none⟩)) xv).run P w = .ok () (w.setRow g (zaz cur.toList (i*sz+o) [xv]).toArray)∧i*sz+o<cur.size:=by
     intro ho hi h1
     have hsz:i*sz+sz≤xs.length*sz:=by rw[←Nat.succ_mul];exact Nat.mul_le_mul_right _ hi
     have hsz2:xs.length*sz≤cap*sz:=Nat.mul_le_mul_right _ q10
     have hcs:xv.cells = #[xv]:=by cases xv<;>first|rfl|simp[Value.oneCell']at h1
     have hfit:i*sz+o<cur.size:=by rw[q12];omega
     refine⟨?_,hfit⟩
     have:=run_storeCells_at P g (i*sz+o) e [xv] 0 cur w q9 (by simp;omega) (by simpa using h1)
     simp only[Instr.storeAt,Instr.sureAddr,storeVar,Sem.run_bind,Sem.run_pure,Result.andThen_ok,zba e1,hcs,e5,hd1,q1.1,List.size_toArray,List.length_cons,List.length_nil,ne_eq,not_true_eq_false,if_false,Sem.run_ite]
     simpa[zaz]using this
    have cell:o<sz→i<xs.length→i*sz+o<cur.size→∀q,(w.setRow g (zaz cur.toList (i*sz+o) [xv]).toArray).cell? ⟨g,q,none⟩=if q=i*sz+o then some xv else w.cell? ⟨g,q,none⟩:=by
     intro ho hi hf q
     have e0:w.cell? ⟨g,q,none⟩=cur[q]? := by simp[World.cell?,q9]
     rw[e0]
     simp only[World.cell?,setRow_heap w g cur _ e (0,0) q9,Option.isSome_none,Bool.false_eq_true,if_false]
     have:=zc8 cur.toList (i*sz+o) [xv] (by simp;omega) q
     simp only[List.length_cons,List.length_nil,Array.getElem?_toList]at this
     by_cases hq:q=i*sz+o
     ·rw[if_pos hq]
      rw[if_pos (by omega)]at this
      subst hq
      simpa using this
     ·rw[if_neg hq]
      rw[if_neg (by omega)]at this
      simpa using this
    have apart:∀ {i' j':Nat},j'<sz→o<sz→i'*sz+j'=i*sz+o→i'=i∧j'=o:=by
     intro i' j' hj ho hij
     have:i'=i:=by
      rcases Nat.lt_trichotomy i' i with h|h|h
      ·have:(i'+1)*sz≤i*sz:=Nat.mul_le_mul_right _ h
       rw[Nat.add_mul]at this;omega
      ·exact h
      ·have:(i+1)*sz≤i'*sz:=Nat.mul_le_mul_right _ h
       rw[Nat.add_mul]at this;omega
     subst this
     exact⟨rfl,by omega⟩
    have step:∀(xs':List (List PV)) (op':Option (Nat × Nat)),o<sz→i<xs.length→xv.oneCell'=true→xs'.length=xs.length→(∀cs∈xs',cs.length=sz) →
     (Ext U F β w U F β (w.setRow g (zaz cur.toList (i*sz+o) [xv]).toArray)→NstOk U (w.setRow g (zaz cur.toList (i*sz+o) [xv]).toArray) F β bd.bs g sz c e2 sz2 xs' ys op') →
     ∃w',(Instr.storeAt t (.pointer (some ⟨g,i*bd.sz+o,none⟩)) xv).run P w = .ok () w'∧StepTo W N U F β h w m ⟨.undef,[(id,.nst e sz c e2 sz2 xs' ys op')],0⟩ undef w':=by
     intro xs' op' ho hi h1 hl hl2 hn
     obtain⟨r1,r2⟩:=run ho hi h1
     refine⟨_,r1,?_⟩
     obtain⟨s1,s2,s3,s4,s5⟩:=zel w g (zaz cur.toList (i*sz+o) [xv]).toArray
     refine zid M m hb hg s1 s2 s3 s4 s5 (fun E=>?_) undef
     refine⟨⟨q1.1,fun b hbb=>?_⟩,by rw[hl];exact q2,by rw[hl];exact q3,q4,hl2,.inr ⟨g,cap,_,hg,by rw[hl];exact q8,setRow_heap w g cur _ e (0,0) q9,by rw[hl];exact q10,q11,?_,q13,hn E⟩⟩
     ·obtain⟨cur2,hc2⟩:=q1.2 b hbb
      exact⟨cur2,(s5 b (fun hbg=>q13 (hbg▸hbb))).trans hc2⟩
     ·simp only[List.size_toArray]
      rw[zbv _ _ _ (by simp;omega)]
      simpa using q12
    have hbs:∀b∈bd.bs,(w.setRow g (zaz cur.toList (i*sz+o) [xv]).toArray).heap[b]? = w.heap[b]? := fun b hbb=>setRow_other w g b _ (fun hbg=>q13 (hbg▸hbb))
    split at he
    ·rename_i hoc
     have hoc:=Nat.eq_of_beq_eq_true hoc
     subst hoc
     split at he
     ·rename_i k
      simp only[RelA]at hx
      have put:(op=none∨∃q,op=some (i,q))→i<xs.length→∃w',(Instr.storeAt t (.pointer (some ⟨g,i*bd.sz+o,none⟩)) xv).run P w = .ok () w'∧StepTo W N U F β h w m ⟨.undef,[(id,.nst e sz o e2 sz2 xs ys (some (i,k)))],0⟩ undef w':=by
       intro hop hi
       have opb:∀i',¬i=i'→zr3 op i'=none:=by
        intro i' hne
        rcases hop with rfl|⟨q,rfl⟩
        ·rfl
        ·simp only[zr3,if_neg hne]
       refine step xs (some (i,k)) q4 hi hx.2.1 rfl q5 fun E=>?_
       have hcl:=cell q4 hi (run q4 hi hx.2.1).2
       refine⟨fun i' x' y' hx' hy' j' p' hp'=>?_,fun i1 i2 b o1 o2 n1 n2 k1 k2 l1 l2 m1 m2 c1 c2=>?_,fun i' id' ho=>?_⟩
       ·have hj':j'<sz:=by rw[←q5 x' (List.mem_of_getElem? hx')];exact(List.getElem?_eq_some_iff.1 hp').1
        rw[hcl]
        by_cases hh:i'*sz+j'=i*sz+o
        ·obtain⟨rfl,rfl⟩:=apart hj' q4 hh
         rw[if_pos rfl]
         refine⟨xv,rfl,?_⟩
         unfold NCell
         simp only[zr3,if_true]
         exact⟨hx.1,hx.2.1,hx.2.2⟩
        ·rw[if_neg hh]
         obtain⟨u,hu,hn⟩:=q14.cells i' x' y' hx' hy' j' p' hp'
         refine⟨u,hu,?_⟩
         unfold NCell at hn ⊢
         by_cases hj:j'=o
         ·rw[if_pos hj]at hn ⊢
          have hne:¬i=i':=fun h=>hh (by rw[h,hj])
          rw[opb i' hne]at hn
          simp only[zr3,if_neg hne]
          exact hn.mono E.f hbs
         ·rw[if_neg hj]at hn ⊢
          exact RelP.mono E.f _ _ hn
       ·simp only[zr3]at m1 m2
        have n1':¬i=i1:=by intro h;rw[if_pos h]at m1;simp at m1
        have n2':¬i=i2:=by intro h;rw[if_pos h]at m2;simp at m2
        rw[hcl,if_neg (fun h=>n1' (apart q4 q4 h).1.symm)]at c1
        rw[hcl,if_neg (fun h=>n2' (apart q4 q4 h).1.symm)]at c2
        exact q14.inj i1 i2 b o1 o2 _ _ _ _ l1 l2 (opb _ n1') (opb _ n2') c1 c2
       ·simp only[oI,pJ]at ho
        obtain⟨rfl,rfl⟩:=ho
        exact⟨hx.1,hi⟩
      split at he
      ·simp only[oI,pJ]at he
       obtain⟨rfl,rfl⟩:=he
       obtain⟨rfl,hi⟩:=hφ
       exact put (.inr ⟨_,rfl⟩) hi
      ·simp only[oI,pJ]at he
       obtain⟨rfl,rfl⟩:=he
       exact put (.inl rfl) hφ
     ·simp at he
    ·rename_i hoc
     have hoc:¬o=c:=fun h=>hoc (by rw[h];exact Nat.beq_refl c)
     split at he
     ·rename_i q
      split at he
      ·rename_i hos
       have hos:o<sz:=Nat.le_of_ble_eq_true hos
       simp only[oI,pJ]at he
       obtain⟨rfl,rfl⟩:=he
       have hi:i<xs.length:=hφ
       have hxp:RelP w F q xv:=by simpa only[RelA]using hx
       have hxi:xs.getD i []=xs[i]:=by simp[hi]
       have hxl:xs[i].length=sz:=q5 _ (List.getElem_mem hi)
       refine step _ op hos hi hxp.one (by simp) (fun cs hcs=>?_) fun E=>?_
       ·rcases List.mem_or_eq_of_mem_set hcs with hm|rfl
        ·exact q5 cs hm
        ·rw[List.length_set,hxi,hxl]
       ·have hcl:=cell hos hi (run hos hi hxp.one).2
        refine⟨fun i' x' y' hx' hy' j' p' hp'=>?_,fun i1 i2 b o1 o2 n1 n2 k1 k2 l1 l2 m1 m2 c1 c2=>?_,fun i' id' ho=>by rw[List.length_set];exact q14.opu i' id' ho⟩
        ·rw[List.getElem?_set]at hx'
         have old:∀x0 p0,xs[i']? = some x0→x0[j']? = some p0→¬(i'*sz+j'=i*sz+o)→∃u,(w.setRow g (zaz cur.toList (i*sz+o) [xv]).toArray).cell? ⟨g,i'*sz+j',none⟩=some u∧NCell U (w.setRow g (zaz cur.toList (i*sz+o) [xv]).toArray) F β bd.bs c e2 sz2 p0 y' (zr3 op i') j' u:=by
          intro x0 p0 hx0 hp0 hne
          rw[hcl,if_neg hne]
          obtain⟨u,hu,hn⟩:=q14.cells i' x0 y' hx0 hy' j' p0 hp0
          refine⟨u,hu,?_⟩
          unfold NCell at hn ⊢
          split
          ·rename_i hj
           rw[if_pos hj]at hn
           split
           ·rename_i ho;rw[ho]at hn;exact hn
           ·rename_i ho;rw[ho]at hn;exact hn.mono E.f hbs
          ·rename_i hj
           rw[if_neg hj]at hn
           exact RelP.mono E.f _ _ hn
         by_cases hii:i=i'
         ·subst hii
          simp only[if_true,hi,oI]at hx'
          subst hx'
          rw[hxi,List.getElem?_set]at hp'
          by_cases hjj:o=j'
          ·subst hjj
           rw[if_pos rfl,if_pos (by rw[hxl];exact hos)]at hp'
           cases hp'
           rw[hcl,if_pos rfl]
           refine⟨xv,rfl,?_⟩
           unfold NCell
           rw[if_neg hoc]
           exact RelP.mono E.f _ _ hxp
          ·rw[if_neg hjj]at hp'
           exact old xs[i] p' (by simp[hi]) hp' (by omega)
         ·rw[if_neg hii]at hx'
          have hj':j'<sz:=by rw[←q5 x' (List.mem_of_getElem? hx')];exact(List.getElem?_eq_some_iff.1 hp').1
          exact old x' p' hx' hp' (fun h=>hii (apart hj' hos h).1.symm)
        ·rw[List.length_set]at l1 l2
         rw[hcl,if_neg (fun h=>hoc (apart q4 hos h).2.symm)]at c1 c2
         exact q14.inj i1 i2 b o1 o2 _ _ _ _ l1 l2 m1 m2 c1 c2
      ·simp at he
     ·simp at he
   ·simp at he
  ·simp at he
 ·simp at he
theorem InnOk.wide {w':World} {F':Nat→Prop} (K:zl5 w F w' F') {bs bs':List Nat} (hsub:∀g∈bs,g∈bs'∧w'.heap[g]? = w.heap[g]?) {e2 sz2:Nat} {ys:List (List PV)} {u:Value} (h:InnOk w F bs e2 sz2 ys u):InnOk w' F' bs' e2 sz2 ys u:=by
 rcases h with h|⟨g,cap,cur,h1,h2,h3,h4,h5,h6,h7⟩
 ·exact .inl h
 ·exact .inr ⟨g,cap,cur,h1,(hsub g h2).1,(hsub g h2).2.trans h3,h4,h5,h6,RelE.mono K (hsub g h2).2 _ _ _ h7⟩
theorem InnOk.blk {bs:List Nat} {e2 sz2:Nat} {ys:List (List PV)} {b o n k:Nat} (h:InnOk w F bs e2 sz2 ys (.slice (some ⟨b,o,none⟩) n k)):b∈bs:=by
 rcases h with ⟨h,_⟩|⟨g,cap,cur,h1,h2,_⟩
 ·simp at h
 ·simp only[Value.slice.injEq,oI,Addr.mk.injEq]at h1
  rw[h1.1.1];exact h2
theorem z5p {bd:Bind} {e sz c e2 sz2:Nat} {xs:List (List PV)} {ys:List (List (List PV))} (H:ChOk U w F β bd (.nst e sz c e2 sz2 xs ys none)):∃cells:List Value,w.ownsRow 0 e sz bd.v xs.length cells∧(∀u∈cells,u.oneCell'=true) ∧
 (∀i x y,xs[i]? = some x→ys[i]? = some y→∀j p,x[j]? = some p→∃u,cells[i*sz+j]? = some u∧if j=c then InnOk w F bd.bs e2 sz2 y u else RelP w F p u) ∧
 (∀i i' b o o' n n' k k',i<xs.length→i'<xs.length→cells[i*sz+c]? = some (.slice (some ⟨b,o,none⟩) n k)→cells[i'*sz+c]? = some (.slice (some ⟨b,o',none⟩) n' k')→i=i')∧bd.v.ownBlock=bd.b∧(∀q,bd.b=some q→q∉bd.bs):=by
 obtain⟨q1,q2,q3,q4,q5,q6⟩:=H
 rcases q6 with ⟨q7,rfl,q8,_⟩|⟨g,cap,cur,q7,q8,q9,q10,q11,q12,q13,q14⟩
 ·refine⟨[],by rw[q8];simpa using World.ownsRow_nil w 0 e sz,by simp,by simp,by simp,by rw[q8,q7];rfl,by simp[q7]⟩
 have hle:xs.length*sz≤cap*sz:=Nat.mul_le_mul_right _ q10
 have hl:(cur.toList.take (xs.length*sz)).length=xs.length*sz:=by
  have hc:cur.toList.length=cap*sz:=by simpa using q12
  rw[List.length_take,hc];exact Nat.min_eq_left hle
 have at_:∀q,q<xs.length*sz→(cur.toList.take (xs.length*sz))[q]? = w.cell? ⟨g,q,none⟩:=by
  intro q hq
  rw[List.getElem?_take,if_pos hq]
  simp[World.cell?,q9]
 have lt:∀ {i j:Nat},i<xs.length→j<sz→i*sz+j<xs.length*sz:=by
  intro i j hi hj
  have:i*sz+sz≤xs.length*sz:=by rw[←Nat.succ_mul];exact Nat.mul_le_mul_right _ hi
  omega
 have cells:∀i x y,xs[i]? = some x→ys[i]? = some y→∀j p,x[j]? = some p→∃u,(cur.toList.take (xs.length*sz))[i*sz+j]? = some u∧if j=c then InnOk w F bd.bs e2 sz2 y u else RelP w F p u:=by
  intro i x y hx hy j p hp
  obtain⟨u,hu,hn⟩:=q14.cells i x y hx hy j p hp
  have hi:i<xs.length:=(List.getElem?_eq_some_iff.1 hx).1
  have hj:j<sz:=by rw[←q5 x (List.mem_of_getElem? hx)];exact(List.getElem?_eq_some_iff.1 hp).1
  refine⟨u,by rw[at_ _ (lt hi hj)];exact hu,?_⟩
  unfold NCell at hn
  simpa only[zr3]using hn
 refine⟨cur.toList.take (xs.length*sz),⟨hl,.inr ⟨g,cap,cur,q8,Nat.zero_le _,q9,q10,q11,q12,rfl⟩⟩,fun u hu=>?_,cells,fun i i' b o o' n n' k k' hi hi' h1 h2=>?_,by rw[q8,q7];rfl,fun q hq=>by rw[q7]at hq;cases hq;exact q13⟩
 ·obtain⟨q,hq⟩:=List.getElem?_of_mem hu
  have hql:q<xs.length*sz:=by rw[←hl];exact(List.getElem?_eq_some_iff.1 hq).1
  have hsz:0<sz:=by omega
  have hi:q/sz<xs.length:=(Nat.div_lt_iff_lt_mul hsz).2 hql
  have hj:q % sz<sz:=Nat.mod_lt _ hsz
  have hxl:(xs[q/sz]).length=sz:=q5 _ (List.getElem_mem hi)
  obtain⟨u',hu',hn⟩:=cells (q/sz) xs[q/sz] ys[q/sz] (by simp[hi]) (by simp[q3,hi]) (q % sz) ((xs[q/sz])[q % sz]) (by simp[hxl,hj])
  rw[show q/sz*sz+q % sz=q from by rw[Nat.mul_comm];exact Nat.div_add_mod q sz,hq]at hu'
  cases hu'
  split at hn
  ·exact hn.one
  ·exact hn.one
 ·rw[at_ _ (lt hi q4)]at h1
  rw[at_ _ (lt hi' q4)]at h2
  exact q14.inj i i' b o o' n n' k k' hi hi' rfl rfl h1 h2
def zzp (P:Program) (h:Nat→Chunk) (m:Nat) (t:TypeId) (s x:AV):Option (Prop × Eff) :=
 match s,x with
 | .own a,.own b=>match h a,h b with
  | .nst e sz c e2 sz2 xs ys none,.nst e' sz' c' e2' sz2' xs' ys' none=>match ty P t with
   | some ⟨.sl e0,_,_,_,_⟩=>match ty P e0 with
    | some d=>if Nat.beq d.zero.length d.size&&Nat.ble 1 d.size&&Nat.ble 1 d.bytes&&Nat.beq e0 e&&Nat.beq e0 e'&&Nat.beq d.size sz&&Nat.beq d.size sz'&&Nat.beq c c'&&Nat.beq e2 e2'&&Nat.beq sz2 sz2' && !decide (a=b)then
     some ((xs.length+xs'.length)*d.bytes≤140737488355328,⟨.own m,[(m,.nst e0 d.size c e2 sz2 (xs++xs') (ys++ys') none),(a,.dead),(b,.dead)],1⟩)else none
    | none=>none
   | _=>none
  | _,_=>none
 | _,_=>none
theorem yar (M:MemOk W N U F β h w) (hs:∀id,hT id ≠ .dead→hT id=h id) {m:Nat} (hm:¬U m) {t ty':TypeId} {s x:AV} {φ : Prop} {r:Eff} (he:zzp P hT m t s x=some (φ,r)) (hφ : φ) {sv xv:Value} (hsv:RelA U w F β s sv) (hxv:RelA U w F β x xv) :
 ∃z w',(Builtin.append_ #[t,t] ty' #[sv,xv]).run P w = .ok z w'∧StepTo W N U F β h w m r z w':=by
 unfold zzp at he
 split at he
 ·rename_i a b
  split at he
  ·rename_i e sz c e2 sz2 xs ys e' sz' c' e2' sz2' xs' ys' hca hcb
   split at he
   ·rename_i e0 _ _ _ _ ht
    obtain⟨_,_,_,q2,q3,_⟩:=zbf ht
    have:=zc4 q3
    subst this
    split at he
    ·rename_i d hd
     split at he
     ·rename_i hcd
      simp only[bJ,Bool.not_eq_true']at hcd
      obtain⟨⟨⟨⟨⟨⟨⟨⟨⟨⟨c1,c2⟩,c3⟩,c4⟩,c5⟩,c6⟩,c7⟩,c8⟩,c9⟩,c10⟩,c11⟩:=hcd
      obtain⟨i,z,k1,k2,k3,k4,k5,k6,k7⟩:=ze8 hd c1 c2
      have hby1:=Nat.le_of_ble_eq_true c3
      have c4:=Nat.eq_of_beq_eq_true c4
      have c5:=Nat.eq_of_beq_eq_true c5
      have c6:=Nat.eq_of_beq_eq_true c6
      have c7:=Nat.eq_of_beq_eq_true c7
      have c8:=Nat.eq_of_beq_eq_true c8
      have c9:=Nat.eq_of_beq_eq_true c9
      have c10:=Nat.eq_of_beq_eq_true c10
      have hab:a≠b:=by simpa using c11
      subst c4 c5 c6 c7 c8 c9 c10
      simp only[oI,pJ]at he
      obtain⟨rfl,rfl⟩:=he
      have hbytes:(xs.length+xs'.length)*d.bytes≤140737488355328:=hφ
      have hlenb:xs.length+xs'.length≤140737488355328:=by
       have:(xs.length+xs'.length)*1≤(xs.length+xs'.length)*d.bytes:=Nat.mul_le_mul_left _ hby1
       omega
      have hmax:xs.length+xs'.length≤maxLen:=by unfold maxLen;omega
      obtain⟨ba,hba,Ha⟩:=M.get hs hca (by simp)
      obtain⟨bb,hbb,Hb⟩:=M.get hs hcb (by simp)
      simp only[RelA]at hsv hxv
      obtain⟨va,own_a,one_a,cel_a,inj_a,blk_a,out_a⟩:=z5p Ha
      obtain⟨vb,own_b,one_b,cel_b,inj_b,blk_b,out_b⟩:=z5p Hb
      obtain⟨qa1,qa2,qa3,qa4,qa5,_⟩:=Ha
      obtain⟨qb1,qb2,qb3,qb4,qb5,_⟩:=Hb
      have hsv2:=hsv.2.2 ba hba
      have hxv2:=hxv.2.2 bb hbb
      subst hsv2 hxv2
      have hR:∃v' w',(Builtin.append_ #[t,t] ty' #[ba.v,bb.v]).run P w = .ok v' w'∧w'.ownsRow 0 e0 d.size v' (xs.length+xs'.length) (va++vb)∧w.grownBy w' ba.v.ownBlock ∧
       (v'.ownBlock=ba.v.ownBlock∨∀q,v'.ownBlock=some q→w.heap.size≤q):=by
       rcases own_b.2 with ⟨hv,hn⟩|⟨g,cap,cur,hv,_⟩
       ·obtain rfl:vb = []:=List.eq_nil_of_length_eq_zero (by rw[own_b.1,hn];simp)
        obtain⟨a',n,c',hv',hnc⟩:∃a n c,ba.v = .slice a n c∧n≤c:=by
         rcases own_a.2 with ⟨hv',_⟩|⟨g,cap,cur,hv',_,_,hnc,_⟩
         ·exact⟨none,0,0,hv',Nat.le_refl _⟩
         ·exact⟨_,_,_,hv',hnc⟩
        rw[hv,hv',List.append_nil,hn,Nat.add_zero]
        exact⟨_,w,zyx w t ty' e0 q2 k1 a' n c' hnc none 0,by rw[←hv'];exact own_a,⟨rfl,rfl,rfl,Nat.le_refl _,fun k _ _=>rfl⟩,.inl rfl⟩
       ·have hcl:=own_b.cells (g:=g) (by rw[hv];rfl)
        have:=z4i (P:=P) w 0 t ty' e0 d.size d.bytes q2 k1 k2 k4 k5 k6 k7 ba.v xs.length va own_a ⟨g,0,none⟩ xs'.length cap vb own_b.1 hcl one_b hmax hbytes (Nat.zero_le _)
        rw[←hv]at this
        exact this
      obtain⟨v',w',hr,hown',hgr,hob⟩:=hR
      refine⟨v',w',hr,?_⟩
      have hUa:U a:=hsv.1
      have hUb:U b:=hxv.1
      have ham:a≠m:=fun h=>hm (h▸hUa)
      have hbm:b≠m:=fun h=>hm (h▸hUb)
      have offa:∀q,q∈ba.bs→¬F q∧q<w.heap.size:=fun q hq=>⟨(M.off a ba q hba (.inr hq)).1,(M.off a ba q hba (.inr hq)).2.1⟩
      have offb:∀q,q∈bb.bs→¬F q∧q<w.heap.size:=fun q hq=>⟨(M.off b bb q hbb (.inr hq)).1,(M.off b bb q hbb (.inr hq)).2.1⟩
      have nota:∀q,q∈ba.bs→ba.v.ownBlock≠some q:=fun q hq h=>out_a q (by rw[←blk_a];exact h) hq
      have notb:∀q,q∈bb.bs→ba.v.ownBlock≠some q:=fun q hq h=>hab (M.dis a b ba bb q hba hbb (.inl (by rw[←blk_a];exact h)) (.inr hq))
      have stay:∀q,(q∈ba.bs∨q∈bb.bs)→w'.heap[q]? = w.heap[q]? := by
       intro q hq
       rcases hq with hq|hq
       ·exact hgr.block q (offa q hq).2 (fun h=>nota q hq h.symm)
       ·exact hgr.block q (offb q hq).2 (fun h=>notb q hq h.symm)
      let bd':Bind:=⟨v',v'.ownBlock,xs.length+xs'.length,d.size,ba.bs++bb.bs⟩
      have hvlt:∀q,v'.ownBlock=some q→q<w'.heap.size∧(w.heap.size≤q∨ba.b=some q):=by
       intro q hq
       refine⟨(hown'.lt q hq).2,?_⟩
       rcases hob with h|h
       ·exact .inr (by rw[←blk_a,←h];exact hq)
       ·exact .inl (h q hq)
      have oth:∀i,¬(i=m∨i=a∨i=b)→¬m=i∧¬a=i∧¬b=i:=fun i hi=>⟨fun h=>hi (.inl h.symm),fun h=>hi (.inr (.inl h.symm)),fun h=>hi (.inr (.inr h.symm))⟩
      obtain⟨S1,S2⟩:=M.step (w':=w') (h':=upd h [(m,.nst e0 d.size c e2 sz2 (xs++xs') (ys++ys') none),(a,.dead),(b,.dead)]) (β':=zb2 (zb2 (zb2 β b none) a none) m (some bd')) (F':=F) (U':=fun i=>U i∨(m≤i∧i<m+1)) (fun i=>i=m∨i=a∨i=b)
       (fun i hi=>by obtain⟨h1,h2,h3⟩:=oth i hi;simp only[zb2,if_neg h1,if_neg h2,if_neg h3])
       (fun i hi=>by obtain⟨h1,h2,h3⟩:=oth i hi;simp only[upd,if_neg h1,if_neg h2,if_neg h3])
       hgr.os hgr.tape hgr.output hgr.size
       (fun q hq hn=>hgr.block q hq fun he=>hn a ba (.inr (.inl rfl)) hba (.inl (by rw[←blk_a];exact he.symm)))
       (fun i hi => .inl hi) (fun b hb=>hb) (fun b hb=>⟨Nat.lt_of_lt_of_le (M.fin b hb) hgr.size,.inl hb⟩)
       (fun i bd hi hu hb=>by
        rcases hi with rfl|rfl|rfl
        ·exact(hm hu).elim
        ·simp[zb2,Ne.symm ham]at hb
        ·simp[zb2,Ne.symm hbm,hab]at hb)
       (fun i bd hi hb=>by
        rcases hi with rfl|rfl|rfl
        ·simp only[zb2,if_true,oI]at hb
         subst hb
         refine⟨.inr ⟨Nat.le_refl _,by omega⟩,fun q hq=>?_⟩
         rcases hq with hq|hq
         ·obtain⟨h1,h2⟩:=hvlt q hq
          refine⟨h1,?_,?_⟩
          ·rcases h2 with h2|h2
           ·intro hf;have:=M.fin q hf;omega
           ·exact(M.off a ba q hba (.inl h2)).1
          ·rcases h2 with h2|h2
           ·exact .inl h2
           ·exact .inr ⟨a,ba,.inr (.inl rfl),hba,.inl h2⟩
         ·rcases List.mem_append.1 hq with hq|hq
          ·exact⟨Nat.lt_of_lt_of_le (offa q hq).2 hgr.size,(offa q hq).1,.inr ⟨a,ba,.inr (.inl rfl),hba,.inr hq⟩⟩
          ·exact⟨Nat.lt_of_lt_of_le (offb q hq).2 hgr.size,(offb q hq).1,.inr ⟨b,bb,.inr (.inr rfl),hbb,.inr hq⟩⟩
        ·simp[zb2,Ne.symm ham]at hb
        ·simp[zb2,Ne.symm hbm,hab]at hb)
       (fun i j bi bj q hi hj hbi hbj _ _=>by
        have only:∀i bi,(i=m∨i=a∨i=b)→zb2 (zb2 (zb2 β b none) a none) m (some bd') i=some bi→i=m:=by
         intro i bi hi hb
         rcases hi with rfl|rfl|rfl
         ·rfl
         ·simp[zb2,Ne.symm ham]at hb
         ·simp[zb2,Ne.symm hbm,hab]at hb
        rw[only i bi hi hbi,only j bj hj hbj])
       (fun E i hi hdd=>by
        rcases hi with rfl|rfl|rfl
        ·refine⟨bd',by simp[zb2],?_⟩
         simp only[upd,if_true]
         have hall:∀cs∈xs++xs',cs.length=d.size:=by
          intro cs hc
          rcases List.mem_append.1 hc with hc|hc
          ·exact qa5 cs hc
          ·exact qb5 cs hc
         refine⟨⟨rfl,fun q hq=>?_⟩,by simp[bd'],by simp[qa3,qb3],qa4,hall,?_⟩
         ·rcases List.mem_append.1 hq with hq|hq
          ·obtain⟨cur,hc⟩:=qa1.2 q hq;exact⟨cur,(stay q (.inl hq)).trans hc⟩
          ·obtain⟨cur,hc⟩:=qb1.2 q hq;exact⟨cur,(stay q (.inr hq)).trans hc⟩
         rcases hown'.2 with ⟨hv0,hn0⟩|⟨g,cap,cur,hv0,_,hg,hnc,hcm,hcs,htake⟩
         ·exact .inl ⟨by simp[bd',hv0,Value.ownBlock],List.eq_nil_of_length_eq_zero (by simpa using hn0),hv0,rfl⟩
         have hob2:v'.ownBlock=some g:=by rw[hv0];rfl
         have hcel:∀q u,(va++vb)[q]? = some u→w'.cell? ⟨g,q,none⟩=some u:=by
          intro q u hu
          have:=hown'.cells (g:=g) hob2 q u hu
          rwa [Addr.add_lit,Nat.zero_add]at this
         have hal:va.length=xs.length*d.size:=own_a.1
         have idx:∀ {i:Nat},xs.length≤i→∀j,i*d.size+j=va.length+((i-xs.length)*d.size+j):=by
          intro i hi j
          rw[hal]
          have:i*d.size=xs.length*d.size+(i-xs.length)*d.size:=by rw[←Nat.add_mul];congr 1;omega
          omega
         have get:∀i x y,(xs++xs')[i]? = some x→(ys++ys')[i]? = some y→∀j p,x[j]? = some p→∃u,(va++vb)[i*d.size+j]? = some u∧if j=c then ((i<xs.length∧InnOk w F ba.bs e2 sz2 y u)∨(xs.length≤i∧InnOk w F bb.bs e2 sz2 y u))else RelP w F p u:=by
          intro i x y hx hy j p hp
          by_cases hi:i<xs.length
          ·rw[List.getElem?_append_left hi]at hx
           rw[List.getElem?_append_left (by omega)]at hy
           obtain⟨u,hu,hn⟩:=cel_a i x y hx hy j p hp
           refine⟨u,by rw[List.getElem?_append_left (List.getElem?_eq_some_iff.1 hu).1];exact hu,?_⟩
           split
           ·rename_i hj;rw[if_pos hj]at hn;exact .inl ⟨hi,hn⟩
           ·rename_i hj;rw[if_neg hj]at hn;exact hn
          ·rw[List.getElem?_append_right (by omega)]at hx
           rw[List.getElem?_append_right (by omega),qa3]at hy
           obtain⟨u,hu,hn⟩:=cel_b _ x y hx hy j p hp
           refine⟨u,by rw[idx (by omega),List.getElem?_append_right (by omega),Nat.add_sub_cancel_left];exact hu,?_⟩
           split
           ·rename_i hj;rw[if_pos hj]at hn;exact .inr ⟨by omega,hn⟩
           ·rename_i hj;rw[if_neg hj]at hn;exact hn
         refine .inr ⟨g,cap,cur,by simp[bd',hv0,Value.ownBlock],by simpa[bd']using hv0,hg,by simpa using hnc,hcm,hcs,?_,?_⟩
         ·intro hin
          rcases (hvlt g hob2).2 with h2|h2
          ·rcases List.mem_append.1 hin with hq|hq
           ·have:=(offa g hq).2;omega
           ·have:=(offb g hq).2;omega
          ·rcases List.mem_append.1 hin with hq|hq
           ·exact out_a g h2 hq
           ·exact hab (M.dis a b ba bb g hba hbb (.inl h2) (.inr hq))
         ·have inn:∀i b' o n k,i<(xs++xs').length→(va++vb)[i*d.size+c]? = some (.slice (some ⟨b',o,none⟩) n k)→(i<xs.length∧b'∈ba.bs)∨(xs.length≤i∧b'∈bb.bs):=by
           intro i b' o n k hi hc
           have hx:(xs++xs')[i]? = some ((xs++xs')[i]):=List.getElem?_eq_getElem hi
           have hyl:i<(ys++ys').length:=by simp[qa3,qb3]at hi ⊢;exact hi
           have hy:(ys++ys')[i]? = some ((ys++ys')[i]):=List.getElem?_eq_getElem hyl
           have hxl:((xs++xs')[i]).length=d.size:=hall _ (List.getElem_mem hi)
           obtain⟨u,hu,hn⟩:=get i _ _ hx hy c _ (List.getElem?_eq_getElem (by rw[hxl];exact qa4))
           rw[hc]at hu;cases hu
           rw[if_pos rfl]at hn
           rcases hn with ⟨h1,h2⟩|⟨h1,h2⟩
           ·exact .inl ⟨h1,h2.blk⟩
           ·exact .inr ⟨h1,h2.blk⟩
          have tot:(va++vb).length=(xs++xs').length*d.size:=by rw[List.length_append,own_a.1,own_b.1,List.length_append,Nat.add_mul]
          have back:∀i u,i<(xs++xs').length→w'.cell? ⟨g,i*d.size+c,none⟩=some u→(va++vb)[i*d.size+c]? = some u:=by
           intro i u hi hu
           have hlt:i*d.size+c<(va++vb).length:=by
            rw[tot]
            have:i*d.size+d.size≤(xs++xs').length*d.size:=by rw[←Nat.succ_mul];exact Nat.mul_le_mul_right _ hi
            omega
           have h1:=hcel _ _ (List.getElem?_eq_getElem hlt)
           rw[hu]at h1
           rw[List.getElem?_eq_getElem hlt,h1]
          refine⟨fun i x y hx hy j p hp=>?_,fun i i' b' o o' n n' k k' hi hi' _ _ h1 h2=>?_,fun i id ho=>by simp at ho⟩
          ·obtain⟨u,hu,hn⟩:=get i x y hx hy j p hp
           refine⟨u,hcel _ _ hu,?_⟩
           unfold NCell
           simp only[zr3]
           split
           ·rename_i hj
            rw[if_pos hj]at hn
            rcases hn with ⟨_,hn⟩|⟨_,hn⟩
            ·exact hn.wide E.f fun q hq=>⟨List.mem_append.2 (.inl hq),stay q (.inl hq)⟩
            ·exact hn.wide E.f fun q hq=>⟨List.mem_append.2 (.inr hq),stay q (.inr hq)⟩
           ·rename_i hj
            rw[if_neg hj]at hn
            exact RelP.mono E.f _ _ hn
          ·have g1:=back i _ hi h1
           have g2:=back i' _ hi' h2
           have contra:b'∈ba.bs→b'∈bb.bs→False:=fun h3 h4=>hab (M.dis a b ba bb b' hba hbb (.inr h3) (.inr h4))
           rcases inn i b' o n k hi g1 with ⟨l1,m1⟩|⟨l1,m1⟩<;>rcases inn i' b' o' n' k' hi' g2 with ⟨l2,m2⟩|⟨l2,m2⟩
           ·have u1:i*d.size+c<va.length:=by
             rw[hal]
             have:i*d.size+d.size≤xs.length*d.size:=by rw[←Nat.succ_mul];exact Nat.mul_le_mul_right _ l1
             omega
            have u2:i'*d.size+c<va.length:=by
             rw[hal]
             have:i'*d.size+d.size≤xs.length*d.size:=by rw[←Nat.succ_mul];exact Nat.mul_le_mul_right _ l2
             omega
            rw[List.getElem?_append_left u1]at g1
            rw[List.getElem?_append_left u2]at g2
            exact inj_a i i' b' o o' n n' k k' l1 l2 g1 g2
           ·exact(contra m1 m2).elim
           ·exact(contra m2 m1).elim
           ·rw[idx l1,List.getElem?_append_right (by omega),Nat.add_sub_cancel_left]at g1
            rw[idx l2,List.getElem?_append_right (by omega),Nat.add_sub_cancel_left]at g2
            simp only[List.length_append]at hi hi'
            have:=inj_b _ _ b' o o' n n' k k' (by omega) (by omega) g1 g2
            omega
        ·exact(hdd (by simp[upd,Ne.symm ham])).elim
        ·exact(hdd (by simp[upd,Ne.symm hbm,hab])).elim)
      refine⟨F,_,S1,S2,?_,fun b hb => .inl hb⟩
      simp only[RelA]
      refine⟨.inr ⟨Nat.le_refl _,by omega⟩,?_,fun bd hb=>?_⟩
      ·rcases hown'.2 with ⟨hv0,_⟩|⟨g,cap,cur,hv0,_⟩<;>rw[hv0]<;>rfl
      ·simp only[zb2,if_true,oI]at hb
       subst hb;rfl
     ·simp at he
    ·simp at he
   ·simp at he
  ·simp at he
 ·simp at he
def zen:List AV→Option (Nat × Nat × List PV)
 | []=>none
 | .own k::r=>match ztu r with
  | some ps=>some (0,k,.undef::ps)
  | none=>none
 | x::r=>match zwm x,zen r with
  | some p,some (c,k,ps)=>some (c+1,k,p::ps)
  | _,_=>none
theorem zuu:∀ {cs:List AV} {c k:Nat} {ps:List PV},zen cs=some (c,k,ps)→c<cs.length∧ps.length=cs.length∧cs[c]? = some (.own k)∧∀q p,ps[q]? = some p→q≠c→cs[q]? = some (.c p)
 | [],_,_,_,h=>by simp[zen]at h
 | .own k'::r,c,k,ps,h=>by
  simp only[zen]at h
  split at h
  ·rename_i ps' hps
   simp only[oI,pJ]at h
   obtain⟨rfl,rfl,rfl⟩:=h
   have:=zj9 hps
   subst this
   refine⟨by simp,by simp,rfl,fun q p hq hne=>?_⟩
   cases q with
   | zero=>exact(hne rfl).elim
   | succ q=>simpa using hq
  ·simp at h
 | .c p0::r,c,k,ps,h=>by
  simp only[zen,zwm]at h
  split at h
  ·rename_i p c' k' ps' h1 h2
   simp only[oI,pJ]at h h1
   obtain⟨rfl,rfl,rfl⟩:=h
   subst h1
   obtain⟨k1,k2,k3,k4⟩:=zuu h2
   refine⟨by simpa using k1,by simpa using k2,by simpa using k3,fun q p hq hne=>?_⟩
   cases q with
   | zero=>simp at hq ⊢;exact hq
   | succ q=>simpa using k4 q p (by simpa using hq) (by omega)
  ·simp at h
 | .undef::r,_,_,_,h=>by simp[zen,zwm]at h
 | .agg _::r,_,_,_,h=>by simp[zen,zwm]at h
 | .tup _::r,_,_,_,h=>by simp[zen,zwm]at h
 | .view _ _ _::r,_,_,_,h=>by simp[zen,zwm]at h
 | .ptr _ _ _::r,_,_,_,h=>by simp[zen,zwm]at h
 | .fel _ _ _ _::r,_,_,_,h=>by simp[zen,zwm]at h
 | .clo _ _ _::r,_,_,_,h=>by simp[zen,zwm]at h
 | .ifc _ _::r,_,_,_,h=>by simp[zen,zwm]at h
 | .map _::r,_,_,_,h=>by simp[zen,zwm]at h
 | .opt _ _::r,_,_,_,h=>by simp[zen,zwm]at h
def zzl (P:Program) (h:Nat→Chunk) (m:Nat) (t:TypeId) (len:Nat) (parts:List (Nat × AV)):Option (Prop × Eff) :=
 match ty P t with
 | some ⟨.sl e,_,_,_,_⟩=>match ty P e with
  | some d=>if Nat.beq d.zero.length d.size&&Nat.ble 1 d.size&&d.zero.all (·.oneCell')&&Nat.ble (len*d.size) 16777216&&Nat.beq len 1 then
   match zjw (fun i=>some (i*d.size,d.size)) (List.replicate (len*d.size) (.c .undef)) parts with
   | some cs=>match zen cs with
    | some (c,k,ps)=>match h k with
     | .keep e2 sz2 zs=>some (True,⟨.own m,[(m,.nst e d.size c e2 sz2 [ps] [zs] none),(k,.dead)],1⟩)
     | _=>none
    | none=>none
   | none=>none
   else none
  | none=>none
 | _=>none
theorem zvo (place:Nat→Option (Nat × Nat)):∀(r:List (Nat × AV)) (a b:List AV),zjw place a r=some b→b.length=a.length
 | [],a,b,h=>by simp only[zjw,oI]at h;subst h;rfl
 | p::r,a,b,h=>by
  unfold zjw at h
  split at h
  ·split at h
   ·rename_i hc
    simp only[bJ]at hc
    have n1:=Nat.eq_of_beq_eq_true hc.1
    have n2:=Nat.le_of_ble_eq_true hc.2
    rw[zvo place r _ _ h,zbv _ _ _ (by omega)]
   ·simp at h
  ·simp at h
theorem z5w (M:MemOk W N U F β h w) (hs:∀id,hT id ≠ .dead→hT id=h id) {m:Nat} (hm:¬U m) {k e2 sz2:Nat} {zs:List (List PV)} (hk:hT k = .keep e2 sz2 zs) (hUk:U k) (e sz c:Nat) {ps:List PV} {us:Array Value} (hps:ps.length=sz) (hus:us.size=sz) (hc:c<sz)
 (hcell:∀j p,ps[j]? = some p→∃u,us[j]? = some u∧if j=c then (∀bd,β k=some bd→u=bd.v)else RelP w F p u) :
 StepTo W N U F β h w m ⟨.own m,[(m,.nst e sz c e2 sz2 [ps] [zs] none),(k,.dead)],1⟩ (.slice (some ⟨w.heap.size,0,none⟩) 1 1) (w.alloc (.cells us e)):=by
 have hkm:k≠m:=fun h=>hm (h▸hUk)
 obtain⟨bk,hbk,z1,z2,z3,z4⟩:=M.get hs hk (by simp)
 have hsz:(w.alloc (.cells us e)).heap.size=w.heap.size+1:=by show (w.heap.push _).size=_;simp
 have old:∀q,bk.b=some q→(w.alloc (.cells us e)).heap[q]? = w.heap[q]? ∧ q<w.heap.size∧¬F q:=fun q hq =>
  ⟨heap_alloc_old w _ (M.off k bk q hbk (.inl hq)).2.1,(M.off k bk q hbk (.inl hq)).2.1,(M.off k bk q hbk (.inl hq)).1⟩
 have oth:∀i,¬(i=m∨i=k)→¬m=i∧¬k=i:=fun i hi=>⟨fun h=>hi (.inl h.symm),fun h=>hi (.inr h.symm)⟩
 let bd':Bind:=⟨.slice (some ⟨w.heap.size,0,none⟩) 1 1,some w.heap.size,1,sz,bk.b.toList⟩
 have hin:∀q,q∈bk.b.toList→bk.b=some q:=fun q hq=>by
  cases hb:bk.b with
  | none=>rw[hb]at hq;simp at hq
  | some q'=>rw[hb]at hq;simp at hq;rw[hq]
 obtain⟨S1,S2⟩:=M.step (w':=w.alloc (.cells us e)) (h':=upd h [(m,.nst e sz c e2 sz2 [ps] [zs] none),(k,.dead)]) (β':=zb2 (zb2 β k none) m (some bd')) (F':=F) (U':=fun i=>U i∨(m≤i∧i<m+1)) (fun i=>i=m∨i=k)
  (fun i hi=>by obtain⟨h1,h2⟩:=oth i hi;simp only[zb2,if_neg h1,if_neg h2])
  (fun i hi=>by obtain⟨h1,h2⟩:=oth i hi;simp only[upd,if_neg h1,if_neg h2])
  rfl rfl rfl (by omega) (fun b hb _=>heap_alloc_old w _ hb)
  (fun i hi => .inl hi) (fun b hb=>hb) (fun b hb=>⟨by have:=M.fin b hb;omega,.inl hb⟩)
  (fun i bd hi hu hb=>by
   rcases hi with rfl|rfl
   ·exact(hm hu).elim
   ·simp[zb2,Ne.symm hkm]at hb)
  (fun i bd hi hb=>by
   rcases hi with rfl|rfl
   ·simp only[zb2,if_true,oI]at hb
    subst hb
    refine⟨.inr ⟨Nat.le_refl _,by omega⟩,fun q hq=>?_⟩
    rcases hq with hq|hq
    ·simp only[bd',oI]at hq
     subst hq
     exact⟨by omega,fun hf=>by have:=M.fin _ hf;omega,.inl (Nat.le_refl _)⟩
    ·have hq:=hin q hq
     obtain⟨_,h2,h3⟩:=old q hq
     exact⟨by omega,h3,.inr ⟨k,bk,.inr rfl,hbk,.inl hq⟩⟩
   ·simp[zb2,Ne.symm hkm]at hb)
  (fun i j bi bj q hi hj hbi hbj _ _=>by
   have only:∀i bi,(i=m∨i=k)→zb2 (zb2 β k none) m (some bd') i=some bi→i=m:=by
    intro i bi hi hb
    rcases hi with rfl|rfl
    ·rfl
    ·simp[zb2,Ne.symm hkm]at hb
   rw[only i bi hi hbi,only j bj hj hbj])
  (fun E i hi hdd=>by
   rcases hi with rfl|rfl
   ·refine⟨bd',by simp[zb2],?_⟩
    simp only[upd,if_true]
    refine⟨⟨rfl,fun q hq=>?_⟩,rfl,rfl,hc,by simpa using hps,.inr ⟨w.heap.size,1,us,rfl,rfl,heap_alloc_new w _,Nat.le_refl _,by unfold maxLen;omega,by omega,fun hq=>?_,?_⟩⟩
    ·have hq:=hin q hq
     rcases z4 with ⟨h5,_⟩|⟨g,cap,cur,h5,_,h7,_⟩
     ·rw[hq]at h5;simp at h5
     ·rw[hq]at h5;cases h5
      exact⟨cur,(old q hq).1.trans h7⟩
    ·have:=(old _ (hin _ hq)).2.1;omega
    ·refine⟨fun i x y hx hy j p hp=>?_,fun i i' b o o' n n' k k' hi hi' _ _ _ _=>by simp at hi hi';omega,fun i id ho=>by simp at ho⟩
     have hi0:i=0:=by have:=(List.getElem?_eq_some_iff.1 hx).1;simp at this;exact this
     subst hi0
     simp only[List.getElem?_cons_zero,oI]at hx hy
     subst hx hy
     obtain⟨u,hu,hn⟩:=hcell j p hp
     refine⟨u,by rw[zs9];simpa using hu,?_⟩
     unfold NCell
     simp only[zr3]
     split
     ·rename_i hj
      rw[if_pos hj]at hn
      rw[hn bk hbk]
      rcases z4 with ⟨_,h6,h7⟩|⟨g,cap,cur,h5,h6,h7,h8,h9,h10,h11⟩
      ·exact .inl ⟨h7,h6⟩
      ·exact .inr ⟨g,cap,cur,h6,by simp[bd',h5],(old g h5).1.trans h7,h8,h9,h10,RelE.mono E.f (old g h5).1 _ _ _ h11⟩
     ·rename_i hj
      rw[if_neg hj]at hn
      exact RelP.mono E.f _ _ hn
   ·exact(hdd (by simp[upd,Ne.symm hkm])).elim)
 refine⟨F,_,S1,S2,?_,fun b hb => .inl hb⟩
 simp only[RelA]
 refine⟨.inr ⟨Nat.le_refl _,by omega⟩,rfl,fun bd hb=>?_⟩
 simp only[zb2,if_true,oI]at hb
 subst hb;rfl
theorem yan (M:MemOk W N U F β h w) (hs:∀id,hT id ≠ .dead→hT id=h id) {m:Nat} (hm:¬U m) {g:Operand→AV} {ev:Operand→Value} {t:TypeId} {len:Nat} {parts:Array (Nat × Operand)} (G:∀p∈parts.toList,RelA U w F β (g p.2) (ev p.2)) {φ : Prop} {x:Eff}
 (he:zzl P hT m t len (parts.toList.map fun p=>(p.1,g p.2))=some (φ,x)):∃z w',(Instr.buildSlice t len (parts.map fun (i,x)=>(i,ev x))).run P w = .ok z w'∧StepTo W N U F β h w m x z w':=by
 unfold zzl at he
 split at he
 ·rename_i e _ _ _ _ ht
  obtain⟨_,_,_,q2,q3,_⟩:=zbf ht
  have:=zc4 q3
  subst this
  split at he
  ·rename_i d hd
   split at he
   ·rename_i hcd
    simp only[bJ]at hcd
    obtain⟨⟨⟨⟨hz1,hz2⟩,hz3⟩,hz4⟩,hlen⟩:=hcd
    have hlen:=Nat.eq_of_beq_eq_true hlen
    subst hlen
    obtain⟨i,z,k1,k2,k3,k4,k5,k6,k7⟩:=ze8 hd hz1 hz2
    split at he
    ·rename_i cs hf
     split at he
     ·rename_i c k ps hsp
      split at he
      ·rename_i e2 sz2 zs hk
       simp only[oI,pJ]at he
       obtain⟨_,rfl⟩:=he
       have hle:=Nat.le_of_ble_eq_true hz4
       rw[Nat.one_mul]at hf hle
       obtain⟨zz,hzz,hz0⟩:∃zz:Array Value,zz=z.cells∧∀u∈((Array.range i.size).map (zz[· % zz.size]!)).toList,u.oneCell'=true:=by
        refine⟨z.cells,rfl,?_⟩
        intro u hu
        simp only[Array.toList_map,List.mem_map]at hu
        obtain⟨j,hj,rfl⟩:=hu
        have hlt:j % z.cells.size<z.cells.size:=Nat.mod_lt _ (by omega)
        have e1:z.cells[j % z.cells.size]! = z.cells[j % z.cells.size]:=by simp[hlt]
        rw[e1]
        exact List.all_eq_true.1 hz3 _ (by rw[←k3];simp)
       generalize hus0:(Array.range i.size).map (zz[· % zz.size]!)=us0 at hz0
       have hs0:us0.size=d.size:=by rw[←hus0,←k4];simp
       have hb:RelL U w F β (List.replicate d.size (.c .undef)) us0.toList:=by
        refine RelL.of (by simp[hs0]) fun j x u hx hu=>?_
        have:=List.eq_of_mem_replicate (List.mem_of_getElem? hx)
        subst this
        simp only[RelA,RelP]
        exact hz0 u (List.mem_of_getElem? hu)
       obtain⟨us',e1,e2',e3⟩:=zkw (place':=fun i=>some (i*d.size,d.size)) (fun i q hq=>hq) _ (parts.map fun (i,x)=>(i,ev x)).toList _ _ us0 hf (by simp) (zke parts G) hb hz0
       obtain⟨s1,s2,s3,s4⟩:=zuu hsp
       have hcl:cs.length=d.size:=by rw[zvo _ _ _ _ hf];simp
       have hus:us'.size=d.size:=by have:=e2'.len;simpa[hcl]using this
       obtain⟨uk,hu1,hu2⟩:=e2'.at c _ s3
       simp only[RelA]at hu2
       have:=z5w M hs hm hk hu2.1 e d.size c (ps:=ps) (us:=us') (by omega) hus (by omega) (fun j p hp=>?_)
       ·refine⟨_,_,?_,this⟩
        have hnot:¬(1*i.size>2 ^ 24):=by rw[k4];omega
        have hn0:¬(1*i.size=0):=by omega
        simp only[Instr.buildSlice,Sem.run_bind,run_underlying q2,Result.andThen_ok,zba k1,Sem.run_ite,if_neg hnot,if_neg hn0,zfc k1 k2,Sem.run_pure]
        subst hzz
        rw[Nat.one_mul,hus0,k4,e1]
        rfl
       ·by_cases hj:j=c
        ·subst hj
         refine⟨uk,by simpa using hu1,?_⟩
         rw[if_pos rfl]
         exact hu2.2.2
        ·obtain⟨u,h1,h2⟩:=e2'.at j _ (s4 j p hp hj)
         refine⟨u,by simpa using h1,?_⟩
         rw[if_neg hj]
         simpa only[RelA]using h2
      ·simp at he
     ·simp at he
    ·simp at he
   ·simp at he
  ·simp at he
 ·simp at he
def yal (P:Program) (g:Operand→AV) (h:Nat→Chunk) (m:Nat):Op→Option (Prop × Eff)
 | .indexAddr t x i=>match zzo P h t (g x) (g i)with
  | some (φ,x)=>some (φ,⟨x,[],0⟩)
  | none=>none
 | .load t a=>match zr6 P h t (g a)with
  | some (φ,x)=>some (φ,⟨x,[],0⟩)
  | none=>none
 | .store t a x=>zm0 P h t (g a) (g x)
 | .binOp .eql t x (.const c) _=>match g (.const c)with
  | .c (.v .nilIface)=>match zzn P t (g x)with
   | some y=>some (True,⟨y,[],0⟩)
   | none=>none
  | _=>none
 | .buildSlice t len parts=>zzl P h m t len (parts.toList.map fun p=>(p.1,g p.2))
 | .convert a b x=>match zr7 P h a b (g x)with
  | some (φ,x)=>some (φ,⟨x,[],0⟩)
  | none=>match zr8 P a b (g x)with
   | some (φ,x)=>some (φ,⟨x,[],0⟩)
   | none=>none
 | .call ⟨.builtin .len,args,ts⟩=>match ts[0]?,args[0]? with
  | some t,some x=>match zzm P h t (g x)with
   | some (φ,x)=>some (φ,⟨x,[],0⟩)
   | none=>none
  | _,_=>none
 | .call ⟨.builtin .append,args,ts⟩=>match args.toList,ts.toList with
  | [s,x],[t,t']=>if Nat.beq t t' then zzp P h m t (g s) (g x)else none
  | _,_=>none
 | _=>none
def ex4 (P:Program) (g:Operand→AV) (h:Nat→Chunk) (m:Nat) (op:Op):Option (Prop × Eff) :=
 match ex3 P g h m op with
 | some r=>some r
 | none=>yal P g h m op
theorem z5q (M:MemOk W N U F β h w) (hs:∀id,hT id ≠ .dead→hT id=h id) {m:Nat} (hm:¬U m) {g:Operand→AV} {ev:Operand→Value} {o:Oper} (G:∀x∈o.op.operands.toList,RelA U w F β (g x) (ev x)) {φ : Prop} {r:Eff} (he:yal P g hT m o.op=some (φ,r)) (hφ : φ) :
 ∃n w',(execOp ev o).run P w = .ok n w'∧z15 n=true∧StepTo W N U F β h w m r (nv n) w':=by
 unfold yal at he
 split at he
 ·rename_i t y i hop
  split at he
  ·rename_i φ' x hx
   simp only[oI,pJ]at he
   obtain⟨rfl,rfl⟩:=he
   obtain⟨z,h1,h2⟩:=yaq M hs hx hφ (G y (by simp[hop,Op.operands])) (G i (by simp[hop,Op.operands]))
   exact⟨.value z,w,by simp only[execOp,hop,Sem.run_bind,h1,Result.andThen_ok,Sem.run_pure],rfl,zbq M m h2⟩
  ·simp at he
 ·rename_i t a hop
  split at he
  ·rename_i φ' x hx
   simp only[oI,pJ]at he
   obtain⟨rfl,rfl⟩:=he
   obtain⟨z,h1,h2⟩:=z5v M hs hx hφ (G a (by simp[hop,Op.operands]))
   exact⟨.value z,w,by simp only[execOp,hop,Sem.run_bind,h1,Result.andThen_ok,Sem.run_pure],rfl,zbq M m h2⟩
  ·simp at he
 ·rename_i t a x hop
  obtain⟨w',h1,h2⟩:=z1v M hs m he hφ (G a (by simp[hop,Op.operands])) (G x (by simp[hop,Op.operands]))
  exact⟨.skip,w',by simp only[execOp,hop,Sem.run_bind,h1,Result.andThen_ok,Sem.run_pure],rfl,h2⟩
 ·rename_i t x c yt hop
  split at he
  ·rename_i hc
   split at he
   ·rename_i y hx
    simp only[oI,pJ]at he
    obtain⟨rfl,rfl⟩:=he
    have e:=G (.const c) (by simp[hop,Op.operands])
    rw[hc,relC]at e
    obtain⟨z,h1,h2⟩:=yap hx (G x (by simp[hop,Op.operands])) x c
    refine⟨.value z,w,?_,rfl,zbq M m h2⟩
    simp only[Sem.run_bind]at h1
    simp only[execOp,hop,e.1,Sem.run_bind,h1,Result.andThen_ok,Sem.run_pure]
   ·simp at he
  ·simp at he
 ·rename_i t len parts hop
  obtain⟨z,w',h1,h2⟩:=yan M hs hm (fun p hp=>G p.2 (by simp[hop,Op.operands];exact⟨_,by simpa using hp⟩)) he
  exact⟨.value z,w',by simp only[execOp,hop,Sem.run_bind,h1,Result.andThen_ok,Sem.run_pure],rfl,h2⟩
 ·rename_i t t' x hop
  split at he
  ·rename_i φ' y hx
   simp only[oI,pJ]at he
   obtain⟨rfl,rfl⟩:=he
   obtain⟨z,h1,h2⟩:=z5x M hs hx hφ (G x (by simp[hop,Op.operands]))
   exact⟨.value z,w,by simp only[execOp,hop,Sem.run_bind,h1,Result.andThen_ok,Sem.run_pure],rfl,zbq M m h2⟩
  ·split at he
   ·rename_i φ' y hx
    simp only[oI,pJ]at he
    obtain⟨rfl,rfl⟩:=he
    obtain⟨z,w',h1,h2⟩:=z5y M m hx hφ (G x (by simp[hop,Op.operands]))
    exact⟨.value z,w',by simp only[execOp,hop,Sem.run_bind,h1,Result.andThen_ok,Sem.run_pure],rfl,h2⟩
   ·simp at he
 ·rename_i args ts hop
  split at he
  ·rename_i t y ht hy
   split at he
   ·rename_i φ' x hx
    simp only[oI,pJ]at he
    obtain⟨rfl,rfl⟩:=he
    obtain⟨z,h1,h2⟩:=yao M hs hx (G y (by simp[hop,Op.operands,Call.operands];exact Array.mem_of_getElem? hy)) ts ht (args.map ev) (by simp[hy]) o.type
    refine⟨.value z,w,?_,rfl,zbq M m h2⟩
    simp only[execOp,hop,resolve,Sem.run_bind,Sem.run_pure,Result.andThen_ok,invoke,builtin,h1]
   ·simp at he
  ·simp at he
 ·rename_i args ts hop
  split at he
  ·rename_i s x t t' ha ht
   split at he
   ·rename_i heq
    have:=Nat.eq_of_beq_eq_true heq
    subst this
    have ha':args = #[s,x]:=by rw[←ha]
    have ht':ts = #[t,t]:=by rw[←ht]
    subst ha' ht'
    obtain⟨z,w',h1,h2⟩:=yar (ty':=o.type) M hs hm he hφ (G s (by simp[hop,Op.operands,Call.operands])) (G x (by simp[hop,Op.operands,Call.operands]))
    refine⟨.value z,w',?_,rfl,h2⟩
    simp only[execOp,hop,resolve,Sem.run_bind,Sem.run_pure,Result.andThen_ok,invoke,builtin,List.map_toArray,List.map_cons,List.map_nil,h1]
   ·simp at he
  ·simp at he
 ·simp at he
theorem ygu (M:MemOk W N U F β h w) (hs:∀id,hT id ≠ .dead→hT id=h id) {m:Nat} (hm:¬U m) {g:Operand→AV} {ev:Operand→Value} {o:Oper} (G:∀x∈o.op.operands.toList,RelA U w F β (g x) (ev x)) {φ : Prop} {r:Eff} (he:ex4 P g hT m o.op=some (φ,r)) (hφ : φ) :
 ∃n w',(execOp ev o).run P w = .ok n w'∧z15 n=true∧StepTo W N U F β h w m r (nv n) w':=by
 unfold ex4 at he
 split at he
 ·rename_i q hq
  simp only[oI]at he
  subst he
  exact ygv M hs hm G hq hφ
 ·exact z5q M hs hm G he hφ
end
def nth (hs:List Chunk) (i:Nat):Chunk:=hs.getD i .dead
def zhk (P : Program) (f : FuncId) : Prop := ∃ fn, P.funcs[f]? = some fn ∧ fn.body.isSome = true ∧ (fn.name == "runtime.NumGoroutine") = false
def inB (β : Nat→Option Bind) (b:Nat):Prop:=∃i bd,β i=some bd∧bd.has b
def yho (P:Program) (f:FuncId) (args:List AV) (hs:List Chunk) (r:AV) (hs':List Chunk) (E:Value→Ending):Prop :=
 zhk P f∧hs.length≤hs'.length ∧
 ∀(w:World) (F:Nat→Prop) (β : Nat→Option Bind) (vs:List Value),
  MemOk w (inB β) (· < hs.length) F β (nth hs) w→RelL (· < hs.length) w F β args vs →
  Calls P f vs.toArray w fun e w'=>∃v F' β',e=E v ∧
   MemOk w (inB β) (· < hs'.length) F' β' (nth hs') w'∧RelA (· < hs'.length) w' F' β' r v∧(∀b,F b→F' b) ∧
   (∀b,F' b→F b∨w.heap.size≤b∨inB β b)∧(∀i bd,i<hs.length → β' i=some bd→∃bs,β i=some ⟨bd.v,bd.b,bd.n,bd.sz,bs⟩)
def Spec (P:Program) (f:FuncId) (args:List AV) (hs:List Chunk) (r:AV) (hs':List Chunk):Prop:=yho P f args hs r hs' Ending.returned
def ix (ids:List Nat) (id:Nat):Option Nat:=go ids 0
where go:List Nat→Nat→Option Nat
 | [],_=>none
 | a::r,k=>if a=id then some k else go r (k+1)
theorem zh4 {ids:List Nat} {id j:Nat} (h:ix ids id=some j):ids[j]? = some id:=by
 have key:∀(l:List Nat) (k:Nat),ix.go id l k=some j→k≤j∧l[j-k]? = some id:=by
  intro l
  induction l with
  | nil=>intro k h;simp[ix.go]at h
  | cons a r ih =>
   intro k h
   unfold ix.go at h
   split at h
   ·rename_i e
    simp only[oI]at h
    subst h e
    simp
   ·obtain⟨h1,h2⟩:=ih _ h
    refine⟨by omega,?_⟩
    rw[show j-k=(j-(k+1))+1 from by omega,List.getElem?_cons_succ];exact h2
 simpa using (key ids 0 h).2
theorem zjt {ids:List Nat} {id:Nat} (h:ix ids id=none):id∉ids:=by
 have key:∀(l:List Nat) (k:Nat),ix.go id l k=none→id∉l:=by
  intro l
  induction l with
  | nil=>intro k _;simp
  | cons a r ih =>
   intro k h
   unfold ix.go at h
   split at h
   ·simp at h
   ·rename_i e
    simp only[List.mem_cons,not_or]
    exact⟨fun h'=>e h'.symm,ih _ h⟩
 exact key ids 0 h
def yb4 (ids:List Nat) (h:Nat→Chunk):AV→PV
 | .c p=>p
 | .own id=>match ix ids id with
  | some _ => .undef
  | none=>match h id with | .row _ sz xs => .sl sz xs|_ => .undef
 | .view id o l=>match ix ids id with
  | some _ => .undef
  | none=>match h id with | .row _ sz xs => .sl sz ((xs.drop o).take l)|_ => .undef
 | _ => .undef
mutual
/-- A value as it is seen where the pieces ids alone are owned, and the others are frozen. -/
def cv (ids:List Nat) (h:Nat→Chunk):AV→AV
 | .undef => .undef
 | .c p => .c p
 | .agg xs => .agg (cvL ids h xs)
 | .tup xs => .tup (cvL ids h xs)
 | .own id=>match ix ids id with
  | some j => .own j
  | none=>match h id with | .row _ sz xs => .c (.sl sz xs)|_ => .undef
 | .view id o l=>match ix ids id with
  | some j => .view j o l
  | none=>match h id with | .row _ sz xs => .c (.sl sz ((xs.drop o).take l))|_ => .undef
 | .ptr id i o=>match ix ids id with
  | some j => .ptr j i o
  | none=>match h id with
   | .row _ sz xs => .fel sz xs i o
   | .blk _ cs => .fel cs.length [cs.map (yb4 ids h)] i o
   | _ => .undef
 | .fel sz xs i o => .fel sz xs i o
 | .clo f a b => .clo f (cvL ids h a) (cvL ids h b)
 | .ifc t x => .ifc t (cv ids h x)
 | .map id=>match ix ids id with
  | some j => .map j
  | none => .undef
 | .opt t x => .opt t (cv ids h x)
def cvL (ids:List Nat) (h:Nat→Chunk):List AV→List AV
 | [] => []
 | x::r=>cv ids h x::cvL ids h r
end
def cvC (ids:List Nat) (h:Nat→Chunk):Chunk→Chunk
 | .dead => .dead
 | .row e sz xs => .row e sz xs
 | .blk t cs => .blk t (cvL ids h cs)
 | .mp a n es => .mp a n es
 | .keep e sz xs => .keep e sz xs
 | .nst e sz c e2 sz2 xs ys none => .nst e sz c e2 sz2 xs ys none
 | .nst e sz c e2 sz2 xs ys (some (i,k))=>match ix ids k with
  | some j => .nst e sz c e2 sz2 xs ys (some (i,j))
  | none => .dead
theorem z71 (ids:List Nat) (h:Nat→Chunk):∀xs,(cvL ids h xs).length=xs.length
 | []=>rfl
 | x::r=>by simp[cvL,z71 ids h r]
def z0i (ids:List Nat) (h:Nat→Chunk) (F:Nat→Prop) (β : Nat→Option Bind) (b:Nat):Prop:=F b∨∃id bd,id∉ids∧h id ≠ .dead ∧ β id=some bd∧bd.b=some b
def zkd (ids:List Nat) (β : Nat→Option Bind) (j:Nat):Option Bind:=match ids[j]? with|some id => β id|none=>none
section
variable {P : Program} {W : World} {N U F : Nat → Prop} {β : Nat → Option Bind} {h hT : Nat → Chunk} {w : World}
theorem zet (ids:List Nat) (hT:Nat→Chunk):zl5 w F w (z0i ids hT F β):=fun b hb=>⟨.inl hb,rfl⟩
theorem zxp (M:MemOk W N U F β h w) (hs:∀id,hT id ≠ .dead→hT id=h id) {ids:List Nat} {id e sz:Nat} {xs:List (List PV)} (hn:id∉ids) (hc:hT id = .row e sz xs):∃bd,β id=some bd∧bd.sz=sz∧bd.n=xs.length ∧
 ((bd.b=none∧xs = []∧bd.v = .slice none 0 0)∨∃g cap,bd.b=some g∧bd.v = .slice (some ⟨g,0,none⟩) xs.length cap∧xs.length≤cap∧cap≤maxLen∧z0i ids hT F β g∧RelE w (z0i ids hT F β) g sz 0 xs):=by
 obtain⟨bd,hb,h1,h2,h3,h4⟩:=M.get hs hc (by simp)
 refine⟨bd,hb,h1.1,h2,?_⟩
 rcases h4 with h4|⟨g,cap,cur,h5,h6,h7,h8,h9,h10,hE⟩
 ·exact .inl h4
 ·exact .inr ⟨g,cap,h5,h6,h8,h9,.inr ⟨id,bd,hn,by rw[hc];simp,hb,h5⟩,RelE.mono (zet ids hT) rfl _ _ _ hE⟩
theorem zy4 (M:MemOk W N U F β h w) (hs:∀id,hT id ≠ .dead→hT id=h id) {ids:List Nat} {id e sz:Nat} {xs:List (List PV)} (hn:id∉ids) (hc:hT id = .row e sz xs) {v:Value} (hv:∀bd,β id=some bd→v=bd.v):RelP w (z0i ids hT F β) (.sl sz xs) v:=by
 obtain⟨bd,hb,h1,h2,h4⟩:=zxp M hs hn hc
 rw[hv bd hb]
 simp only[RelP]
 rcases h4 with ⟨_,rfl,h6⟩|⟨g,cap,h5,h6,h8,h9,hF,hE⟩
 ·exact⟨none,0,h6,Nat.le_refl _,Nat.zero_le _,.inl rfl⟩
 ·exact⟨_,cap,h6,h8,h9,.inr ⟨g,0,rfl,hF,hE⟩⟩
theorem zud (M:MemOk W N U F β h w) (hs:∀id,hT id ≠ .dead→hT id=h id) {ids:List Nat} {id e sz o l:Nat} {xs:List (List PV)} (hn:id∉ids) (hc:hT id = .row e sz xs) {v:Value}
 (hv:∀bd,β id=some bd→∃a c,v = .slice a l c∧o+l≤bd.n∧l≤c∧c≤maxLen∧(l=0∨∃g,bd.b=some g∧a=some ⟨g,o*bd.sz,none⟩)∧(o=0→∃n,bd.v = .slice a n c)):RelP w (z0i ids hT F β) (.sl sz ((xs.drop o).take l)) v:=by
 obtain⟨bd,hb,h1,h2,h4⟩:=zxp M hs hn hc
 obtain⟨a,c,rfl,k1,k2,k3,k4,_⟩:=hv bd hb
 have hl:((xs.drop o).take l).length=l:=by simp;omega
 simp only[RelP]
 refine⟨a,c,by rw[hl],by omega,k3,?_⟩
 rcases k4 with rfl|⟨g,k5,k6⟩
 ·exact .inl (by simp)
 ·rcases h4 with ⟨h5,_⟩|⟨g',cap,h5,_,_,_,hF,hE⟩
  ·rw[k5]at h5;simp at h5
  ·rw[k5]at h5;cases h5
   refine .inr ⟨g,_,k6,hF,RelE.of fun i cs hi=>?_⟩
   rw[List.getElem?_take]at hi
   split at hi
   ·rw[List.getElem?_drop]at hi
    have:=hE.at _ _ hi
    rw[h1,←Nat.add_mul]
    simpa using this
   ·simp at hi
theorem z77 (M:MemOk W N U F β h w) (hs:∀id,hT id ≠ .dead→hT id=h id) (ids:List Nat) {x:AV} {v:Value} (hv:RelA U w F β x v) (h1:v.oneCell'=true):RelP w (z0i ids hT F β) (yb4 ids hT x) v:=by
 have und:RelP w (z0i ids hT F β) .undef v:=by simpa only[RelP]using h1
 unfold yb4
 split
 ·simp only[RelA]at hv;exact RelP.mono (zet ids hT) _ _ hv
 ·split
  ·exact und
  ·rename_i hn
   split
   ·rename_i hc
    simp only[RelA]at hv
    exact zy4 M hs (zjt hn) hc hv.2.2
   ·exact und
 ·split
  ·exact und
  ·rename_i hn
   split
   ·rename_i hc
    simp only[RelA]at hv
    exact zud M hs (zjt hn) hc hv.2.2
   ·exact und
 ·exact und
mutual
theorem zvv (M:MemOk W N U F β h w) (hs:∀id,hT id ≠ .dead→hT id=h id) (ids:List Nat):∀(x:AV) (v:Value),RelA U w F β x v→RelA (· < ids.length) w (z0i ids hT F β) (zkd ids β) (cv ids hT x) v
 | .undef,v,hv=>by simp only[cv,RelA]
 | .c p,v,hv=>by simp only[cv,RelA]at hv ⊢;exact RelP.mono (zet ids hT) _ _ hv
 | .agg xs,v,hv=>by
  simp only[cv,RelA]at hv ⊢
  obtain⟨vs,rfl,k1,k2⟩:=hv
  exact⟨vs,rfl,zf8 M hs ids xs _ k1,k2⟩
 | .tup xs,v,hv=>by
  simp only[cv,RelA]at hv ⊢
  obtain⟨vs,rfl,k1⟩:=hv
  exact⟨vs,rfl,zf8 M hs ids xs _ k1⟩
 | .own id,v,hv=>by
  simp only[cv]
  simp only[RelA]at hv
  split
  ·rename_i j hj
   have hj:=zh4 hj
   simp only[RelA]
   exact⟨(List.getElem?_eq_some_iff.1 hj).1,hv.2.1,fun bd hb=>hv.2.2 bd (by simpa[zkd,hj]using hb)⟩
  ·rename_i hn
   split
   ·rename_i hc
    simp only[RelA]
    exact zy4 M hs (zjt hn) hc hv.2.2
   ·simp only[RelA]
 | .view id o l,v,hv=>by
  simp only[cv]
  simp only[RelA]at hv
  split
  ·rename_i j hj
   have hj:=zh4 hj
   simp only[RelA]
   exact⟨(List.getElem?_eq_some_iff.1 hj).1,hv.2.1,fun bd hb=>hv.2.2 bd (by simpa[zkd,hj]using hb)⟩
  ·rename_i hn
   split
   ·rename_i hc
    simp only[RelA]
    exact zud M hs (zjt hn) hc hv.2.2
   ·simp only[RelA]
 | .ptr id i o,v,hv=>by
  simp only[cv]
  simp only[RelA]at hv
  split
  ·rename_i j hj
   have hj:=zh4 hj
   simp only[RelA]
   exact⟨(List.getElem?_eq_some_iff.1 hj).1,hv.2.1,fun bd hb=>hv.2.2 bd (by simpa[zkd,hj]using hb)⟩
  ·rename_i hn
   split
   ·rename_i hc
    obtain⟨bd,hb,h1,h2,h4⟩:=zxp M hs (zjt hn) hc
    obtain⟨g,hg,rfl⟩:=hv.2.2 bd hb
    simp only[RelA]
    rcases h4 with ⟨h5,_⟩|⟨g',cap,h5,_,_,_,hF,hE⟩
    ·rw[hg]at h5;simp at h5
    ·rw[hg]at h5;cases h5
     exact⟨g,0,by rw[h1,Nat.zero_add],hF,hE⟩
   ·rename_i t cs hc
    obtain⟨bd,hb,h1,h2,g,vs,h3,h4,h5,h6,h7⟩:=M.get hs hc (by simp)
    obtain⟨g',hg,rfl⟩:=hv.2.2 bd hb
    rw[h3]at hg;cases hg
    simp only[RelA]
    refine⟨g,0,by rw[h1.1,Nat.zero_add],.inr ⟨id,bd,zjt hn,by rw[hc];simp,hb,h3⟩,?_⟩
    simp only[RelE,and_true]
    refine⟨by simp,RelC.of fun j p hp=>?_⟩
    rw[List.getElem?_map]at hp
    cases hx:cs[j]? with
    | none=>rw[hx]at hp;simp at hp
    | some x =>
     rw[hx]at hp
     simp only[Option.map_some,oI]at hp
     subst hp
     obtain⟨u,hu,hr⟩:=h6.at j x hx
     refine⟨u,?_,z77 M hs ids hr (h7 u (List.mem_of_getElem? hu))⟩
     simp only[World.cell?,h5,Nat.zero_add]
     simpa using hu
   ·simp only[RelA]
 | .fel sz xs i o,v,hv=>by
  simp only[cv,RelA]at hv ⊢
  obtain⟨b,p,rfl,hb,hE⟩:=hv
  exact⟨b,p,rfl,.inl hb,RelE.mono (zet ids hT) rfl _ _ _ hE⟩
 | .clo f a b,v,hv=>by
  simp only[cv,RelA]at hv ⊢
  obtain⟨fs,cs,rfl,k1,k2⟩:=hv
  exact⟨fs,cs,rfl,zf8 M hs ids a _ k1,zf8 M hs ids b _ k2⟩
 | .ifc t x,v,hv=>by
  simp only[cv,RelA]at hv ⊢
  obtain⟨y,rfl,k1⟩:=hv
  exact⟨y,rfl,zvv M hs ids x y k1⟩
 | .map id,v,hv=>by
  simp only[cv]
  simp only[RelA]at hv
  split
  ·rename_i j hj
   have hj:=zh4 hj
   simp only[RelA]
   exact⟨(List.getElem?_eq_some_iff.1 hj).1,hv.2.1,fun bd hb=>hv.2.2 bd (by simpa[zkd,hj]using hb)⟩
  ·simp only[RelA]
 | .opt t x,v,hv=>by
  simp only[cv,RelA]at hv ⊢
  exact⟨fun ht=>zvv M hs ids x v (hv.1 ht),hv.2⟩
theorem zf8 (M:MemOk W N U F β h w) (hs:∀id,hT id ≠ .dead→hT id=h id) (ids:List Nat):∀(xs:List AV) (vs:List Value),RelL U w F β xs vs→RelL (· < ids.length) w (z0i ids hT F β) (zkd ids β) (cvL ids hT xs) vs
 | [],vs,hv=>by simp only[cvL,RelL]at hv ⊢;exact hv
 | x::r,vs,hv=>by
  simp only[cvL,RelL]at hv ⊢
  obtain⟨u,us,rfl,k1,k2⟩:=hv
  exact⟨u,us,rfl,zvv M hs ids x u k1,zf8 M hs ids r us k2⟩
end
theorem zvw (M:MemOk W N U F β h w) (hs:∀id,hT id ≠ .dead→hT id=h id) (ids:List Nat) (hnd:ids.Nodup) :
 MemOk W N (· < ids.length) (z0i ids hT F β) (zkd ids β) (nth (ids.map fun id=>cvC ids hT (h id))) w:=by
 have sel:∀ {j bd},zkd ids β j=some bd→∃id,ids[j]? = some id ∧ β id=some bd:=by
  intro j bd hj
  unfold zkd at hj
  split at hj
  ·exact⟨_,by assumption,hj⟩
  ·simp at hj
 refine⟨M.size,M.os,M.tape,M.output,M.frame,?_,?_,?_,?_,?_,M.gl.more fun b hb => .inl hb⟩
 ·intro b hb
  rcases hb with hb|⟨id,bd,_,_,h1,h2⟩
  ·exact M.fin b hb
  ·exact(M.off id bd b h1 (.inl h2)).2.1
 ·intro j bd hj
  obtain⟨id,h1,_⟩:=sel hj
  exact(List.getElem?_eq_some_iff.1 h1).1
 ·intro j hj
  unfold nth at hj ⊢
  rw[List.getD_eq_getElem?_getD,List.getElem?_map]at hj ⊢
  cases hid:ids[j]? with
  | none=>rw[hid]at hj;simp at hj
  | some id =>
   rw[hid]at hj
   simp only[Option.map_some,Option.getD_some]at hj ⊢
   have hne:h id ≠ .dead:=by intro he;rw[he]at hj;exact hj rfl
   obtain⟨bd,hb,hk⟩:=M.ch id hne
   refine⟨bd,by simpa[zkd,hid]using hb,?_⟩
   cases hc:h id with
   | dead=>exact(hne hc).elim
   | row e sz xs =>
    rw[hc]at hk
    obtain⟨k1,k2,k3,k4⟩:=hk
    refine⟨k1,k2,k3,?_⟩
    rcases k4 with k4|⟨g,cap,cur,k5,k6,k7,k8,k9,k10,hE⟩
    ·exact .inl k4
    ·exact .inr ⟨g,cap,cur,k5,k6,k7,k8,k9,k10,RelE.mono (zet ids hT) rfl _ _ _ hE⟩
   | keep e sz xs =>
    rw[hc]at hk
    obtain⟨k1,k2,k3,k4⟩:=hk
    refine⟨k1,k2,k3,?_⟩
    rcases k4 with k4|⟨g,cap,cur,k5,k6,k7,k8,k9,k10,hE⟩
    ·exact .inl k4
    ·exact .inr ⟨g,cap,cur,k5,k6,k7,k8,k9,k10,RelE.mono (zet ids hT) rfl _ _ _ hE⟩
   | blk t cs =>
    rw[hc]at hk
    obtain⟨k1,k2,g,vs,k3,k4,k5,k6,k7⟩:=hk
    exact⟨by rw[z71];exact k1,k2,g,vs,k3,k4,k5,zf8 M hs ids cs _ k6,k7⟩
   | mp a n es=>rw[hc]at hk;exact hk
   | nst e sz c e2 sz2 xs ys op =>
    rw[hc]at hk
    cases op with
    | some q =>
     obtain⟨i,k⟩:=q
     simp only[cvC]
     split
     ·rename_i j hj
      have hj:=zh4 hj
      obtain⟨k1,k2,k3,k4,k5,k6⟩:=hk
      refine⟨k1,k2,k3,k4,k5,?_⟩
      rcases k6 with ⟨_,_,_,k6⟩|⟨g,cap,cur,m1,m2,m3,m4,m5,m6,m7,m8⟩
      ·simp at k6
      ·exact .inr ⟨g,cap,cur,m1,m2,m3,m4,m5,m6,m7,m8.ren (zet ids hT) (fun _=>(List.getElem?_eq_some_iff.1 hj).1) fun bd hb=>by simpa[zkd,hj]using hb⟩
     ·exact trivial
    | none =>
     obtain⟨k1,k2,k3,k4,k5,k6⟩:=hk
     refine⟨k1,k2,k3,k4,k5,?_⟩
     rcases k6 with k6|⟨g,cap,cur,m1,m2,m3,m4,m5,m6,m7,m8⟩
     ·exact .inl k6
     ·exact .inr ⟨g,cap,cur,m1,m2,m3,m4,m5,m6,m7,m8.closed (zet ids hT)⟩
 ·intro i j bi bj b hi hj hbi hbj
  obtain⟨x,x1,x2⟩:=sel hi
  obtain⟨y,y1,y2⟩:=sel hj
  have:=M.dis x y bi bj b x2 y2 hbi hbj
  subst this
  exact(List.getElem?_inj (List.getElem?_eq_some_iff.1 x1).1 hnd).1 (x1.trans y1.symm)
 ·intro j bd b hj hb
  obtain⟨id,h1,h2⟩:=sel hj
  obtain⟨k1,k2,k3⟩:=M.off id bd b h2 hb
  refine⟨fun hf=>?_,k2,k3⟩
  rcases hf with hf|⟨id',bd',hn,_,hb',hbb⟩
  ·exact k1 hf
  ·have:=M.dis id id' bd bd' b h2 hb' hb (.inl hbb)
   subst this
   exact hn (List.mem_of_getElem? h1)
end
def upI (ids:List Nat) (m j:Nat):Nat:=match ids[j]? with|some id=>id|none=>m+(j-ids.length)
mutual
/-- A callee's value as the caller sees it. -/
def up (ids:List Nat) (m:Nat):AV→AV
 | .undef => .undef
 | .c p => .c p
 | .agg xs => .agg (upL ids m xs)
 | .tup xs => .tup (upL ids m xs)
 | .own j => .own (upI ids m j)
 | .view j o l => .view (upI ids m j) o l
 | .ptr j i o => .ptr (upI ids m j) i o
 | .fel sz xs i o => .fel sz xs i o
 | .clo f a b => .clo f (upL ids m a) (upL ids m b)
 | .ifc t x => .ifc t (up ids m x)
 | .map j => .map (upI ids m j)
 | .opt t x => .opt t (up ids m x)
def upL (ids:List Nat) (m:Nat):List AV→List AV
 | [] => []
 | x::r=>up ids m x::upL ids m r
end
def upC (ids:List Nat) (m:Nat):Chunk→Chunk
 | .dead => .dead
 | .row e sz xs => .row e sz xs
 | .blk t cs => .blk t (upL ids m cs)
 | .mp a n es => .mp a n es
 | .keep e sz xs => .keep e sz xs
 | .nst e sz c e2 sz2 xs ys none => .nst e sz c e2 sz2 xs ys none
 | .nst e sz c e2 sz2 xs ys (some (i,k)) => .nst e sz c e2 sz2 xs ys (some (i,upI ids m k))
def zts (ids:List Nat) (m:Nat):Nat→List Chunk→List (Nat × Chunk)
 | _,[] => []
 | j,c::r=>(upI ids m j,upC ids m c)::zts ids m (j+1) r
theorem z3g (ids:List Nat) (m:Nat):∀xs,(upL ids m xs).length=xs.length
 | []=>rfl
 | x::r=>by simp[upL,z3g ids m r]
def zwt:AV→Bool
 | .c (.v _)=>true
 | .c .undef=>true
 | _=>false
def z9s:AV→Bool
 | .agg xs=>xs.all zwt
 | x=>zwt x
def yhx:AV→Bool
 | .tup xs=>xs.all z9s
 | .agg xs=>xs.all zwt
 | x=>zwt x
section
variable {P : Program} {W : World} {N U F : Nat → Prop} {β : Nat → Option Bind} {h hT : Nat → Chunk} {w : World}
theorem zn4 {x:AV} (hx:zwt x=true) {U' F':Nat→Prop} {β':Nat→Option Bind} {w':World} {v:Value} (h:RelA U w F β x v):RelA U' w' F' β' x v:=by
 unfold zwt at hx
 split at hx
 ·simpa only[RelA,RelP]using h
 ·simpa only[RelA,RelP]using h
 ·simp at hx
theorem zn3 {U' F':Nat→Prop} {β':Nat→Option Bind} {w':World} : ∀ {xs:List AV} {vs:List Value},xs.all zwt=true→RelL U w F β xs vs→RelL U' w' F' β' xs vs
 | [],_,_,h=>by simp only[RelL]at h ⊢;exact h
 | x::r,vs,hx,h=>by
  simp only[List.all_cons,bJ]at hx
  simp only[RelL]at h ⊢
  obtain⟨u,us,rfl,h1,h2⟩:=h
  exact⟨u,us,rfl,zn4 hx.1 h1,zn3 hx.2 h2⟩
theorem z4g {x:AV} (hx:z9s x=true) {U' F':Nat→Prop} {β':Nat→Option Bind} {w':World} {v:Value} (h:RelA U w F β x v):RelA U' w' F' β' x v:=by
 unfold z9s at hx
 split at hx
 ·simp only[RelA]at h ⊢
  obtain⟨vs,rfl,h1,h2⟩:=h
  exact⟨vs,rfl,zn3 hx h1,h2⟩
 ·exact zn4 hx h
theorem zt6 {U' F':Nat→Prop} {β':Nat→Option Bind} {w':World} : ∀ {xs:List AV} {vs:List Value},xs.all z9s=true→RelL U w F β xs vs→RelL U' w' F' β' xs vs
 | [],_,_,h=>by simp only[RelL]at h ⊢;exact h
 | x::r,vs,hx,h=>by
  simp only[List.all_cons,bJ]at hx
  simp only[RelL]at h ⊢
  obtain⟨u,us,rfl,h1,h2⟩:=h
  exact⟨u,us,rfl,z4g hx.1 h1,zt6 hx.2 h2⟩
theorem z9r {x:AV} (hx:yhx x=true) {U' F':Nat→Prop} {β':Nat→Option Bind} {w':World} {v:Value} (h:RelA U w F β x v):RelA U' w' F' β' x v:=by
 unfold yhx at hx
 split at hx
 ·simp only[RelA]at h ⊢
  obtain⟨vs,rfl,h1⟩:=h
  exact⟨vs,rfl,zt6 hx h1⟩
 ·simp only[RelA]at h ⊢
  obtain⟨vs,rfl,h1,h2⟩:=h
  exact⟨vs,rfl,zn3 hx h1,h2⟩
 ·exact zn4 hx h
mutual
theorem zyl {ids:List Nat} {m:Nat} {U' F':Nat→Prop} {β':Nat→Option Bind} {k:Nat} (hK:∀b,F b→F' b) (hU:∀j,j<k→U' (upI ids m j)) (hb:∀j bd,j<k → β' (upI ids m j)=some bd → β j=some bd):∀(x:AV) (v:Value),RelA (· < k) w F β x v→RelA U' w F' β' (up ids m x) v
 | .undef,v,hv=>by simp only[up,RelA]
 | .c p,v,hv=>by simp only[up,RelA]at hv ⊢;exact RelP.mono (fun b hb=>⟨hK b hb,rfl⟩) _ _ hv
 | .agg xs,v,hv=>by
  simp only[up,RelA]at hv ⊢
  obtain⟨vs,rfl,k1,k2⟩:=hv
  exact⟨vs,rfl,zk6 hK hU hb xs _ k1,k2⟩
 | .tup xs,v,hv=>by
  simp only[up,RelA]at hv ⊢
  obtain⟨vs,rfl,k1⟩:=hv
  exact⟨vs,rfl,zk6 hK hU hb xs _ k1⟩
 | .own id,v,hv=>by
  simp only[up,RelA]at hv ⊢
  exact⟨hU _ hv.1,hv.2.1,fun bd hbd=>hv.2.2 bd (hb _ _ hv.1 hbd)⟩
 | .view id o l,v,hv=>by
  simp only[up,RelA]at hv ⊢
  exact⟨hU _ hv.1,hv.2.1,fun bd hbd=>hv.2.2 bd (hb _ _ hv.1 hbd)⟩
 | .ptr id i o,v,hv=>by
  simp only[up,RelA]at hv ⊢
  exact⟨hU _ hv.1,hv.2.1,fun bd hbd=>hv.2.2 bd (hb _ _ hv.1 hbd)⟩
 | .fel sz xs i o,v,hv=>by
  simp only[up,RelA]at hv ⊢
  obtain⟨b,p,rfl,hb',hE⟩:=hv
  exact⟨b,p,rfl,hK b hb',RelE.mono (fun b hb=>⟨hK b hb,rfl⟩) rfl _ _ _ hE⟩
 | .clo f a b,v,hv=>by
  simp only[up,RelA]at hv ⊢
  obtain⟨fs,cs,rfl,k1,k2⟩:=hv
  exact⟨fs,cs,rfl,zk6 hK hU hb a _ k1,zk6 hK hU hb b _ k2⟩
 | .ifc t x,v,hv=>by
  simp only[up,RelA]at hv ⊢
  obtain⟨y,rfl,k1⟩:=hv
  exact⟨y,rfl,zyl hK hU hb x y k1⟩
 | .map id,v,hv=>by
  simp only[up,RelA]at hv ⊢
  exact⟨hU _ hv.1,hv.2.1,fun bd hbd=>hv.2.2 bd (hb _ _ hv.1 hbd)⟩
 | .opt t x,v,hv=>by
  simp only[up,RelA]at hv ⊢
  exact⟨fun ht=>zyl hK hU hb x v (hv.1 ht),hv.2⟩
theorem zk6 {ids:List Nat} {m:Nat} {U' F':Nat→Prop} {β':Nat→Option Bind} {k:Nat} (hK:∀b,F b→F' b) (hU:∀j,j<k→U' (upI ids m j)) (hb:∀j bd,j<k → β' (upI ids m j)=some bd → β j=some bd):∀(xs:List AV) (vs:List Value),RelL (· < k) w F β xs vs→RelL U' w F' β' (upL ids m xs) vs
 | [],vs,hv=>by simp only[upL,RelL]at hv ⊢;exact hv
 | x::r,vs,hv=>by
  simp only[upL,RelL]at hv ⊢
  obtain⟨u,us,rfl,k1,k2⟩:=hv
  exact⟨u,us,rfl,zyl hK hU hb x u k1,zk6 hK hU hb r us k2⟩
end
def Wk (x y:AV):Prop:=∀(U:Nat→Prop) (w:World) (F:Nat→Prop) (β : Nat→Option Bind) (v:Value),RelA U w F β x v→RelA U w F β y v
def WkL:List AV→List AV→Prop
 | [],[]=>True
 | x::r,y::s=>Wk x y∧WkL r s
 | _,_=>False
theorem Wk.refl (x:AV):Wk x x:=fun _ _ _ _ _ h=>h
theorem Wk.of {x y:AV} (h:x=y):Wk x y:=h▸Wk.refl x
theorem WkL.refl:∀xs,WkL xs xs
 | []=>trivial
 | x::r=>⟨Wk.refl x,WkL.refl r⟩
theorem Wk.undef (x:AV):Wk x .undef:=fun _ _ _ _ _ _=>by simp only[RelA]
theorem Wk.nil (sz:Nat):Wk (.c (.v (.slice none 0 0))) (.c (.sl sz [])):=fun _ _ _ _ v h=>by
 obtain⟨rfl,_⟩:=relC.1 h
 simp only[RelA,RelP]
 exact⟨none,0,rfl,Nat.le_refl _,Nat.zero_le _,.inl trivial⟩
theorem WkL.run {xs ys:List AV} (hw:WkL xs ys) {vs:List Value} (h:RelL U w F β xs vs):RelL U w F β ys vs:=by
 induction xs generalizing ys vs with
 | nil=>cases ys with
  | nil=>exact h
  | cons=>exact hw.elim
 | cons x r ih=>cases ys with
  | nil=>exact hw.elim
  | cons y s =>
   simp only[RelL]at h ⊢
   obtain⟨u,us,rfl,h1,h2⟩:=h
   exact⟨u,us,rfl,hw.1 _ _ _ _ _ h1,ih hw.2 h2⟩
theorem Wk.agg {xs ys:List AV} (h:WkL xs ys):Wk (.agg xs) (.agg ys):=fun _ _ _ _ v hv=>by
 simp only[RelA]at hv ⊢
 obtain⟨vs,rfl,h1,h2⟩:=hv
 exact⟨vs,rfl,h.run h1,h2⟩
theorem Wk.tup {xs ys:List AV} (h:WkL xs ys):Wk (.tup xs) (.tup ys):=fun _ _ _ _ v hv=>by
 simp only[RelA]at hv ⊢
 obtain⟨vs,rfl,h1⟩:=hv
 exact⟨vs,rfl,h.run h1⟩
theorem WkL.len:∀ {xs ys:List AV},WkL xs ys→xs.length=ys.length
 | [],[],_=>rfl
 | [],_::_,h=>h.elim
 | _::_,[],h=>h.elim
 | _::r,_::s,h=>by simp[WkL.len h.2]
def WkC:Chunk→Chunk→Prop
 | _,.dead=>True
 | .row e sz xs,.row e' sz' ys=>e=e'∧sz=sz'∧xs=ys
 | .row e sz xs,.keep e' sz' ys=>e=e'∧sz=sz'∧xs=ys
 | .keep e sz xs,.keep e' sz' ys=>e=e'∧sz=sz'∧xs=ys
 | .keep e sz xs,.row e' sz' ys=>e=e'∧sz=sz'∧xs=ys
 | .blk t cs,.blk t' ds=>t=t'∧WkL cs ds
 | .mp a n es,.mp a' n' es'=>a=a'∧n=n'∧es=es'
 | .nst e sz c e2 sz2 xs ys op,.nst e' sz' c' e2' sz2' xs' ys' op'=>e=e'∧sz=sz'∧c=c'∧e2=e2'∧sz2=sz2'∧xs=xs'∧ys=ys'∧op=op'
 | _,_=>False
theorem WkC.run {c d:Chunk} (hw:WkC c d) {bd:Bind} (h:ChOk U w F β bd c):ChOk U w F β bd d:=by
 cases d with
 | dead=>trivial
 | row e sz xs=>cases c with
  | row e' sz' ys=>obtain⟨rfl,rfl,rfl⟩:=hw;exact h
  | keep e' sz' ys=>obtain⟨rfl,rfl,rfl⟩:=hw;exact h
  | dead=>exact hw.elim
  | blk=>exact hw.elim
  | mp=>exact hw.elim
  | nst=>exact hw.elim
 | blk t ds=>cases c with
  | blk t' cs =>
   obtain⟨rfl,hl⟩:=hw
   obtain⟨k1,k2,g,vs,k3,k4,k5,k6,k7⟩:=h
   exact⟨by rw[←hl.len];exact k1,k2,g,vs,k3,k4,k5,hl.run k6,k7⟩
  | dead=>exact hw.elim
  | row=>exact hw.elim
  | keep=>exact hw.elim
  | mp=>exact hw.elim
  | nst=>exact hw.elim
 | mp a n es=>cases c with
  | mp a' n' es'=>obtain⟨rfl,rfl,rfl⟩:=hw;exact h
  | dead=>exact hw.elim
  | row=>exact hw.elim
  | keep=>exact hw.elim
  | blk=>exact hw.elim
  | nst=>exact hw.elim
 | keep e sz xs=>cases c with
  | row e' sz' ys=>obtain⟨rfl,rfl,rfl⟩:=hw;exact h
  | keep e' sz' ys=>obtain⟨rfl,rfl,rfl⟩:=hw;exact h
  | dead=>exact hw.elim
  | blk=>exact hw.elim
  | mp=>exact hw.elim
  | nst=>exact hw.elim
 | nst e sz c' e2 sz2 xs ys op=>cases c with
  | nst=>obtain⟨rfl,rfl,rfl,rfl,rfl,rfl,rfl,rfl⟩:=hw;exact h
  | dead=>exact hw.elim
  | row=>exact hw.elim
  | keep=>exact hw.elim
  | blk=>exact hw.elim
  | mp=>exact hw.elim
theorem WkC.refl:∀c,WkC c c
 | .dead=>trivial
 | .row _ _ _=>⟨rfl,rfl,rfl⟩
 | .keep _ _ _=>⟨rfl,rfl,rfl⟩
 | .blk _ cs=>⟨rfl,WkL.refl cs⟩
 | .mp _ _ _=>⟨rfl,rfl,rfl⟩
 | .nst _ _ _ _ _ _ _ _=>⟨rfl,rfl,rfl,rfl,rfl,rfl,rfl,rfl⟩
def noC (_:Nat):Chunk := .dead
def CallOk (P:Program) (f:FuncId) (args:List AV) (h:Nat→Chunk) (m:Nat) (e:Eff):Prop :=
 (∃ids args' hs r hs',ids.Nodup∧WkL (cvL ids noC args) args'∧hs=ids.map (fun id=>cvC ids noC (h id))∧(∀id∈ids,h id ≠ .dead)∧Spec P f args' hs r hs'∧e=⟨up ids m r,zts ids m 0 hs',hs'.length-ids.length⟩) ∨
 (∃args' r,yhx r=true∧WkL (cvL [] h args) args'∧Spec P f args' [] r []∧e=⟨r,[],0⟩)
theorem z0g (ids:List Nat):z0i ids noC F β = F:=by
 funext b
 apply propext
 constructor
 ·rintro (h|⟨_,_,_,h,_⟩)
  ·exact h
  ·exact(h rfl).elim
 ·exact .inl
theorem MemOk.here (M:MemOk W N U F β h w):MemOk w (inB β) U F β h w :=
 ⟨Nat.le_refl _,rfl,rfl,rfl,fun _ _ _=>rfl,M.fin,M.used,M.ch,M.dis,fun i bd b hb hbb=>⟨(M.off i bd b hb hbb).1,(M.off i bd b hb hbb).2.1,.inr ⟨i,bd,hb,hbb⟩⟩,M.gl⟩
theorem zn0 {ids:List Nat} {j:Nat} {bd:Bind} (hj:zkd ids β j=some bd):∃id,ids[j]? = some id ∧ β id=some bd:=by
 unfold zkd at hj
 split at hj
 ·exact⟨_,by assumption,hj⟩
 ·simp at hj
theorem zyj {ids:List Nat} {m:Nat} (i:Nat):∀(j:Nat) (hs:List Chunk),(∀k,upI ids m (j+k)=i→k<hs.length→False)→upd h (zts ids m j hs) i=h i
 | _,[],_=>rfl
 | j,c::r,hn=>by
  simp only[zts,upd]
  rw[if_neg (fun e=>hn 0 (by simpa using e) (by simp))]
  exact zyj i (j+1) r fun k hk hl=>hn (k+1) (by rw[show j+(k+1)=j+1+k from by omega];exact hk) (by simpa using hl)
theorem zni {ids:List Nat} {m K:Nat} (hinj:∀a b,a<K→b<K→upI ids m a=upI ids m b→a=b):∀(j:Nat) (hs:List Chunk),j+hs.length≤K→∀(k:Nat) (c:Chunk),hs[k]? = some c→upd h (zts ids m j hs) (upI ids m (j+k))=upC ids m c
 | _,[],_,_,_,hc=>by simp at hc
 | j,d::r,hl,k,c,hc=>by
  simp only[List.length_cons]at hl
  simp only[zts,upd]
  cases k with
  | zero=>simp only[List.getElem?_cons_zero,oI]at hc;subst hc;simp
  | succ k =>
   have hk:k<r.length:=(List.getElem?_eq_some_iff.1 (by simpa using hc)).1
   rw[if_neg (fun e=>by have:=hinj _ _ (by omega) (by omega) e;omega)]
   have:=zni hinj (j+1) r (by omega) k c (by simpa using hc)
   rwa [show j+1+k=j+(k+1)from by omega]at this
theorem znt (M:MemOk W N U F β h w) {ids:List Nat} {r:AV} {hs':List Chunk} {m:Nat} (hnd:ids.Nodup) (hal':∀id∈ids,h id ≠ .dead) (hle:ids.length≤hs'.length) (hm:∀i,m≤i→i<m+(hs'.length-ids.length)→¬U i)
 {v:Value} {w':World} {F':Nat→Prop} {β':Nat→Option Bind} (M2:MemOk w (inB (zkd ids β)) (· < hs'.length) F' β' (nth hs') w') (hr:RelA (· < hs'.length) w' F' β' r v) (hF:∀b,F b→F' b) (hF':∀b,F' b→F b∨w.heap.size≤b∨inB (zkd ids β) b)
 (hβ : ∀i bd,i<ids.length → β' i=some bd→∃bs,zkd ids β i=some ⟨bd.v,bd.b,bd.n,bd.sz,bs⟩):StepTo W N U F β h w m ⟨up ids m r,zts ids m 0 hs',hs'.length-ids.length⟩ v w':=by
 have hUid:∀id∈ids,U id:=fun id hi=>by
  obtain⟨bd,hb,_⟩:=M.ch id (hal' id hi)
  exact M.used id bd hb
 have lo:∀j,j<ids.length→ids[j]? = some (upI ids m j)∧upI ids m j∈ids:=by
  intro j hj
  have:ids[j]? = some ids[j]:=List.getElem?_eq_getElem hj
  unfold upI
  rw[this]
  exact⟨rfl,List.getElem_mem hj⟩
 have hi:∀j,ids.length≤j→upI ids m j=m+(j-ids.length):=by
  intro j hj
  unfold upI
  rw[List.getElem?_eq_none hj]
 have hinj:∀a b,a<hs'.length→b<hs'.length→upI ids m a=upI ids m b→a=b:=by
  intro a b ha hb hab
  by_cases h1:a<ids.length<;>by_cases h2:b<ids.length
  ·exact(List.getElem?_inj h1 hnd).1 (by rw[(lo a h1).1,(lo b h2).1,hab])
  ·exfalso
   rw[hi b (by omega)]at hab
   exact hm _ (by omega) (by omega) (hab▸hUid _ (lo a h1).2)
  ·exfalso
   rw[hi a (by omega)]at hab
   exact hm _ (by omega) (by omega) (hab▸hUid _ (lo b h2).2)
  ·rw[hi a (by omega),hi b (by omega)]at hab;omega
 let β2:Nat→Option Bind:=fun i=>match ix ids i with|some j => β' j|none=>if m≤i∧i<m+(hs'.length-ids.length)then β' (i-m+ids.length)else β i
 have ixin:∀i,i∈ids→∃j,ix ids i=some j:=by
  intro i hin
  cases hx:ix ids i with
  | none=>exact(zjt hx hin).elim
  | some j=>exact⟨j,rfl⟩
 have hb2:∀j,j<hs'.length → β2 (upI ids m j) = β' j:=by
  intro j hj
  by_cases h1:j<ids.length
  ·obtain⟨j',hj'⟩:=ixin _ (lo j h1).2
   have h2:=zh4 hj'
   have:j=j':=(List.getElem?_inj h1 hnd).1 (by rw[(lo j h1).1,h2])
   subst this
   simp only[β2,hj']
  ·have hno:ix ids (upI ids m j)=none:=by
    cases hx:ix ids (upI ids m j)with
    | none=>rfl
    | some j' =>
     exfalso
     have h2:=List.mem_of_getElem? (zh4 hx)
     rw[hi j (by omega)]at h2
     exact hm _ (by omega) (by omega) (hUid _ h2)
   simp only[β2,hno]
   rw[hi j (by omega),if_pos (by omega)]
   congr 1;omega
 let T:Nat→Prop:=fun i=>∃j,j<hs'.length∧upI ids m j=i
 have hnotT:∀i,¬T i → β2 i = β i:=by
  intro i hT'
  have hno:ix ids i=none:=by
   cases hx:ix ids i with
   | none=>rfl
   | some j =>
    have h2:=zh4 hx
    have hj:=(List.getElem?_eq_some_iff.1 h2).1
    refine(hT' ⟨j,by omega,?_⟩).elim
    have:=(lo j hj).1
    rw[h2]at this
    exact(Option.some.inj this).symm
  simp only[β2,hno]
  rw[if_neg]
  rintro⟨h1,h2⟩
  exact hT' ⟨i-m+ids.length,by omega,by rw[hi _ (by omega)];omega⟩
 have hinB:∀b,inB (zkd ids β) b→∃j bd,T j ∧ β j=some bd∧bd.has b:=by
  rintro b ⟨j,bd,hj,hb⟩
  obtain⟨id,h1,h2⟩:=zn0 hj
  have hjl:=(List.getElem?_eq_some_iff.1 h1).1
  refine⟨id,bd,⟨j,by omega,?_⟩,h2,hb⟩
  have:=(lo j hjl).1
  rw[h1]at this
  exact(Option.some.inj this).symm
 have hUT:∀j,j<hs'.length→U (upI ids m j)∨(m≤upI ids m j∧upI ids m j<m+(hs'.length-ids.length)):=by
  intro j hj
  by_cases h1:j<ids.length
  ·exact .inl (hUid _ (lo j h1).2)
  ·rw[hi j (by omega)];exact .inr ⟨by omega,by omega⟩
 obtain⟨S1,S2⟩:=M.step (w':=w') (h':=upd h (zts ids m 0 hs')) (β' := β2) (F':=F') (U':=fun i=>U i∨(m≤i∧i<m+(hs'.length-ids.length))) T hnotT
  (fun i hT'=>zyj i 0 hs' fun k hk hl=>hT' ⟨k,hl,by simpa using hk⟩) M2.os M2.tape M2.output M2.size
  (fun b hb hn=>M2.frame b hb fun hin=>by
   obtain⟨j,bd,h1,h2,h3⟩:=hinB b hin
   exact hn j bd h1 h2 h3)
  (fun i hu => .inl hu) hF
  (fun b hb=>⟨M2.fin b hb,by
   rcases hF' b hb with h1|h1|h1
   ·exact .inl h1
   ·exact .inr (.inl h1)
   ·exact .inr (.inr (hinB b h1))⟩)
  (fun i bd hT' hu hb=>by
   obtain⟨j,hj,rfl⟩:=hT'
   rw[hb2 j hj]at hb
   by_cases h1:j<ids.length
   ·obtain⟨bs,hb0⟩:=hβ j bd h1 hb
    obtain⟨id,k1,k2⟩:=zn0 hb0
    have:=(lo j h1).1
    rw[k1]at this
    rw[←Option.some.inj this];exact⟨bs,k2⟩
   ·exfalso
    rw[hi j (by omega)]at hu
    exact hm _ (by omega) (by omega) hu)
  (fun i bd hT' hb=>by
   obtain⟨j,hj,rfl⟩:=hT'
   rw[hb2 j hj]at hb
   refine⟨hUT j hj,fun b hbb=>?_⟩
   obtain⟨k1,k2,k3⟩:=M2.off j bd b hb hbb
   exact⟨k2,k1,k3.imp id (hinB b)⟩)
  (fun i j bi bj b hTi hTj hbi hbj h1 h2=>by
   obtain⟨x,hx,rfl⟩:=hTi
   obtain⟨y,hy,rfl⟩:=hTj
   rw[hb2 x hx]at hbi
   rw[hb2 y hy]at hbj
   rw[M2.dis x y bi bj b hbi hbj h1 h2])
  (fun E i hT' hd=>by
   obtain⟨j,hj,rfl⟩:=hT'
   have hc:hs'[j]? = some hs'[j]:=List.getElem?_eq_getElem hj
   have hu:=zni (h:=h) hinj 0 hs' (by omega) j _ hc
   rw[Nat.zero_add]at hu
   rw[hu]at hd ⊢
   have hnth:nth hs' j=hs'[j]:=by unfold nth;simp[hj]
   have hne:nth hs' j ≠ .dead:=by
    intro he
    rw[hnth]at he
    rw[he]at hd
    exact hd rfl
   obtain⟨bd,hb,hk⟩:=M2.ch j hne
   rw[hnth]at hk
   refine⟨bd,by rw[hb2 j hj];exact hb,?_⟩
   cases hcc:hs'[j]with
   | dead=>trivial
   | row e sz xs=>rw[hcc]at hk;exact hk
   | keep e sz xs=>rw[hcc]at hk;exact hk
   | blk t cs =>
    rw[hcc]at hk
    obtain⟨k1,k2,g,ws,k3,k4,k5,k6,k7⟩:=hk
    exact⟨by rw[z3g];exact k1,k2,g,ws,k3,k4,k5,zk6 (fun b hb=>hb) hUT (fun j bd hj hb=>by rw[hb2 j hj]at hb;exact hb) _ _ k6,k7⟩
   | mp a n es=>rw[hcc]at hk;exact hk
   | nst e sz c e2 sz2 xs ys op =>
    rw[hcc]at hk
    cases op with
    | some q =>
     obtain⟨i0,q⟩:=q
     obtain⟨k1,k2,k3,k4,k5,k6⟩:=hk
     refine⟨k1,k2,k3,k4,k5,?_⟩
     rcases k6 with ⟨_,_,_,k6⟩|⟨g,cap,cur,m1,m2,m3,m4,m5,m6,m7,m8⟩
     ·simp at k6
     ·exact .inr ⟨g,cap,cur,m1,m2,m3,m4,m5,m6,m7,m8.ren (U:=(· < hs'.length)) (U':=fun i=>U i∨(m≤i∧i<m+(hs'.length-ids.length))) (β := β') (β' := β2) (k:=q) (fun b hb=>⟨hb,rfl⟩) (hUT q) fun bd hb=>by rw[hb2 _ (m8.opu _ _ rfl).1]at hb;exact hb⟩
    | none =>
     obtain⟨k1,k2,k3,k4,k5,k6⟩:=hk
     refine⟨k1,k2,k3,k4,k5,?_⟩
     rcases k6 with k6|⟨g,cap,cur,m1,m2,m3,m4,m5,m6,m7,m8⟩
     ·exact .inl k6
     ·exact .inr ⟨g,cap,cur,m1,m2,m3,m4,m5,m6,m7,m8.closed fun b hb=>⟨hb,rfl⟩⟩)
 refine⟨F',β2,S1,S2,zyl (fun b hb=>hb) hUT (fun j bd hj hb=>by rw[hb2 j hj]at hb;exact hb) _ _ hr,fun b hb=>?_⟩
 rcases hF' b hb with h1|h1|h1
 ·exact .inl h1
 ·exact .inr (.inl (Nat.le_trans M.size h1))
 ·obtain⟨j,bd,_,k1,k2⟩:=hinB b h1
  exact .inr (M.off j bd b k1 k2).2.2
theorem zmc (M:MemOk W N U F β h w) (hs:∀id,hT id ≠ .dead→hT id=h id) {f:FuncId} {args args':List AV} {ids:List Nat} {r:AV} {hs':List Chunk} {m:Nat} (hnd:ids.Nodup) (hwk:WkL (cvL ids noC args) args') (hal:∀id∈ids,hT id ≠ .dead)
 {E:Value→Ending} (S:yho P f args' (ids.map fun id=>cvC ids noC (hT id)) r hs' E) (hm:∀i,m≤i→i<m+(hs'.length-ids.length)→¬U i) {vs:List Value} (hv:RelL U w F β args vs) :
 Calls P f vs.toArray w fun e w'=>∃v,e=E v∧StepTo W N U F β h w m ⟨up ids m r,zts ids m 0 hs',hs'.length-ids.length⟩ v w':=by
 obtain⟨_,hle,S⟩:=S
 simp only[List.length_map]at hle S
 have hal':∀id∈ids,h id ≠ .dead:=fun id hi=>by rw[←hs id (hal id hi)];exact hal id hi
 have heq:(ids.map fun id=>cvC ids noC (hT id))=ids.map fun id=>cvC ids noC (h id):=by
  apply List.map_congr_left
  intro id hi
  rw[hs id (hal id hi)]
 have M1:=(zvw (hT:=noC) M (fun id hd=>(hd rfl).elim) ids hnd).here
 have hv1:=hwk.run (zf8 (hT:=noC) M (fun id hd=>(hd rfl).elim) ids args vs hv)
 rw[z0g]at M1 hv1
 rw[heq]at S
 refine(S w F (zkd ids β) vs M1 hv1).mono ?_
 rintro e w' ⟨v,F',β',rfl,M2,hr,hF,hF',hβ⟩
 exact⟨v,rfl,znt M hnd hal' hle hm M2 hr hF hF' fun i bd hi=>hβ i bd (by simpa using hi)⟩
theorem zx3 (M:MemOk W N U F β h w) (hs:∀id,hT id ≠ .dead→hT id=h id) {f:FuncId} {args args':List AV} {ids:List Nat} {r:AV} {hs':List Chunk} {m:Nat} (hnd:ids.Nodup) (hwk:WkL (cvL ids noC args) args') (hal:∀id∈ids,hT id ≠ .dead)
 (S:Spec P f args' (ids.map fun id=>cvC ids noC (hT id)) r hs') (hm:∀i,m≤i→i<m+(hs'.length-ids.length)→¬U i) {vs:List Value} (hv:RelL U w F β args vs) :
 Calls P f vs.toArray w fun e w'=>∃v,e = .returned v∧StepTo W N U F β h w m ⟨up ids m r,zts ids m 0 hs',hs'.length-ids.length⟩ v w':=zmc M hs hnd hwk hal S hm hv
theorem z8b (M:MemOk W N U F β h w) (hs:∀id,hT id ≠ .dead→hT id=h id) {f:FuncId} {args args':List AV} {r:AV} (m:Nat) (hsc:yhx r=true) (hwk:WkL (cvL [] hT args) args') (S:Spec P f args' [] r []) {vs:List Value} (hv:RelL U w F β args vs) :
 Calls P f vs.toArray w fun e w'=>∃v,e = .returned v∧StepTo W N U F β h w m ⟨r,[],0⟩ v w':=by
 obtain⟨_,hle,S⟩:=S
 have M1:=(zvw M hs [] (by simp)).here
 have hv1:=hwk.run (zf8 M hs [] args vs hv)
 have e0:zkd [] β = fun _=>none:=by funext j;simp[zkd]
 refine(S w _ _ vs M1 hv1).mono ?_
 rintro e w' ⟨v,F',β',rfl,M2,hr,hF,hF',hβ⟩
 refine⟨v,rfl,?_⟩
 obtain⟨S1,S2⟩:=M.step (w':=w') (h':=h) (β' := β) (F':=F) (U':=U) (fun _=>False) (fun _ _=>rfl) (fun _ _=>rfl) M2.os M2.tape M2.output M2.size
  (fun b hb _=>M2.frame b hb (by rintro⟨j,bd,hj,_⟩;rw[e0]at hj;simp at hj)) (fun _ h=>h) (fun _ h=>h) (fun b hb=>⟨Nat.lt_of_lt_of_le (M.fin b hb) M2.size,.inl hb⟩)
  (fun _ _ h=>h.elim) (fun _ _ h=>h.elim) (fun _ _ _ _ _ h=>h.elim) (fun _ _ h=>h.elim)
 have e:(fun i=>U i∨(m≤i∧i<m+0))=U:=by
  funext i;apply propext;constructor
  ·rintro (h|h)
   ·exact h
   ·omega
  ·exact .inl
 refine⟨F,β,?_,?_,?_,fun b hb => .inl hb⟩
 ·simp only[e];exact S1
 ·simp only[e];exact S2
 ·simp only[e];exact z9r hsc hr
end
structure St where
 t:List (Nat × AV)
 h:List (Nat × Chunk)
 n:Nat
def z83:Option Tmp→AV→List (Nat × AV)→List (Nat × AV)
 | none,_,t=>t
 | some d,x,t=>(d,x)::t
def St.app (s:St) (d:Option Tmp) (e:Eff):St:=⟨z83 d e.val s.t,e.ups++s.h,s.n+e.fresh⟩
def zi0:AV→AV
 | .opt _ x=>x
 | x=>x
def zdy:List AV→Prop
 | []=>True
 | .opt u _::r=>u=true∧zdy r
 | _::r=>zdy r
def ybk (x:AV) (b:Bool):Option Bool :=
 match x with
 | .c (.v (.bool t))=>some (if b then t else !t)
 | .opt u (.c (.v (.bool t)))=>some (u&&(if b then t else !t))
 | _=>none
def zyd (P:Program) (f:FuncId) (args:List AV) (h:Nat→Chunk) (m:Nat) (K:Eff→Prop):Prop:=∃e,CallOk P f args h m e∧K e
def z2r (P:Program) (c:Bool) (f:FuncId) (args:List AV) (φ : Prop) (h:Nat→Chunk) (m:Nat) (K:Eff→Prop):Prop :=
 (∃r,(c=true → φ ∧ CallOk P f args h m ⟨r,[],0⟩)∧K ⟨.opt c r,[],0⟩)∨((c=true → φ ∧ ∃e,CallOk P f args h m e∧K e)∧(c=false→K ⟨.undef,[],0⟩))
def opX (P:Program) (g:Operand→AV) (h:Nat→Chunk) (m:Nat) (K:Eff→Prop) (op:Op):Prop :=
 match op with
 | .call ⟨.value f,args,_⟩=>match g f with
  | .clo (.func fid) a b=>zyd P fid (a++args.toList.map g++b) h m K
  | _=>False
 | .call ⟨.invoke r name,args,_⟩=>match yh1 P h (g r) name with
  | some (φ,fid,y) => φ ∧ zyd P fid (y::args.toList.map g) h m K
  | none=>False
 | op=>match ex4 P g h m op with
  | some (φ,e) => φ ∧ K e
  | none=>False
def opG (P:Program) (c:Bool) (g:Operand→AV) (h:Nat→Chunk) (m:Nat) (K:Eff→Prop) (op:Op):Prop :=
 match op with
 | .call ⟨.value f,args,ts⟩=>match zi0 (g f)with
  | .clo (.func fid) a b=>z2r P c fid (a++args.toList.map (fun x=>zi0 (g x))++b) (zdy ((Op.operands (.call ⟨.value f,args,ts⟩)).toList.map g)) h m K
  | _=>c=false∧K ⟨.undef,[],0⟩
 | .call ⟨.invoke r name,args,ts⟩=>match yh1 P h (zi0 (g r)) name with
  | some (φ,fid,y)=>z2r P c fid (y::args.toList.map (fun x=>zi0 (g x))) (φ ∧ zdy ((Op.operands (.call ⟨.invoke r name,args,ts⟩)).toList.map g)) h m K
  | none=>c=false∧K ⟨.undef,[],0⟩
 | .pick cn x y=>match zi0 (g cn)with
  | .c (.v (.bool t))=>match zuj t (g x) (g y)with
   | some (φ,r)=>(c=true→zdy [g cn] ∧ φ)∧K ⟨.opt c r,[],0⟩
   | none=>c=false∧K ⟨.undef,[],0⟩
  | _=>c=false∧K ⟨.undef,[],0⟩
 | op=>match ex4 P (fun x=>zi0 (g x)) h m op with
  | some (φ,⟨x,[],0⟩)=>(c=true→zdy (op.operands.toList.map g) ∧ φ)∧K ⟨.opt c x,[],0⟩
  | some (φ,e)=>(c=true→zdy (op.operands.toList.map g) ∧ φ ∧ K e)∧(c=false→K ⟨.undef,[],0⟩)
  | none=>c=false∧K ⟨.undef,[],0⟩
def z2h (nt:Nat):Option Tmp→Prop
 | none=>True
 | some d=>d<nt
def ykz (f:Nat→AV):Option Tmp→AV
 | none => .undef
 | some d=>f d
def zw6 (P:Program) (ops:Array Oper) (o:Oper) (f:Nat→AV) (h:Nat→Chunk) (m:Nat) (K:Eff→Prop):Prop :=
 match o.guard with
 | none=>opX P (zhi f) h m K o.op
 | some (j,b)=>match ybk (ykz f ((ops[j]?).bind (·.dst))) b with
  | none=>False
  | some c=>opG P c (zhi f) h m K o.op
def z5t (P:Program) (g:Operand→AV) (h:Nat→Chunk):Op→Option (Bool × List (List PV))
 | .binOp .eql t x (.const (.slice none 0 0)) _=>match ty P t,z82 h (g x)with
  | some ⟨.sl _,_,_,_,_⟩,some (_,xs)=>some (false,xs)
  | _,_=>none
 | .binOp .neq t x (.const (.slice none 0 0)) _=>match ty P t,z82 h (g x)with
  | some ⟨.sl _,_,_,_,_⟩,some (_,xs)=>some (true,xs)
  | _,_=>none
 | _=>none
def ydr (a b:Bool):Bool:=match a with|true => !b|false=>b
def opK (t:List (Nat × AV)) (h:List (Nat × Chunk)) (n:Nat) (d:Option Tmp) (K:St→Prop):Eff→Prop
 | ⟨v,ups,fr⟩=>K ⟨z83 d v t,ups++h,n+fr⟩
theorem yit (s:St) (d:Option Tmp) (K:St→Prop) (e:Eff):opK s.t s.h s.n d K e=K (s.app d e):=by cases e;rfl
def opW (P:Program) (nt:Nat) (ops:Array Oper) (o:Oper) (s:St) (K:St→Prop):Prop :=
 z2h nt o.dst∧match z5t P (zhi (look s.t)) (zan s.h) o.op with
 | some (neg,xs)=>o.guard=none∧∀b:Bool,(b=true→xs = [])→K (s.app o.dst ⟨B (ydr neg b),[],0⟩)
 | none=>zw6 P ops o (look s.t) (zan s.h) s.n (opK s.t s.h s.n o.dst K)
def ztm (P:Program) (nt:Nat) (ops:Array Oper):List Oper→(St→Prop)→St→Prop
 | [],K,⟨t,h,n⟩=>K ⟨t,h,n⟩
 | o::r,K,⟨t,h,n⟩=>opW P nt ops o ⟨t,h,n⟩ (ztm P nt ops r K)
def yhw (k:St→Prop) (Q:Exit→St→Prop):Exit→St→Prop
 | .normal,s=>k s
 | e,s=>Q e s
def ydn (id:Nat) (Q:Exit→St→Prop):Exit→St→Prop
 | .exit i,s=>if i=id then Q .normal s else Q (.exit i) s
 | e,s=>Q e s
def ykw (Q:Exit→St→Prop):Exit→St→Prop
 | .goto _,_=>False
 | e,s=>Q e s
def ztj (x:AV) (X Y:St→Prop) (s:St):Prop :=
 match x with
 | .c (.v (.bool b))=>(b=true→X s)∧(b=false→Y s)
 | _=>False
structure Hist where
 W:World
 N:Nat→Prop
 F:Nat→Prop
 β : Nat→Option Bind
 k:Nat
 nt:Nat
def Dfr (F:Nat→Prop) (B:Nat) (ds:List Deferred) (w:World):Prop:=∃Ds:List Nat,ds=Ds.map (fun D => { target := .collected D,args := #[] })∧Ds.Nodup∧∀D∈Ds,F D∧B≤D∧w.heap[D]? = some (.deferred (some []))
theorem Dfr.nil (F:Nat→Prop) (B:Nat) (w:World):Dfr F B [] w:=⟨[],rfl,List.nodup_nil,fun _ h=>by simp at h⟩
theorem Dfr.mono {F F':Nat→Prop} {B:Nat} {ds:List Deferred} {w w':World} (h:Dfr F B ds w) (K:zl5 w F w' F'):Dfr F' B ds w':=by
 obtain⟨Ds,h1,h2,h3⟩:=h
 exact⟨Ds,h1,h2,fun D hD=>⟨(K D (h3 D hD).1).1,(h3 D hD).2.1,(K D (h3 D hD).1).2.trans (h3 D hD).2.2⟩⟩
theorem Dfr.more {F F':Nat→Prop} {B:Nat} {ds:List Deferred} {w:World} (h:Dfr F B ds w) (K:∀b,F b→F' b):Dfr F' B ds w:=h.mono fun b hb=>⟨K b hb,rfl⟩
structure Conc (H : Hist) (s : St) (F : Nat → Prop) (β : Nat → Option Bind) (a : Act) (w : World) : Prop where
 t:∀t,RelA (· < s.n) w F β (look s.t t) (a.tmps.getD t undef)
 m:MemOk H.W H.N (· < s.n) F β (zan s.h) w
 nt:a.tmps.size=H.nt
 d:Dfr F H.W.heap.size a.defers w
 f:∀b,H.F b→F b
 g:∀b,F b→H.F b∨H.W.heap.size≤b∨H.N b
 e:∀i bd,i<H.k → β i=some bd→∃bs,H.β i=some ⟨bd.v,bd.b,bd.n,bd.sz,bs⟩
 k:H.k≤s.n
def ToK (k:Nat) (s s':St):Prop:=∀(H:Hist) (F:Nat→Prop) (β : Nat→Option Bind) (a:Act) (w:World),H.k=k→Conc H s F β a w→∃F' β',Conc H s' F' β' a w
def yht (k:Nat) (A:(Exit→St→Prop)→St→Prop) (Q:Exit→St→Prop) (s:St):Prop :=
 ∃(α : Type) (S : α → St) (Pr : α → Prop) (μ : α → Nat),(∃x,Pr x∧ToK k s (S x))∧∀x,Pr x→A (fun e s'=>match e with
  | .normal=>∃y,Pr y ∧ μ y < μ x∧ToK k s' (S y)
  | e=>Q e s') (S x)
def zsl {α : Type} (k:Nat) (S : α → St) (Pr : α → Prop) (Q:Exit→St→Prop):Exit→St→Prop:=fun e s=>match e with
 | .normal=>∃a,Pr a∧ToK k s (S a)
 | e=>Q e s
def z2s (k:Nat) (x:AV) (X Y:(Exit→St→Prop)→St→Prop) (Q:Exit→St→Prop) (s:St):Prop :=
 ztj x (X Q) (Y Q) s∨(∃(α : Type) (S : α → St) (Pr : α → Prop),ztj x (X (zsl k S Pr Q)) (Y (zsl k S Pr Q)) s∧∀a,Pr a→Q .normal (S a))∨∃s',ToK k s s'∧ztj x (X Q) (Y Q) s'
mutual
/-- The pieces that a value names. -/
def zv7:AV→List Nat
 | .undef => []
 | .c _ => []
 | .agg xs=>zz9 xs
 | .tup xs=>zz9 xs
 | .own id => [id]
 | .view id _ _ => [id]
 | .ptr id _ _ => [id]
 | .fel _ _ _ _ => []
 | .clo _ a b=>zz9 a++zz9 b
 | .ifc _ x=>zv7 x
 | .map id => [id]
 | .opt _ x=>zv7 x
def zz9:List AV→List Nat
 | [] => []
 | x::r=>zv7 x++zz9 r
end
def zx0 (L:List (Nat × Chunk)):List Nat→List Nat
 | [] => []
 | id::r=>(match zan L id with | .blk _ cs=>zz9 cs | .nst _ _ _ _ _ _ _ (some (_,j)) => [j]|_ => [])++zx0 L r
def z3r (L:List (Nat × Chunk)) (a:List Nat):List Nat:=a++zx0 L a
def z1a (f:Nat→AV) (L:List (Nat × Chunk)) (o:Oper):List Nat:=match o.op with
 | .move _ => []
 | .assign _ => []
 | .nilCheck x=>zv7 (zhi f x)
 | .fieldAddr _ x _=>zv7 (zhi f x)
 | .load _ x=>zv7 (zhi f x)
 | op=>z3r L (z3r L (zz9 (op.operands.toList.map (zhi f))))
def zjc:List Nat→Nat→Bool
 | [],_=>false
 | a::r,i=>if a=i then true else zjc r i
def zdf (T:List Nat) (h:Nat→Chunk) (i:Nat):Chunk:=match zjc T i with|true=>h i|false => .dead
def drK (t:List (Nat × AV)) (h:List (Nat × Chunk)) (n:Nat) (d:Option Tmp) (T:List Nat) (acc:List (List Nat × List Nat)) (R:List (List Nat × List Nat)→St→Prop):Eff→Prop
 | ⟨v,ups,fr⟩=>fr≤4∧R (acc ++ [(T,ups.map (·.1))]) ⟨z83 d v t,ups++h,n⟩
def zpu (P:Program) (nt:Nat) (ops:Array Oper) (n0:Nat):Nat→List Oper→List (List Nat × List Nat)→(List (List Nat × List Nat)→St→Prop)→St→Prop
 | _,[],acc,K,⟨t,h,n⟩=>K acc ⟨t,h,n⟩
 | i,o::r,acc,K,⟨t,h,n⟩=>z2h nt o.dst∧zw6 P ops o (look t) (zdf (z1a (look t) h o) (zan h)) (n0+4*i) (drK t h n o.dst (z1a (look t) h o) acc (fun acc' s'=>zpu P nt ops n0 (i+1) r acc' K s'))
def ziu (ms:List Nat):List Edge→Nat
 | []=>0
 | e::r=>if Region.binds .any e then (1 <<< e.on ||| ms.getD e.on 0) ||| ziu ms r else ziu ms r
def zu3:List Oper→List Nat→List Nat
 | [],ms=>ms
 | o::r,ms=>zu3 r (ms ++ [ziu ms o.after.toList])
def yg0 (a b:List Nat):Bool:=a.all fun x => !zjc b x
def fp (acc:List (List Nat × List Nat)) (i:Nat):List Nat × List Nat:=acc.getD i ([],[])
def yjb (o:Oper):Bool:=o.guard.isNone&&match o.op with | .lookup _ _ _ false=>true|_=>false
def ynd (o:Oper):Bool:=o.guard.isNone&&match o.op with | .mapEntry _ _ _=>true|_=>false
def yh0 (ops:Array Oper) (acc:List (List Nat × List Nat)) (i j:Nat):Bool:=(match ops[i]?,ops[j]? with|some a,some b=>yjb a&&ynd b|_,_=>false)&&(List.range j).all fun m=>Nat.ble m i||yg0 (fp acc i).1 (fp acc m).2
def zzc (ops:Array Oper) (ms:List Nat) (acc:List (List Nat × List Nat)) (i j:Nat):Bool :=
 (ms.getD j 0).testBit i||((match ops[i]?,ops[j]? with|some a,some b=>Oper.apart ops a b|_,_=>false)&&yg0 (fp acc i).2 ((fp acc j).1++(fp acc j).2)&&(yg0 (fp acc i).1 (fp acc j).2||yh0 ops acc i j))
def z0s (ops:Array Oper) (acc:List (List Nat × List Nat)):Bool :=
 let ms:=zu3 ops.toList []
 ((List.range ops.size).all fun k=>match ops[k]? with|some o=>o.after.toList.all fun e => !Region.binds .any e||Nat.blt e.on k|none=>false) &&
 (List.range ops.size).all fun j=>(List.range j).all fun i=>zzc ops ms acc i j
def drE (ops:Array Oper) (K:St→Prop) (m:Nat) (acc:List (List Nat × List Nat)):St→Prop
 | ⟨t,h,_⟩=>z0s ops acc=true∧K ⟨t,h,m⟩
def zad (P:Program) (nt:Nat) (ops:Array Oper) (K:St→Prop) (s:St):Prop :=
 zpu P nt ops s.n 0 ops.toList [] (drE ops K (s.n+4*ops.size)) s
def zix (H:Hist) (Q:Exit→St→Prop) (e:Exit) (a:Act) (w:World):Prop:=∃s F β,Conc H s F β a w∧Q e s
def z8t (P:Program) (nt k:Nat) (g:Operand) (ps:Array Tmp) (x y:Code) (Q:Exit→St→Prop) (s:St):Prop :=
 ∀(H:Hist) (F:Nat→Prop) (β : Nat→Option Bind) (a:Act) (w:World),H.nt=nt→H.k=k→Conc H s F β a w→(Code.rangeFunc g ps x y).wp P (zix H Q) a w
def awp (P:Program) (nt k:Nat):Code→(Exit→St→Prop)→St→Prop
 | .skip,Q,⟨t,h,n⟩=>Q .normal ⟨t,h,n⟩
 | .label _,Q,⟨t,h,n⟩=>Q .normal ⟨t,h,n⟩
 | .region _ ops false,Q,⟨t,h,n⟩=>ztm P nt ops ops.toList (Q .normal) ⟨t,h,n⟩
 | .region _ ops true,Q,⟨t,h,n⟩=>zad P nt ops (Q .normal) ⟨t,h,n⟩
 | .seq x y,Q,⟨t,h,n⟩=>awp P nt k x (yhw (awp P nt k y Q) Q) ⟨t,h,n⟩
 | .cond c x y,Q,⟨t,h,n⟩=>z2s k (zhi (look t) c) (awp P nt k x) (awp P nt k y) Q ⟨t,h,n⟩
 | .block id c,Q,⟨t,h,n⟩=>awp P nt k c (ydn id Q) ⟨t,h,n⟩
 | .loop c,Q,⟨t,h,n⟩=>yht k (awp P nt k c) Q ⟨t,h,n⟩
 | .exit id,Q,⟨t,h,n⟩=>Q (.exit id) ⟨t,h,n⟩
 | .scope c,Q,⟨t,h,n⟩=>awp P nt k c (ykw Q) ⟨t,h,n⟩
 | .ret,Q,⟨t,h,n⟩=>Q .ret ⟨t,h,n⟩
 | .goto _,_,_=>False
 | .rangeFunc g ps x y,Q,⟨t,h,n⟩=>z8t P nt k g ps x y Q ⟨t,h,n⟩
 | .refuse _,_,_=>False
theorem zh3 {p:Nat→Prop} (h:∃n,p n):∃n,p n∧∀m,p m→n≤m:=by
 obtain⟨n,hn⟩:=h
 induction n using Nat.strongRecOn with
 | _ n ih =>
  by_cases hk:∃m,m<n∧p m
  ·obtain⟨m,hm,hp⟩:=hk
   exact ih m hm hp
  ·exact⟨n,hn,fun m hm=>Nat.le_of_not_lt fun h=>hk ⟨m,h,hm⟩⟩
section
variable {P : Program} {H : Hist} {s : St} {F : Nat → Prop} {β : Nat → Option Bind} {a : Act} {w : World}
theorem zj4 (L:List (Nat × Chunk)):∀ups:List (Nat × Chunk),upd (zan L) ups=zan (ups++L)
 | []=>rfl
 | (k,c)::r=>by
  funext i
  have:=congrFun (zj4 L r) i
  simp only[upd,List.cons_append,zan,this]
theorem Conc.step (C:Conc H s F β a w) {e:Eff} {v:Value} {w':World} (S:StepTo H.W H.N (· < s.n) F β (zan s.h) w s.n e v w') {d:Option Tmp} (hd:z2h H.nt d):∃F' β',Conc H (s.app d e) F' β' (a.put d v) w':=by
 obtain⟨F',β',M,E,hr,hF⟩:=S
 have eU:(fun i=>i<s.n∨(s.n≤i∧i<s.n+e.fresh))=(· < (s.app d e).n):=by
  funext i;apply propext;simp only[St.app];omega
 rw[eU]at M E hr
 rw[zj4]at M
 refine⟨F',β',?_,M,?_,?_,fun b hb=>(E.f b (C.f b hb)).1,fun b hb=>?_,fun i bd hi hb=>by obtain⟨bs,h1⟩:=E.e i bd (Nat.lt_of_lt_of_le hi C.k) hb;exact C.e i ⟨_,_,_,_,bs⟩ hi h1,Nat.le_trans C.k (Nat.le_add_right _ _)⟩
 ·intro t
  cases d with
  | none=>exact RelA.mono E _ _ (C.t t)
  | some d =>
   simp only[St.app,z83,look,Act.put]
   by_cases h1:d=t
   ·subst h1
    rw[if_pos rfl]
    have:d<a.tmps.size:=by rw[C.nt];exact hd
    rw[Array.getD_eq_getD_getElem?,Array.getElem?_setIfInBounds_self,if_pos this]
    exact hr
   ·rw[if_neg h1,Array.getD_eq_getD_getElem?,Array.getElem?_setIfInBounds_ne h1,←Array.getD_eq_getD_getElem?]
    exact RelA.mono E _ _ (C.t t)
 ·cases d<;>simp[Act.put,C.nt]
 ·have:=C.d.mono E.f
  cases d<;>simpa[Act.put]using this
 ·rcases hF b hb with h1|h1
  ·exact C.g b h1
  ·exact .inr h1
theorem Conc.G (C:Conc H s F β a w) (x:Operand):RelA (· < s.n) w F β (zhi (look s.t) x) (a.eval x):=ypl C.t x
theorem Calls.exec {P:Program} {f:FuncId} (hf:zhk P f) {ev:Operand→Value} {o:Oper} {x:Operand} {args:Array Operand} {ts:Array TypeId} (ho:o.op = .call ⟨.value x,args,ts⟩) {fs cs:Array Value} (hx:ev x = .func (.func f) fs cs) (w:World) :
 (execOp ev o).run P w = .ok (.enter f (fs++args.map ev++cs)) w:=by
 obtain⟨fn,h1,h2,h3⟩:=hf
 have h4:fn.body.isNone=false:=by cases hb:fn.body<;>simp_all
 simp only[execOp,ho,resolve,hx,Deferred.ofValue,Sem.run_bind,Sem.run_pure,Result.andThen_ok,invoke,callFunc,run_program,h1,h3,Bool.false_eq_true,if_false,h4]
theorem Calls.execI {P:Program} {f:FuncId} (hf:zhk P f) {ev:Operand→Value} {o:Oper} {x:Operand} {name:String} {args:Array Operand} {ts:Array TypeId} (ho:o.op = .call ⟨.invoke x name,args,ts⟩) {t:TypeId} {y r:Value} {w:World} (hx:ev x = .iface t y) (hm:∀n,(Go.method (n+1) t y name).run P w = .ok (f,r) w) :
 (execOp ev o).run P w = .ok (.enter f (#[r]++args.map ev)) w:=by
 obtain⟨fn,h1,h2,h3⟩:=hf
 have h4:fn.body.isNone=false:=by cases hb:fn.body<;>simp_all
 have hm':(Go.method (P.types.size+100) t y name).run P w = .ok (f,r) w:=hm (P.types.size+99)
 have e0:(#[Value.iface t y]++args.map ev)[0]? = some (.iface t y):=by rw[Array.getElem?_append_left (by simp)];rfl
 have e1:(#[Value.iface t y]++args.map ev).extract 1=args.map ev:=by
  apply Array.ext'
  rw[Array.toList_extract,Array.toList_append]
  simp[List.extract,List.take_of_length_le]
 simp only[execOp,ho,resolve,Sem.run_bind,Sem.run_pure,Result.andThen_ok,invoke,hx,e0,callMethod,run_program,Made.depth,hm',e1]
 simp only[Result.andThen_ok,callFunc,Sem.run_bind,run_program,h1,h3,Bool.false_eq_true,if_false,h4,Sem.run_pure]
theorem ze6 {U:Nat→Prop} : ∀ {xs:List Operand} {g:Operand→AV} {ev:Operand→Value},zdy (xs.map g)→(∀x∈xs,RelA U w F β (g x) (ev x))→∀x∈xs,RelA U w F β (zi0 (g x)) (ev x)
 | y::r,g,ev,h,G,x,hx=>by
  have hy:RelA U w F β (zi0 (g y)) (ev y)∧zdy (r.map g):=by
   simp only[List.map_cons]at h
   have hG:=G y (by simp)
   cases hgy:g y with
   | opt u z =>
    rw[hgy]at h hG
    simp only[zdy]at h
    simp only[RelA]at hG
    exact⟨hG.1 h.1,h.2⟩
   | _=>rw[hgy]at h hG;simp only[zdy]at h;exact⟨hG,h⟩
  rcases List.mem_cons.1 hx with rfl|hx
  ·exact hy.1
  ·exact ze6 hy.2 (fun z hz=>G z (by simp[hz])) x hx
 | [],_,_,_,_,x,hx=>by simp at hx
theorem ycw {U:Nat→Prop} {c:Bool} {x:AV} {v:Value} (hc:c=true) (h:RelA U w F β x v):RelA U w F β (.opt c x) v:=by
 simp only[RelA];exact⟨fun _=>h,fun h'=>by rw[hc]at h';simp at h'⟩
theorem StepTo.opt {W:World} {N U F:Nat→Prop} {β : Nat→Option Bind} {h:Nat→Chunk} {w w':World} {m:Nat} {e:Eff} {v:Value} {c:Bool} (hc:c=true) (S:StepTo W N U F β h w m e v w'):StepTo W N U F β h w m ⟨.opt c e.val,e.ups,e.fresh⟩ v w':=by
 obtain⟨F',β',h1,h2,h3,h4⟩:=S
 exact⟨F',β',h1,h2,ycw hc h3,h4⟩
end
section
variable {P : Program} {W : World} {N U F : Nat → Prop} {β : Nat → Option Bind} {h hT : Nat → Chunk} {w : World} {a : Act} {m : Nat}
theorem CallOk.run (M:MemOk W N U F β h w) (hs:∀id,hT id ≠ .dead→hT id=h id) {f:FuncId} {args:List AV} {e:Eff} (hc:CallOk P f args hT m e) (hm:∀i,m≤i→i<m+e.fresh→¬U i) {vs:List Value} (hv:RelL U w F β args vs):zhk P f∧Calls P f vs.toArray w fun en w'=>∃v,en = .returned v∧StepTo W N U F β h w m e v w':=by
 rcases hc with ⟨ids,args',hs1,r,hs',h1,h2,rfl,h4,h5,rfl⟩|⟨args',r,h1,h2,h3,rfl⟩
 ·exact⟨h5.1,zx3 M hs h1 h2 h4 h5 hm hv⟩
 ·exact⟨h3.1,z8b M hs m h1 h2 h3 hv⟩
theorem zx2 (M:MemOk W N U F β h w) (hs:∀id,hT id ≠ .dead→hT id=h id) {o:Oper} {x:Operand} {args:Array Operand} {ts:Array TypeId} (ho:o.op = .call ⟨.value x,args,ts⟩) {f:FuncId} {p q zs:List AV} (hg:RelA U w F β (.clo (.func f) p q) (a.eval x)) (hz:RelL U w F β zs (args.toList.map a.eval)) {e:Eff}
 (hc:CallOk P f (p++zs++q) hT m e) (hm:∀i,m≤i→i<m+e.fresh→¬U i) {next:Act→World→Prop} {Q:Exit→Act→World→Prop} (hn:∀v w',StepTo W N U F β h w m e v w'→next (a.put o.dst v) w'):o.wp P a w next Q:=by
 simp only[RelA]at hg
 obtain⟨fs,cs,hx,h1,h2⟩:=hg
 have hr:=h1.append hz |>.append h2
 obtain⟨k1,k2⟩:=hc.run M hs hm hr
 unfold Oper.wp
 rw[Calls.exec k1 ho hx]
 simp only[Oper.upon]
 have e1:(fs.toList++args.toList.map a.eval++cs.toList).toArray=fs++args.map a.eval++cs:=by
  apply Array.ext';simp
 rw[e1]at k2
 refine k2.mono ?_
 rintro en w' ⟨v,rfl,S⟩
 exact hn v w' S
theorem z6r (M:MemOk W N U F β h w) (hs:∀id,hT id ≠ .dead→hT id=h id) {o:Oper} {x:Operand} {name:String} {args:Array Operand} {ts:Array TypeId} (ho:o.op = .call ⟨.invoke x name,args,ts⟩) {rx z:AV} {φ : Prop} {f:FuncId} (hi:yh1 P hT rx name=some (φ,f,z)) (hφ : φ) {zs:List AV} (hg:RelA U w F β rx (a.eval x)) (hz:RelL U w F β zs (args.toList.map a.eval)) {e:Eff}
 (hc:CallOk P f (z::zs) hT m e) (hm:∀i,m≤i→i<m+e.fresh→¬U i) {next:Act→World→Prop} {Q:Exit→Act→World→Prop} (hn:∀v w',StepTo W N U F β h w m e v w'→next (a.put o.dst v) w'):o.wp P a w next Q:=by
 obtain⟨t,y,r,hx,hmr,hr⟩:=yf5 M hs hi hφ hg
 have hrl:RelL U w F β (z::zs) (r::args.toList.map a.eval):=by simp only[RelL];exact⟨r,_,rfl,hr,hz⟩
 obtain⟨k1,k2⟩:=hc.run M hs hm hrl
 unfold Oper.wp
 rw[Calls.execI k1 ho hx hmr]
 simp only[Oper.upon]
 have e1:(r::args.toList.map a.eval).toArray = #[r]++args.map a.eval:=by
  apply Array.ext';simp
 rw[e1]at k2
 refine k2.mono ?_
 rintro en w' ⟨v,rfl,S⟩
 exact hn v w' S
theorem zmv (x:Operand) (name:String) (args:Array Operand) (ts:Array TypeId) (y:Operand) (hy:y=x∨y∈args.toList):y∈(Op.operands (.call ⟨.invoke x name,args,ts⟩)).toList:=by
 simp[Op.operands,Call.operands]
 rcases hy with rfl|hy
 ·exact .inl rfl
 ·exact .inr (by simpa using hy)
theorem z7q (M:MemOk W N U F β h w) (hs:∀id,hT id ≠ .dead→hT id=h id) (hm0:¬U m) {o:Oper} {g:Operand→AV} (G:∀x∈o.op.operands.toList,RelA U w F β (g x) (a.eval x)) {φ : Prop} {e:Eff} (he:ex4 P g hT m o.op=some (φ,e)) (hφ : φ) {next:Act→World→Prop} {Q:Exit→Act→World→Prop}
 (hn:∀v w',StepTo W N U F β h w m e v w'→next (a.put o.dst v) w'):o.wp P a w next Q:=by
 obtain⟨n,w',h1,h2,h3⟩:=ygu M hs hm0 G he hφ
 unfold Oper.wp
 rw[h1]
 cases n<;>simp only[z15,Bool.false_eq_true]at h2
 ·exact hn _ _ h3
 ·exact hn _ _ h3
theorem zkh (x:Operand) (args:Array Operand) (ts:Array TypeId) (y:Operand) (hy:y=x∨y∈args.toList):y∈(Op.operands (.call ⟨.value x,args,ts⟩)).toList:=by
 simp[Op.operands,Call.operands]
 rcases hy with rfl|hy
 ·exact .inl rfl
 ·exact .inr (by simpa using hy)
theorem ye5 (M:MemOk W N U F β h w) (hs:∀id,hT id ≠ .dead→hT id=h id) (hm0:¬U m) {o:Oper} {f:Nat→AV} (G:∀x∈o.op.operands.toList,RelA U w F β (zhi f x) (a.eval x)) {K:Eff→Prop} (hm:∀e,K e→∀i,m≤i→i<m+e.fresh→¬U i) (hx:opX P (zhi f) hT m K o.op) {next:Act→World→Prop} {Q:Exit→Act→World→Prop}
 (hn:∀e v w',K e→StepTo W N U F β h w m e v w'→next (a.put o.dst v) w'):o.wp P a w next Q:=by
 unfold opX at hx
 split at hx
 ·rename_i x args ts ho
  rw[ho]at G
  split at hx
  ·rename_i fid p q hxx
   obtain⟨e,h1,h2⟩:=hx
   exact zx2 M hs ho (by rw[←hxx];exact G x (zkh _ _ _ _ (.inl rfl))) (zf4 args.toList fun y hy=>G y (zkh _ _ _ _ (.inr hy))) h1 (hm e h2) fun v w' S=>hn e v w' h2 S
  ·exact hx.elim
 ·rename_i x name args ts ho
  rw[ho]at G
  split at hx
  ·rename_i φ fid y hi
   obtain⟨h0,e,h1,h2⟩:=hx
   exact z6r M hs ho hi h0 (G x (zmv _ _ _ _ _ (.inl rfl))) (zf4 args.toList fun y hy=>G y (zmv _ _ _ _ _ (.inr hy))) h1 (hm e h2) fun v w' S=>hn e v w' h2 S
  ·exact hx.elim
 ·split at hx
  ·rename_i φ e he
   exact z7q M hs hm0 G he hx.1 fun v w' S=>hn e v w' hx.2 S
  ·exact hx.elim
theorem yfa (M:MemOk W N U F β h w) (hs:∀id,hT id ≠ .dead→hT id=h id) (hm0:¬U m) {o:Oper} {f:Nat→AV} (G:∀x∈o.op.operands.toList,RelA U w F β (zhi f x) (a.eval x)) {c:Bool} (hc:c=true) {K:Eff→Prop} (hm:∀e,K e→∀i,m≤i→i<m+e.fresh→¬U i) (hx:opG P c (zhi f) hT m K o.op) {next:Act→World→Prop} {Q:Exit→Act→World→Prop}
 (hn:∀e v w',K e→StepTo W N U F β h w m e v w'→next (a.put o.dst v) w'):o.wp P a w next Q:=by
 unfold opG at hx
 split at hx
 ·rename_i x args ts ho
  rw[ho]at G
  split at hx
  ·rename_i fid p q hxx
   have both:zdy ((Op.operands (.call ⟨.value x,args,ts⟩)).toList.map (zhi f))→RelA U w F β (.clo (.func fid) p q) (a.eval x)∧RelL U w F β (args.toList.map (fun x=>zi0 (zhi f x))) (args.toList.map a.eval):=by
    intro hst
    have G2:=ze6 hst G
    exact⟨by rw[←hxx];exact G2 x (zkh _ _ _ _ (.inl rfl)),zf4 (g:=fun x=>zi0 (zhi f x)) args.toList fun y hy=>G2 y (zkh _ _ _ _ (.inr hy))⟩
   rcases hx with ⟨r,h1,h2⟩|⟨h1,h2⟩
   ·obtain⟨h3,h4⟩:=h1 hc
    obtain⟨g1,g2⟩:=both h3
    exact zx2 M hs ho g1 g2 h4 (fun i h1 h2=>by simp at h2;omega) fun v w' S=>hn _ v w' h2 (S.opt hc)
   ·obtain⟨h3,e,h4,h5⟩:=h1 hc
    obtain⟨g1,g2⟩:=both h3
    exact zx2 M hs ho g1 g2 h4 (hm e h5) fun v w' S=>hn e v w' h5 S
  ·exact absurd (hc.symm.trans hx.1) (by decide)
 ·rename_i x name args ts ho
  rw[ho]at G
  split at hx
  ·rename_i φ fid y hi
   have both:zdy ((Op.operands (.call ⟨.invoke x name,args,ts⟩)).toList.map (zhi f))→RelA U w F β (zi0 (zhi f x)) (a.eval x)∧RelL U w F β (args.toList.map (fun x=>zi0 (zhi f x))) (args.toList.map a.eval):=by
    intro hst
    have G2:=ze6 hst G
    exact⟨G2 x (zmv _ _ _ _ _ (.inl rfl)),zf4 (g:=fun x=>zi0 (zhi f x)) args.toList fun y hy=>G2 y (zmv _ _ _ _ _ (.inr hy))⟩
   rcases hx with ⟨r,h1,h2⟩|⟨h1,h2⟩
   ·obtain⟨h3,h4⟩:=h1 hc
    obtain⟨g1,g2⟩:=both h3.2
    exact z6r M hs ho hi h3.1 g1 g2 h4 (fun i h1 h2=>by simp at h2;omega) fun v w' S=>hn _ v w' h2 (S.opt hc)
   ·obtain⟨h3,e,h4,h5⟩:=h1 hc
    obtain⟨g1,g2⟩:=both h3.2
    exact z6r M hs ho hi h3.1 g1 g2 h4 (hm e h5) fun v w' S=>hn e v w' h5 S
  ·exact absurd (hc.symm.trans hx.1) (by decide)
 ·rename_i cn x y ho
  rw[ho]at G
  split at hx
  ·rename_i t hcn
   split at hx
   ·rename_i φ r hp
    obtain⟨h1,h2⟩:=hx.1 hc
    have G2:=ze6 (xs := [cn]) (by simpa using h1) (fun z hz=>G z (by simp at hz;subst hz;simp[Op.operands])) cn (by simp)
    rw[hcn]at G2
    have hr:=zza hp h2 (G x (by simp[Op.operands])) (G y (by simp[Op.operands]))
    unfold Oper.wp
    have he:(execOp a.eval o).run P w = .ok (.value (if t then a.eval x else a.eval y)) w:=by
     simp[execOp,ho,relB.1 G2,asBool]
    rw[he]
    exact hn _ _ w hx.2 (zbq M m (ycw hc hr))
   ·exact absurd (hc.symm.trans hx.1) (by decide)
  ·exact absurd (hc.symm.trans hx.1) (by decide)
 ·split at hx
  ·rename_i φ x he
   obtain⟨h1,h2⟩:=hx.1 hc
   exact z7q M hs hm0 (g:=fun x=>zi0 (zhi f x)) (ze6 h1 G) he h2 fun v w' S=>hn _ v w' hx.2 (S.opt hc)
  ·rename_i φ e _ he
   obtain⟨h1,h2,h3⟩:=hx.1 hc
   exact z7q M hs hm0 (g:=fun x=>zi0 (zhi f x)) (ze6 h1 G) he h2 fun v w' S=>hn e v w' h3 S
  ·exact absurd (hc.symm.trans hx.1) (by decide)
theorem yiu (M:MemOk W N U F β h w) {o:Oper} {f:Nat→AV} {c:Bool} (hc:c=false) {K:Eff→Prop} (hx:opG P c (zhi f) hT m K o.op) {next:Act→World→Prop}
 (hn:∀e v w',K e→StepTo W N U F β h w m e v w'→next (a.put o.dst v) w'):next (a.put o.dst undef) w:=by
 have fin:∀x,RelA U w F β x undef→K ⟨x,[],0⟩→next (a.put o.dst undef) w:=fun x hx hk=>hn _ _ w hk (zbq M m hx)
 have fo:∀x,RelA U w F β (.opt c x) undef:=by
  intro x;simp only[RelA];exact⟨fun h'=>by rw[hc]at h';simp at h',fun _=>trivial⟩
 unfold opG at hx
 split at hx
 ·split at hx
  ·rcases hx with ⟨r,h1,h2⟩|⟨h1,h2⟩
   ·exact fin _ (fo r) h2
   ·exact fin _ (by simp only[RelA]) (h2 hc)
  ·exact fin _ (by simp only[RelA]) hx.2
 ·split at hx
  ·rcases hx with ⟨r,h1,h2⟩|⟨h1,h2⟩
   ·exact fin _ (fo r) h2
   ·exact fin _ (by simp only[RelA]) (h2 hc)
  ·exact fin _ (by simp only[RelA]) hx.2
 ·split at hx
  ·split at hx
   ·exact fin _ (fo _) hx.2
   ·exact fin _ (by simp only[RelA]) hx.2
  ·exact fin _ (by simp only[RelA]) hx.2
 ·split at hx
  ·exact fin _ (fo _) hx.2
  ·exact fin _ (by simp only[RelA]) (hx.2 hc)
  ·exact fin _ (by simp only[RelA]) hx.2
def yn0 (ops:Array Oper) (o:Oper) (U F:Nat→Prop) (β : Nat→Option Bind) (w:World) (f:Nat→AV) (a:Act):Prop:=∀t∈o.looksAt ops,RelA U w F β (f t) (a.tmps.getD t undef)
theorem zze {ops:Array Oper} (M:MemOk W N U F β h w) (hs:∀id,hT id ≠ .dead→hT id=h id) (hm0:¬U m) {o:Oper} {f:Nat→AV} (G:yn0 ops o U F β w f a) {K:Eff→Prop} (hm:∀e,K e→∀i,m≤i→i<m+e.fresh→¬U i) (hx:zw6 P ops o f hT m K) {next:Act→World→Prop} {Q:Exit→Act→World→Prop}
 (hn:∀e v w',K e→StepTo W N U F β h w m e v w'→next (a.put o.dst v) w') :
 if Region.wanted o (yielded ops a.tmps)then o.wp P a w next Q∨(o.asks P a w∧LetsOut Q)else next (a.put o.dst undef) w:=by
 have G1:∀x∈o.op.operands.toList,RelA U w F β (zhi f x) (a.eval x):=by
  intro x hx
  cases x with
  | tmp t=>exact G t (by unfold Oper.looksAt;exact List.mem_append_left _ (List.mem_filterMap.2 ⟨.tmp t,hx,rfl⟩))
  | const v=>exact ycx v
  | global g=>exact relC.2 ⟨rfl,rfl⟩
  | func f=>simp[zhi,RelA,RelL,Act.eval]
 unfold zw6 at hx
 split at hx
 ·rename_i hg
  rw[if_pos (by simp[Region.wanted,hg])]
  exact .inl (ye5 M hs hm0 G1 hm hx hn)
 ·rename_i j b hg
  split at hx
  ·exact hx.elim
  ·rename_i c hc
   have key:Region.wanted o (yielded ops a.tmps)=c:=by
    have hy:∀(d:Tmp) (t:Bool),(ops[j]?).bind (·.dst)=some d→a.tmps.getD d undef = .bool t→yielded ops a.tmps j=some t:=by
     intro d t h1 h2
     unfold yielded
     rw[h1]
     simp only[Option.bind_some]
     rw[Array.getD_eq_getD_getElem?]at h2
     cases h3:a.tmps[d]? with
     | none=>rw[h3]at h2;simp[undef]at h2
     | some v=>rw[h3]at h2;simp only[Option.getD_some]at h2;subst h2;rfl
    have hn':∀(d:Tmp),(ops[j]?).bind (·.dst)=some d→a.tmps.getD d undef=undef→yielded ops a.tmps j=none:=by
     intro d h1 h2
     unfold yielded
     rw[h1]
     simp only[Option.bind_some]
     rw[Array.getD_eq_getD_getElem?]at h2
     cases h3:a.tmps[d]? with
     | none=>rfl
     | some v=>rw[h3]at h2;simp only[Option.getD_some]at h2;subst h2;rfl
    unfold Region.wanted
    rw[hg]
    simp only
    cases hd':(ops[j]?).bind (·.dst)with
    | none=>rw[hd']at hc;simp[ykz,ybk]at hc
    | some d =>
     rw[hd']at hc
     simp only[ykz]at hc
     have hT:=G d (by unfold Oper.looksAt;rw[hg];simp only[hd'];exact List.mem_append_right _ (by simp))
     unfold ybk at hc
     split at hc
     ·rename_i t hl
      rw[hl]at hT
      rw[hy d t hd' (relB.1 hT)]
      simp only[oI]at hc
      subst hc
      cases b<;>cases t<;>rfl
     ·rename_i u t hl
      rw[hl]at hT
      simp only[RelA]at hT
      simp only[oI]at hc
      subst hc
      cases u with
      | true =>
       have:=hT.1 rfl
       simp only[RelP]at this
       rw[hy d t hd' this.1]
       cases b<;>cases t<;>rfl
      | false =>
       rw[hn' d hd' (hT.2 rfl)]
       rfl
     ·simp at hc
   rw[key]
   cases hcc:c with
   | true=>exact .inl (yfa M hs hm0 G1 hcc hm hx hn)
   | false =>
    simp only[Bool.false_eq_true,if_false]
    exact yiu M hcc hx hn
end
section
variable {P : Program} {H : Hist} {s : St} {F : Nat → Prop} {β : Nat → Option Bind} {a : Act} {w : World}
theorem zr1 (C:Conc H s F β a w) {ops:Array Oper} {o:Oper} {K:St→Prop} (h:opW P H.nt ops o s K) {next:Act→World→Prop} {Q:Exit→Act→World→Prop} (hn:∀s' F' β' a' w',K s'→Conc H s' F' β' a' w'→next a' w') :
 if Region.wanted o (yielded ops a.tmps)then o.wp P a w next Q∨(o.asks P a w∧LetsOut Q)else next (a.put o.dst undef) w:=by
 obtain⟨hd,h⟩:=h
 split at h
 ·rename_i neg xs hc
  obtain⟨hg,hk⟩:=h
  have key:∀(op:BinOp) (t yt:TypeId) (x:Operand) (e sz:Nat),o.op = .binOp op t x (.const (.slice none 0 0)) yt→(op = .eql∧neg=false∨op = .neq∧neg=true)→P.underlying t=some (.slice e)→z82 (zan s.h) (zhi (look s.t) x)=some (sz,xs)→o.wp P a w next Q:=by
   intro op t yt x e sz ho hop ht hsl
   obtain⟨ad,c,hv,_,_,hx⟩:=zkb C.m (fun _ _=>rfl) hsl (C.G x)
   have hr:(execOp a.eval o).run P w = .ok (.value (.bool (ydr neg ad.isNone))) w:=by
    have hev:a.eval (.const (.slice none 0 0)) = .slice none 0 0:=rfl
    have he:∀l:Nat,(Op.equalIn 10000 t (.slice ad l c) (.slice none 0 0)).run P w = .ok ad.isNone w:=by
     intro l
     show (Op.equalIn (9999+1) t (.slice ad l c) (.slice none 0 0)).run P w=_
     unfold Op.equalIn
     simp only[Sem.run_bind,run_underlying ht,Result.andThen_ok]
     cases ad<;>simp
    rcases hop with ⟨rfl,rfl⟩|⟨rfl,rfl⟩
    ·simp only[execOp,ho,hv,hev,eqGuard,binOp,Op.equal,Op.maxDepth,Sem.run_bind]
     simp[he,ydr]
    ·simp only[execOp,ho,hv,hev,eqGuard,binOp,Op.equal,Op.maxDepth,Sem.run_bind]
     simp[he,ydr]
   unfold Oper.wp
   rw[hr]
   have hb:ad.isNone=true→xs = []:=by
    intro hb
    rcases hx with hx|⟨b,q,hx,_⟩
    ·exact hx
    ·rw[hx]at hb;simp at hb
   obtain⟨F',β',C'⟩:=C.step (zbq (x:=B (ydr neg ad.isNone)) (v := .bool (ydr neg ad.isNone)) C.m s.n (relB.2 rfl)) hd
   exact hn _ F' β' _ w (hk ad.isNone hb) C'
  rw[if_pos (by simp[Region.wanted,hg])]
  unfold z5t at hc
  split at hc
  ·rename_i t x yt ho
   split at hc
   ·rename_i ht hsl
    obtain⟨_,u,_,h2,h3,_⟩:=zbf ht
    have:=zc4 h3
    subst this
    simp only[oI,pJ]at hc
    obtain⟨rfl,rfl⟩:=hc
    exact .inl (key _ _ _ _ _ _ ho (.inl ⟨rfl,rfl⟩) h2 hsl)
   ·simp at hc
  ·rename_i t x yt ho
   split at hc
   ·rename_i ht hsl
    obtain⟨_,u,_,h2,h3,_⟩:=zbf ht
    have:=zc4 h3
    subst this
    simp only[oI,pJ]at hc
    obtain⟨rfl,rfl⟩:=hc
    exact .inl (key _ _ _ _ _ _ ho (.inr ⟨rfl,rfl⟩) h2 hsl)
   ·simp at hc
  ·simp at hc
 ·exact zze C.m (fun _ _=>rfl) (Nat.lt_irrefl s.n) (fun t _=>C.t t) (fun e _ i h1 _=>by omega) h fun e v w' hk S=>by
   obtain⟨F',β',C'⟩:=C.step S hd
   rw[yit]at hk
   exact hn _ F' β' _ w' hk C'
theorem ziw {ops:Array Oper} {Q:Exit→St→Prop} : ∀(l:List Oper) (s:St) (F:Nat→Prop) (β : Nat→Option Bind) (a:Act) (w:World),ztm P H.nt ops l (Q .normal) s→Conc H s F β a w→wpList P ops (zix H Q) l a w
 | [],⟨t,h0,n⟩,F,β,a,w,h,C=>⟨⟨t,h0,n⟩,F,β,C,h⟩
 | o::r,⟨t,h0,n⟩,F,β,a,w,h,C=>by
  simp only[ztm]at h
  exact zr1 C h fun s' F' β' a' w' hk C'=>ziw r s' F' β' a' w' hk C'
theorem yhj (hd:∀(ops:Array Oper) (Q:Exit→St→Prop) (s:St) (F:Nat→Prop) (β : Nat→Option Bind) (a:Act) (w:World) (id:Nat),zad P H.nt ops (Q .normal) s→Conc H s F β a w→(Code.region id ops true).wp P (zix H Q) a w) :
 ∀(c:Code) (Q:Exit→St→Prop) (s:St) (F:Nat→Prop) (β : Nat→Option Bind) (a:Act) (w:World),awp P H.nt H.k c Q s→Conc H s F β a w→c.wp P (zix H Q) a w:=by
 intro c
 induction c with
 | skip=>intro Q s F β a w h C;cases s;exact wp_skip ⟨_,F,β,C,h⟩
 | region id ops draw =>
  intro Q s F β a w h C
  cases s
  cases draw with
  | false=>exact wp_region_list (ziw ops.toList _ F β a w h C)
  | true=>exact hd ops Q _ F β a w id h C
 | seq x y ihx ihy =>
  intro Q s F β a w h C
  obtain⟨st,sh,sn⟩:=s
  simp only[awp]at h
  refine wp_seq (wp_mono (ihx _ _ F β a w h C) ?_)
  rintro e a' w' ⟨s',F',β',C',hq⟩
  cases e with
  | normal=>exact ihy Q s' F' β' a' w' hq C'
  | _=>exact⟨s',F',β',C',hq⟩
 | cond c x y ihx ihy =>
  intro Q s F β a w h C
  obtain⟨st,sh,sn⟩:=s
  simp only[awp]at h
  have one:∀(s2:St) (F2:Nat→Prop) (β2:Nat→Option Bind),Conc H s2 F2 β2 a w→∀Q':Exit→St→Prop,ztj (zhi (look st) c) (awp P H.nt H.k x Q') (awp P H.nt H.k y Q') s2→(Code.cond c x y).wp P (zix H Q') a w:=by
   intro s2 F2 β2 C2 Q' h
   unfold ztj at h
   split at h
   ·rename_i b hb
    have hg:=C.G c
    rw[hb]at hg
    exact wp_cond_split (relB.1 hg) (fun hb=>ihx Q' _ F2 β2 a w (h.1 hb) C2) fun hb=>ihy Q' _ F2 β2 a w (h.2 hb) C2
   ·exact h.elim
  rcases h with h|⟨α,S,Pr,h1,h2⟩|⟨s2,hto,h⟩
  ·exact one _ F β C Q h
  rotate_left
  ·obtain⟨F2,β2,C2⟩:=hto H F β a w rfl C
   exact one s2 F2 β2 C2 Q h
  ·refine wp_mono (one _ F β C _ h1) ?_
   rintro e a' w' ⟨s',F',β',C',hq⟩
   cases e with
   | normal =>
    obtain⟨z,hz,hto⟩:=hq
    obtain⟨F2,β2,C2⟩:=hto H F' β' a' w' rfl C'
    exact⟨S z,F2,β2,C2,h2 z hz⟩
   | _=>exact⟨s',F',β',C',hq⟩
 | block id c ih =>
  intro Q s F β a w h C
  obtain⟨st,sh,sn⟩:=s
  simp only[awp]at h
  refine wp_block (wp_mono (ih _ _ F β a w h C) ?_)
  rintro e a' w' ⟨s',F',β',C',hq⟩
  cases e with
  | exit i =>
   simp only[Exit.inBlock]
   simp only[ydn]at hq
   by_cases hi:i=id
   ·rw[if_pos hi]at hq ⊢;exact⟨s',F',β',C',hq⟩
   ·rw[if_neg hi]at hq ⊢;exact⟨s',F',β',C',hq⟩
  | _=>exact⟨s',F',β',C',hq⟩
 | loop c ih =>
  intro Q s F β a w h C
  obtain⟨st,sh,sn⟩:=s
  simp only[awp]at h
  obtain⟨α,S,Pr,μ,⟨x0,hx0,hto⟩,hround⟩:=h
  obtain⟨F0,β0,C0⟩:=hto H F β a w rfl C
  classical
  let Iv:Act→World→Nat→Prop:=fun a w n=>∃x F β,Pr x∧Conc H (S x) F β a w ∧ μ x=n
  refine wp_loop (fun a w=>∃n,Iv a w n) (fun a w=>if h:∃n,Iv a w n then Classical.choose (zh3 h)else 0) ⟨_,x0,F0,β0,hx0,C0,rfl⟩ ?_
  intro a1 w1 hI
  obtain⟨x,F1,β1,hx,C1,hμ⟩:=(Classical.choose_spec (zh3 hI)).1
  refine wp_mono (ih _ (S x) F1 β1 a1 w1 (hround x hx) C1) ?_
  rintro e a' w' ⟨s',F',β',C',hq⟩
  cases e with
  | normal =>
   obtain⟨y,hy,hlt,hto'⟩:=hq
   obtain⟨F2,β2,C2⟩:=hto' H F' β' a' w' rfl C'
   have hI':∃n,Iv a' w' n:=⟨_,y,F2,β2,hy,C2,rfl⟩
   refine⟨hI',?_⟩
   simp only[dif_pos hI',dif_pos hI]
   rw[←hμ]
   exact Nat.lt_of_le_of_lt ((Classical.choose_spec (zh3 hI')).2 _ ⟨y,F2,β2,hy,C2,rfl⟩) hlt
  | _=>exact⟨s',F',β',C',hq⟩
 | rangeFunc f ps x y _ _=>intro Q s F β a w h C;cases s;exact h H F β a w rfl rfl C
 | exit id=>intro Q s F β a w h C;cases s;exact wp_exit ⟨_,F,β,C,h⟩
 | scope c ih =>
  intro Q s F β a w h C
  obtain⟨st,sh,sn⟩:=s
  simp only[awp]at h
  refine wp_scope_straight (wp_mono (ih _ _ F β a w h C) ?_)
  rintro e a' w' ⟨s',F',β',C',hq⟩
  cases e with
  | goto l=>exact hq.elim
  | _=>exact⟨s',F',β',C',hq⟩
 | label l=>intro Q s F β a w h C;cases s;exact wp_label ⟨_,F,β,C,h⟩
 | goto l=>intro Q s F β a w h C;cases s;exact h.elim
 | ret=>intro Q s F β a w h C;cases s;exact wp_ret ⟨_,F,β,C,h⟩
 | refuse why=>intro Q s F β a w h C;cases s;exact h.elim
end
def zc7 (w w':World):Prop:=∀b o u,w.cell? ⟨b,o,none⟩=some u→w'.cell? ⟨b,o,none⟩=some u
mutual
theorem RelP.sh {w w':World} {F:Nat→Prop} (K:zc7 w w'):∀(p:PV) (u:Value),RelP w F p u→RelP w' F p u
 | .undef,_,h=>by simp only[RelP]at h ⊢;exact h
 | .v _,_,h=>by simp only[RelP]at h ⊢;exact h
 | .sl sz xs,u,h=>by
  simp only[RelP]at h ⊢
  obtain⟨a,c,rfl,h1,h2,h3⟩:=h
  refine⟨a,c,rfl,h1,h2,?_⟩
  rcases h3 with h3|⟨b,o,rfl,hb,he⟩
  ·exact .inl h3
  ·exact .inr ⟨b,o,rfl,hb,RelE.sh K sz o xs he⟩
theorem RelE.sh {w w':World} {F:Nat→Prop} (K:zc7 w w') {b:Nat} : ∀(sz o:Nat) (xs:List (List PV)),RelE w F b sz o xs→RelE w' F b sz o xs
 | _,_,[],_=>by simp only[RelE]
 | sz,o,cs::r,h=>by
  simp only[RelE]at h ⊢
  exact⟨h.1,RelC.sh K o cs h.2.1,RelE.sh K sz (o+sz) r h.2.2⟩
theorem RelC.sh {w w':World} {F:Nat→Prop} (K:zc7 w w') {b:Nat} : ∀(o:Nat) (xs:List PV),RelC w F b o xs→RelC w' F b o xs
 | _,[],_=>by simp only[RelC]
 | o,x::r,h=>by
  simp only[RelC]at h ⊢
  obtain⟨⟨u,hu,hx⟩,hr⟩:=h
  exact⟨⟨u,K _ _ _ hu,RelP.sh K x u hx⟩,RelC.sh K (o+1) r hr⟩
end
mutual
theorem RelA.sh {U F:Nat→Prop} {β : Nat→Option Bind} {w w':World} (K:zc7 w w'):∀(x:AV) (u:Value),RelA U w F β x u→RelA U w' F β x u
 | .undef,_,_=>by simp only[RelA]
 | .c p,u,h=>by simp only[RelA]at h ⊢;exact RelP.sh K p u h
 | .agg xs,u,h=>by
  simp only[RelA]at h ⊢
  obtain⟨vs,rfl,h1,h2⟩:=h
  exact⟨vs,rfl,RelL.sh K xs _ h1,h2⟩
 | .tup xs,u,h=>by
  simp only[RelA]at h ⊢
  obtain⟨vs,rfl,h1⟩:=h
  exact⟨vs,rfl,RelL.sh K xs _ h1⟩
 | .own id,u,h=>by simp only[RelA]at h ⊢;exact h
 | .view id o l,u,h=>by simp only[RelA]at h ⊢;exact h
 | .ptr id i o,u,h=>by simp only[RelA]at h ⊢;exact h
 | .fel sz xs i o,u,h=>by
  simp only[RelA]at h ⊢
  obtain⟨b,p,rfl,hb,he⟩:=h
  exact⟨b,p,rfl,hb,RelE.sh K _ _ _ he⟩
 | .clo f x y,u,h=>by
  simp only[RelA]at h ⊢
  obtain⟨fs,cs,rfl,h1,h2⟩:=h
  exact⟨fs,cs,rfl,RelL.sh K x _ h1,RelL.sh K y _ h2⟩
 | .ifc t x,u,h=>by
  simp only[RelA]at h ⊢
  obtain⟨y,rfl,h1⟩:=h
  exact⟨y,rfl,RelA.sh K x y h1⟩
 | .map id,u,h=>by simp only[RelA]at h ⊢;exact h
 | .opt t x,u,h=>by simp only[RelA]at h ⊢;exact⟨fun ht=>RelA.sh K x u (h.1 ht),h.2⟩
theorem RelL.sh {U F:Nat→Prop} {β : Nat→Option Bind} {w w':World} (K:zc7 w w'):∀(xs:List AV) (us:List Value),RelL U w F β xs us→RelL U w' F β xs us
 | [],_,h=>by simp only[RelL]at h ⊢;exact h
 | x::r,us,h=>by
  simp only[RelL]at h ⊢
  obtain⟨u,us',rfl,h1,h2⟩:=h
  exact⟨u,us',rfl,RelA.sh K x u h1,RelL.sh K r us' h2⟩
end
theorem InnOk.sh {w w':World} {F:Nat→Prop} (K:zc7 w w') {bs:List Nat} (hb:∀g∈bs,w'.heap[g]? = w.heap[g]?) {e2 sz2:Nat} {ys:List (List PV)} {u:Value} (h:InnOk w F bs e2 sz2 ys u):InnOk w' F bs e2 sz2 ys u:=by
 rcases h with h|⟨g,cap,cur,h1,h2,h3,h4,h5,h6,h7⟩
 ·exact .inl h
 ·exact .inr ⟨g,cap,cur,h1,h2,(hb g h2).trans h3,h4,h5,h6,RelE.sh K _ _ _ h7⟩
theorem NstOk.sh {U F:Nat→Prop} {β : Nat→Option Bind} {w w':World} (K:zc7 w w') {bs:List Nat} {g sz c e2 sz2:Nat} {xs:List (List PV)} {ys:List (List (List PV))} {op:Option (Nat × Nat)} (hg:w'.heap[g]? = w.heap[g]?) (hb:∀g∈bs,w'.heap[g]? = w.heap[g]?) (h:NstOk U w F β bs g sz c e2 sz2 xs ys op):NstOk U w' F β bs g sz c e2 sz2 xs ys op:=by
 have ec:∀o,w'.cell? ⟨g,o,none⟩=w.cell? ⟨g,o,none⟩:=fun o=>World.cell?_of_block (a:=⟨g,o,none⟩) hg
 refine⟨fun i x y hx hy j p hp=>?_,fun i i' b o o' n n' k k' h1 h2 h3 h4 h5 h6=>h.inj i i' b o o' n n' k k' h1 h2 h3 h4 ((ec _).symm.trans h5) ((ec _).symm.trans h6),h.opu⟩
 obtain⟨u,hu,hc⟩:=h.cells i x y hx hy j p hp
 refine⟨u,(ec _).trans hu,?_⟩
 unfold NCell at hc ⊢
 split
 ·rename_i hj
  rw[if_pos hj]at hc
  split
  ·rename_i id he
   rw[he]at hc
   exact hc
  ·rename_i he
   rw[he]at hc
   exact hc.sh K hb
 ·rename_i hj
  rw[if_neg hj]at hc
  exact RelP.sh K _ _ hc
theorem ChOk.sh {U F:Nat→Prop} {β : Nat→Option Bind} {w w':World} (K:zc7 w w') {bd:Bind} (hb:∀g,bd.has g→w'.heap[g]? = w.heap[g]?):∀ {c:Chunk},ChOk U w F β bd c→ChOk U w' F β bd c
 | .dead,_=>trivial
 | .row e sz xs,⟨h1,h2,h3,h4⟩=>by
  refine⟨h1,h2,h3,?_⟩
  rcases h4 with h4|⟨g,cap,cur,h5,h6,h7,h8,h9,h10,h11⟩
  ·exact .inl h4
  ·exact .inr ⟨g,cap,cur,h5,h6,(hb g (.inl h5)).trans h7,h8,h9,h10,RelE.sh K _ _ _ h11⟩
 | .keep e sz xs,⟨h1,h2,h3,h4⟩=>by
  refine⟨h1,h2,h3,?_⟩
  rcases h4 with h4|⟨g,cap,cur,h5,h6,h7,h8,h9,h10,h11⟩
  ·exact .inl h4
  ·exact .inr ⟨g,cap,cur,h5,h6,(hb g (.inl h5)).trans h7,h8,h9,h10,RelE.sh K _ _ _ h11⟩
 | .blk t cs,⟨h1,h2,g,vs,h3,h4,h5,h6,h7⟩=>⟨h1,h2,g,vs,h3,h4,(hb g (.inl h3)).trans h5,RelL.sh K _ _ h6,h7⟩
 | .mp agg n es,⟨h0,g,h1,h2⟩=>⟨h0,g,h1,(hb g (.inl h1)).trans h2⟩
 | .nst e sz c e2 sz2 xs ys op,⟨h1,h2,h3,h4,h5,h6⟩=>by
  refine⟨⟨h1.1,fun b hbb=>by obtain⟨cur,hc⟩:=h1.2 b hbb;exact⟨cur,(hb b (.inr hbb)).trans hc⟩⟩,h2,h3,h4,h5,?_⟩
  rcases h6 with h6|⟨g,cap,cur,k1,k2,k3,k4,k5,k6,k7,k8⟩
  ·exact .inl h6
  ·exact .inr ⟨g,cap,cur,k1,k2,(hb g (.inl k1)).trans k3,k4,k5,k6,k7,k8.sh K (hb g (.inl k1)) fun b hbb=>hb b (.inr hbb)⟩
theorem MemOk.put {W:World} {N U F:Nat→Prop} {β : Nat→Option Bind} {h:Nat→Chunk} {w:World} (M:MemOk W N U F β h w) {D:Nat} {o:Obj} (hD:W.heap.size≤D) (hn:∀i bd,h i ≠ .dead → β i=some bd→¬bd.has D) (hc:zc7 w (w.putObj D o)) {o':Obj} (ho:w.heap[D]? = some o') (hoc:o'.isCells=false):MemOk W N U F β h (w.putObj D o):=by
 refine⟨by simpa using M.size,M.os,M.tape,M.output,fun b hb hN=>?_,fun b hb=>by simpa using M.fin b hb,M.used,fun id hd=>?_,M.dis,fun i bd b hb hbb=>by simpa using M.off i bd b hb hbb,M.gl.sh fun b cs ty z hb=>World.putObj_heap_other fun e=>by rw[e,ho]at hb;cases hb;cases hoc⟩
 ·rw[World.putObj_heap_other (by omega)];exact M.frame b hb hN
 ·obtain⟨bd,hb,hk⟩:=M.ch id hd
  exact⟨bd,hb,hk.sh hc fun g hg=>World.putObj_heap_other fun e=>hn id bd hd hb (by rw[←e];exact hg)⟩
theorem z9h {w:World} {D:Nat} {o o':Obj} (h:w.heap[D]? = some o) (hc:o.isCells=false):zc7 w (w.putObj D o'):=by
 intro b q u hu
 by_cases e:b=D
 ·subst e
  unfold World.cell? at hu
  simp only[h]at hu
  cases o<;>simp[Obj.isCells]at hc hu
 ·unfold World.cell? at hu ⊢
  rw[World.putObj_heap_other e];exact hu
section
variable {P : Program} {H : Hist} {s : St} {F : Nat → Prop} {β : Nat → Option Bind} {a : Act} {w : World}
abbrev mkD (D:Nat):Deferred:={ target := .collected D,args := #[] }
theorem Conc.shut (C:Conc H s F β a w) {D:Nat} {Ds:List Nat} (hd:a.defers=(D::Ds).map mkD):∃w',(Instr.takeDeferred D).run P w = .ok [] w'∧Conc H s F β { a with defers:=Ds.map mkD } w':=by
 obtain⟨Ds',h1,h2,h3⟩:=C.d
 have hDs:Ds'=D::Ds:=by
  have e:(Ds'.map mkD)=(D::Ds).map mkD:=h1.symm.trans hd
  exact(List.map_inj_right (f:=mkD) (fun x y hxy=>by simpa[mkD]using hxy)).1 e
 subst hDs
 obtain⟨k1,k2,k3⟩:=h3 D (by simp)
 have st:=z9h (o' := .deferred none) k3 rfl
 refine⟨_,run_takeDeferred k3,⟨fun t=>RelA.sh st _ _ (C.t t),C.m.put k2 (fun i bd _ hb e=>(C.m.off i bd D hb e).1 k1) st k3 rfl,C.nt,⟨Ds,rfl,(List.nodup_cons.1 h2).2,fun E hE=>?_⟩,C.f,C.g,C.e,C.k⟩⟩
 obtain⟨m1,m2,m3⟩:=h3 E (by simp[hE])
 refine⟨m1,m2,?_⟩
 have hne:E≠D:=fun e=>(List.nodup_cons.1 h2).1 (by rw[←e];exact hE)
 rw[World.putObj_heap_other hne];exact m3
theorem zqw {u:FrameMode} (hu:u ≠ .run) {fn:Func} {R:Ending→World→Prop} {tm:Array Value} (hend:∀(a:Act) (w:World),a.tmps=tm→Conc H s F β a w→LeavesInM Fence.wide 0 P fn tm R [] u w):∀(Ds:List Nat) (a:Act) (w:World),a.tmps=tm→a.defers=Ds.map mkD→Conc H s F β a w→LeavesInM Fence.wide 0 P fn tm R a.defers u w
 | [],a,w,ht,hd,C=>by rw[hd];exact hend a w ht C
 | D::Ds,a,w,ht,hd,C=>by
  obtain⟨w',h1,C'⟩:=C.shut (P:=P) hd
  have:=zqw hu hend Ds { a with defers:=Ds.map mkD } w' ht rfl C'
  rw[hd]
  exact⟨hu,.inl ⟨D,w',rfl,h1,this⟩⟩
theorem zvb {u:FrameMode} {fn:Func} {R:Ending→World→Prop} (C:Conc H s F β a w) (hend:∀(a':Act) (w':World),a'.tmps=a.tmps→Conc H s F β a' w'→LeavesInM Fence.wide 0 P fn a.tmps R [] u w') (hu:u ≠ .run:=by simp):LeavesInM Fence.wide 0 P fn a.tmps R a.defers u w:=by
 obtain⟨Ds,h1,_⟩:=C.d
 exact zqw hu hend Ds a w rfl h1 C
end
def cvT (ids:List Nat) (h:Nat→Chunk) (f:Nat→AV):List (Nat × AV)→Prop
 | []=>True
 | (t,x)::r=>Wk (cv ids h (f t)) x∧cvT ids h f r
def cvH (all:List Nat) (h:Nat→Chunk):Nat→List Nat→List (Nat × Chunk)→Prop
 | _,[],[]=>True
 | j,id::r,(k,c)::r'=>k=j∧WkC (cvC all h (h id)) c∧cvH all h (j+1) r r'
 | _,_,_=>False
def hsW (all:List Nat) (h:Nat→Chunk):List Nat→List Chunk→Prop
 | [],[]=>True
 | id::r,c::r'=>WkC (cvC all h (h id)) c∧hsW all h r r'
 | _,_=>False
theorem zvf {all:List Nat} {h:Nat→Chunk} : ∀ {ids:List Nat} {hs:List Chunk},hsW all h ids hs→ids.length=hs.length∧∀(j:Nat) (c:Chunk),hs[j]? = some c→∃id:Nat,ids[j]? = some id∧WkC (cvC all h (h id)) c
 | [],[],_=>⟨rfl,fun j c h=>by simp at h⟩
 | [],_::_,h=>h.elim
 | _::_,[],h=>h.elim
 | id::r,c::r',h=>by
  obtain⟨h1,h2⟩:=h
  obtain⟨k1,k2⟩:=zvf h2
  refine⟨by simp[k1],fun j d hd=>?_⟩
  cases j with
  | zero=>simp at hd;subst hd;exact⟨id,by simp,h1⟩
  | succ j=>obtain⟨x,e1,e2⟩:=k2 j d (by simpa using hd);exact⟨x,by simpa using e1,e2⟩
theorem ydl {all:List Nat} {h:Nat→Chunk} : ∀ {j:Nat} {ids:List Nat} {l:List (Nat × Chunk)},cvH all h j ids l→hsW all h ids (l.map (·.2))∧∀i,j≤i→zan l i=nth (l.map (·.2)) (i-j)
 | _,[],[],_=>⟨trivial,fun i _=>by simp[zan,nth]⟩
 | _,[],_::_,h=>h.elim
 | _,_::_,[],h=>h.elim
 | j,id::r,(k,c)::r',h=>by
  obtain⟨rfl,h1,h2⟩:=h
  obtain⟨k1,k2⟩:=ydl h2
  refine⟨⟨h1,k1⟩,fun i hi=>?_⟩
  simp only[zan]
  by_cases e:k=i
  ·subst e;simp[nth]
  ·rw[if_neg e,k2 i (by omega)]
   unfold nth
   rw[show i-k=(i-(k+1))+1 from by omega]
   simp
theorem ydk {ids:List Nat} {h:Nat→Chunk} {f:Nat→AV} : ∀ {l:List (Nat × AV)},cvT ids h f l→∀t,Wk (cv ids h (f t)) (look l t)
 | [],_,t=>by simp only[look];exact Wk.undef _
 | (k,x)::r,h,t=>by
  simp only[look]
  by_cases e:k=t
  ·subst e;rw[if_pos rfl];exact h.1
  ·rw[if_neg e];exact ydk h.2 t
section
variable {P : Program} {W : World} {N U F : Nat → Prop} {β : Nat → Option Bind} {h hT : Nat → Chunk} {w : World}
theorem zgx (M:MemOk W N U F β h w) {ids:List Nat} (hnd:ids.Nodup) {hs:List Chunk} (hh:hsW ids h ids hs):MemOk W N (· < ids.length) (z0i ids h F β) (zkd ids β) (nth hs) w:=by
 have M1:=zvw (hT:=h) M (fun _ _=>rfl) ids hnd
 obtain⟨hl,hat⟩:=zvf hh
 refine⟨M1.size,M1.os,M1.tape,M1.output,M1.frame,M1.fin,M1.used,fun j hj=>?_,M1.dis,M1.off,M1.gl⟩
 unfold nth at hj
 rw[List.getD_eq_getElem?_getD]at hj
 cases hc:hs[j]? with
 | none=>rw[hc]at hj;simp at hj
 | some c =>
  rw[hc]at hj
  simp only[Option.getD_some]at hj
  obtain⟨id,e1,e2⟩:=hat j c hc
  have hn:nth (ids.map fun id=>cvC ids h (h id)) j=cvC ids h (h id):=by
   unfold nth;rw[List.getD_eq_getElem?_getD,List.getElem?_map,e1];rfl
  have hne:nth (ids.map fun id=>cvC ids h (h id)) j ≠ .dead:=by
   rw[hn]
   intro he
   rw[he]at e2
   cases c with
   | dead=>exact hj rfl
   | row _ _ _=>exact e2.elim
   | blk _ _=>exact e2.elim
   | mp _ _ _=>exact e2.elim
   | nst _ _ _ _ _ _ _ _=>exact e2.elim
   | keep _ _ _=>exact e2.elim
  obtain⟨bd,hb,hk⟩:=M1.ch j hne
  refine⟨bd,hb,?_⟩
  rw[hn]at hk
  unfold nth
  rw[List.getD_eq_getElem?_getD,hc]
  exact e2.run hk
theorem z0h (M:MemOk W N U F β h w) {ids:List Nat} {b:Nat} (hb:z0i ids h F β b):F b∨W.heap.size≤b∨N b:=by
 rcases hb with hb|⟨id,bd,_,_,h1,h2⟩
 ·exact .inl hb
 ·exact .inr (M.off id bd b h1 (.inl h2)).2.2
end
theorem zms {ids:List Nat} {k:Nat} (h:ids.take k=List.range k) {j:Nat} (hj:j<k):ids[j]? = some j:=by
 have:(ids.take k)[j]? = some j:=by rw[h];simp[hj]
 rwa [List.getElem?_take,if_pos hj]at this
theorem To.mk {k:Nat} {s s':St} (ids:List Nat) (hk:ids.take k=List.range k) (hn:s'.n=ids.length) (hnd:ids.Nodup) (hh:cvH ids (zan s.h) 0 ids s'.h) (ht:cvT ids (zan s.h) (look s.t) s'.t):ToK k s s':=by
 intro H F β a w hHk C
 obtain⟨h1,h2⟩:=ydl hh
 have M:=zgx C.m hnd h1
 refine⟨z0i ids (zan s.h) F β,zkd ids β,?_,?_,C.nt,C.d.more fun _ hb => .inl hb,fun b hb => .inl (C.f b hb),fun b hb=>?_,fun i bd hi hb=>?_,?_⟩
 ·intro t
  rw[hn]
  exact ydk ht t _ _ _ _ _ (zvv C.m (fun _ _=>rfl) ids _ _ (C.t t))
 ·have e:zan s'.h=nth (s'.h.map (·.2)):=by funext i;simpa using h2 i (Nat.zero_le _)
  rw[hn,e];exact M
 ·rcases z0h C.m hb with h|h
  ·exact C.g b h
  ·exact .inr h
 ·rw[hHk]at hi
  have:=zms hk hi
  simp only[zkd,this]at hb
  exact C.e i bd (by rw[hHk];exact hi) hb
 ·rw[hn,hHk]
  have:(ids.take k).length=k:=by rw[hk];simp
  rw[List.length_take]at this
  omega
def zgh (P:Program) (f:Nat→AV) (h:Nat→Chunk):List ResultVar→Option (Prop × List AV)
 | []=>some (True,[])
 | .tmp t::r=>match zgh P f h r with
  | some (φ,xs)=>some (φ,f t::xs)
  | none=>none
 | .cell a t::r=>match zox P h t (f a),zgh P f h r with
  | some (ψ,x),some (φ,xs)=>some (ψ ∧ φ,x::xs)
  | _,_=>none
def z2w:List AV→AV
 | [x]=>x
 | xs => .tup xs
def ynw (P:Program) (k:Nat) (rs:List ResultVar) (r:AV) (hs':List Chunk) (s:St):Prop :=
 ∃ids:List Nat,ids.take k=List.range k∧ids.Nodup∧hsW ids (zan s.h) ids hs'∧match zgh P (look s.t) (zan s.h) rs with
  | some (φ,xs) => φ ∧ Wk (cv ids (zan s.h) (z2w xs)) r
  | none=>False
def z2p (P:Program) (k:Nat) (rs:List ResultVar) (r:AV) (hs':List Chunk) (s:St):Prop:=∃s',ToK k s s'∧ynw P k rs r hs' s'
def yh2 (P:Program) (k:Nat) (rs:List ResultVar) (r:AV) (hs':List Chunk):Exit→St→Prop
 | .normal,s=>z2p P k rs r hs' s
 | .ret,s=>z2p P k rs r hs' s
 | _,_=>False
def zj0:Nat→List AV→List (Nat × AV)
 | _,[] => []
 | k,x::r=>(k,x)::zj0 (k+1) r
def hsT:Nat→List Chunk→List (Nat × Chunk)
 | _,[] => []
 | k,c::r=>(k,c)::hsT (k+1) r
theorem zqr:∀(k:Nat) (xs:List AV) (t:Nat),look (zj0 k xs) t=if k≤t then (xs[t-k]?).getD .undef else .undef
 | _,[],t=>by simp[zj0,look]
 | k,x::r,t=>by
  simp only[zj0,look]
  by_cases h:k=t
  ·subst h;simp
  ·rw[if_neg h,zqr (k+1) r t]
   by_cases h2:k≤t
   ·rw[if_pos (by omega),if_pos h2,show t-k=(t-(k+1))+1 from by omega,List.getElem?_cons_succ]
   ·rw[if_neg (by omega),if_neg h2]
theorem zzw:∀(k:Nat) (xs:List Chunk) (t:Nat),zan (hsT k xs) t=if k≤t then nth xs (t-k)else .dead
 | _,[],t=>by simp[hsT,zan,nth]
 | k,x::r,t=>by
  simp only[hsT,zan]
  by_cases h:k=t
  ·subst h;simp[nth]
  ·rw[if_neg h,zzw (k+1) r t]
   by_cases h2:k≤t
   ·rw[if_pos (by omega),if_pos h2]
    unfold nth
    rw[show t-k=(t-(k+1))+1 from by omega];simp
   ·rw[if_neg (by omega),if_neg h2]
def z92 (tmps:Array Value):ResultVar→Sem Value
 | .tmp t=>pure (tmps.getD t undef)
 | .cell a t=>do loadVar t (←asAddr (tmps.getD a undef))
theorem zqb (fn:Func) (tmps:Array Value):results fn tmps=(do let vs ←fn.results.mapM (z92 tmps);pure (if h:vs.size=1 then vs[0]else .tuple vs)):=rfl
theorem zru {P:Program} {H:Hist} {s:St} {F:Nat→Prop} {β : Nat→Option Bind} {a:Act} {w:World} (C:Conc H s F β a w):∀(rs:List ResultVar) (φ : Prop) (xs:List AV),zgh P (look s.t) (zan s.h) rs=some (φ,xs) → φ →
 ∃vs,(rs.mapM (z92 a.tmps)).run P w = .ok vs w∧RelL (· < s.n) w F β xs vs
 | [],φ,xs,h,_=>by
  simp only[zgh,oI,pJ]at h
  obtain⟨_,rfl⟩:=h
  exact⟨[],by simp,by simp[RelL]⟩
 | .tmp t::r,φ,xs,h,hφ => by
  unfold zgh at h
  split at h
  ·rename_i φ' ys hr
   simp only[oI,pJ]at h
   obtain⟨rfl,rfl⟩:=h
   obtain⟨vs,h1,h2⟩:=zru C r _ _ hr hφ
   refine⟨a.tmps.getD t undef::vs,?_,by simp only[RelL];exact⟨_,_,rfl,C.t t,h2⟩⟩
   simp only[List.mapM_cons,z92,Sem.run_bind,Sem.run_pure,Result.andThen_ok,h1]
  ·simp at h
 | .cell x t::r,φ,xs,h,hφ => by
  unfold zgh at h
  split at h
  ·rename_i ψ y φ' ys hl hr
   simp only[oI,pJ]at h
   obtain⟨rfl,rfl⟩:=h
   obtain⟨vs,h1,h2⟩:=zru C r _ _ hr hφ.2
   obtain⟨z,h3,h4⟩:=zsf C.m (fun _ _=>rfl) hl hφ.1 (C.t x)
   have hp:∃ad,a.tmps.getD x undef = .pointer (some ad):=by
    cases hv:a.tmps.getD x undef with
    | pointer ad =>
     cases ad with
     | some ad=>exact⟨ad,rfl⟩
     | none=>rw[hv]at h3;simp[Instr.loadAt,Instr.sureAddr]at h3
    | _=>rw[hv]at h3;simp[Instr.loadAt,Instr.sureAddr]at h3
   obtain⟨ad,hp⟩:=hp
   rw[hp]at h3
   simp only[Instr.loadAt,Instr.sureAddr,Sem.run_bind,Sem.run_pure,Result.andThen_ok]at h3
   refine⟨z::vs,?_,by simp only[RelL];exact⟨_,_,rfl,h4,h2⟩⟩
   simp only[List.mapM_cons,z92,Sem.run_bind,hp,asAddr,Sem.run_pure,Result.andThen_ok,h3,h1]
  ·simp at h
theorem zk1 {fn:Func} {args:List AV} {hs:List Chunk} {w:World} {F:Nat→Prop} {β : Nat→Option Bind} {vs:List Value} {nt:Nat} (M:MemOk w (inB β) (· < hs.length) F β (nth hs) w) (hv:RelL (· < hs.length) w F β args vs) (hnt:nt=args.length+(fn.ntmps-args.length)) :
 Conc ⟨w,inB β,F,β,hs.length,nt⟩ ⟨zj0 0 args,hsT 0 hs,hs.length⟩ F β { tmps:=vs.toArray++Array.replicate (fn.ntmps-vs.toArray.size) undef,defers := [] } w:=by
 have hvl:=hv.len
 refine⟨fun t=>?_,?_,?_,Dfr.nil _ _ _,fun b hb=>hb,fun b hb => .inl hb,fun i bd _ hb=>⟨_,hb⟩,Nat.le_refl _⟩
 ·rw[zqr]
  simp only[Nat.zero_le,if_true,Nat.sub_zero]
  cases hx:args[t]? with
  | none=>simp only[Option.getD_none,RelA]
  | some x =>
   obtain⟨u,hu,hr⟩:=hv.at t x hx
   have ht:t<vs.length:=(List.getElem?_eq_some_iff.1 hu).1
   have e1:(vs.toArray++Array.replicate (fn.ntmps-vs.toArray.size) undef).getD t undef=u:=by
    rw[Array.getD_eq_getD_getElem?,Array.getElem?_append_left (by simpa using ht)]
    simp[hu]
   simp only[Option.getD_some]
   rw[e1];exact hr
 ·have e:zan (hsT 0 hs)=nth hs:=by funext i;rw[zzw];simp
  simp only[e];exact M
 ·simp[hvl,hnt]
theorem z33 {P : Program} {f : FuncId} {fn : Func} {c : Code} {args : List AV} {hs hs' : List Chunk} {r : AV} (hf : P.funcs[f]? = some fn) (hb : fn.body = some c) (hn : (fn.name == "runtime.NumGoroutine") = false)
 (nt:Nat) (hnt:nt=args.length+(fn.ntmps-args.length)) (rs:List ResultVar) (hrs:fn.results=rs.toArray) (hle:hs.length≤hs'.length)
 (h:∀(H:Hist) (F:Nat→Prop) (β : Nat→Option Bind) (a:Act) (w:World),H.nt=nt→H.k=hs.length→Conc H ⟨zj0 0 args,hsT 0 hs,hs.length⟩ F β a w→c.wp P (zix H (yh2 P hs.length rs r hs')) a w):Spec P f args hs r hs':=by
 refine⟨⟨fn,hf,by rw[hb];rfl,hn⟩,hle,?_⟩
 intro w F β vs M hv
 have hvl:=hv.len
 refine callsIn_wide.1 (callsIn_of_wp_marks (n:=0) hf hb trivial (wpIn_wide.2 ?_))
 have C:Conc ⟨w,inB β,F,β,hs.length,nt⟩ ⟨zj0 0 args,hsT 0 hs,hs.length⟩ F β { tmps:=vs.toArray++Array.replicate (fn.ntmps-vs.toArray.size) undef,defers := [] } w:=zk1 M hv hnt
 refine wp_mono (h ⟨w,inB β,F,β,hs.length,nt⟩ F β _ w rfl rfl C) ?_
 rintro e a' w' ⟨s',F',β',C',hq⟩
 have fin:z2p P hs.length rs r hs' s'→LeavesInM Fence.wide 0 P fn a'.tmps (fun e w_1=>∃v_1 F'_1 β'_1,e = .returned v_1∧MemOk w (inB β) (· < hs'.length) F'_1 β'_1 (nth hs') w_1∧RelA (· < hs'.length) w_1 F'_1 β'_1 r v_1∧(∀b,F b→F'_1 b)∧(∀b,F'_1 b→F b∨w.heap.size≤b∨inB β b)∧∀i bd,i<hs.length → β'_1 i=some bd→∃bs,β i=some ⟨bd.v,bd.b,bd.n,bd.sz,bs⟩) a'.defers .returning w':=by
  rintro⟨s',hto,ids,h1,h2,h3,h4⟩
  obtain⟨F',β',C'⟩:=hto _ F' β' a' w' rfl C'
  refine zvb C' ?_
  clear C' C
  intro a1 w1 ht1 C'
  rw[←ht1]
  generalize a1=a' at *
  generalize w1=w' at *
  split at h4
  ·rename_i φ xs hr
   obtain⟨vs',h5,h6⟩:=zru C' rs φ xs hr h4.1
   have M':=zgx C'.m h2 h3
   obtain⟨hl,_⟩:=zvf h3
   rw[hl]at M'
   have hone:∃v,(if h:vs'.toArray.size=1 then vs'.toArray[0]else .tuple vs'.toArray)=v∧RelA (· < s'.n) w' F' β' (z2w xs) v:=by
    have hxl:=h6.len
    match xs,vs',h6,hxl with
    | [x],[u],h6,_ =>
     simp only[RelL]at h6
     obtain⟨u',us,he,h7,_⟩:=h6
     simp only[List.cons.injEq]at he
     obtain⟨rfl,_⟩:=he
     exact⟨u,by simp,h7⟩
    | [],[],_,_=>exact⟨.tuple #[],by simp,by simp only[z2w,RelA];exact⟨#[],rfl,by simp[RelL]⟩⟩
    | x::y::r,u::v::us,h6,_ =>
     refine⟨.tuple (u::v::us).toArray,by simp,?_⟩
     simp only[z2w,RelA]
     exact⟨_,rfl,h6⟩
   obtain⟨v,hv1,hv2⟩:=hone
   refine⟨v,?_,v,_,_,rfl,M',?_,fun b hb => .inl (C'.f b hb),fun b hb=>?_,fun i bd hi hb=>?_⟩
   ·rw[zqb,hrs,List.mapM_toArray]
    simp only[Sem.run_bind,Sem.run_map,h5,Result.andThen_ok,Sem.run_pure]
    rw[hv1]
   ·have:=h4.2 _ _ _ _ _ (zvv C'.m (fun _ _=>rfl) ids _ _ hv2)
    rw[hl]at this;exact this
   ·rcases z0h C'.m hb with h|h
    ·exact C'.g b h
    ·exact .inr h
   ·have:=zms h1 hi
    simp only[zkd,this]at hb
    exact C'.e i bd hi hb
  ·exact h4.elim
 cases e with
 | normal=>exact fin hq
 | ret=>exact fin hq
 | _=>exact hq.elim
theorem yec {P : Program} {f : FuncId} {fn : Func} {c : Code} {args : List AV} {hs hs' : List Chunk} {r : AV} (hf : P.funcs[f]? = some fn) (hb : fn.body = some c) (hn : (fn.name == "runtime.NumGoroutine") = false)
 (hd:∀(H:Hist) (ops:Array Oper) (Q:Exit→St→Prop) (s:St) (F:Nat→Prop) (β : Nat→Option Bind) (a:Act) (w:World) (id:Nat),zad P H.nt ops (Q .normal) s→Conc H s F β a w→(Code.region id ops true).wp P (zix H Q) a w)
 (nt:Nat) (hnt:nt=args.length+(fn.ntmps-args.length)) (rs:List ResultVar) (hrs:fn.results=rs.toArray) (hle:hs.length≤hs'.length)
 (h:awp P nt hs.length c (yh2 P hs.length rs r hs') ⟨zj0 0 args,hsT 0 hs,hs.length⟩):Spec P f args hs r hs' :=
 z33 hf hb hn nt hnt rs hrs hle fun H F β a w e1 e2 C=>yhj (hd H) c _ _ F β a w (by rw[e1,e2];exact h) C
theorem zg1 (k:List Int):∀(es:List (List Int × Int)) (i:Nat),zdh k (i+1) es=(zdh k i es).map fun p=>(p.1+1,p.2)
 | [],i=>rfl
 | (k',v)::r,i=>by
  unfold zdh
  split
  ·rfl
  ·exact zg1 k r (i+1)
theorem yaw (k:List Int):zd6 k []=0:=rfl
theorem zsa (k:List Int):zos k []=false:=rfl
theorem zc2 (k k':List Int) (v:Int) (r:List (List Int × Int)):zd6 k ((k',v)::r)=if k=k' then v else zd6 k r:=by
 unfold zd6
 rw[zdh]
 by_cases h:k=k'
 ·rw[if_pos h,if_pos h]
 ·rw[if_neg h,if_neg h,zg1];cases zdh k 0 r<;>rfl
theorem zep (k k':List Int) (v:Int) (r:List (List Int × Int)):zos k ((k',v)::r)=if k=k' then true else zos k r:=by
 unfold zos
 rw[zdh]
 by_cases h:k=k'
 ·rw[if_pos h,if_pos h];rfl
 ·rw[if_neg h,if_neg h,zg1];cases zdh k 0 r<;>rfl
def zoo (k:List Int) (v:Int):List (List Int × Int)→List (List Int × Int)
 | [] => [(k,v)]
 | (k',v')::r=>if k=k' then (k',v)::r else (k',v')::zoo k v r
theorem zuw (k:List Int) (v:Int):∀es,zij k v es=zoo k v es
 | []=>rfl
 | (k',v')::r=>by
  have ih:=zuw k v r
  unfold zij z5z zgl at ih ⊢
  rw[zoo,zdh]
  by_cases h:k=k'
  ·rw[if_pos h,if_pos h];simp[zr9]
  ·rw[if_neg h,if_neg h,zg1,←ih]
   cases zdh k 0 r with
   | none=>simp[zr9]
   | some p=>simp[zr9]
theorem zav (k:List Int) (v:Int) (es:List (List Int × Int)):zr9 (z5z k es) v (zgl k es)=zij k v es:=rfl
theorem zzr (k:List Int) (v:Int) (es:List (List Int × Int)):zd6 k (zij k v es)=v:=by
 rw[zuw]
 induction es with
 | nil=>rw[zoo,zc2,if_pos rfl]
 | cons e r ih =>
  obtain⟨k',v'⟩:=e
  rw[zoo]
  split
  ·rename_i h;rw[zc2,if_pos h]
  ·rename_i h;rw[zc2,if_neg h,ih]
theorem yav (k:List Int) (v:Int) (es:List (List Int × Int)):zos k (zij k v es)=true:=by
 rw[zuw]
 induction es with
 | nil=>rw[zoo,zep,if_pos rfl]
 | cons e r ih =>
  obtain⟨k',v'⟩:=e
  rw[zoo]
  split
  ·rename_i h;rw[zep,if_pos h]
  ·rename_i h;rw[zep,if_neg h,ih]
theorem z1z {k k2:List Int} (hk:k2≠k) (v:Int) (es:List (List Int × Int)):zd6 k2 (zij k v es)=zd6 k2 es:=by
 rw[zuw]
 induction es with
 | nil=>rw[zoo,zc2,if_neg hk]
 | cons e r ih =>
  obtain⟨k',v'⟩:=e
  rw[zoo]
  split
  ·rename_i h;rw[zc2,zc2,if_neg (h▸hk),if_neg (h▸hk)]
  ·rename_i h;rw[zc2,zc2,ih]
theorem z1y {k k2:List Int} (hk:k2≠k) (v:Int) (es:List (List Int × Int)):zos k2 (zij k v es)=zos k2 es:=by
 rw[zuw]
 induction es with
 | nil=>rw[zoo,zep,if_neg hk]
 | cons e r ih =>
  obtain⟨k',v'⟩:=e
  rw[zoo]
  split
  ·rename_i h;rw[zep,zep,if_neg (h▸hk)]
  ·rename_i h;rw[zep,zep,ih]
theorem zop (k:List Int) (es:List (List Int × Int)):z5z k es<(zgl k es).length:=by
 unfold z5z zgl
 cases h:zdh k 0 es with
 | none=>simp
 | some p =>
  obtain⟨i,v⟩:=p
  have:=zot h
  exact(List.getElem?_eq_some_iff.1 this).1
theorem zc1 (k k2:List Int) (v:Int) (es:List (List Int × Int)):zd6 k2 (zij k v es)=if k2=k then v else zd6 k2 es:=by
 by_cases h:k2=k
 ·subst h;rw[if_pos rfl,zzr]
 ·rw[if_neg h,z1z h]
theorem zor (k k2:List Int) (v:Int) (es:List (List Int × Int)):zos k2 (zij k v es)=if k2=k then true else zos k2 es:=by
 by_cases h:k2=k
 ·subst h;rw[if_pos rfl,yav]
 ·rw[if_neg h,z1y h]
end Go.Proofs.YtgggemkjaccbhaaGreatDoor
