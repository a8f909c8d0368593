/- Lemmas for the proof of synodPlays.proved. -/
import Derived.Test.YtmjbgbmegbkmhaaSPl2
import Derived.Test.YtmjbgbmegbkmhaaProg
import Derived.WalkKit
import Derived.Handy
import Derived.WalkSpells
import Derived.WalkLawsBesides
import Derived.Lib.Hide
import Derived.Lib.BitFns
import Derived.Laws.BitsAllLaws
import Derived.Laws.AppendOwnNone
import Derived.Lib.SliceRun
import Derived.Deep.Draws
import Derived.Deep.QuietTactic
import Derived.BigQuiet
import Derived.Shelf.Spec.SlicesInsertGrow
import Derived.ProofKit
import Derived.OpenShut
import Derived.ShutString
import Derived.ChangeOld
import Derived.Below
import Derived.Deep.Slices
namespace Go.Proofs.Ytmjbgbmegbkmhaa
set_option linter.all false
open Go.RowKit
section
variable {P : Program} {W : World} {N U F : Nat → Prop} {β : Nat → Option Bind} {h hT : Nat → Chunk} {w : World} {a : Act} {m : Nat}
theorem zox {g:Operand→AV} {K:Eff→Prop} {op:Op} (hx:opX P g hT m K op):∃e,opX P g hT m (· = e) op∧K e:=by
 unfold opX at hx ⊢
 split at hx
 ·split at hx
  ·obtain⟨e,h1,h2⟩:=hx
   exact⟨e,⟨e,h1,rfl⟩,h2⟩
  ·exact hx.elim
 ·split at hx
  ·obtain⟨h0,e,h1,h2⟩:=hx
   exact⟨e,⟨h0,e,h1,rfl⟩,h2⟩
  ·exact hx.elim
 ·split at hx
  ·exact⟨_,⟨hx.1,rfl⟩,hx.2⟩
  ·exact hx.elim
theorem zo0 {c:Bool} {g:Operand→AV} {K:Eff→Prop} {op:Op} (hx:opG P c g hT m K op):∃e,opG P c g hT m (· = e) op∧K e:=by
 unfold opG at hx ⊢
 split at hx
 ·split at hx
  ·rcases hx with ⟨r,h1,h2⟩|⟨h1,h2⟩
   ·exact⟨_,.inl ⟨r,h1,rfl⟩,h2⟩
   ·cases c with
    | true =>
     obtain⟨h3,e,h4,h5⟩:=h1 rfl
     exact⟨e,.inr ⟨fun _=>⟨h3,e,h4,rfl⟩,fun h=>by simp at h⟩,h5⟩
    | false=>exact⟨_,.inr ⟨fun h=>by simp at h,fun _=>rfl⟩,h2 rfl⟩
  ·exact⟨_,⟨hx.1,rfl⟩,hx.2⟩
 ·split at hx
  ·rcases hx with ⟨r,h1,h2⟩|⟨h1,h2⟩
   ·exact⟨_,.inl ⟨r,h1,rfl⟩,h2⟩
   ·cases c with
    | true =>
     obtain⟨h3,e,h4,h5⟩:=h1 rfl
     exact⟨e,.inr ⟨fun _=>⟨h3,e,h4,rfl⟩,fun h=>by simp at h⟩,h5⟩
    | false=>exact⟨_,.inr ⟨fun h=>by simp at h,fun _=>rfl⟩,h2 rfl⟩
  ·exact⟨_,⟨hx.1,rfl⟩,hx.2⟩
 ·split at hx
  ·split at hx
   ·exact⟨_,⟨hx.1,rfl⟩,hx.2⟩
   ·exact⟨_,⟨hx.1,rfl⟩,hx.2⟩
  ·exact⟨_,⟨hx.1,rfl⟩,hx.2⟩
 ·split at hx
  ·exact⟨_,⟨hx.1,rfl⟩,hx.2⟩
  ·cases c with
   | true=>exact⟨_,⟨fun hc=>⟨(hx.1 hc).1,(hx.1 hc).2.1,rfl⟩,fun h=>by simp at h⟩,(hx.1 rfl).2.2⟩
   | false=>exact⟨_,⟨fun h=>by simp at h,fun _=>rfl⟩,hx.2 rfl⟩
  ·exact⟨_,⟨hx.1,rfl⟩,hx.2⟩
theorem zmg {ops:Array Oper} {o:Oper} {f:Nat→AV} {K:Eff→Prop} (hx:zg9 P ops o f hT m K):∃e,zg9 P ops o f hT m (· = e)∧K e:=by
 unfold zg9 at hx ⊢
 split at hx
 ·exact zox hx
 ·split at hx
  ·exact hx.elim
  ·exact zo0 hx
end
def zji (f:Nat→AV) (d:Option Tmp) (v:AV) (t:Nat):AV:=if d=some t then v else f t
def tS (f:Nat→AV) (ds:List (Option Tmp)) (es:List Eff) (L:Nat→Bool):Nat→Nat→AV
 | 0=>f
 | k+1=>match L k,es[k]? with
  | true,some e=>zji (tS f ds es L k) (ds.getD k none) e.val
  | _,_=>tS f ds es L k
def hS (h:Nat→Chunk) (es:List Eff) (L:Nat→Bool):Nat→Nat→Chunk
 | 0=>h
 | k+1=>match L k,es[k]? with
  | true,some e=>upd (hS h es L k) e.ups
  | _,_=>hS h es L k
theorem zcd {h:Nat→Chunk} : ∀ {ups:List (Nat × Chunk)} {i:Nat},i∉ups.map (·.1)→upd h ups i=h i
 | [],_,_=>rfl
 | (k,c)::r,i,hn=>by
  simp only[List.map_cons,List.mem_cons,not_or]at hn
  simp only[upd]
  rw[if_neg (Ne.symm hn.1)]
  exact zcd hn.2
theorem zdm {h h':Nat→Chunk} : ∀ {ups:List (Nat × Chunk)} {i:Nat},i∈ups.map (·.1)→upd h ups i=upd h' ups i
 | [],_,hn=>by simp at hn
 | (k,c)::r,i,hn=>by
  simp only[upd]
  by_cases e:k=i
  ·rw[if_pos e,if_pos e]
  ·rw[if_neg e,if_neg e]
   simp only[List.map_cons,List.mem_cons]at hn
   exact zdm (hn.resolve_left (Ne.symm e))
section
variable {f : Nat → AV} {h : Nat → Chunk} {ds : List (Option Tmp)} {es : List Eff}
theorem zhv {L:Nat→Bool} {t i:Nat} (hlt:∀k,k<i→ds.getD k none=some t→L k=true):∀n,i≤n→(∀k,i≤k→k<n→ds.getD k none=some t→L k=false)→tS f ds es L n t=tS f ds es (fun _=>true) i t:=by
 have lo:∀k,k≤i→tS f ds es L k t=tS f ds es (fun _=>true) k t:=by
  intro k
  induction k with
  | zero=>intro _;rfl
  | succ k ih =>
   intro hk
   have ih:=ih (by omega)
   simp only[tS]
   cases hL:L k with
   | true =>
    cases he:es[k]? with
    | none=>exact ih
    | some e=>simp only[zji];rw[ih]
   | false =>
    have hd:ds.getD k none≠some t:=fun h=>by have:=hlt k (by omega) h;rw[hL]at this;simp at this
    cases he:es[k]? with
    | none=>exact ih
    | some e=>simp only[zji];rw[if_neg hd];exact ih
 intro n
 induction n with
 | zero => intro hi _; have : i = 0 := by omega
           subst this;rfl
 | succ n ih =>
  intro hi hgt
  by_cases e:i=n+1
  ·subst e;exact lo _ (Nat.le_refl _)
  ·have ih:=ih (by omega) (fun k h1 h2=>hgt k h1 (by omega))
   simp only[tS]
   cases hL:L n with
   | false=>exact ih
   | true =>
    have hd:ds.getD n none≠some t:=fun h=>by have:=hgt n (by omega) (by omega) h;rw[hL]at this;simp at this
    cases he:es[n]? with
    | none=>exact ih
    | some e=>simp only[zji];rw[if_neg hd];exact ih
theorem zim {L:Nat→Bool} {t i:Nat} (hlt:∀k e,k<i→es[k]? = some e→t∈e.ups.map (·.1)→L k=true):∀n,i≤n→(∀k e,i≤k→k<n→es[k]? = some e→t∈e.ups.map (·.1)→L k=false)→hS h es L n t=hS h es (fun _=>true) i t:=by
 have lo:∀k,k≤i→hS h es L k t=hS h es (fun _=>true) k t:=by
  intro k
  induction k with
  | zero=>intro _;rfl
  | succ k ih =>
   intro hk
   have ih:=ih (by omega)
   simp only[hS]
   cases he:es[k]? with
   | none=>cases hL:L k<;>exact ih
   | some e =>
    by_cases hd:t∈e.ups.map (·.1)
    ·rw[hlt k e (by omega) he hd]
     exact zdm hd
    ·cases hL:L k with
     | true=>simp only[zcd hd];exact ih
     | false=>simp only[zcd hd];exact ih
 intro n
 induction n with
 | zero => intro hi _; have : i = 0 := by omega
           subst this;rfl
 | succ n ih =>
  intro hi hgt
  by_cases e:i=n+1
  ·subst e;exact lo _ (Nat.le_refl _)
  ·have ih:=ih (by omega) (fun k e h1 h2=>hgt k e h1 (by omega))
   simp only[hS]
   cases he:es[n]? with
   | none=>cases hL:L n<;>exact ih
   | some e =>
    cases hL:L n with
    | false=>exact ih
    | true =>
     have hd:t∉e.ups.map (·.1):=fun h=>by have:=hgt n e (by omega) (by omega) he h;rw[hL]at this;simp at this
     simp only[zcd hd];exact ih
def zdq (L:Nat→Bool) (i:Nat) (k:Nat):Bool:=if k=i then true else L k
theorem zjr {L:Nat→Bool} {i:Nat} (hi:L i=false) {e:Eff} (he:es[i]? = some e):∀n,i<n→(∀k t,i<k→k<n→L k=true→ds.getD k none=some t→ds.getD i none≠some t)→tS f ds es (zdq L i) n=zji (tS f ds es L n) (ds.getD i none) e.val:=by
 have lo:∀k,k≤i→tS f ds es (zdq L i) k=tS f ds es L k:=by
  intro k
  induction k with
  | zero=>intro _;rfl
  | succ k ih =>
   intro hk
   have e1:zdq L i k=L k:=by unfold zdq;rw[if_neg (by omega)]
   simp only[tS,e1,ih (by omega)]
 intro n
 induction n with
 | zero=>intro h;omega
 | succ n ih =>
  intro hn hd
  by_cases e':i=n
  ·subst e'
   have e1:zdq L i i=true:=by unfold zdq;rw[if_pos rfl]
   simp only[tS,e1,hi,he,lo i (Nat.le_refl _)]
  ·have ih:=ih (by omega) (fun k t h1 h2=>hd k t h1 (by omega))
   have e1:zdq L i n=L n:=by unfold zdq;rw[if_neg (by omega)]
   simp only[tS,e1,ih]
   cases hL:L n with
   | false=>rfl
   | true =>
    cases hen:es[n]? with
    | none=>rfl
    | some e2 =>
     funext t
     simp only[zji]
     by_cases h1:ds.getD n none=some t
     ·rw[if_pos h1,if_pos h1,if_neg (hd n t (by omega) (by omega) hL h1)]
     ·rw[if_neg h1,if_neg h1]
theorem zk7 {L:Nat→Bool} {i:Nat} (hi:L i=false) {e:Eff} (he:es[i]? = some e):∀n,i<n→(∀k e2 t,i<k→k<n→L k=true→es[k]? = some e2→t∈e2.ups.map (·.1)→t∉e.ups.map (·.1))→hS h es (zdq L i) n=upd (hS h es L n) e.ups:=by
 have lo:∀k,k≤i→hS h es (zdq L i) k=hS h es L k:=by
  intro k
  induction k with
  | zero=>intro _;rfl
  | succ k ih =>
   intro hk
   have e1:zdq L i k=L k:=by unfold zdq;rw[if_neg (by omega)]
   simp only[hS,e1,ih (by omega)]
 intro n
 induction n with
 | zero=>intro h;omega
 | succ n ih =>
  intro hn hd
  by_cases e':i=n
  ·subst e'
   have e1:zdq L i i=true:=by unfold zdq;rw[if_pos rfl]
   simp only[hS,e1,hi,he,lo i (Nat.le_refl _)]
  ·have ih:=ih (by omega) (fun k e2 t h1 h2=>hd k e2 t h1 (by omega))
   have e1:zdq L i n=L n:=by unfold zdq;rw[if_neg (by omega)]
   simp only[hS,e1,ih]
   cases hL:L n with
   | false=>rfl
   | true =>
    cases hen:es[n]? with
    | none=>rfl
    | some e2 =>
     funext t
     show upd (upd (hS h es L n) e.ups) e2.ups t=upd (upd (hS h es L n) e2.ups) e.ups t
     by_cases h1:t∈e2.ups.map (·.1)
     ·have h2:=hd n e2 t (by omega) (by omega) hL hen h1
      rw[zcd (h:=upd (hS h es L n) e2.ups) h2]
      exact zdm h1
     ·rw[zcd h1]
      by_cases h2:t∈e.ups.map (·.1)
      ·exact zdm h2
      ·rw[zcd h2,zcd h2,zcd h1]
end
theorem zk6 {h:Nat→Chunk} {es:List Eff} {L:Nat→Bool} {t i:Nat} : ∀n,i≤n→(∀k e,i≤k→k<n→es[k]? = some e→t∈e.ups.map (·.1)→L k=false)→hS h es L n t=hS h es L i t:=by
 intro n
 induction n with
 | zero => intro hi _; have : i = 0 := by omega
           subst this;rfl
 | succ n ih =>
  intro hi hgt
  by_cases e:i=n+1
  ·subst e;rfl
  ·have ih:=ih (by omega) (fun k e h1 h2=>hgt k e h1 (by omega))
   simp only[hS]
   cases he:es[n]? with
   | none=>cases hL:L n<;>exact ih
   | some e =>
    cases hL:L n with
    | false=>exact ih
    | true =>
     have hd:t∉e.ups.map (·.1):=fun h=>by have:=hgt n e (by omega) (by omega) he h;rw[hL]at this;simp at this
     simp only[zcd hd];exact ih
theorem zgk (k l:List Int):∀es:List (List Int × Int),zep k (es ++ [(l,0)])=zep k es
 | []=>by rw[List.nil_append,zec,zmn];split<;>rfl
 | (k',v)::r=>by rw[List.cons_append,zec,zec,zgk k l r]
theorem zkp (k l:List Int) (es:List (List Int × Int)):zep k (zcc l es)=zep k es:=by
 unfold zcc
 split
 ·rfl
 ·exact zgk k l es
def zpt (c c':Chunk):Prop:=c'=c∨∃a n es l,c = .mp a n es∧c' = .mp a n (zcc l es)
theorem zqr {P:Program} {g:Operand→AV} {h:Nat→Chunk} {m:Nat} {t:TypeId} {x k:Operand} {ok:Bool} : ex4 P g h m (.lookup t x k ok)=ex3 P g h m (.lookup t x k ok):=by
 unfold ex4
 cases ex3 P g h m (.lookup t x k ok)<;>rfl
theorem zqq {P:Program} {g:Operand→AV} {h:Nat→Chunk} {m:Nat} {t:TypeId} {x k:Operand} : ex4 P g h m (.mapEntry t x k)=ex3 P g h m (.mapEntry t x k):=by
 unfold ex4
 cases ex3 P g h m (.mapEntry t x k)<;>rfl
theorem zm4 {P:Program} {g:Operand→AV} {h h':Nat→Chunk} {m:Nat} {t:TypeId} {x k:Operand} (H:∀i,zpt (h i) (h' i)):ex3 P g h' m (.lookup t x k false)=ex3 P g h m (.lookup t x k false):=by
 simp only[ex3,zee]
 cases ty P t with
 | none=>rfl
 | some d =>
  obtain⟨kd,_,_,_,_⟩:=d
  cases kd<;>try rfl
  cases g x<;>try rfl
  rename_i id
  rcases H id with e|⟨a,n,es,l,e1,e2⟩
  ·simp only[e]
  ·simp only[e1,e2]
   cases kty P _<;>cases zqk (g k)<;>try rfl
   rename_i p q
   obtain⟨_,_⟩:=p
   obtain⟨_,_⟩:=q
   simp only
   generalize (a == _&&a == _&&Nat.beq n _&&Nat.beq n _&&zkz P _)=b
   cases b<;>simp[zkp]
theorem zkg {P:Program} {ops:Array Oper} {o:Oper} {f:Nat→AV} {h h':Nat→Chunk} {m:Nat} {K:Eff→Prop} (ho:zql o=true) (H:∀i,zpt (h i) (h' i)) (hx:zg9 P ops o f h m K):zg9 P ops o f h' m K:=by
 unfold zql at ho
 rw[Bool.and_eq_true]at ho
 obtain⟨h1,h2⟩:=ho
 have hg:o.guard=none:=by simpa using h1
 split at h2
 ·rename_i t x k hop
  unfold zg9 at hx ⊢
  rw[hg]at hx ⊢
  simp only[opX,hop,zqr]at hx ⊢
  rw[zm4 H];exact hx
 ·simp at h2
theorem zlc {P:Program} {ops:Array Oper} {o:Oper} {f:Nat→AV} {h:Nat→Chunk} {m:Nat} {e:Eff} (ho:zrk o=true) (hx:zg9 P ops o f h m (· = e)):∃id a n es l,h id = .mp a n es∧e.ups = [(id,.mp a n (zcc l es))]:=by
 unfold zrk at ho
 rw[Bool.and_eq_true]at ho
 obtain⟨h1,h2⟩:=ho
 have hg:o.guard=none:=by simpa using h1
 split at h2
 ·rename_i t x k hop
  unfold zg9 at hx
  rw[hg]at hx
  simp only[opX,hop,zqq,ex3]at hx
  split at hx
  ·rename_i φ e' he
   obtain⟨_,rfl⟩:=hx
   split at he
   ·rename_i id a n es l hm
    simp only[Option.some.injEq,Prod.mk.injEq]at he
    obtain⟨_,rfl⟩:=he
    refine⟨id,a,n,es,l,?_,rfl⟩
    unfold zee at hm
    split at hm
    ·split at hm
     ·split at hm
      ·rename_i a' n' es' hid
       split at hm
       ·split at hm
        ·simp only[Option.some.injEq,Prod.mk.injEq]at hm
         obtain⟨rfl,rfl,rfl,rfl,rfl⟩:=hm
         exact hid
        ·simp at hm
       ·simp at hm
      ·simp at hm
     ·simp at hm
    ·simp at hm
   ·simp at he
  ·exact hx.elim
 ·simp at h2
def zlt (ops:Array Oper) (E:Nat→Prop):Prop:=∀i o,ops[i]? = some o→E i→∀e∈o.after,Region.binds .any e=true→E e.on
theorem zbv {ms:List Nat} : ∀ {es:List Edge} {j:Nat},(zb9 ms es).testBit j=true→∃e∈es,Region.binds .any e=true∧(j=e.on∨(ms.getD e.on 0).testBit j=true)
 | [],j,h=>by simp[zb9]at h
 | e::r,j,h=>by
  simp only[zb9]at h
  split at h
  ·rename_i hb
   rw[Nat.testBit_or,Nat.testBit_or,Bool.or_eq_true,Bool.or_eq_true]at h
   rcases h with (h|h)|h
   ·refine⟨e,by simp,hb,.inl ?_⟩
    rw[Nat.one_shiftLeft,Nat.testBit_two_pow]at h
    exact(of_decide_eq_true h).symm
   ·exact⟨e,by simp,hb,.inr h⟩
   ·obtain⟨e',h1,h2⟩:=zbv h
    exact⟨e',by simp[h1],h2⟩
  ·obtain⟨e',h1,h2⟩:=zbv h
   exact⟨e',by simp[h1],h2⟩
theorem zc6 {ops:Array Oper} {E:Nat→Prop} (hE:zlt ops E):∀(l:List Oper) (ms:List Nat),ops.toList.drop ms.length=l→(∀i j,(ms.getD i 0).testBit j=true→E i→E j)→∀i j,((zgm l ms).getD i 0).testBit j=true→E i→E j
 | [],ms,_,hm=>by simpa only[zgm]using hm
 | o::r,ms,hd,hm=>by
  simp only[zgm]
  refine zc6 hE r _ ?_ ?_
  ·simp only[List.length_append,List.length_singleton]
   rw[←List.drop_drop,hd];rfl
  ·intro i j hb hi
   have ho:ops[ms.length]? = some o:=by
    have:(ops.toList.drop ms.length)[0]? = some o:=by rw[hd];rfl
    rw[List.getElem?_drop]at this
    simpa using this
   rw[List.getD_eq_getElem?_getD]at hb
   by_cases h1:i<ms.length
   ·rw[List.getElem?_append_left h1,←List.getD_eq_getElem?_getD]at hb
    exact hm i j hb hi
   ·by_cases h2:i=ms.length
    ·subst h2
     rw[List.getElem?_append_right (Nat.le_refl _)]at hb
     simp only[Nat.sub_self,List.getElem?_cons_zero,Option.getD_some]at hb
     obtain⟨e,k1,k2,k3⟩:=zbv hb
     have he:=hE _ o ho hi e (by simpa using k1) k2
     rcases k3 with rfl|k3
     ·exact he
     ·exact hm _ _ k3 he
    ·rw[List.getElem?_eq_none (by simp;omega)]at hb
     simp at hb
theorem memN_iff:∀ {l:List Nat} {i:Nat},zlx l i=true↔i∈l
 | [],i=>by simp[zlx]
 | a::r,i=>by
  simp only[zlx]
  by_cases h:a=i
  ·simp[h]
  ·rw[if_neg h,memN_iff];simp[Ne.symm h]
theorem zcw {a b:List Nat} (h:zpn a b=true):∀x∈a,x∉b:=by
 intro x hx hb
 have:=List.all_eq_true.1 h x hx
 rw[memN_iff.2 hb]at this
 simp at this
structure OpAt (P : Program) (nt : Nat) (ops : Array Oper) (n0 : Nat) (f : Nat → AV) (h : Nat → Chunk) (ds : List (Option Tmp)) (es : List Eff) (acc : List (List Nat × List Nat)) (i : Nat) : Prop where
 ok:∃o e,ops[i]? = some o∧es[i]? = some e∧zjd nt o.dst∧ds.getD i none=o.dst∧e.fresh≤4∧(fp acc i).2=e.ups.map (·.1) ∧
  zg9 P ops o (tS f ds es (fun _=>true) i) (zc3 (fp acc i).1 (hS h es (fun _=>true) i)) (n0+4*i) (· = e)
theorem zmp (d:Option Tmp) (x:AV) (t:List (Nat × AV)):za3 (zlw d x t)=zji (za3 t) d x:=by
 funext i
 cases d with
 | none=>simp[zlw,zji]
 | some d=>simp[zlw,za3,zji]
theorem zhu {f:Nat→AV} {ds:List (Option Tmp)} {es:List Eff} {L:Nat→Bool} (e:Eff):∀k,k≤es.length→tS f ds (es ++ [e]) L k=tS f ds es L k
 | 0,_=>rfl
 | k+1,h=>by
  have h1:(es ++ [e])[k]? = es[k]? := List.getElem?_append_left (by omega)
  have ih:=zhu (f:=f) (ds:=ds) (es:=es) (L:=L) e k (by omega)
  simp only[tS,h1,ih]
theorem zil {f:Nat→Chunk} {es:List Eff} {L:Nat→Bool} (e:Eff):∀k,k≤es.length→hS f (es ++ [e]) L k=hS f es L k
 | 0,_=>rfl
 | k+1,h=>by
  have h1:(es ++ [e])[k]? = es[k]? := List.getElem?_append_left (by omega)
  have ih:=zil (f:=f) (es:=es) (L:=L) e k (by omega)
  simp only[hS,h1,ih]
theorem zn1 {acc:List (List Nat × List Nat)} (x:List Nat × List Nat) {k:Nat} (h:k<acc.length):fp (acc ++ [x]) k=fp acc k:=by
 unfold fp
 rw[List.getD_eq_getElem?_getD,List.getElem?_append_left h,←List.getD_eq_getElem?_getD]
theorem zgw {P:Program} {nt:Nat} {ops:Array Oper} {n0:Nat} {K:List (List Nat × List Nat)→St→Prop} {f:Nat→AV} {h:Nat→Chunk} : ∀(l:List Oper) (i:Nat) (s:St) (acc:List (List Nat × List Nat)) (es:List Eff),
 ops.toList.drop i=l→i≤ops.size→es.length=i→acc.length=i→za3 s.t=tS f (ops.toList.map (·.dst)) es (fun _=>true) i→zab s.h=hS h es (fun _=>true) i→(∀k,k<i→OpAt P nt ops n0 f h (ops.toList.map (·.dst)) es acc k) →
 zer P nt ops n0 i l acc K s→∃es' acc' s',es'.length=ops.size∧s'.n=s.n∧za3 s'.t=tS f (ops.toList.map (·.dst)) es' (fun _=>true) ops.size∧zab s'.h=hS h es' (fun _=>true) ops.size ∧
  (∀k,k<ops.size→OpAt P nt ops n0 f h (ops.toList.map (·.dst)) es' acc' k)∧K acc' s'
 | [],i,⟨st,sh,sn⟩,acc,es,hl,hi,h1,h2,h3,h4,h5,hx=>by
  have hsz:i=ops.size:=by
   have:=congrArg List.length hl
   simp at this;omega
  subst hsz
  exact⟨es,acc,⟨st,sh,sn⟩,h1,rfl,h3,h4,h5,hx⟩
 | o::r,i,⟨st,sh,sn⟩,acc,es,hl,hi,h1,h2,h3,h4,h5,hx=>by
  have ho':ops.toList[i]? = some o:=by
   have:(ops.toList.drop i)[0]? = some o:=by rw[hl];rfl
   rw[List.getElem?_drop]at this
   simpa using this
  have ho:ops[i]? = some o:=by simpa using ho'
  have hlt:i<ops.size:=(Array.getElem?_eq_some_iff.1 ho).1
  simp only[zer]at hx
  obtain⟨hd,hx⟩:=hx
  obtain⟨e,k1,k23⟩:=zmg hx
  have k2:e.fresh≤4:=by cases e;exact k23.1
  have k3:zer P nt ops n0 (i+1) r (acc ++ [(zi0 (za3 st) sh o,e.ups.map (·.1))]) K ⟨zlw o.dst e.val st,e.ups++sh,sn⟩:=by cases e;exact k23.2
  have hdst:(ops.toList.map (·.dst)).getD i none=o.dst:=by
   rw[List.getD_eq_getElem?_getD,List.getElem?_map,ho'];rfl
  have hei:(es ++ [e])[i]? = some e:=by rw[List.getElem?_append_right (by omega),h1];simp
  refine zgw r (i+1) ⟨zlw o.dst e.val st,e.ups++sh,sn⟩ _ (es ++ [e]) ?_ hlt ?_ ?_ ?_ ?_ ?_ k3
  ·rw[←List.drop_drop,hl];rfl
  ·rw[List.length_append,h1];rfl
  ·rw[List.length_append,h2];rfl
  ·have e1:=zhu (f:=f) (ds:=ops.toList.map (·.dst)) (es:=es) (L:=fun _=>true) e i (by omega)
   simp only[tS,hei,hdst,e1,←h3]
   exact zmp _ _ _
  ·have e1:=zil (f:=h) (es:=es) (L:=fun _=>true) e i (by omega)
   simp only[hS,hei,e1,←h4]
   exact(zdn _ _).symm
  ·intro k hk
   by_cases hki:k<i
   ·obtain⟨o2,e2,q1,q2,q3,q4,q5,q6,q7⟩:=(h5 k hki).ok
    refine⟨o2,e2,q1,by rw[List.getElem?_append_left (by omega)];exact q2,q3,q4,q5,by rw[zn1 _ (by omega)];exact q6,?_⟩
    rw[zn1 _ (by omega),zhu e k (by omega),zil e k (by omega)]
    exact q7
   ·obtain rfl:k=i:=by omega
    have hfp:fp (acc ++ [(zi0 (za3 st) sh o,e.ups.map (·.1))]) k=(zi0 (za3 st) sh o,e.ups.map (·.1)):=by
     unfold fp
     rw[List.getD_eq_getElem?_getD,List.getElem?_append_right (by omega),h2];simp
    refine⟨o,e,ho,hei,hd,hdst,k2,by rw[hfp],?_⟩
    rw[hfp,zhu e k (by omega),zil e k (by omega),←h3,←h4]
    exact k1
theorem MemOk.weakU {W:World} {N U U' F:Nat→Prop} {β : Nat→Option Bind} {h:Nat→Chunk} {w:World} (M:MemOk W N U F β h w) (hU:∀i,U i→U' i):MemOk W N U' F β h w:=by
 refine⟨M.size,M.os,M.tape,M.output,M.frame,M.fin,fun id bd hb=>hU _ (M.used id bd hb),fun id hd => ?_,M.dis,M.off⟩
 obtain⟨bd,hb,hc⟩:=M.ch id hd
 exact⟨bd,hb,hc.mono (E:=⟨hU,fun b hb=>⟨hb,rfl⟩,fun _ _ _ h=>⟨_,h⟩⟩) (fun g _=>rfl)⟩
theorem MemOk.drew {W:World} {N U F:Nat→Prop} {β : Nat→Option Bind} {h:Nat→Chunk} {w w':World} (M:MemOk W N U F β h w) (hh:w'.heap=w.heap) (ho:w'.os=w.os) (ht:w'.tape=w.tape) (hp:w'.output=w.output):MemOk W N U F β h w':=by
 have E:Ext U F β w U F β w':=⟨fun _ h=>h,fun b hb=>⟨hb,by rw[hh]⟩,fun _ _ _ h=>⟨_,h⟩⟩
 refine⟨by rw[hh];exact M.size,ho.trans M.os,ht.trans M.tape,hp.trans M.output,fun b hb hn=>by rw[hh];exact M.frame b hb hn,fun b hb=>by rw[hh];exact M.fin b hb,M.used,fun id hd => ?_,M.dis,fun i bd b hb hbb=>by rw[hh];exact M.off i bd b hb hbb⟩
 obtain⟨bd,hb,hc⟩:=M.ch id hd
 exact⟨bd,hb,hc.mono E (fun g _=>by rw[hh])⟩
structure Mid (H : Hist) (n0 n : Nat) (f : Nat → AV) (h : Nat → Chunk) (ds : List (Option Tmp)) (es : List Eff) (L : Nat → Bool) (a : Act) (w : World) : Prop where
 ok:∃F β,MemOk H.W H.N (fun i=>i<n0∨∃k,k<n∧L k=true∧n0+4*k≤i∧i<n0+4*k+4) F β (hS h es L n) w ∧
  (∀t,RelA (fun i=>i<n0∨∃k,k<n∧L k=true∧n0+4*k≤i∧i<n0+4*k+4) w F β (tS f ds es L n t) (a.tmps.getD t undef)) ∧
  (∀b,H.F b→F b)∧(∀b,F b→H.F b∨H.W.heap.size≤b∨H.N b)∧(∀i bd,i<H.k → β i=some bd→∃bs,H.β i=some ⟨bd.v,bd.b,bd.n,bd.sz,bs⟩)∧Dfr F H.W.heap.size a.defers w
 nt:a.tmps.size=H.nt
theorem zlz {U F:Nat→Prop} {β : Nat→Option Bind} {w:World} {a:Act} {f:Nat→AV} {nt:Nat} (ht:∀t,RelA U w F β (f t) (a.tmps.getD t undef)) (hnt:a.tmps.size=nt) {d:Option Tmp} (hd:zjd nt d) {x:AV} {v:Value} (hx:RelA U w F β x v) (t:Nat):RelA U w F β (zji f d x t) ((a.put d v).tmps.getD t undef):=by
 cases d with
 | none=>simpa[zji,Act.put]using ht t
 | some d =>
  simp only[zji,Act.put,Option.some.injEq]
  by_cases h1:d=t
  ·subst h1
   rw[if_pos rfl]
   have:d<a.tmps.size:=by rw[hnt];exact hd
   rw[Array.getD_eq_getD_getElem?,Array.getElem?_setIfInBounds_self,if_pos this]
   exact hx
  ·rw[if_neg h1,Array.getD_eq_getD_getElem?,Array.getElem?_setIfInBounds_ne h1,←Array.getD_eq_getD_getElem?]
   exact ht t
theorem zh5 (a:Act) (d:Option Tmp) (v:Value):(a.put d v).tmps.size=a.tmps.size∧(a.put d v).defers=a.defers:=by
 cases d<;>simp[Act.put]
theorem zm8 {P:Program} {H:Hist} {s:St} {F:Nat→Prop} {β : Nat→Option Bind} {a:Act} {w:World} {ops:Array Oper} {Q:Exit→St→Prop} (hx:zac P H.nt ops (Q .normal) s) (C:Conc H s F β a w) :
 wpAny P .any ops (zjl H Q) ops.size (Array.replicate ops.size false) a { w with drawn:=w.drawn+1 }:=by
 obtain⟨es,acc,s',hel,hn,ht,hh,hat,hok,hK⟩:=zgw (f:=za3 s.t) (h:=zab s.h) ops.toList 0 s [] [] (by simp) (Nat.zero_le _) rfl rfl rfl rfl (fun k hk=>by omega) hx
 -- what the check has shown
 unfold zis at hok
 simp only[Bool.and_eq_true]at hok
 obtain⟨hedge,hpair⟩:=hok
 have edge:∀k o,ops[k]? = some o→∀e∈o.after,Region.binds .any e=true→e.on<k:=by
  intro k o ho e he hb
  have hk:k<ops.size:=(Array.getElem?_eq_some_iff.1 ho).1
  have:=List.all_eq_true.1 hedge k (by simpa using hk)
  rw[ho]at this
  have:=List.all_eq_true.1 this e (by simpa using he)
  rw[hb]at this
  simpa using this
 have pair:∀i j,i<j→j<ops.size→zh9 ops (zgm ops.toList []) acc i j=true:=by
  intro i j hij hj
  have:=List.all_eq_true.1 hpair j (by simpa using hj)
  exact List.all_eq_true.1 this i (by simpa using hij)
 let n:=ops.size
 let ds:=ops.toList.map (·.dst)
 -- the induction
 have key:∀(fuel:Nat) (listed:Array Bool) (a:Act) (w:World),listed.size=n→zlt ops (fun i=>listed.getD i false=true)→((List.range n).filter fun i => !listed.getD i false).length=fuel →
  Mid H s.n n (za3 s.t) (zab s.h) ds es (fun i=>listed.getD i false) a w→wpAny P .any ops (zjl H Q) fuel listed a w:=by
  intro fuel
  have allDone:∀(listed:Array Bool) (a:Act) (w:World),(∀i,i<n→listed.getD i false=true)→Mid H s.n n (za3 s.t) (zab s.h) ds es (fun i=>listed.getD i false) a w→zjl H Q .normal a w:=by
   intro listed a w hall M
   obtain⟨F,β,M1,M2,M3,M4,M5,M6⟩:=M.ok
   have e1:∀t,tS (za3 s.t) ds es (fun i=>listed.getD i false) n t=za3 s'.t t:=by
    intro t
    rw[ht]
    exact zhv (fun k hk _=>hall k hk) n (Nat.le_refl _) (fun k h1 h2=>by omega)
   have e2:hS (zab s.h) es (fun i=>listed.getD i false) n=zab s'.h:=by
    funext t
    rw[hh]
    exact zim (fun k e hk _ _=>hall k hk) n (Nat.le_refl _) (fun k e h1 h2=>by omega)
   rw[e2]at M1
   have hU:∀i,(i<s.n∨∃k,k<n∧listed.getD k false=true∧s.n+4*k≤i∧i<s.n+4*k+4)→i<s.n+4*ops.size:=by
    rintro i (h|⟨k,h1,_,h2,h3⟩)
    ·omega
    ·have:n=ops.size:=rfl
     omega
   refine⟨⟨s'.t,s'.h,s.n+4*ops.size⟩,F,β,⟨fun t => ?_,M1.weakU hU,M.nt,M6,M3,M4,M5,Nat.le_trans C.k (Nat.le_add_right _ _)⟩,hK⟩
   have:=M2 t
   rw[e1 t]at this
   exact RelA.mono ⟨hU,fun b hb=>⟨hb,rfl⟩,fun _ _ _ h=>⟨_,h⟩⟩ _ _ this
  induction fuel with
  | zero =>
   intro listed a w hsz hcl hf M
   have hall:∀i,i<n→listed.getD i false=true:=by
    intro i hi
    have:=List.eq_nil_of_length_eq_zero hf
    rw[List.filter_eq_nil_iff]at this
    have:=this i (by simpa using hi)
    simpa using this
   refine⟨?_,allDone listed a w hall M⟩
   apply List.eq_nil_iff_forall_not_mem.2
   intro j hj
   obtain⟨h1,o,ho,_⟩:=mem_ready.1 hj
   have hjn:j<n:=(Array.getElem?_eq_some_iff.1 ho).1
   have:=hall j hjn
   rw[Array.getD_eq_getD_getElem?]at this h1
   have hjs:j<listed.size:=by omega
   rw[Array.getElem?_eq_getElem hjs]at this h1
   simp only[Option.getD_some]at this h1
   rw[this]at h1;simp at h1
  | succ fuel ih =>
   intro listed a w hsz hcl hf M
   have gd:∀i,i<n→listed.getD i true=listed.getD i false:=by
    intro i hi
    have hjs:i<listed.size:=by omega
    rw[Array.getD_eq_getD_getElem?,Array.getD_eq_getD_getElem?,Array.getElem?_eq_getElem hjs];rfl
   refine⟨fun hr => ?_,fun i hi => ?_⟩
   · -- nobody may come up: all are done
    refine allDone listed a w ?_ M
    intro i
    induction i using Nat.strongRecOn with
    | _ i ihi =>
     intro hi
     cases hLi:listed.getD i false with
     | true=>rfl
     | false =>
      exfalso
      have ho:ops[i]? = some ops[i]:=Array.getElem?_eq_getElem hi
      have hm:i∈Region.ready .any ops listed:=mem_ready.2 ⟨by rw[gd i hi];exact hLi,_,ho,fun e he hb=>ihi e.on (edge i _ ho e he hb) (by have:=edge i _ ho e he hb;omega)⟩
      rw[hr]at hm
      simp at hm
   · -- number i comes up
    obtain⟨hun,oi,hoi,hpre⟩:=mem_ready.1 hi
    have hin:i<n:=(Array.getElem?_eq_some_iff.1 hoi).1
    rw[gd i hin]at hun
    obtain⟨F,β,M1,M2,M3,M4,M5,M6⟩:=M.ok
    obtain⟨o,e,q1,q2,q3,q4,q5,q6,q7⟩:=(hat i hin).ok
    rw[hoi]at q1
    cases q1
    -- those that are ordered
    have hcl':zlt ops (fun k=>listed.getD k false=true∨k=i):=by
     intro k ok hk hE e' he' hb'
     rcases hE with hE|rfl
     ·exact .inl (hcl k ok hk hE e' he' hb')
     ·rw[hoi]at hk;cases hk
      exact .inl (hpre e' he' hb')
    have before:∀k,k<i→((zgm ops.toList []).getD i 0).testBit k=true→listed.getD k false=true:=by
     intro k hk hb
     have:=zc6 hcl' ops.toList [] (by simp) (by intro i j h;simp at h) i k hb (.inr rfl)
     rcases this with h|h
     ·exact h
     ·omega
    have after:∀k,i<k→listed.getD k false=true→((zgm ops.toList []).getD k 0).testBit i=true→False:=by
     intro k hk hL hb
     have:=zc6 hcl ops.toList [] (by simp) (by intro i j h;simp at h) k i hb hL
     rw[hun]at this;simp at this
    have apart_lt:∀k ok,k<i→ops[k]? = some ok→listed.getD k false=false→Oper.apart ops ok oi=true∧zpn (fp acc k).2 ((fp acc i).1++(fp acc i).2)=true:=by
     intro k ok hk hok hL
     have:=pair k i hk hin
     unfold zh9 at this
     rw[Bool.or_eq_true]at this
     rcases this with h|h
     ·have:=before k hk h;rw[hL]at this;simp at this
     ·simp only[hok,hoi,Bool.and_eq_true]at h
      exact⟨h.1.1,h.1.2⟩
    have apart_gt:∀k ok,i<k→k<n→ops[k]? = some ok→listed.getD k false=true→Oper.apart ops oi ok=true∧zpn (fp acc i).2 ((fp acc k).1++(fp acc k).2)=true∧(zpn (fp acc i).1 (fp acc k).2=true∨zpy ops acc i k=true):=by
     intro k ok hk hkn hok hL
     have:=pair i k hk hkn
     unfold zh9 at this
     rw[Bool.or_eq_true]at this
     rcases this with h|h
     ·exact(after k hk hL h).elim
     ·simp only[hok,hoi,Bool.and_eq_true,Bool.or_eq_true]at h
      exact⟨h.1.1,h.1.2,h.2⟩
    have dsk:∀k t,ds.getD k none=some t→∃ok,ops[k]? = some ok∧ok.dst=some t∧k<n:=by
     intro k t hk
     rw[List.getD_eq_getElem?_getD,List.getElem?_map]at hk
     cases ho:ops.toList[k]? with
     | none=>rw[ho]at hk;simp at hk
     | some ok =>
      rw[ho]at hk
      have ho':ops[k]? = some ok:=by simpa using ho
      exact⟨ok,ho',by simpa using hk,(Array.getElem?_eq_some_iff.1 ho').1⟩
    have fpk:∀k e2,k<n→es[k]? = some e2→(fp acc k).2=e2.ups.map (·.1):=by
     intro k e2 hk he2
     obtain⟨_,e3,_,p2,_,_,_,p6,_⟩:=(hat k hk).ok
     rw[he2]at p2;cases p2;exact p6
    have opk:∀k,k<n→∃ok,ops[k]? = some ok:=fun k hk=>⟨_,Array.getElem?_eq_getElem hk⟩
    -- the temporaries that it looks at
    have agT:∀t∈oi.looksAt ops,tS (za3 s.t) ds es (fun i=>listed.getD i false) n t=tS (za3 s.t) ds es (fun _=>true) i t:=by
     intro t htl
     refine zhv (fun k hk hd => ?_) n (Nat.le_of_lt hin) (fun k h1 h2 hd => ?_)
     ·obtain⟨ok,hok,hdk,_⟩:=dsk k t hd
      cases hL:listed.getD k false with
      | true=>rfl
      | false=>exact((Oper.apart_spec (apart_lt k ok hk hok hL).1).1 t hdk htl).elim
     ·obtain⟨ok,hok,hdk,_⟩:=dsk k t hd
      by_cases hki:k=i
      ·subst hki;exact hun
      ·cases hL:listed.getD k false with
       | false=>rfl
       | true=>exact((Oper.apart_spec (apart_gt k ok (by omega) h2 hok hL).1).2.2 t hdk htl).elim
    -- the memory that it looks at
    have agH:∀t∈(fp acc i).1,hS (zab s.h) es (fun i=>listed.getD i false) n t=hS (zab s.h) es (fun _=>true) i t∨(zql oi=true∧zpt (hS (zab s.h) es (fun _=>true) i t) (hS (zab s.h) es (fun i=>listed.getD i false) n t)):=by
     intro t htl
     by_cases hex:∃k e2,i<k∧k<n∧es[k]? = some e2∧t∈e2.ups.map (·.1)∧listed.getD k false=true
     ·obtain⟨k,e2,hik,hkn,he2,htk,hLk⟩:=hex
      have lk:∀k e2,i<k→k<n→es[k]? = some e2→t∈e2.ups.map (·.1)→listed.getD k false=true→zpy ops acc i k=true:=by
       intro k e2 hik hkn he2 htk hLk
       obtain⟨ok,hok⟩:=opk k hkn
       rcases (apart_gt k ok hik hkn hok hLk).2.2 with h|h
       ·exact(zcw h t htl (by rw[fpk k e2 hkn he2];exact htk)).elim
       ·exact h
      have lkk:=lk k e2 hik hkn he2 htk hLk
      obtain⟨ok,hok⟩:=opk k hkn
      have mid:∀k m e3,zpy ops acc i k=true→i<m→m<k→m<n→es[m]? = some e3→t∉e3.ups.map (·.1):=by
       intro k m e3 hl h1 h2 h3 h4 h5
       unfold zpy at hl
       rw[Bool.and_eq_true]at hl
       have:=List.all_eq_true.1 hl.2 m (by simpa using h2)
       rw[Bool.or_eq_true]at this
       rcases this with h|h
       ·have:=Nat.le_of_ble_eq_true h;omega
       ·exact zcw h t htl (by rw[fpk m e3 h3 h4];exact h5)
      have uniq:∀k' e3,i<k'→k'<n→es[k']? = some e3→t∈e3.ups.map (·.1)→listed.getD k' false=true→k'=k:=by
       intro k' e3 h1 h2 h3 h4 h5
       rcases Nat.lt_trichotomy k' k with h|h|h
       ·exact(mid k k' e3 lkk h1 h h2 h3 h4).elim
       ·exact h
       ·exact(mid k' k e2 (lk k' e3 h1 h2 h3 h4 h5) hik h hkn he2 htk).elim
      unfold zpy at lkk
      rw[Bool.and_eq_true,hoi,hok]at lkk
      simp only[Bool.and_eq_true]at lkk
      obtain⟨⟨isl,isn⟩,_⟩:=lkk
      refine .inr ⟨isl,?_⟩
      obtain⟨ok',e3,p1,p2,_,_,_,p6,p7⟩:=(hat k hkn).ok
      rw[hok]at p1;cases p1
      rw[he2]at p2;cases p2
      obtain⟨id,a',n',es',l,r1,r2⟩:=zlc isn p7
      have hti:t=id:=by rw[r2]at htk;simpa using htk
      subst hti
      have r3:hS (zab s.h) es (fun _=>true) k t = .mp a' n' es':=by
       unfold zc3 at r1
       split at r1
       ·exact r1
       ·simp at r1
      have r4:hS (zab s.h) es (fun _=>true) k t=hS (zab s.h) es (fun _=>true) i t:=by
       refine zk6 k (Nat.le_of_lt hik) (fun m e4 h1 h2 h3 h4 => ?_)
       exfalso
       by_cases hmi:m=i
       ·subst hmi
        have:=zcw (apart_gt k ok hik hkn hok hLk).2.1 t (by rw[fpk m e4 hin h3];exact h4)
        exact this (List.mem_append_right _ (by rw[p6];exact htk))
       ·exact mid k m e4 (lk k e2 hik hkn he2 htk hLk) (by omega) h2 (by omega) h3 h4
      have r5:hS (zab s.h) es (fun i=>listed.getD i false) n t=hS (zab s.h) es (fun i=>listed.getD i false) (k+1) t:=by
       refine zk6 n hkn (fun m e4 h1 h2 h3 h4 => ?_)
       cases hLm:listed.getD m false with
       | false=>rfl
       | true=>have:=uniq m e4 (by omega) h2 h3 h4 hLm;omega
      have r6:hS (zab s.h) es (fun i=>listed.getD i false) (k+1) t = .mp a' n' (zcc l es'):=by
       simp only[hS,hLk,he2,r2,upd,if_true]
      exact .inr ⟨a',n',es',l,r4.symm.trans r3,r5.trans r6⟩
     ·refine .inl (zim (fun k e2 hk he2 hd => ?_) n (Nat.le_of_lt hin) (fun k e2 h1 h2 he2 hd => ?_))
      ·obtain⟨ok,hok⟩:=opk k (by omega)
       cases hL:listed.getD k false with
       | true=>rfl
       | false =>
        have:=zcw (apart_lt k ok hk hok hL).2 t (by rw[fpk k e2 (by omega) he2];exact hd)
        exact(this (List.mem_append_left _ htl)).elim
      ·by_cases hki:k=i
       ·subst hki;exact hun
       ·cases hL:listed.getD k false with
        | false=>rfl
        | true=>exact(hex ⟨k,e2,by omega,h2,he2,hd,hL⟩).elim
    have q7':zg9 P ops oi (tS (za3 s.t) ds es (fun _=>true) i) (zc3 (fp acc i).1 (hS (zab s.h) es (fun i=>listed.getD i false) n)) (s.n+4*i) (· = e):=by
     cases isl:zql oi with
     | true =>
      refine zkg isl (fun t => ?_) q7
      unfold zc3
      cases hm:zlx (fp acc i).1 t with
      | false=>exact .inl rfl
      | true =>
       rcases agH t (memN_iff.1 hm)with h|h
       ·exact .inl h
       ·exact h.2
     | false =>
      have:zc3 (fp acc i).1 (hS (zab s.h) es (fun i=>listed.getD i false) n)=zc3 (fp acc i).1 (hS (zab s.h) es (fun _=>true) i):=by
       funext t
       unfold zc3
       cases hm:zlx (fp acc i).1 t with
       | false=>rfl
       | true =>
        rcases agH t (memN_iff.1 hm)with h|h
        ·exact h
        ·rw[isl]at h;simp at h
      rw[this];exact q7
    have hsub:∀id,zc3 (fp acc i).1 (hS (zab s.h) es (fun i=>listed.getD i false) n) id ≠ .dead→zc3 (fp acc i).1 (hS (zab s.h) es (fun i=>listed.getD i false) n) id=hS (zab s.h) es (fun i=>listed.getD i false) n id:=by
     intro id hne
     unfold zc3 at hne ⊢
     cases hm:zlx (fp acc i).1 id with
     | false=>rw[hm]at hne;exact(hne rfl).elim
     | true=>rfl
    have hLset:(fun k=>(listed.setIfInBounds i true).getD k false)=zdq (fun k=>listed.getD k false) i:=by
     funext k
     unfold zdq
     by_cases hki:k=i
     ·subst hki
      have:k<listed.size:=by omega
      simp[this]
     ·rw[if_neg hki,getD_set_ne false (Ne.symm hki)]
    have hUnot:∀x,s.n+4*i≤x→x<s.n+4*i+4→¬(x<s.n∨∃k,k<n∧listed.getD k false=true∧s.n+4*k≤x∧x<s.n+4*k+4):=by
     rintro x h1 h2 (h|⟨k,h3,h4,h5,h6⟩)
     ·omega
     ·have:k=i:=by omega
      subst this
      rw[hun]at h4;simp at h4
    have fin:=zia (a:=a) (Q:=zjl H Q) (next:=wpAny P .any ops (zjl H Q) fuel (listed.setIfInBounds i true)) (hT:=zc3 (fp acc i).1 (hS (zab s.h) es (fun i=>listed.getD i false) n)) M1 hsub (hUnot _ (Nat.le_refl _) (by omega)) (o:=oi)
     (f:=tS (za3 s.t) ds es (fun _=>true) i) (fun t htl=>by rw[←agT t htl];exact M2 t) (fun e' he' x h1 h2=>by subst he';exact hUnot x h1 (by omega)) q7' (by
     rintro e' v w' rfl S
     refine ih _ _ _ (by simpa using hsz) ?_ ?_ ?_
     ·intro k ok hk hE e2 he2 hb2
      rw[congrFun hLset k]at hE
      show (fun k=>(listed.setIfInBounds i true).getD k false) e2.on=true
      rw[hLset]
      unfold zdq at hE ⊢
      by_cases h1:e2.on=i
      ·rw[if_pos h1]
      ·rw[if_neg h1]
       by_cases hki:k=i
       ·subst hki
        rw[hoi]at hk;cases hk
        exact hpre e2 he2 hb2
       ·rw[if_neg hki]at hE
        exact hcl k ok hk hE e2 he2 hb2
     ·have cnt:∀(l:List Nat),l.Nodup→i∈l→(l.filter fun k => !listed.getD k false).length=(l.filter fun k => !(listed.setIfInBounds i true).getD k false).length+1:=by
       intro l
       induction l with
       | nil=>intro _ h;simp at h
       | cons x r ihr =>
        intro hnd hmem
        have hx:=congrFun hLset x
        simp only[zdq]at hx
        rw[List.nodup_cons]at hnd
        by_cases hxi:x=i
        ·subst hxi
         rw[if_pos rfl]at hx
         rw[List.filter_cons,List.filter_cons,hun,hx]
         simp only[Bool.not_false,Bool.not_true,if_true,Bool.false_eq_true,if_false,List.length_cons]
         congr 2
         apply List.filter_congr
         intro y hy
         have hyx:y≠x:=fun h=>hnd.1 (h▸hy)
         have:=congrFun hLset y
         simp only[zdq,if_neg hyx]at this
         rw[this]
        ·rw[if_neg hxi]at hx
         have:=ihr hnd.2 ((List.mem_cons.1 hmem).resolve_left (Ne.symm hxi))
         rw[List.filter_cons,List.filter_cons,hx]
         split
         ·simp only[List.length_cons,this]
         ·exact this
      have:=cnt (List.range n) List.nodup_range (by simpa using hin)
      omega
     ·obtain⟨F',β',S1,S2,S3,S4⟩:=S
      have eT:=zjr (f:=za3 s.t) (ds:=ds) (L:=fun k=>listed.getD k false) hun q2 n hin (fun k t h1 h2 h3 h4=>by
       obtain⟨ok,hok,hdk,_⟩:=dsk k t h4
       rw[q4]
       intro h5
       exact(Oper.apart_spec (apart_gt k ok h1 h2 hok h3).1).2.1 t h5 hdk)
      have eH:=zk7 (h:=zab s.h) (L:=fun k=>listed.getD k false) hun q2 n hin (fun k e2 t h1 h2 h3 h4 h5 h6=>by
       obtain⟨ok,hok⟩:=opk k h2
       have:=zcw (apart_gt k ok h1 h2 hok h3).2.1 t (by rw[q6];exact h6)
       exact this (List.mem_append_right _ (by rw[fpk k e2 h2 h4];exact h5)))
      have hU':∀x,((x<s.n∨∃k,k<n∧listed.getD k false=true∧s.n+4*k≤x∧x<s.n+4*k+4)∨(s.n+4*i≤x∧x<s.n+4*i+e'.fresh))→(x<s.n∨∃k,k<n∧zdq (fun k=>listed.getD k false) i k=true∧s.n+4*k≤x∧x<s.n+4*k+4):=by
       rintro x ((h|⟨k,h1,h2,h3⟩)|⟨h1,h2⟩)
       ·exact .inl h
       ·refine .inr ⟨k,h1,?_,h3⟩
        unfold zdq
        by_cases hki:k=i
        ·rw[if_pos hki]
        ·rw[if_neg hki];exact h2
       ·exact .inr ⟨i,hin,by unfold zdq;rw[if_pos rfl],h1,by omega⟩
      have hU'':∀x,((x<s.n∨∃k,k<n∧listed.getD k false=true∧s.n+4*k≤x∧x<s.n+4*k+4)∨(s.n+4*i≤x∧x<s.n+4*i+e'.fresh))→(x<s.n∨∃k,k<n∧(listed.setIfInBounds i true).getD k false=true∧s.n+4*k≤x∧x<s.n+4*k+4):=by
       intro x hx
       rcases hU' x hx with h|⟨k,h1,h2,h3⟩
       ·exact .inl h
       ·exact .inr ⟨k,h1,(congrFun hLset k).trans h2,h3⟩
      refine⟨⟨F',β',?_,fun t => ?_,fun b hb=>(S2.f b (M3 b hb)).1,fun b hb => ?_,fun j bd hj hb => ?_,by rw[(zh5 a oi.dst v).2];exact M6.mono S2.f⟩,by rw[(zh5 a oi.dst v).1];exact M.nt⟩
      ·rw[hLset,eH]
       exact S1.weakU hU''
      ·rw[hLset,eT,q4]
       have:=zlz (x:=e'.val) (v:=v) (fun t=>RelA.mono S2 _ _ (M2 t)) M.nt q3 S3 t
       exact RelA.mono ⟨hU'',fun b hb=>⟨hb,rfl⟩,fun _ _ _ h=>⟨_,h⟩⟩ _ _ this
      ·rcases S4 b hb with h|h
       ·exact M4 b h
       ·exact .inr h
      ·obtain⟨bs,h1⟩:=S2.e j bd (.inl (Nat.lt_of_lt_of_le hj C.k)) hb
       exact M5 j ⟨_,_,_,_,bs⟩ hj h1)
    unfold wpOp
    rw[hoi]
    exact fin
 refine key ops.size _ a _ (by simp[n]) ?_ ?_ ?_
 ·intro i o _ hE
  exfalso
  rw[Array.getD_eq_getD_getElem?]at hE
  by_cases hi:i<ops.size
  ·simp[hi]at hE
  ·simp[hi]at hE
 ·have:(List.range n).filter (fun i => !(Array.replicate ops.size false).getD i false)=List.range n:=by
   apply List.filter_eq_self.2
   intro i hi
   have hi':i<ops.size:=by simpa using hi
   simp[hi']
  rw[this];simp[n]
 ·have hL:(fun i=>(Array.replicate ops.size false).getD i false)=fun _=>false:=by
   funext i
   rw[Array.getD_eq_getD_getElem?]
   by_cases hi:i<ops.size
   ·simp[hi]
   ·simp[hi]
  have t0:∀k,tS (za3 s.t) ds es (fun _=>false) k=za3 s.t:=by
   intro k
   induction k with
   | zero=>rfl
   | succ k ih=>simp only[tS];exact ih
  have h0:∀k,hS (zab s.h) es (fun _=>false) k=zab s.h:=by
   intro k
   induction k with
   | zero=>rfl
   | succ k ih=>simp only[hS];exact ih
  have hU0:∀x,x<s.n→(x<s.n∨∃k,k<n∧(Array.replicate ops.size false).getD k false=true∧s.n+4*k≤x∧x<s.n+4*k+4):=fun x hx => .inl hx
  refine⟨⟨F,β,?_,fun t => ?_,C.f,C.g,C.e,C.d.mono fun b hb=>⟨hb,rfl⟩⟩,C.nt⟩
  ·rw[hL,h0]
   exact(C.m.drew (w':={ w with drawn:=w.drawn+1 }) rfl rfl rfl rfl).weakU (fun x hx => .inl hx)
  ·rw[hL,t0]
   have E:Ext (· < s.n) F β w (fun i=>i<s.n∨∃k,k<n∧(Array.replicate ops.size false).getD k false=true∧s.n+4*k≤i∧i<s.n+4*k+4) F β { w with drawn:=w.drawn+1 }:=⟨fun x hx => .inl hx,fun b hb=>⟨hb,rfl⟩,fun _ _ _ h=>⟨_,h⟩⟩
   exact RelA.mono E _ _ (C.t t)
theorem zm7 {P:Program} (hmix:P.follows .mixedOrders=true) {H:Hist} {s:St} {F:Nat→Prop} {β : Nat→Option Bind} {a:Act} {w:World} {ops:Array Oper} {Q:Exit→St→Prop} (id:Nat) (hx:zac P H.nt ops (Q .normal) s) (C:Conc H s F β a w) :
 (Code.region id ops true).wp P (zjl H Q) a w:=wp_region_any hmix (zm8 hx C)
def Els {α : Type} (w:World) (B:Nat) (a:Option Addr) (sz:Nat) (enc : α → List Value) (xs:List α):Prop :=
 xs = []∨∃b o,a=some ⟨b,o,none⟩∧b<B∧∀i j v,(xs[i]?).bind (fun x=>(enc x)[j]?)=some v→w.cell? ⟨b,o+(i*sz+j),none⟩=some v
theorem Els.nil {α : Type} (w:World) (B:Nat) (a:Option Addr) (sz:Nat) (enc : α → List Value):Els w B a sz enc [] := .inl rfl
theorem Els.get {α : Type} {w:World} {B:Nat} {a:Option Addr} {sz:Nat} {enc : α → List Value} {xs:List α} (h:Els w B a sz enc xs) (i:Nat) (hi:i<xs.length) :
 ∃b o,a=some ⟨b,o,none⟩∧b<B∧∀j v,(enc xs[i])[j]? = some v→w.cell? ⟨b,o+(i*sz+j),none⟩=some v:=by
 rcases h with rfl|⟨b,o,ha,hb,hc⟩
 ·simp at hi
 ·exact⟨b,o,ha,hb,fun j v hv=>hc i j v (by simp[hi,hv])⟩
theorem Els.mono {α : Type} {w:World} {B B':Nat} {a:Option Addr} {sz:Nat} {enc : α → List Value} {xs:List α} (h:Els w B a sz enc xs) (hB:B≤B'):Els w B' a sz enc xs:=by
 rcases h with rfl|⟨b,o,ha,hlt,hc⟩
 ·exact .inl rfl
 ·exact .inr ⟨b,o,ha,by omega,hc⟩
def e64 (n:Nat):List Value := [.int .u64 n]
def e32 (n:Nat):List Value := [.int .u32 n]
def zr3 (n:Int):List Value := [.int .i64 n]
theorem Els.u64 {w:World} {B:Nat} {a:Option Addr} {xs:List Nat} (h:Els w B a 1 e64 xs) (i:Nat) (hi:i<xs.length) :
 ∃b o,a=some ⟨b,o,none⟩∧b<B∧w.cell? ⟨b,o+i,none⟩=some (.int .u64 (xs[i]:Nat)):=by
 obtain⟨b,o,ha,hb,hc⟩:=h.get i hi
 exact⟨b,o,ha,hb,by simpa using hc 0 _ rfl⟩
theorem Els.i64 {w:World} {B:Nat} {a:Option Addr} {xs:List Int} (h:Els w B a 1 zr3 xs) (i:Nat) (hi:i<xs.length) :
 ∃b o,a=some ⟨b,o,none⟩∧b<B∧w.cell? ⟨b,o+i,none⟩=some (.int .i64 xs[i]):=by
 obtain⟨b,o,ha,hb,hc⟩:=h.get i hi
 exact⟨b,o,ha,hb,by simpa using hc 0 _ rfl⟩
theorem Els.u32 {w:World} {B:Nat} {a:Option Addr} {xs:List Nat} (h:Els w B a 1 e32 xs) (i:Nat) (hi:i<xs.length) :
 ∃b o,a=some ⟨b,o,none⟩∧b<B∧w.cell? ⟨b,o+i,none⟩=some (.int .u32 (xs[i]:Nat)):=by
 obtain⟨b,o,ha,hb,hc⟩:=h.get i hi
 exact⟨b,o,ha,hb,by simpa using hc 0 _ rfl⟩
theorem zhg {α β : Type} (enc : α → List β) (sz:Nat):∀(xs:List α),(∀x∈xs,(enc x).length=sz)→∀i j,j<sz→(xs.flatMap enc)[i*sz+j]? = (xs[i]?).bind fun x=>(enc x)[j]? := by
 intro xs
 induction xs with
 | nil=>intro _ i j _;simp
 | cons x xs ih =>
  intro h i j hj
  have hx:=h x (by simp)
  cases i with
  | zero=>simp[List.flatMap_cons,List.getElem?_append,hx,hj]
  | succ i =>
   have e:(i+1)*sz+j=sz+(i*sz+j):=by rw[Nat.add_mul];omega
   rw[List.flatMap_cons,List.getElem?_append_right (by omega),e,hx,Nat.add_sub_cancel_left,ih (fun y hy=>h y (by simp[hy])) i j hj]
   simp
theorem zhf {α β : Type} (enc : α → List β) (sz:Nat) (xs:List α) (h:∀x∈xs,(enc x).length=sz):(xs.flatMap enc).length=xs.length*sz:=by
 induction xs with
 | nil=>simp
 | cons x xs ih=>rw[List.flatMap_cons,List.length_append,h x (by simp),ih fun y hy=>h y (by simp[hy]),List.length_cons,Nat.add_mul];omega
theorem zi7 {j sz n:Nat} (h:j<n*sz):j/sz<n∧j/sz*sz+j % sz=j∧j % sz<sz:=by
 have hs:0<sz:=by
  rcases Nat.eq_zero_or_pos sz with rfl|h0
  ·simp at h
  ·exact h0
 exact⟨(Nat.div_lt_iff_lt_mul hs).2 h,by rw[Nat.mul_comm];exact Nat.div_add_mod j sz,Nat.mod_lt _ hs⟩
theorem Els.news {α : Type} {w:World} {B:Nat} {a:Option Addr} {sz:Nat} {enc : α → List Value} {xs:List α} (h:Els w B a sz enc xs) (he:∀x∈xs,(enc x).length=sz) :
 ∀ad,a=some ad→∀j u,(xs.flatMap enc)[j]? = some u→w.cell? (ad.add j)=some u:=by
 intro ad had j u hu
 rcases h with rfl|⟨b,o,ha,hb,hc⟩
 ·simp at hu
 ·rw[ha]at had
  obtain rfl:=Option.some.inj had
  have hj:j<xs.length*sz:=by rw[←zhf enc sz xs he];exact(List.getElem?_eq_some_iff.1 hu).1
  obtain⟨h1,h2,h3⟩:=zi7 hj
  have:=hc (j/sz) (j % sz) u (by rw[←zhg enc sz xs he _ _ h3,h2];exact hu)
  rw[h2]at this
  rw[Addr.add_lit];exact this
theorem Els.take {α : Type} {w:World} {B:Nat} {a:Option Addr} {sz:Nat} {enc : α → List Value} {xs:List α} (h:Els w B a sz enc xs) (m:Nat):Els w B a sz enc (xs.take m):=by
 rcases h with rfl|⟨b,o,ha,hb,hc⟩
 ·exact .inl (by simp)
 ·refine .inr ⟨b,o,ha,hb,fun i j v hv => ?_⟩
  rw[List.getElem?_take]at hv
  split at hv
  ·exact hc i j v hv
  ·simp at hv
theorem Els.drop {α : Type} {w:World} {B b o:Nat} {sz:Nat} {enc : α → List Value} {xs:List α} (h:Els w B (some ⟨b,o,none⟩) sz enc xs) (m:Nat):Els w B (some ⟨b,o+m*sz,none⟩) sz enc (xs.drop m):=by
 rcases h with rfl|⟨b',o',ha,hb,hc⟩
 ·exact .inl (by simp)
 ·simp only[Option.some.injEq,Addr.mk.injEq,and_true]at ha
  obtain⟨rfl,rfl⟩:=ha
  refine .inr ⟨b,o+m*sz,rfl,hb,fun i j v hv => ?_⟩
  rw[List.getElem?_drop]at hv
  have:=hc (m+i) j v hv
  rwa [Nat.add_mul,show o+(m*sz+i*sz+j)=o+m*sz+(i*sz+j)from by omega]at this
theorem Els.b0 {α : Type} {w:World} {B:Nat} {a:Option Addr} {sz:Nat} {enc : α → List Value} {xs:List α} (h:Els w B a sz enc xs):xs = []∨∃b o,a=some ⟨b,o,none⟩∧b<B:=by
 rcases h with h|⟨b,o,h1,h2,_⟩
 ·exact .inl h
 ·exact .inr ⟨b,o,h1,h2⟩
theorem zor {a b:Int} (h:a=b):Ending.returned (.int .i64 a) = .returned (.int .i64 b):=by rw[h]
def zpb {α : Type} (p : α → Bool) (xs:List α):Int:=match xs.findIdx? p with|none => -1|some i=>(i:Int)
theorem zms {α : Type} (p : α → Bool) (xs:List α) (k:Nat) (hk:k<xs.length) (h:p xs[k]=true) (h0:∀j (hj:j<xs.length),j<k→p xs[j]=false):zpb p xs=k:=by
 have:xs.findIdx? p=some k:=List.findIdx?_eq_some_iff_getElem.2 ⟨hk,h,fun j hj=>by rw[h0 j (by omega) hj];decide⟩
 rw[zpb,this]
theorem zkw {α : Type} (p : α → Bool) (xs:List α) (h0:∀j (hj:j<xs.length),p xs[j]=false):zpb p xs = -1:=by
 have:xs.findIdx? p=none:=by
  rw[List.findIdx?_eq_none_iff]
  intro x hx
  obtain⟨j,hj,rfl⟩:=List.mem_iff_getElem.1 hx
  exact h0 j hj
 rw[zpb,this]
set_option maxHeartbeats 400000 in
theorem zg0 (n a b:Int) (w:World) :
 Calls Try.prog 24 #[.int .i64 n,.int .i64 a,.int .i64 b] w fun e w'=>e = .returned (.bool (decide (a≤n)&&decide (n≤b)))∧w=w':=by
 go_enter Try.func24,Try.ntmps24
 go_wp2
 all_goals(go_returns;refine⟨?_,rfl⟩)
 all_goals(congr 2;first|(simp;omega)|(simp;done)|skip)
def pcK (n:Nat):Nat→Nat
 | 0=>0
 | k+1=>pcK n k+n/2 ^ k % 2
theorem zke (n:Nat):∀k,pcK n k≤k
 | 0=>Nat.le_refl _
 | k+1=>by have:=zke n k;have:n/2 ^ k % 2<2:=Nat.mod_lt _ (by decide);simp only[pcK];omega
theorem zos:∀m:Fin 256,Lib.pop8 (m.val:Int)=(pcK m.val 8:Int):=by decide +kernel
theorem zdr (x:Nat):Lib.pop8 ((x:Int) % 256)=(pcK x 8:Int):=by
 have h:=zos ⟨x % 256,Nat.mod_lt _ (by decide)⟩
 simp only at h
 rw[show ((x:Int) % 256)=((x % 256:Nat):Int)from by omega,h]
 congr 1
 simp only[pcK]
 omega
theorem zff (n a:Nat):∀b,pcK n (a+b)=pcK n a+pcK (n/2 ^ a) b
 | 0=>rfl
 | b+1=>by
  show pcK n (a+b)+n/2 ^ (a+b) % 2=pcK n a+(pcK (n/2 ^ a) b+n/2 ^ a/2 ^ b % 2)
  rw[zff n a b,Nat.pow_add,Nat.div_div_eq_div_mul,Nat.add_assoc]
theorem zsr (n:Nat):pcK n 32=pcK (n/16777216) 8+pcK (n/65536) 8+pcK (n/256) 8+pcK n 8:=by
 have e1:=zff n 8 24
 have e2:=zff (n/2 ^ 8) 8 16
 have e3:=zff (n/2 ^ 8/2 ^ 8) 8 8
 simp only[Nat.div_div_eq_div_mul,←Nat.pow_add,Nat.reduceAdd,Nat.reducePow,Nat.reduceMul]at e1 e2 e3
 omega
theorem zsq (n:Nat) (hn:n<4294967296):(Lib.pop8 ((n:Int)/16777216)+Lib.pop8 ((n:Int)/65536 % 256)+Lib.pop8 ((n:Int)/256 % 256)+Lib.pop8 ((n:Int) % 256)) % 256=(pcK n 32:Int):=by
 have e0:((n:Int)/16777216)=((n/16777216:Nat):Int) % 256:=by omega
 have e1:((n:Int)/65536)=((n/65536:Nat):Int):=by omega
 have e2:((n:Int)/256)=((n/256:Nat):Int):=by omega
 rw[e0,e1,e2,zdr,zdr,zdr,zdr]
 have:=zsr n
 have:=zke n 32
 omega
set_option maxRecDepth 100000 in
set_option maxHeartbeats 800000 in
theorem zpp (n:Nat) (w:World) (hn:n<4294967296) :
 Calls Try.prog 29 #[.int .u32 n] w fun e w'=>e = .returned (.int .i64 (pcK n 32:Nat))∧w.drew=w':=by
 have p0:(0:Int)≤(n:Int)/16777216:=by omega
 have p1:(n:Int)/16777216≤255:=by omega
 have q0:bits .and .u32 ((n:Int)/65536) 255=(n:Int)/65536 % 256:=by
  rw[u32_and _ _ (by omega) (by omega) (by omega) (by omega),show ((255:Int).toNat)=2^8-1 from rfl,Nat.and_two_pow_sub_one_eq_mod]
  omega
 have q1:bits .and .u32 ((n:Int)/256) 255=(n:Int)/256 % 256:=by
  rw[u32_and _ _ (by omega) (by omega) (by omega) (by omega),show ((255:Int).toNat)=2^8-1 from rfl,Nat.and_two_pow_sub_one_eq_mod]
  omega
 have q2:bits .and .u32 (n:Int) 255=(n:Int) % 256:=by
  rw[u32_and _ _ (by omega) (by omega) (by omega) (by omega),show ((255:Int).toNat)=2^8-1 from rfl,Nat.and_two_pow_sub_one_eq_mod]
  omega
 go_enter Try.func29,Try.ntmps29
 go_wp2
 go_region
 go_wp2
 go_ret
 all_goals(first|exact⟨zor (zsq n hn),rfl⟩|rfl)
set_option maxHeartbeats 400000 in
theorem zph (n k:Nat) (w:World) (hn:n<4294967296) (hk:k<32) :
 Calls Try.prog 14 #[.int .u32 n,.int .i64 k] w fun e w'=>e = .returned (.bool (n/2 ^ k % 2 == 1))∧w=w':=by
 have hp1:2 ^ k≤2 ^ 31:=Nat.pow_le_pow_right (by decide) (by omega)
 have hp0:0<2 ^ k:=Nat.pow_pos (by decide)
 have hc:((2:Int) ^ k)=((2 ^ k:Nat):Int):=by simp
 obtain⟨p,hp⟩:∃p:Nat,p=2 ^ k:=⟨_,rfl⟩
 rw[←hp]at hp1 hp0 hc ⊢
 have hd:n/p≤n:=Nat.div_le_self _ _
 have hW:wrap64 (2 ^ k)=(p:Int):=by rw[hc];unfold wrap64;omega
 have hc2:((n:Int)/(p:Int))=((n/p:Nat):Int):=by simp
 obtain⟨q,hq⟩:∃q:Nat,q=n/p:=⟨_,rfl⟩
 rw[←hq]at hc2 hd ⊢
 have hW2:wrap64 ((n:Int)/(p:Int))=(q:Int):=by rw[hc2];clear hc2 hq hc hW;unfold wrap64;omega
 have hz:¬(p:Int)=0:=by omega
 clear hc hc2 hp hq hd
 go_enter Try.func14,Try.ntmps14
 go_wp2_with fail
 refine(zg0 _ _ _ _).mono ?_
 rintro e w' ⟨rfl,rfl⟩
 go_wp2_with fail
 all_goals(go_returns;refine⟨?_,rfl⟩)
 show Ending.returned (.bool ((q:Int) % 2 == 1))=_
 rw[show ((q:Int) % 2 == 1)=(q % 2 == 1)from by rw[Bool.eq_iff_iff,beq_iff_eq,beq_iff_eq];omega]
def znu (n:Nat) (k:Int):Bool:=decide (0≤k∧k<32)&&(n/2 ^ k.toNat % 2 == 1)
set_option maxHeartbeats 400000 in
theorem zrl (n:Nat) (k:Int) (w:World) (hn:n<4294967296) :
 Calls Try.prog 14 #[.int .u32 n,.int .i64 k] w fun e w'=>e = .returned (.bool (znu n k))∧w=w':=by
 by_cases h:0≤k∧k<32
 ·obtain⟨K,rfl⟩:=Int.eq_ofNat_of_zero_le h.1
  have hh:=zph n K w hn (by omega)
  have e:znu n (K:Int)=(n/2 ^ K % 2 == 1):=by simp[znu];intro;omega
  rw[e];exact hh
 ·have hb:(decide (0≤k)&&decide (k≤31))=false:=by simp;omega
  have e:znu n k=false:=by simp[znu];omega
  rw[e]
  go_enter Try.func14,Try.ntmps14
  go_wp2_with fail
  refine(zg0 _ _ _ _).mono ?_
  rintro e w' ⟨rfl,rfl⟩
  rw[hb]
  go_wp2_with fail
  go_returns
  exact⟨rfl,rfl⟩
def zbn (n k:Nat):Bool:=n/2 ^ k % 2 == 1
theorem zdy (n k:Nat):zbn n k=n.testBit k:=by
 rw[Nat.testBit_eq_decide_div_mod_eq];exact Bool.eq_iff_iff.2 (by simp[zbn])
theorem zpg (n k:Nat) (h:k<32):znu n (k:Int)=zbn n k:=by
 unfold znu zbn
 rw[Int.toNat_natCast,decide_eq_true (by omega),Bool.true_and]
def clr (n k:Nat):Nat:=if zbn n k then n-2 ^ k else n
theorem zmc (k:Nat) (hk:k<32):0<2 ^ k∧2 ^ k≤2147483648:=⟨Nat.pow_pos (by decide),Nat.pow_le_pow_right (show 0<2 by decide) (show k≤31 by omega)⟩
theorem znq (n k:Nat) (hn:n<4294967296) (hk:k<32) (hb:zbn n k=false):n ||| 2 ^ k=n+2 ^ k∧n+2 ^ k<4294967296:=by
 obtain⟨hp0,hp⟩:=zmc k hk
 have h0:n/2 ^ k % 2=0:=by
  rcases Nat.mod_two_eq_zero_or_one (n/2 ^ k)with h|h
  ·exact h
  ·simp[zbn,h]at hb
 have hz:BitVec.ofNat 32 n &&& BitVec.ofNat 32 (2 ^ k)=0#32:=by
  apply BitVec.eq_of_toNat_eq
  simp only[BitVec.toNat_and,BitVec.toNat_ofNat]
  rw[Nat.mod_eq_of_lt (show n<2 ^ 32 by omega),Nat.mod_eq_of_lt (show 2 ^ k<2 ^ 32 by omega),nat_bit,h0];simp
 have h1:=BitVec.toNat_add_of_and_eq_zero hz
 rw[BitVec.add_eq_or_of_and_eq_zero _ _ hz]at h1
 simp only[BitVec.toNat_or,BitVec.toNat_ofNat]at h1
 rw[Nat.mod_eq_of_lt (show n<2 ^ 32 by omega),Nat.mod_eq_of_lt (show 2 ^ k<2 ^ 32 by omega)]at h1
 have:n ||| 2 ^ k<2 ^ 32:=Nat.or_lt_two_pow (by omega) (by omega)
 omega
def lv (g:List Nat) (k:Nat):List Nat:=(g.set k 0).map (clr · k)
structure Vw where
 p:Int
 b:Int
 v:Int
 deriving DecidableEq, Inhabited
structure Stp where
 kind:Int
 who:Int
 ballot:Int
 value:Int
 deriving DecidableEq, Inhabited
structure Rn where
 prom:Nat
 heard:List Vw
 asked:Bool
 value:Int
 acc:Nat
 deriving DecidableEq
instance:Inhabited Rn:=⟨⟨0,[],false,0,0⟩⟩
structure Cn where
 vows:List Vw
 all:Nat→Rn
 told:Nat→Bool
def zat:List Vw→Vw→Vw
 | [],m=>m
 | v::r,m=>zat r (if m.b<v.b then v else m)
def zax (l:List Vw) (x:Int):Int:=match l with
 | []=>x
 | a::r=>if (zat (a::r) a).b=0 then x else (zat (a::r) a).v
def zcy (f:Nat→Rn) (b:Nat) (r:Rn):Nat→Rn:=fun k=>if k=b then r else f k
theorem zau (f:Nat→Rn) (b:Nat) (r:Rn):zcy f b r b=r:=if_pos rfl
theorem zao (f:Nat→Rn) {b k:Nat} (r:Rn) (h:k≠b):zcy f b r k=f k:=if_neg h
def zal (c:Cn) (i:Nat):Vw:=c.vows.getD i default
def za9 (c:Cn) (x:Stp):Cn :=
 let b:=x.ballot.toNat;let i:=x.who.toNat;let r:=c.all b;let v:=zal c i
 let t:=fun k=>c.told k||decide (k=b)
 if x.kind=1∧v.p<x.ballot then ⟨c.vows.set i ⟨x.ballot,v.b,v.v⟩,zcy c.all b { r with prom:=r.prom ||| 2 ^ i,heard:=r.heard ++ [v] },t⟩
 else if x.kind=2∧r.asked=false∧c.vows.length<2*pcK r.prom 32 then ⟨c.vows,zcy c.all b { r with asked:=true,value:=zax r.heard x.value },t⟩
 else if x.kind=3∧r.asked=true∧v.p≤x.ballot then ⟨c.vows.set i ⟨x.ballot,x.ballot,r.value⟩,zcy c.all b { r with acc:=r.acc ||| 2 ^ i },t⟩
 else ⟨c.vows,c.all,t⟩
def zaj (n:Nat):Cn:=⟨List.replicate n default,fun _=>default,fun _=>false⟩
def zai (c:Cn) (l:List Stp):Cn:=l.foldl za9 c
theorem zd3 (c:Cn) (l:List Stp) (x:Stp):zai c (l ++ [x])=za9 (zai c l) x:=by unfold zai;rw[List.foldl_append];rfl
def zc1 (n:Nat) (x:Stp):Prop:=(1≤x.kind∧x.kind≤3)∧(0≤x.who∧x.who<n)∧1≤x.ballot∧x.ballot≤50
theorem ziw:∀(l:List Vw) (m:Vw),zat l m∈m::l
 | [],m=>by simp[zat]
 | v::r,m=>by
  rw[zat]
  have h:=ziw r (if m.b<v.b then v else m)
  rcases List.mem_cons.1 h with e|e
  ·rw[e];split<;>simp
  ·simp[e]
theorem zlo:∀(l:List Vw) (m:Vw),m.b≤(zat l m).b∧∀v∈l,v.b≤(zat l m).b
 | [],m=>⟨Int.le_refl _,fun v h=>by simp at h⟩
 | v::r,m=>by
  rw[zat]
  obtain⟨h1,h2⟩:=zlo r (if m.b<v.b then v else m)
  have h3:m.b≤(if m.b<v.b then v else m).b∧v.b≤(if m.b<v.b then v else m).b:=by split<;>omega
  refine⟨by omega,fun u hu => ?_⟩
  rcases List.mem_cons.1 hu with e|e
  ·subst e;omega
  ·exact h2 u e
theorem ziv {n k j:Nat} : zbn (n ||| 2 ^ k) j=(zbn n j||decide (k=j)):=by
 rw[zdy,zdy,Nat.testBit_or,Nat.testBit_two_pow]
theorem zel (j:Nat):zbn 0 j=false:=by unfold zbn;simp
theorem znp (n A B:Nat) (hA:∀j,zbn A j=true→j<n) (hB:∀j,zbn B j=true→j<n) (h:∀j,¬(zbn A j=true∧zbn B j=true)):∀k,pcK A k+pcK B k≤k∧pcK A k+pcK B k≤n
 | 0=>by simp[pcK]
 | k+1=>by
  obtain⟨h1,h2⟩:=znp n A B hA hB h k
  have a:=hA k
  have b:=hB k
  have c:=h k
  unfold zbn at a b c
  simp only[beq_iff_eq]at a b c
  have a2:A/2 ^ k % 2<2:=Nat.mod_lt _ (by decide)
  have b2:B/2 ^ k % 2<2:=Nat.mod_lt _ (by decide)
  simp only[pcK]
  generalize A/2 ^ k % 2=x at *
  generalize B/2 ^ k % 2=y at *
  generalize pcK A k=u at *
  generalize pcK B k=v at *
  by_cases hk:k<n
  ·have:¬(x=1∧y=1):=c
   refine⟨by omega,?_⟩
   omega
  ·have:x≠1:=fun e=>hk (a e)
   have:y≠1:=fun e=>hk (b e)
   omega
structure Pax (n : Nat) (c : Cn) : Prop where
 len:c.vows.length=n
 vb:∀i,i<n→0≤(zal c i).b∧(zal c i).b≤(zal c i).p
 a0:∀k i,zbn (c.all k).acc i=true→i<n∧1≤k
 a1:∀k i,zbn (c.all k).acc i=true→(c.all k).asked=true∧(k:Int)≤(zal c i).b
 a2:∀i,i<n→(zal c i).b≠0→∃k:Nat,(zal c i).b=k∧(c.all k).asked=true∧(c.all k).value=(zal c i).v
 p0:∀k i,zbn (c.all k).prom i=true→i<n
 p1:∀k i,zbn (c.all k).prom i=true→(k:Int)≤(zal c i).p
 h1:∀k i,zbn (c.all k).prom i=true→∃e∈(c.all k).heard,∀k':Nat,k'<k→zbn (c.all k').acc i=true→(k':Int)≤e.b
 h2:∀k,∀e∈(c.all k).heard,0≤e.b∧e.b<k∧(e.b≠0→∃k':Nat,e.b=k'∧(c.all k').asked=true∧(c.all k').value=e.v)
 s:∀k,(c.all k).asked=true→∃(Q:Nat) (m:Int),n<2*pcK Q 32∧(∀i,zbn Q i=true→i<n∧(k:Int)≤(zal c i).p∧∀k':Nat,k'<k→zbn (c.all k').acc i=true→(k':Int)≤m)∧m<k∧(m≤0∨∃k':Nat,m=k'∧(c.all k').asked=true∧(c.all k').value=(c.all k).value)
theorem zmd (n:Nat):Pax n (zaj n):=by
 have hv:∀i,zal (zaj n) i=default:=fun i=>by
  unfold zal zaj
  simp only
  rw[List.getD_eq_getElem?_getD,List.getElem?_replicate]
  split<;>rfl
 have hb:∀i,zbn (default:Rn).acc i=false:=fun i=>zel i
 have hp:∀i,zbn (default:Rn).prom i=false:=fun i=>zel i
 have ha:∀k,(zaj n).all k=default:=fun _=>rfl
 refine⟨by simp[zaj],fun i _=>by rw[hv];decide,fun k i h => ?_,fun k i h => ?_,fun i _ h => ?_,fun k i h => ?_,fun k i h => ?_,fun k i h => ?_,fun k e h => ?_,fun k h => ?_⟩
 ·rw[ha,hb]at h;exact absurd h (by decide)
 ·rw[ha,hb]at h;exact absurd h (by decide)
 ·rw[hv]at h;exact absurd rfl h
 ·rw[ha,hp]at h;exact absurd h (by decide)
 ·rw[ha,hp]at h;exact absurd h (by decide)
 ·rw[ha,hp]at h;exact absurd h (by decide)
 ·rw[ha]at h;exact absurd h List.not_mem_nil
 ·rw[ha]at h;exact absurd h (by decide)
theorem zhq {c:Cn} {i:Nat} {v:Vw} {f:Nat→Rn} {t:Nat→Bool} (hi:i<c.vows.length) (j:Nat):zal ⟨c.vows.set i v,f,t⟩ j=if j=i then v else zal c j:=by
 unfold zal
 simp only
 rw[List.getD_eq_getElem?_getD,List.getElem?_set]
 by_cases h:i=j
 ·subst h
  rw[if_pos rfl,if_pos hi,if_pos rfl];rfl
 ·rw[if_neg h,if_neg (fun x=>h x.symm),←List.getD_eq_getElem?_getD]
theorem zmf {n:Nat} {c:Cn} (P:Pax n c) {b i:Nat} {t:Nat→Bool} (hi:i<n) (h:(zal c i).p<(b:Int)):Pax n ⟨c.vows.set i ⟨b,(zal c i).b,(zal c i).v⟩,zcy c.all b { c.all b with prom:=(c.all b).prom ||| 2 ^ i,heard:=(c.all b).heard ++ [zal c i] },t⟩:=by
 have hl:i<c.vows.length:=by rw[P.len];exact hi
 obtain⟨f,hf⟩:∃f,f=zcy c.all b { c.all b with prom:=(c.all b).prom ||| 2 ^ i,heard:=(c.all b).heard ++ [zal c i] }:=⟨_,rfl⟩
 have fb:f b = { c.all b with prom:=(c.all b).prom ||| 2 ^ i,heard:=(c.all b).heard ++ [zal c i] }:=by rw[hf,zau]
 have fo:∀k,k≠b→f k=c.all k:=fun k hk=>by rw[hf,zao _ _ hk]
 have facc:∀k,(f k).acc=(c.all k).acc:=fun k=>by
  by_cases hk:k=b
  ·subst hk;rw[fb]
  ·rw[fo k hk]
 have fask:∀k,(f k).asked=(c.all k).asked:=fun k=>by
  by_cases hk:k=b
  ·subst hk;rw[fb]
  ·rw[fo k hk]
 have fval:∀k,(f k).value=(c.all k).value:=fun k=>by
  by_cases hk:k=b
  ·subst hk;rw[fb]
  ·rw[fo k hk]
 rw[←hf]
 have V:=fun j=>zhq (c:=c) (i:=i) (v:=⟨b,(zal c i).b,(zal c i).v⟩) (f:=f) (t:=t) hl j
 have Vb:∀j,(zal ⟨c.vows.set i ⟨b,(zal c i).b,(zal c i).v⟩,f,t⟩ j).b=(zal c j).b:=fun j=>by rw[V];split;rename_i e;rw[e];rfl
 have Vv:∀j,(zal ⟨c.vows.set i ⟨b,(zal c i).b,(zal c i).v⟩,f,t⟩ j).v=(zal c j).v:=fun j=>by rw[V];split;rename_i e;rw[e];rfl
 have Vp:∀j,(zal c j).p≤(zal ⟨c.vows.set i ⟨b,(zal c i).b,(zal c i).v⟩,f,t⟩ j).p:=fun j=>by
  rw[V];split
  ·rename_i e;rw[e];show (zal c i).p≤(b:Int);omega
  ·exact Int.le_refl _
 have prom:∀k j,zbn (f k).prom j=true→zbn (c.all k).prom j=true∨(k=b∧j=i):=fun k j hj=>by
  by_cases hk:k=b
  ·subst hk
   rw[fb]at hj
   simp only at hj
   rw[ziv,Bool.or_eq_true,decide_eq_true_iff]at hj
   rcases hj with hj|hj
   ·exact .inl hj
   ·exact .inr ⟨rfl,hj.symm⟩
  ·rw[fo k hk]at hj;exact .inl hj
 have heard:∀k e,e∈(f k).heard→e∈(c.all k).heard∨(k=b∧e=zal c i):=fun k e he=>by
  by_cases hk:k=b
  ·subst hk
   rw[fb]at he
   rcases List.mem_append.1 he with he|he
   ·exact .inl he
   ·exact .inr ⟨rfl,List.mem_singleton.1 he⟩
  ·rw[fo k hk]at he;exact .inl he
 have hle:=P.vb i hi
 refine⟨by simp only[List.length_set];exact P.len,fun j hj => ?_,fun k j h => ?_,fun k j h => ?_,fun j hj h => ?_,fun k j h => ?_,fun k j h => ?_,fun k j h => ?_,fun k e h => ?_,fun k h => ?_⟩
 ·have:=P.vb j hj
  have:=Vp j
  rw[Vb];omega
 ·simp only[facc]at h;exact P.a0 k j h
 ·simp only[facc]at h
  obtain⟨x,y⟩:=P.a1 k j h
  simp only[fask]
  exact⟨x,by rw[Vb];exact y⟩
 ·rw[Vb]at h
  obtain⟨k,x,y,z⟩:=P.a2 j hj h
  refine⟨k,by rw[Vb];exact x,by simp only[fask];exact y,?_⟩
  simp only[fval]
  rw[Vv];exact z
 ·rcases prom k j h with h|⟨-,rfl⟩
  ·exact P.p0 k j h
  ·exact hi
 ·rcases prom k j h with h|⟨rfl,rfl⟩
  ·exact Int.le_trans (P.p1 k j h) (Vp j)
  ·rw[V,if_pos rfl];exact Int.le_refl _
 ·rcases prom k j h with h|⟨rfl,rfl⟩
  ·obtain⟨e,he,hx⟩:=P.h1 k j h
   refine⟨e,?_,fun k' hk' ha=>hx k' hk' (by simpa only[facc]using ha)⟩
   by_cases hk:k=b
   ·subst hk;simp only[fb];exact List.mem_append.2 (.inl he)
   ·simp only[fo k hk];exact he
  ·refine⟨zal c j,by simp only[fb];exact List.mem_append.2 (.inr (by simp)),fun k' hk' ha => ?_⟩
   simp only[facc]at ha
   exact(P.a1 k' j ha).2
 ·rcases heard k e h with h|⟨rfl,rfl⟩
  ·obtain⟨x,y,z⟩:=P.h2 k e h
   refine⟨x,y,fun h0 => ?_⟩
   obtain⟨k',z1,z2,z3⟩:=z h0
   exact⟨k',z1,by simp only[fask];exact z2,by simp only[fval];exact z3⟩
  ·refine⟨hle.1,by omega,fun h0 => ?_⟩
   obtain⟨k',z1,z2,z3⟩:=P.a2 i hi h0
   exact⟨k',z1,by simp only[fask];exact z2,by simp only[fval];exact z3⟩
 ·simp only[fask]at h
  obtain⟨Q,m,q1,q2,q3,q4⟩:=P.s k h
  refine⟨Q,m,q1,fun j hj => ?_,q3,?_⟩
  ·obtain⟨x,y,z⟩:=q2 j hj
   exact⟨x,Int.le_trans y (Vp j),fun k' hk' ha=>z k' hk' (by simpa only[facc]using ha)⟩
  ·rcases q4 with q4|⟨k',z1,z2,z3⟩
   ·exact .inl q4
   ·exact .inr ⟨k',z1,by simp only[fask];exact z2,by simp only[fval];exact z3⟩
theorem zou {n:Nat} {c:Cn} (P:Pax n c) {b:Nat} {t:Nat→Bool} {x:Int} (ha:(c.all b).asked=false) (hq:n<2*pcK (c.all b).prom 32):Pax n ⟨c.vows,zcy c.all b { c.all b with asked:=true,value:=zax (c.all b).heard x },t⟩:=by
 obtain⟨f,hf⟩:∃f,f=zcy c.all b { c.all b with asked:=true,value:=zax (c.all b).heard x }:=⟨_,rfl⟩
 have fb:f b = { c.all b with asked:=true,value:=zax (c.all b).heard x }:=by rw[hf,zau]
 have fo:∀k,k≠b→f k=c.all k:=fun k hk=>by rw[hf,zao _ _ hk]
 rw[←hf]
 have V:∀j,zal ⟨c.vows,f,t⟩ j=zal c j:=fun _=>rfl
 have facc:∀k,(f k).acc=(c.all k).acc:=fun k=>by
  by_cases hk:k=b
  ·subst hk;rw[fb]
  ·rw[fo k hk]
 have fprom:∀k,(f k).prom=(c.all k).prom:=fun k=>by
  by_cases hk:k=b
  ·subst hk;rw[fb]
  ·rw[fo k hk]
 have fheard:∀k,(f k).heard=(c.all k).heard:=fun k=>by
  by_cases hk:k=b
  ·subst hk;rw[fb]
  ·rw[fo k hk]
 have fask:∀k,(c.all k).asked=true→(f k).asked=true∧(f k).value=(c.all k).value:=fun k hk=>by
  have:k≠b:=fun e=>by rw[e,ha]at hk;exact absurd hk (by decide)
  rw[fo k this];exact⟨hk,rfl⟩
 refine⟨P.len,fun j hj=>P.vb j hj,fun k j h => ?_,fun k j h => ?_,fun j hj h => ?_,fun k j h => ?_,fun k j h => ?_,fun k j h => ?_,fun k e h => ?_,fun k h => ?_⟩
 ·simp only[facc]at h;exact P.a0 k j h
 ·simp only[facc]at h
  obtain⟨x,y⟩:=P.a1 k j h
  exact⟨(fask k x).1,y⟩
 ·obtain⟨k,x,y,z⟩:=P.a2 j hj h
  exact⟨k,x,(fask k y).1,(fask k y).2.trans z⟩
 ·simp only[fprom]at h;exact P.p0 k j h
 ·simp only[fprom]at h;exact P.p1 k j h
 ·simp only[fprom]at h
  obtain⟨e,he,hx⟩:=P.h1 k j h
  exact⟨e,by simp only[fheard];exact he,fun k' hk' ha=>hx k' hk' (by simpa only[facc]using ha)⟩
 ·simp only[fheard]at h
  obtain⟨x,y,z⟩:=P.h2 k e h
  refine⟨x,y,fun h0 => ?_⟩
  obtain⟨k',z1,z2,z3⟩:=z h0
  exact⟨k',z1,(fask k' z2).1,(fask k' z2).2.trans z3⟩
 ·by_cases hk:k=b
  ·subst hk
   have hne:(c.all k).heard ≠ []:=fun e=>by
    have hp:0<pcK (c.all k).prom 32:=by omega
    obtain⟨j,hj⟩:∃j,zbn (c.all k).prom j=true:=by
     refine Classical.byContradiction fun hn => ?_
     have:=(znp 0 (c.all k).prom 0 (fun j hj=>absurd ⟨j,hj⟩ hn) (fun j hj=>by rw[zel]at hj;exact absurd hj (by decide)) (fun j hj=>hn ⟨j,hj.1⟩) 32).2
     omega
    obtain⟨e',he',-⟩:=P.h1 k j hj
    rw[e]at he';exact absurd he' List.not_mem_nil
   obtain⟨a,r,hr⟩:∃a r,(c.all k).heard=a::r:=by
    cases hh:(c.all k).heard with
    | nil=>exact absurd hh hne
    | cons a r=>exact⟨a,r,rfl⟩
   have hbm:zat (a::r) a∈(c.all k).heard:=by
    rw[hr]
    rcases List.mem_cons.1 (ziw (a::r) a)with e|e
    ·rw[e];simp
    ·exact e
   have hbg:=(zlo (a::r) a).2
   obtain⟨x1,x2,x3⟩:=P.h2 k _ hbm
   refine⟨(c.all k).prom,(zat (a::r) a).b,hq,fun j hj=>⟨P.p0 k j hj,P.p1 k j hj,fun k' hk' hacc => ?_⟩,x2,?_⟩
   ·obtain⟨e,he,hx⟩:=P.h1 k j hj
    have h1:=hx k' hk' (by simpa only[facc]using hacc)
    have h2:=hbg e (by rw[←hr];exact he)
    omega
   ·by_cases h0:(zat (a::r) a).b=0
    ·left;omega
    ·right
     obtain⟨k',z1,z2,z3⟩:=x3 h0
     refine⟨k',z1,(fask k' z2).1,(fask k' z2).2.trans ?_⟩
     simp only[fb]
     rw[hr]
     unfold zax
     simp only
     rw[if_neg h0];exact z3
  ·simp only[fo k hk]at h
   obtain⟨Q,m,q1,q2,q3,q4⟩:=P.s k h
   refine⟨Q,m,q1,fun j hj => ?_,q3,?_⟩
   ·obtain⟨x,y,z⟩:=q2 j hj
    exact⟨x,y,fun k' hk' ha=>z k' hk' (by simpa only[facc]using ha)⟩
   ·rcases q4 with q4|⟨k',z1,z2,z3⟩
    ·exact .inl q4
    ·refine .inr ⟨k',z1,(fask k' z2).1,(fask k' z2).2.trans ?_⟩
     simp only[fo k hk];exact z3
theorem zov {n:Nat} {c:Cn} (P:Pax n c) {b i:Nat} {t:Nat→Bool} (hi:i<n) (hb:1≤b) (ha:(c.all b).asked=true) (h:(zal c i).p≤(b:Int)):Pax n ⟨c.vows.set i ⟨b,b,(c.all b).value⟩,zcy c.all b { c.all b with acc:=(c.all b).acc ||| 2 ^ i },t⟩:=by
 have hl:i<c.vows.length:=by rw[P.len];exact hi
 obtain⟨f,hf⟩:∃f,f=zcy c.all b { c.all b with acc:=(c.all b).acc ||| 2 ^ i }:=⟨_,rfl⟩
 have fb:f b = { c.all b with acc:=(c.all b).acc ||| 2 ^ i }:=by rw[hf,zau]
 have fo:∀k,k≠b→f k=c.all k:=fun k hk=>by rw[hf,zao _ _ hk]
 rw[←hf]
 have fr:∀k,(f k).prom=(c.all k).prom∧(f k).heard=(c.all k).heard∧(f k).asked=(c.all k).asked∧(f k).value=(c.all k).value:=fun k=>by
  by_cases hk:k=b
  ·subst hk;rw[fb];exact⟨rfl,rfl,rfl,rfl⟩
  ·rw[fo k hk];exact⟨rfl,rfl,rfl,rfl⟩
 have fprom:=fun k=>(fr k).1
 have fheard:=fun k=>(fr k).2.1
 have fask:=fun k=>(fr k).2.2.1
 have fval:=fun k=>(fr k).2.2.2
 have facc:∀k j,zbn (f k).acc j=true→zbn (c.all k).acc j=true∨(k=b∧j=i):=fun k j hj=>by
  by_cases hk:k=b
  ·subst hk
   rw[fb]at hj
   simp only at hj
   rw[ziv,Bool.or_eq_true,decide_eq_true_iff]at hj
   rcases hj with hj|hj
   ·exact .inl hj
   ·exact .inr ⟨rfl,hj.symm⟩
  ·rw[fo k hk]at hj;exact .inl hj
 have hle:=P.vb i hi
 have V:=fun j=>zhq (c:=c) (i:=i) (v:=⟨b,b,(c.all b).value⟩) (f:=f) (t:=t) hl j
 have Vp:∀j,(zal c j).p≤(zal ⟨c.vows.set i ⟨b,b,(c.all b).value⟩,f,t⟩ j).p:=fun j=>by
  rw[V];split
  ·rename_i e;rw[e];exact h
  ·exact Int.le_refl _
 have Vb:∀j,(zal c j).b≤(zal ⟨c.vows.set i ⟨b,b,(c.all b).value⟩,f,t⟩ j).b:=fun j=>by
  rw[V];split
  ·rename_i e;rw[e];show (zal c i).b≤(b:Int);omega
  ·exact Int.le_refl _
 -- who promised a later ballot accepts none before it
 have late:∀k k' j,zbn (f k').acc j=true→k'<k→(k:Int)≤(zal c j).p→zbn (c.all k').acc j=true:=fun k k' j hj hk hp=>by
  rcases facc k' j hj with x|⟨rfl,rfl⟩
  ·exact x
  ·omega
 refine⟨by simp only[List.length_set];exact P.len,fun j hj => ?_,fun k j h => ?_,fun k j h => ?_,fun j hj h => ?_,fun k j h => ?_,fun k j h => ?_,fun k j h => ?_,fun k e h => ?_,fun k h => ?_⟩
 ·rw[V];split
  ·show 0≤(b:Int)∧(b:Int)≤b;omega
  ·exact P.vb j hj
 ·rcases facc k j h with h|⟨rfl,rfl⟩
  ·exact P.a0 k j h
  ·exact⟨hi,hb⟩
 ·rcases facc k j h with h|⟨rfl,rfl⟩
  ·obtain⟨x,y⟩:=P.a1 k j h
   exact⟨by simp only[fask];exact x,Int.le_trans y (Vb j)⟩
  ·refine⟨by simp only[fask];exact ha,?_⟩
   rw[V,if_pos rfl];exact Int.le_refl _
 ·rw[V]at h ⊢
  by_cases e:j=i
  ·rw[if_pos e]
   exact⟨b,rfl,by simp only[fask];exact ha,by simp only[fval]⟩
  ·rw[if_neg e]at h ⊢
   obtain⟨k,x,y,z⟩:=P.a2 j hj h
   exact⟨k,x,by simp only[fask];exact y,by simp only[fval];exact z⟩
 ·simp only[fprom]at h;exact P.p0 k j h
 ·simp only[fprom]at h;exact Int.le_trans (P.p1 k j h) (Vp j)
 ·simp only[fprom]at h
  obtain⟨e,he,hx⟩:=P.h1 k j h
  exact⟨e,by simp only[fheard];exact he,fun k' hk' ha=>hx k' hk' (late k k' j ha hk' (P.p1 k j h))⟩
 ·simp only[fheard]at h
  obtain⟨x,y,z⟩:=P.h2 k e h
  refine⟨x,y,fun h0 => ?_⟩
  obtain⟨k',z1,z2,z3⟩:=z h0
  exact⟨k',z1,by simp only[fask];exact z2,by simp only[fval];exact z3⟩
 ·simp only[fask]at h
  obtain⟨Q,m,q1,q2,q3,q4⟩:=P.s k h
  refine⟨Q,m,q1,fun j hj => ?_,q3,?_⟩
  ·obtain⟨x,y,z⟩:=q2 j hj
   exact⟨x,Int.le_trans y (Vp j),fun k' hk' ha=>z k' hk' (late k k' j ha hk' y)⟩
  ·rcases q4 with q4|⟨k',z1,z2,z3⟩
   ·exact .inl q4
   ·exact .inr ⟨k',z1,by simp only[fask];exact z2,by simp only[fval];exact z3⟩
theorem zre {n:Nat} {c:Cn} (P:Pax n c) (t:Nat→Bool):Pax n ⟨c.vows,c.all,t⟩:=⟨P.len,P.vb,P.a0,P.a1,P.a2,P.p0,P.p1,P.h1,P.h2,P.s⟩
theorem zme {n:Nat} {c:Cn} (P:Pax n c) {x:Stp} (h:zc1 n x):Pax n (za9 c x):=by
 obtain⟨h1,h2,h3⟩:=h
 have eb:x.ballot=((x.ballot.toNat:Nat):Int):=by omega
 have hi:x.who.toNat<n:=by omega
 unfold za9
 simp only
 split
 ·rename_i k
  have:=zmf P (b:=x.ballot.toNat) (i:=x.who.toNat) (t:=fun k=>c.told k||decide (k=x.ballot.toNat)) hi (by omega)
  rwa [←eb]at this
 ·split
  ·rename_i k
   exact zou P k.2.1 (by rw[←P.len];exact k.2.2)
  ·split
   ·rename_i k
    have:=zov P (b:=x.ballot.toNat) (i:=x.who.toNat) (t:=fun k=>c.told k||decide (k=x.ballot.toNat)) hi (by omega) k.2.1 (by omega)
    rwa [←eb]at this
   ·exact zre P _
def zaq (t:Nat→Bool):List Nat:=(List.range 51).filter t
def zcb (t:Nat→Bool) (b:Nat):Nat:=((List.range b).filter t).length
def zbk (t:Nat→Bool) (b:Nat):Nat→Bool:=fun k=>t k||decide (k=b)
theorem zkc (b:Nat) (h:b≤50):List.range 51=List.range b++b::List.range' (b+1) (50-b):=by
 have h1:List.range 51=List.range' 0 b++List.range' b (51-b):=by
  rw[List.range_eq_range',show 51=b+(51-b)by omega,←List.range'_append]
  simp
 rw[h1,←List.range_eq_range',show 51-b=(50-b)+1 by omega,List.range'_succ]
theorem zb7 {α : Type} {p q : α → Bool} : ∀(l:List α),(∀x∈l,p x=q x)→l.filter p=l.filter q
 | [],_=>rfl
 | a::l,h=>by
  rw[List.filter_cons,List.filter_cons,h a (by simp),zb7 l (fun x hx=>h x (by simp[hx]))]
theorem zc8 (t:Nat→Bool) (b:Nat) (h:b≤50):zaq t=(List.range b).filter t++((if t b then [b]else [])++(List.range' (b+1) (50-b)).filter t):=by
 unfold zaq
 rw[zkc b h,List.filter_append,List.filter_cons]
 split<;>rfl
theorem zeg (t:Nat→Bool) (b:Nat) (h:b≤50) (ht:t b=true):(zaq t)[zcb t b]? = some b:=by
 rw[zc8 t b h,if_pos ht]
 unfold zcb
 rw[List.getElem?_append_right (Nat.le_refl _),Nat.sub_self];rfl
theorem zpe (t:Nat→Bool) (b:Nat) (h:b≤50) (ht:t b=false):zaq (zbk t b)=(zaq t).take (zcb t b)++b::(zaq t).drop (zcb t b):=by
 have e1:(List.range b).filter (zbk t b)=(List.range b).filter t:=zb7 _ fun x hx=>by
  have:=List.mem_range.1 hx
  unfold zbk;rw[decide_eq_false (by omega),Bool.or_false]
 have e2:(List.range' (b+1) (50-b)).filter (zbk t b)=(List.range' (b+1) (50-b)).filter t:=zb7 _ fun x hx=>by
  have:=List.mem_range'_1.1 hx
  unfold zbk;rw[decide_eq_false (by omega),Bool.or_false]
 have e3:zbk t b b=true:=by unfold zbk;rw[decide_eq_true rfl,Bool.or_true]
 rw[zc8 (zbk t b) b h,zc8 t b h,if_pos e3,if_neg (by rw[ht];decide),e1,e2,List.nil_append]
 unfold zcb
 rw[List.take_left,List.drop_left]
 rfl
theorem zni (t:Nat→Bool) (b:Nat) (ht:t b=true):zbk t b=t:=by
 funext k
 unfold zbk
 by_cases h:k=b
 ·subst h;rw[ht];rfl
 ·rw[decide_eq_false h,Bool.or_false]
theorem zmy (t:Nat→Bool):(zaq t).Pairwise (· < ·):=List.pairwise_lt_range.filter _
theorem zfn (t:Nat→Bool):(zaq t).length≤51:=Nat.le_trans (List.length_filter_le _ _) (by simp)
theorem zk4 (t:Nat→Bool) (k:Nat) (h:k∈zaq t):k≤50∧t k=true:=by
 obtain⟨h1,h2⟩:=List.mem_filter.1 h
 exact⟨by have:=List.mem_range.1 h1;omega,h2⟩
theorem zkd (t:Nat→Bool) (b:Nat) (h:b≤50):zcb t b≤(zaq t).length:=by
 rw[zc8 t b h,List.length_append];unfold zcb;omega
theorem zgp (t:Nat→Bool) (b j:Nat) (h:b≤50) (hj:j<zcb t b):(zaq t).getD j default<b:=by
 have hp:=zkd t b h
 rw[List.getD_eq_getElem?_getD,zc8 t b h,List.getElem?_append_left hj]
 have hj':j<((List.range b).filter t).length:=hj
 rw[List.getElem?_eq_getElem hj']
 have:=List.getElem_mem hj'
 have:=List.mem_range.1 (List.mem_filter.1 this).1
 simpa using this
theorem zgq (t:Nat→Bool) (b j:Nat) (h:b≤50) (hj:zcb t b≤j) (hl:j<(zaq t).length):b≤(zaq t).getD j default:=by
 rw[zc8 t b h]at hl ⊢
 have hj':((List.range b).filter t).length≤j:=hj
 rw[List.getD_eq_getElem?_getD,List.getElem?_append_right hj']
 rw[List.length_append]at hl
 have hl2:j-((List.range b).filter t).length<((if t b then [b]else [])++(List.range' (b+1) (50-b)).filter t).length:=by omega
 rw[List.getElem?_eq_getElem hl2]
 have hm:=List.getElem_mem hl2
 generalize (((if t b then [b]else [])++(List.range' (b+1) (50-b)).filter t)[j-((List.range b).filter t).length]'hl2)=x at *
 rcases List.mem_append.1 hm with hm|hm
 ·split at hm
  ·rw[List.mem_singleton.1 hm];exact Nat.le_refl _
  ·simp at hm
 ·have:=List.mem_range'_1.1 (List.mem_filter.1 hm).1
  show b≤x
  omega
theorem zqm (t:Nat→Bool) (b:Nat) (h:b≤50):(zcb t b<(zaq t).length∧(zaq t).getD (zcb t b) default=b)↔t b=true:=by
 constructor
 ·rintro⟨h1,h2⟩
  have:=zk4 t b (by rw[←h2,List.getD_eq_getElem?_getD,List.getElem?_eq_getElem h1];exact List.getElem_mem h1)
  exact this.2
 ·intro ht
  have:=zeg t b h ht
  refine⟨(List.getElem?_eq_some_iff.1 this).1,?_⟩
  rw[List.getD_eq_getElem?_getD,this];rfl
theorem zk3 {β : Type} (t:Nat→Bool) (b:Nat) (h:b≤50) (ht:t b=true) (f g:Nat → β) (hg:∀k,k≠b→g k=f k):(zaq t).map g=((zaq t).map f).set (zcb t b) (g b):=by
 apply List.ext_getElem?
 intro j
 rw[List.getElem?_map,List.getElem?_set,List.getElem?_map]
 have hget:=zeg t b h ht
 by_cases hj:zcb t b=j
 ·subst hj
  rw[if_pos rfl,hget,if_pos (by rw[List.length_map];exact(List.getElem?_eq_some_iff.1 hget).1)];rfl
 ·rw[if_neg hj]
  cases hx:(zaq t)[j]? with
  | none=>rfl
  | some x =>
   have hne:x≠b:=by
    rintro rfl
    obtain⟨a1,a2⟩:=List.getElem?_eq_some_iff.1 hget
    obtain⟨b1,b2⟩:=List.getElem?_eq_some_iff.1 hx
    have hs:=List.pairwise_iff_getElem.1 (zmy t)
    rcases Nat.lt_trichotomy (zcb t x) j with h1|h1|h1
    ·have:=hs _ _ a1 b1 h1;omega
    ·exact hj h1
    ·have:=hs _ _ b1 a1 h1;omega
   simp only[Option.map_some]
   rw[hg x hne]
end Go.Proofs.Ytmjbgbmegbkmhaa
namespace Go.Proofs.Ytmjbgbmegbkmhaa
set_option linter.all false
open Go.RowKit Go.Lib
set_option maxRecDepth 100000
set_option maxHeartbeats 4000000
theorem zbe {P:Program} (w:World) (dT sT ty elem:TypeId) (sz g o dLen dCap:Nat) (a:Addr) (sLen sCap:Nat) (cur:Array Value) (t:TypeId) (cs:List Value)
 (hu:P.underlying dT=some (.slice elem)) (hs:(P.info? elem).map (·.size)=some sz)
 (hg:w.heap[g]? = some (.cells cur t (0,0))) (hn:cs.length=Nat.min sLen dLen*sz)
 (hsrc:∀j v,cs[j]? = some v→w.cell? (a.add j)=some v) (hfit:o+cs.length≤cur.size) (h1:∀v∈cs,v.oneCell'=true) :
 (Builtin.copy_ #[dT,sT] ty #[.slice (some ⟨g,o,none⟩) dLen dCap,.slice (some a) sLen sCap]).run P w = .ok (goInt (Nat.min sLen dLen)) (w.setRow g (zaa cur.toList o cs).toArray):=by
 have hst:=run_storeCells_at P g o t cs 0 cur w hg (by simpa using hfit) h1
 have hsp:cur.toList.take (o+0)++cs++cur.toList.drop (o+0+cs.length)=zaa cur.toList o cs:=by unfold zaa;simp
 rw[hsp]at hst
 cases hq:P.info? elem with
 | none=>simp[hq]at hs
 | some i =>
  have hi:i.size=sz:=by simpa[hq]using hs
  have hfc:(Builtin.firstCells sz (Nat.min sLen dLen) (.slice (some a) sLen sCap)).run P w = .ok cs.toArray w:=run_firstCells_some _ _ _ _ _ _ cs hn hsrc
  simp[Builtin.copy_,run_underlying hu,Builtin.lenOf,sizeOf,typeInfo,hq,hi,hfc,hst]
theorem zk0 (b n c i vb vc:Nat) (cur:Array Value) (t0:TypeId) (cs x:List Value) (w:World) (hi:i<n) (hroom:n+1≤c) (hc63:c≤9223372036854775807) (hvb:vb≠b)
 (hg:w.heap[b]? = some (.cells cur t0 (0,0))) (hcs:cs.length=n*6) (hcur:cur.size=c*6) (hx:x.length=6)
 (hcell:∀j v,cs[j]? = some v→w.cell? ⟨b,j,none⟩=some v)
 (hvs:∀j v,x[j]? = some v→w.cell? ⟨vb,j,none⟩=some v) (h1c:∀v∈cs,v.oneCell'=true) (h1v:∀v∈x,v.oneCell'=true)
 (tA:TypeId) (kA:Nat) (hsa:w.shape? vb=some (tA,kA)) (hfa:w.frozen? ⟨vb,0,none⟩=false) (hfe:w.frozen? ⟨vb,kA,none⟩=false) :
 Calls Try.prog 27 #[.slice (some ⟨b,0,none⟩) n c,.int .i64 i,.slice (some ⟨vb,0,none⟩) 1 vc] w fun e w' =>
  e = .returned (.slice (some ⟨b,0,none⟩) (n+1) c)∧w'=(w.drew.setRow b (zaa cur.toList ((i+1)*6) (cs.drop (i*6))).toArray).setRow b (zaa (zaa cur.toList ((i+1)*6) (cs.drop (i*6))) (i*6) x).toArray:=by
 have hsz:(Try.prog.info? 42).map (·.size)=some 6:=by kernel_rfl
 have hz:∀w,(Go.sizeOf 42).run Try.prog w = .ok 6 w:=fun w=>by
  cases hq:Try.prog.info? 42 with
  | none=>simp[hq]at hsz
  | some i0 =>
   have h6:i0.size=6:=by simpa[hq]using hsz
   simp[sizeOf,typeInfo,hq,h6]
 have hsb:w.shape? b=some (t0,cur.size):=by simp[World.shape?,hg]
 have hov:∀lb cb,(callFunc 30 #[.slice (some ⟨vb,0,none⟩) 1 vc,.slice (some ⟨b,(i+1)*6,none⟩) lb cb]).run Try.prog w = .ok (.value (.bool false)) w:=fun lb cb=>by
  rw[run_callFunc_extern Try.func30 (by kernel_rfl) (by kernel_rfl) (by kernel_rfl) (e:=Extern.SlicesOverlaps.overlaps #[24,24] #[4]) (by kernel_rfl),
   Lib.run_overlaps_apart w 24 4 42 Try.underlying24 6 hz ⟨vb,0,none⟩ ⟨b,(i+1)*6,none⟩ 1 vc lb cb hvb tA t0 kA cur.size hsa hsb (by omega) hfa hfe]
  rfl
 have hdl:(cs.drop (i*6)).length=(n-i)*6:=by rw[List.length_drop,hcs];omega
 have hcp1:∀ty dc sc,(Builtin.copy_ #[24,24] ty #[.slice (some ⟨b,(i+1)*6,none⟩) (n-i) dc,.slice (some ⟨b,i*6,none⟩) (n+1-i) sc]).run Try.prog w.drew = .ok (goInt ((n-i:Nat):Int)) (w.drew.setRow b (zaa cur.toList ((i+1)*6) (cs.drop (i*6))).toArray):=fun ty dc sc=>by
  have hm:Nat.min (n+1-i) (n-i)=n-i:=by simp only[Nat.min_def];split<;>omega
  have:=zbe w.drew 24 24 ty 42 6 b ((i+1)*6) (n-i) dc ⟨b,i*6,none⟩ (n+1-i) sc cur t0 (cs.drop (i*6)) Try.underlying24 hsz hg (by rw[hm,hdl]) (fun j v hj=>by rw[Addr.add_lit];exact hcell _ v (by rwa [List.getElem?_drop]at hj)) (by rw[hdl,hcur];omega) (fun v hv=>h1c v (List.mem_of_mem_drop hv))
  rw[hm]at this
  exact this
 obtain⟨W1,hW1⟩:∃W1,W1=w.drew.setRow b (zaa cur.toList ((i+1)*6) (cs.drop (i*6))).toArray:=⟨_,rfl⟩
 have hl1:(zaa cur.toList ((i+1)*6) (cs.drop (i*6))).length=c*6:=by rw[zad _ _ _ (by rw[hdl,Array.length_toList,hcur];omega),Array.length_toList,hcur]
 have hg1:W1.heap[b]? = some (.cells (zaa cur.toList ((i+1)*6) (cs.drop (i*6))).toArray t0 (0,0)):=by rw[hW1];exact setRow_heap w.drew b cur _ t0 (0,0) hg
 have hv1:∀j v,x[j]? = some v→W1.cell? ⟨vb,j,none⟩=some v:=fun j v hj=>by
  rw[hW1,World.cell?_of_block (w:=w.drew) (a:=⟨vb,j,none⟩) (setRow_other w.drew b vb _ hvb)]
  exact hvs j v hj
 have hcp2:∀ty dc,(Builtin.copy_ #[24,24] ty #[.slice (some ⟨b,i*6,none⟩) (n+1-i) dc,.slice (some ⟨vb,0,none⟩) 1 vc]).run Try.prog W1 = .ok (goInt 1) (W1.setRow b (zaa (zaa cur.toList ((i+1)*6) (cs.drop (i*6))) (i*6) x).toArray):=fun ty dc=>by
  have hm:Nat.min 1 (n+1-i)=1:=by simp only[Nat.min_def];split<;>omega
  have:=zbe W1 24 24 ty 42 6 b (i*6) (n+1-i) dc ⟨vb,0,none⟩ 1 vc _ t0 x Try.underlying24 hsz hg1 (by rw[hm,hx]) (fun j v hj=>by rw[Addr.add_lit,Nat.zero_add];exact hv1 j v hj) (by simp only[List.size_toArray];rw[hl1,hx];omega) h1v
  rw[hm]at this
  exact this
 subst hW1
 have mixed:Try.prog.follows .mixedOrders=true:=by kernel_rfl
 have hw1:IntKind.i64.wrap ((i:Int)+1)=(i:Int)+1:=by rw[IntKind.wrap_i64];omega
 have hb1:(0:Int)≤(i:Int)+1:=by omega
 have hin:i≤n:=by omega
 have htn:((i:Int)+1).toNat=i+1:=by omega
 have hb2:¬(c=i+1):=by omega
 have hb3:(i:Int)≤(n:Int)+1:=by omega
 have hb4:¬(c=i):=by omega
 have hb5:n+1-(i+1)=n-i:=by omega
 go_enter Try.func27,Try.ntmps27
 go_wp2_with (simp only[hov])
 go_region_law_o (refine step_copy_runI rfl _ _ 24 24 rfl _ _ (by simp[Act.eval,Act.put]) (by simp[Act.eval,Act.put]) (hcp1 _ _ _) ?_)
 go_wp2_with (simp only[hcp2])
 go_ret
 exact⟨rfl,rfl⟩
theorem zc2:∃i0 z,Try.prog.info? 42=some i0∧i0.zero=some z∧i0.size=6∧i0.bytes=64∧z.cells.size=6:=by
 have hI:(Try.prog.info? 42).map (fun i=>(i.size,i.bytes,i.zero.map fun z=>z.cells.size))=some (6,64,some 6):=by kernel_rfl
 cases hq:Try.prog.info? 42 with
 | none=>rw[hq]at hI;simp at hI
 | some i0 =>
  rw[hq]at hI
  simp only[Option.map_some,Option.some.injEq,Prod.mk.injEq]at hI
  cases hz:i0.zero with
  | none=>rw[hz]at hI;simp at hI
  | some z =>
   rw[hz]at hI
   simp only[Option.map_some,Option.some.injEq]at hI
   exact⟨i0,z,rfl,hz,hI.1,hI.2.1,hI.2.2⟩
theorem zmx (b n c i vb vc:Nat) (cs x:List Value) (w:World) (hi:i<n) (hnc:n≤c) (hroom:c<n+1) (hbig:(n+1)*64≤140737488355328)
 (hcs:cs.length=n*6) (hx:x.length=6) (hbw:b<w.heap.size) (hvw:vb<w.heap.size)
 (hcell:∀j v,cs[j]? = some v→w.cell? ⟨b,j,none⟩=some v)
 (hvs:∀j v,x[j]? = some v→w.cell? ⟨vb,j,none⟩=some v) (h1c:∀v∈cs,v.oneCell'=true) (h1v:∀v∈x,v.oneCell'=true) :
 Calls Try.prog 27 #[.slice (some ⟨b,0,none⟩) n c,.int .i64 i,.slice (some ⟨vb,0,none⟩) 1 vc] w fun e w' =>
  ∃G ROW,e = .returned (.slice (some ⟨w.heap.size,0,none⟩) (n+1) G)∧n+1≤G∧G≤maxLen∧ROW.length=G*6∧ROW.take (i*6)=cs.take (i*6) ∧
   w'.heap[w.heap.size]? = some (.cells (zaa (zaa ROW (i*6) x) ((i+1)*6) (cs.drop (i*6))).toArray 42 (0,0))∧w.grownBy w' none:=by
 obtain⟨i0,z,hi0,hz0,hzs,hzb,hzc⟩:=zc2
 have hsz:(Try.prog.info? 42).map (·.size)=some 6:=by rw[hi0];simp[hzs]
 have hik:i+(n+1-i)=n+1:=by omega
 have hkk:(n:Int)+1-(i:Int)=((n+1-i:Nat):Int):=by omega
 have hold:(Builtin.firstCells i0.size i (.slice (some ⟨b,0,none⟩) i c)).run Try.prog w.drew = .ok (cs.take (i*6)).toArray w.drew:=by
  rw[hzs]
  exact run_firstCells_some w.drew 6 i ⟨b,0,none⟩ i c (cs.take (i*6)) (by rw[List.length_take];omega) (fun j v hj=>by
   rw[Addr.add_lit,Nat.zero_add]
   rw[List.getElem?_take]at hj
   split at hj
   ·exact hcell j v hj
   ·cases hj)
 have hgf:Builtin.nextslicecap (n+1) c*i0.bytes≤281474976710656:=by rw[hzb];exact growslice_fits hroom hbig
 have hrz:∀ty,(Builtin.append_ #[24,3] ty #[.slice (some ⟨b,0,none⟩) i c,.int .i64 ((n:Int)+1-(i:Int))]).run Try.prog w =
  .ok (.slice (some ⟨w.heap.size,0,none⟩) (n+1) (grownCap w (n+1) c 42)) (w.drew.alloc (.cells ((cs.take (i*6)).toArray++Builtin.zeroCells z.cells (n+1-i)++Builtin.zeroCells z.cells (grownCap w (n+1) c 42-(n+1))) 42)):=fun ty=>by
  have h:=Lib.run_append_grow_zeros w 24 3 ty 42 i0 z .i64 .i64 Try.underlying24 Try.underlying3 hi0 hz0 (some ⟨b,0,none⟩) i c (cs.take (i*6)) hold (n+1-i) (by omega) (by omega) (by omega) (by omega) (by rw[hzb];omega) (by rw[hik];exact hgf)
  rw[hik]at h
  rw[hkk]
  exact h
 have hGn:n+1≤grownCap w (n+1) c 42:=grownCap_ge w _ _ _
 have hGm:grownCap w (n+1) c 42≤maxLen:=grownCap_le_maxLen w (n+1) c 42 (by unfold maxLen;omega)
 obtain⟨G,hG⟩:∃G,G=grownCap w (n+1) c 42:=⟨_,rfl⟩
 obtain⟨ROW,hROW⟩:∃ROW:Array Value,ROW=(cs.take (i*6)).toArray++Builtin.zeroCells z.cells (n+1-i)++Builtin.zeroCells z.cells (G-(n+1)):=⟨_,rfl⟩
 rw[←hG]at hrz hGn hGm
 rw[←hROW]at hrz
 have hRl:ROW.size=G*6:=by
  rw[hROW]
  simp only[Array.size_append,List.size_toArray,size_zeroCells,hzc,List.length_take]
  omega
 have hRt:ROW.toList.take (i*6)=cs.take (i*6):=by
  rw[hROW]
  simp only[Array.toList_append,List.append_assoc]
  rw[List.take_append_of_le_length (by simp;omega)]
  show List.take (i*6) (List.take (i*6) cs)=_
  rw[List.take_take,Nat.min_self]
 clear hold hik hgf hG hROW
 obtain⟨W1,hW1⟩:∃W1,W1=w.drew.alloc (.cells ROW 42):=⟨_,rfl⟩
 have hg1:W1.heap[w.heap.size]? = some (.cells ROW 42 (0,0)):=by rw[hW1];exact heap_alloc_new w.drew _
 have ho1:∀k,k<w.heap.size→W1.heap[k]? = w.heap[k]? := fun k hk=>by rw[hW1];exact heap_alloc_old w.drew _ hk
 have hdl:(cs.drop (i*6)).length=(n-i)*6:=by rw[List.length_drop,hcs];omega
 have hl1:(zaa ROW.toList (i*6) x).length=G*6:=by rw[zad _ _ _ (by rw[hx,Array.length_toList,hRl];omega),Array.length_toList,hRl]
 have hcpA:∀(W:World),W.heap=W1.heap→∀ty dc,(Builtin.copy_ #[24,24] ty #[.slice (some ⟨w.heap.size,i*6,none⟩) (n+1-i) dc,.slice (some ⟨vb,0,none⟩) 1 vc]).run Try.prog W = .ok (goInt 1) (W.setRow w.heap.size (zaa ROW.toList (i*6) x).toArray):=fun W hW ty dc=>by
  have hm:Nat.min 1 (n+1-i)=1:=by simp only[Nat.min_def];split<;>omega
  have:=zbe W 24 24 ty 42 6 w.heap.size (i*6) (n+1-i) dc ⟨vb,0,none⟩ 1 vc ROW 42 x Try.underlying24 hsz (by rw[hW];exact hg1) (by rw[hm,hx]) (fun j v hj=>by
   rw[Addr.add_lit,Nat.zero_add,World.cell?_of_block (w:=w) (a:=⟨vb,j,none⟩) (by rw[hW];exact ho1 vb hvw)]
   exact hvs j v hj) (by rw[hx,hRl];omega) h1v
  rw[hm]at this
  exact this
 have hcpB:∀(W:World),W.heap=(W1.setRow w.heap.size (zaa ROW.toList (i*6) x).toArray).heap→∀ty dc sc,(Builtin.copy_ #[24,24] ty #[.slice (some ⟨w.heap.size,(i+1)*6,none⟩) (n-i) dc,.slice (some ⟨b,i*6,none⟩) (n-i) sc]).run Try.prog W = .ok (goInt ((n-i:Nat):Int)) (W.setRow w.heap.size (zaa (zaa ROW.toList (i*6) x) ((i+1)*6) (cs.drop (i*6))).toArray):=fun W hW ty dc sc=>by
  have hm:Nat.min (n-i) (n-i)=n-i:=by simp only[Nat.min_def];split<;>omega
  have:=zbe W 24 24 ty 42 6 w.heap.size ((i+1)*6) (n-i) dc ⟨b,i*6,none⟩ (n-i) sc (zaa ROW.toList (i*6) x).toArray 42 (cs.drop (i*6)) Try.underlying24 hsz (by rw[hW];exact setRow_heap W1 w.heap.size ROW _ 42 (0,0) hg1) (by rw[hm,hdl]) (fun j v hj=>by
   rw[Addr.add_lit,World.cell?_of_block (w:=w) (a:=⟨b,i*6+j,none⟩) (by rw[hW,setRow_other W1 w.heap.size b _ (by omega)];exact ho1 b hbw)]
   exact hcell _ v (by rwa [List.getElem?_drop]at hj)) (by rw[hdl];simp only[List.size_toArray];rw[hl1];omega) (fun v hv=>h1c v (List.mem_of_mem_drop hv))
  rw[hm]at this
  exact this
 have mixed:Try.prog.follows .mixedOrders=true:=by kernel_rfl
 have hG63:G≤9223372036854775807:=by unfold maxLen at hGm;omega
 have hGi:¬(G=i):=by omega
 have hGim:¬(G=i+1):=by omega
 have hci:¬(c=i):=by omega
 have hw1:IntKind.i64.wrap ((i:Int)+1)=(i:Int)+1:=by rw[IntKind.wrap_i64];omega
 have hb1:(0:Int)≤(i:Int)+1:=by omega
 have hin:i≤n:=by omega
 have htn:((i:Int)+1).toNat=i+1:=by omega
 have hb3:(i:Int)≤(n:Int):=by omega
 have hz3:(c:Int)<(n:Int)+1:=by omega
 clear hkk
 subst hW1
 have hA:=hcpA (w.alloc (.cells ROW 42)).drew rfl
 have hB:=hcpB ((w.alloc (.cells ROW 42)).drew.setRow w.heap.size (zaa ROW.toList (i*6) x).toArray).drew rfl
 go_enter Try.func27,Try.ntmps27
 go_wp2_with (first
  | (at_builtin;refine Lib.wpList_append_run _ rfl _ _ _ _ rfl _ _ rfl rfl _ _ (hrz _) ?_)
  | simp only[hA])
 go_region_law_o (refine step_copy_runI rfl _ _ 24 24 rfl _ _ (by simp[Act.eval,Act.put]) (by simp[Act.eval,Act.put]) (hB _ _ _) ?_)
 go_wp2
 go_ret
 have g1:(w.alloc (.cells ROW 42)).drew.heap[w.heap.size]? = some (.cells ROW 42 (0,0)):=hg1
 refine⟨G,ROW.toList,rfl,hGn,hGm,by rw[Array.length_toList];exact hRl,hRt,setRow_heap _ w.heap.size _ _ _ (0,0) (setRow_heap _ w.heap.size _ _ _ (0,0) g1),rfl,rfl,rfl,?_,fun k hk _ => ?_⟩
 ·simp[World.setRow]
 ·exact(setRow_other _ w.heap.size k _ (by omega)).trans ((setRow_other _ w.heap.size k _ (by omega)).trans (ho1 k hk))
theorem zdj {P:Program} (w:World) (t ty e:TypeId) (i:TypeInfo) (ht:P.underlying t=some (.slice e)) (hi:P.info? e=some i) (sz:Nat) (hs:i.size=sz) (g n c:Nat) (a:Addr) (m mc:Nat) (cur:Array Value) (t0:TypeId) (x:List Value)
 (hg:w.heap[g]? = some (.cells cur t0 (0,0))) (hx:x.length=m*sz) (hsrc:∀j v,x[j]? = some v→w.cell? (a.add j)=some v) (h1:∀v∈x,v.oneCell'=true) (hroom:n+m≤c) (hfit:n*sz+x.length≤cur.size) :
 (Builtin.append_ #[t,t] ty #[.slice (some ⟨g,0,none⟩) n c,.slice (some a) m mc]).run P w = .ok (.slice (some ⟨g,0,none⟩) (n+m) c) (w.setRow g (zaa cur.toList (n*sz) x).toArray):=by
 have hst:=run_storeCells_at P g (n*sz) t0 x 0 cur w hg (by simpa using hfit) h1
 have hsp:cur.toList.take (n*sz+0)++x++cur.toList.drop (n*sz+0+x.length)=zaa cur.toList (n*sz) x:=by unfold zaa;simp
 rw[hsp]at hst
 subst hs
 have S:=Src.ofSlice (size:=i.size) w ht a m mc x hx hsrc h1
 simp[Builtin.append_,run_underlying ht,sizeOf,typeInfo,hi,S.len,hroom,S.cells,Addr.add_lit,hst]
theorem zmw (b n c vb vc:Nat) (cur:Array Value) (t0:TypeId) (x:List Value) (w:World) (hroom:n+1≤c) (hc63:c≤9223372036854775807)
 (hg:w.heap[b]? = some (.cells cur t0 (0,0))) (hcur:cur.size=c*6) (hx:x.length=6)
 (hvs:∀j v,x[j]? = some v→w.cell? ⟨vb,j,none⟩=some v) (h1v:∀v∈x,v.oneCell'=true) :
 Calls Try.prog 27 #[.slice (some ⟨b,0,none⟩) n c,.int .i64 n,.slice (some ⟨vb,0,none⟩) 1 vc] w fun e w' =>
  e = .returned (.slice (some ⟨b,0,none⟩) (n+1) c)∧w'=w.setRow b (zaa cur.toList (n*6) x).toArray:=by
 obtain⟨i0,z,hi0,hz0,hzs,hzb,hzc⟩:=zc2
 have hr:∀ty,(Builtin.append_ #[24,24] ty #[.slice (some ⟨b,0,none⟩) n c,.slice (some ⟨vb,0,none⟩) 1 vc]).run Try.prog w=_:=fun ty =>
  zdj w 24 ty 42 i0 Try.underlying24 hi0 6 hzs b n c ⟨vb,0,none⟩ 1 vc cur t0 x hg (by omega) (fun j v hj=>by rw[Addr.add_lit,Nat.zero_add];exact hvs j v hj) h1v hroom (by omega)
 go_enter Try.func27,Try.ntmps27
 go_wp2_with (at_builtin;refine Lib.wpList_append_run _ rfl _ _ _ _ rfl _ _ rfl rfl _ _ (hr _) ?_)
 all_goals(go_ret;exact⟨rfl,rfl⟩)
theorem zik (base:Option Addr) (n c vb vc:Nat) (cs x:List Value) (w:World) (hnc:n≤c) (hroom:c<n+1) (hbig:(n+1)*64≤140737488355328)
 (hcs:cs.length=n*6) (hx:x.length=6) (hnil:base=none→n=0)
 (hcell:∀a,base=some a→∀j v,cs[j]? = some v→w.cell? (a.add j)=some v)
 (hvs:∀j v,x[j]? = some v→w.cell? ⟨vb,j,none⟩=some v) (h1v:∀v∈x,v.oneCell'=true) :
 Calls Try.prog 27 #[.slice base n c,.int .i64 n,.slice (some ⟨vb,0,none⟩) 1 vc] w fun e w' =>
  ∃G,e = .returned (.slice (some ⟨w.heap.size,0,none⟩) (n+1) G)∧n+1≤G∧G≤maxLen∧∃ROW:Array Value,w'=w.drew.alloc (.cells ((cs++x).toArray++ROW) 42)∧ROW.size=(G-(n+1))*6:=by
 obtain⟨i0,z,hi0,hz0,hzs,hzb,hzc⟩:=zc2
 have S:Src Try.prog i0.size 24 (.slice (some ⟨vb,0,none⟩) 1 vc) 1 x w:=by
  rw[hzs]
  exact Src.ofSlice w Try.underlying24 ⟨vb,0,none⟩ 1 vc x (by omega) (fun j v hj=>by rw[Addr.add_lit,Nat.zero_add];exact hvs j v hj) h1v
 have hold:(Builtin.firstCells i0.size n (.slice base n c)).run Try.prog w.drew = .ok cs.toArray w.drew:=by
  rw[hzs]
  cases base with
  | none =>
   have h0:=hnil rfl
   subst h0
   rw[List.length_eq_zero_iff.1 (by omega:cs.length=0)]
   exact run_firstCells_none w.drew 6 0 0 c
  | some a=>exact run_firstCells_some w.drew 6 n a n c cs hcs (fun j v hj=>hcell a rfl j v hj)
 have hGn:n+1≤grownCap w (n+1) c 42:=grownCap_ge w _ _ _
 have hGm:grownCap w (n+1) c 42≤maxLen:=grownCap_le_maxLen w (n+1) c 42 (by unfold maxLen;omega)
 have hzz:(Builtin.zeroCells z.cells (grownCap w (n+1) c 42-(n+1))).size=(grownCap w (n+1) c 42-(n+1))*6:=by rw[size_zeroCells,hzc]
 have hr:∀ty,(Builtin.append_ #[24,24] ty #[.slice base n c,.slice (some ⟨vb,0,none⟩) 1 vc]).run Try.prog w = .ok (.slice (some ⟨w.heap.size,0,none⟩) (n+1) (grownCap w (n+1) c 42)) (w.drew.alloc (.cells ((cs++x).toArray++Builtin.zeroCells z.cells (grownCap w (n+1) c 42-(n+1))) 42)):=fun ty =>
  run_append_grow_src w 24 24 ty 42 i0 z Try.underlying24 hi0 hz0 base n c cs hold _ 1 x S hroom (by omega) (by rw[hzb];exact growslice_fits hroom hbig)
 obtain⟨G,hG⟩:∃G,G=grownCap w (n+1) c 42:=⟨_,rfl⟩
 rw[←hG]at hr hGn hGm hzz
 obtain⟨ROW,hROW⟩:∃ROW,ROW=Builtin.zeroCells z.cells (G-(n+1)):=⟨_,rfl⟩
 rw[←hROW]at hr hzz
 have H:=PLift.up (And.intro hGn (And.intro hGm hzz))
 clear hG hROW hGn hGm hzz hold S
 go_enter Try.func27,Try.ntmps27
 cases base with
 | none =>
  have h0:=hnil rfl
  subst h0
  go_wp2_with (at_builtin;refine Lib.wpList_append_run _ rfl _ _ _ _ rfl _ _ rfl rfl _ _ (hr _) ?_)
  all_goals(go_ret;exact⟨G,rfl,H.down.1,H.down.2.1,ROW,rfl,H.down.2.2⟩)
 | some a =>
  obtain⟨ab,ao,asp⟩:=a
  go_wp2_with (at_builtin;refine Lib.wpList_append_run _ rfl _ _ _ _ rfl _ _ rfl rfl _ _ (hr _) ?_)
  all_goals(go_ret;exact⟨G,rfl,H.down.1,H.down.2.1,ROW,rfl,H.down.2.2⟩)
def zlq (w:World) (own:Option Nat) (n:Nat) (vals:List Value) (v':Value) (w':World):Prop :=
 w'.ownsRow 0 42 6 v' n vals∧w.grownBy w' own∧(v'.ownBlock=own∨∀q,v'.ownBlock=some q→w.heap.size≤q)
theorem zb4 {α : Type} (A B:List α) (k:Nat) (h:A.length=k):(A++B).take k=A:=by subst h;exact List.take_left
theorem zm6 {α : Type} (A B:List α) (k:Nat) (h:A.length=k):(A++B).drop k=B:=by subst h;exact List.drop_left
theorem zk1 (w:World) (v0:Value) (n:Nat) (cs x:List Value) (hown:w.ownsRow 0 42 6 v0 n cs) (h1c:∀v∈cs,v.oneCell'=true) (i:Nat) (hi:i≤n) (hsm:n≤1000000) (vb c1:Nat) (cur1:Array Value) (T1:TypeId) (hv:w.heap[vb]? = some (.cells cur1 T1 (0,0))) (hx:x.length=6) (hxc:∀(j:Nat) (v:Value),x[j]? = some v→cur1[j]? = some v) (hx1:∀v∈x,v.oneCell'=true) (hne:v0.ownBlock≠some vb) :
 Calls Try.prog 27 #[v0,.int .i64 i,.slice (some ⟨vb,0,none⟩) 1 c1] w fun e w'=>∃v',e = .returned v'∧zlq w v0.ownBlock (n+1) (cs.take (i*6)++x++cs.drop (i*6)) v' w':=by
 have hvs:∀j v,x[j]? = some v→w.cell? ⟨vb,j,none⟩=some v:=fun j v hj=>by
  have:=hxc j v hj
  simp[World.cell?,hv,this]
 have hvw:vb<w.heap.size:=(Array.getElem?_eq_some_iff.1 hv).1
 have hlcs:=hown.1
 have hlen:(cs.take (i*6)++x++cs.drop (i*6)).length=(n+1)*6:=by
  simp only[List.length_append,List.length_take,List.length_drop];omega
 rcases hown.2 with ⟨rfl,hn⟩|⟨b,cap,cur,rfl,_,hg,hnc,hcm,hcs,htake⟩
 ·subst hn
  obtain rfl:i=0:=by omega
  have hc0:cs = []:=List.eq_nil_of_length_eq_zero (by omega)
  subst hc0
  refine(zik none 0 0 vb c1 [] x w (by omega) (by omega) (by omega) rfl hx (fun _=>rfl) (by simp) hvs hx1).mono ?_
  rintro e w' ⟨G,rfl,g1,g2,ROW,rfl,g3⟩
  refine⟨_,rfl,⟨hlen,.inr ⟨w.heap.size,G,_,rfl,Nat.zero_le _,heap_alloc_new w.drew _,g1,g2,by simp[g3,hx];omega,?_⟩⟩,⟨rfl,rfl,rfl,by show w.heap.size≤(w.heap.push _).size;simp,fun k hk _=>heap_alloc_old w.drew _ hk⟩,.inr fun q hq=>by simp[Value.ownBlock]at hq;omega⟩
  simp only[Array.toList_append,List.nil_append]
  rw[zb4 _ _ _ (by simp[hx])]
  simp
 ·have hbw:b<w.heap.size:=(Array.getElem?_eq_some_iff.1 hg).1
  have hcell:∀j v,cs[j]? = some v→w.cell? ⟨b,j,none⟩=some v:=by
   intro j v hj
   have:=hown.cells (g:=b) rfl j v hj
   rwa [Addr.add_lit,Nat.zero_add]at this
  have hcurl:cur.toList.length=cap*6:=by rw[Array.length_toList];exact hcs
  have htk:∀k,k≤n*6→cur.toList.take k=cs.take k:=fun k hk=>by rw[←htake,List.take_take,Nat.min_eq_left hk]
  have hti:(cs.take (i*6)).length=i*6:=by rw[List.length_take];omega
  have hdl:(cs.drop (i*6)).length=(n-i)*6:=by rw[List.length_drop];omega
  have inplace:∀(W:World) (L:List Value),L.length=cap*6→L.take ((n+1)*6)=cs.take (i*6)++x++cs.drop (i*6)→n+1≤cap→W.heap[b]? = some (.cells L.toArray 42 (0,0))→W.os=w.os→W.tape=w.tape→W.output=w.output→W.heap.size=w.heap.size→(∀k,k≠b→W.heap[k]? = w.heap[k]?)→zlq w (some b) (n+1) (cs.take (i*6)++x++cs.drop (i*6)) (.slice (some ⟨b,0,none⟩) (n+1) cap) W:=by
   intro W L e1 e2 e3 e4 e5 e6 e7 e8 e9
   exact⟨⟨hlen,.inr ⟨b,cap,L.toArray,rfl,Nat.zero_le _,e4,e3,hcm,by simpa using e1,by simpa using e2⟩⟩,⟨e5,e6,e7,by omega,fun k _ hk=>e9 k fun h=>hk (by rw[h])⟩,.inl rfl⟩
  by_cases hroom:n+1≤cap
  ·by_cases hin:i<n
   ·have hvb:vb≠b:=fun h=>hne (by rw[h];rfl)
    have nofv:∀j,w.frozen? ⟨vb,j,none⟩=false:=by
     intro j
     simp only[World.frozen?,hv]
     simp
    refine(zk0 b n cap i vb c1 cur _ cs x w hin hroom (by unfold maxLen at hcm;omega) hvb hg hlcs hcs hx hcell hvs h1c hx1 T1 cur1.size (by simp[World.shape?,hv]) (nofv _) (nofv _)).mono ?_
    rintro e w' ⟨rfl,rfl⟩
    refine⟨_,rfl,?_⟩
    have l1:(zaa cur.toList ((i+1)*6) (cs.drop (i*6))).length=cap*6:=by rw[zad _ _ _ (by rw[hdl,hcurl];omega),hcurl]
    refine inplace _ (zaa (zaa cur.toList ((i+1)*6) (cs.drop (i*6))) (i*6) x) (by rw[zad _ _ _ (by rw[hx,l1];omega),l1]) ?_ hroom (setRow_heap _ b _ _ _ (0,0) (setRow_heap w.drew b _ _ _ (0,0) hg)) rfl rfl rfl (by simp[World.setRow]) fun k hk=>(setRow_other _ b k _ hk).trans (setRow_other w.drew b k _ hk)
    have s1:(zaa cur.toList ((i+1)*6) (cs.drop (i*6))).take (i*6)=cs.take (i*6):=by
     unfold zaa
     rw[List.take_append_of_le_length (by rw[List.length_take,hcurl];omega),List.take_take,Nat.min_eq_left (by omega),htk _ (by omega)]
    have s2:(zaa cur.toList ((i+1)*6) (cs.drop (i*6))).drop (i*6+x.length)=cs.drop (i*6)++cur.toList.drop ((i+1)*6+(cs.drop (i*6)).length):=by
     unfold zaa
     exact zm6 _ _ _ (by rw[List.length_take,hcurl,hx];omega)
    show (List.take (i*6) (zaa cur.toList ((i+1)*6) (cs.drop (i*6)))++(x++List.drop (i*6+x.length) (zaa cur.toList ((i+1)*6) (cs.drop (i*6))))).take _=_
    rw[s1,s2,←List.append_assoc,←List.append_assoc]
    exact zb4 _ _ _ hlen
   ·obtain rfl:i=n:=by omega
    have hd0:cs.drop (i*6) = []:=List.drop_eq_nil_of_le (by omega)
    have ht0:cs.take (i*6)=cs:=List.take_of_length_le (by omega)
    refine(zmw b i cap vb c1 cur _ x w hroom (by unfold maxLen at hcm;omega) hg hcs hx hvs hx1).mono ?_
    rintro e w' ⟨rfl,rfl⟩
    refine⟨_,rfl,?_⟩
    refine inplace _ (zaa cur.toList (i*6) x) (by rw[zad _ _ _ (by rw[hx,hcurl];omega),hcurl]) ?_ hroom (setRow_heap w b _ _ _ (0,0) hg) rfl rfl rfl (by simp[World.setRow]) fun k hk=>setRow_other w b k _ hk
    unfold zaa
    rw[htk _ (by omega),←List.append_assoc,hd0,List.append_nil]
    exact zb4 _ _ _ (by simp only[List.length_append];omega)
  ·by_cases hin:i<n
   ·refine(zmx b n cap i vb c1 cs x w hin hnc (by omega) (by omega) hlcs hx hbw hvw hcell hvs h1c hx1).mono ?_
    rintro e w' ⟨G,ROW,rfl,g1,g2,g3,g4,g5,g6⟩
    have l1:(zaa ROW (i*6) x).length=G*6:=by rw[zad _ _ _ (by rw[hx,g3];omega),g3]
    refine⟨_,rfl,⟨hlen,.inr ⟨w.heap.size,G,_,rfl,Nat.zero_le _,g5,g1,g2,by simp only[List.size_toArray];rw[zad _ _ _ (by rw[hdl,l1];omega),l1],?_⟩⟩,⟨g6.os,g6.tape,g6.output,g6.size,fun k hk _=>g6.block k hk (by simp)⟩,.inr fun q hq=>by simp[Value.ownBlock]at hq;omega⟩
    have s1:(zaa ROW (i*6) x).take ((i+1)*6)=cs.take (i*6)++x:=by
     unfold zaa
     rw[g4,←List.append_assoc]
     exact zb4 _ _ _ (by simp only[List.length_append];omega)
    show (List.take ((i+1)*6) (zaa ROW (i*6) x)++(cs.drop (i*6)++List.drop ((i+1)*6+(cs.drop (i*6)).length) (zaa ROW (i*6) x))).take _=_
    rw[s1,←List.append_assoc]
    exact zb4 _ _ _ hlen
   ·obtain rfl:i=n:=by omega
    have hd0:cs.drop (i*6) = []:=List.drop_eq_nil_of_le (by omega)
    have ht0:cs.take (i*6)=cs:=List.take_of_length_le (by omega)
    refine(zik (some ⟨b,0,none⟩) i cap vb c1 cs x w hnc (by omega) (by omega) hlcs hx (by simp) (fun a ha j v hj=>by cases ha;rw[Addr.add_lit,Nat.zero_add];exact hcell j v hj) hvs hx1).mono ?_
    rintro e w' ⟨G,rfl,g1,g2,ROW,rfl,g3⟩
    refine⟨_,rfl,⟨hlen,.inr ⟨w.heap.size,G,_,rfl,Nat.zero_le _,heap_alloc_new w.drew _,g1,g2,by simp[g3,hx,hlcs];omega,?_⟩⟩,⟨rfl,rfl,rfl,by show w.heap.size≤(w.heap.push _).size;simp,fun k hk _=>heap_alloc_old w.drew _ hk⟩,.inr fun q hq=>by simp[Value.ownBlock]at hq;omega⟩
    rw[hd0,ht0,List.append_nil]
    simp only[Array.toList_append]
    exact zb4 _ _ _ (by simp only[List.length_append];omega)
end Go.Proofs.Ytmjbgbmegbkmhaa
namespace Go.Proofs.Ytmjbgbmegbkmhaa
set_option linter.all false
open Go.RowKit
theorem zol {P : Program} {f : FuncId} {fn : Func} {c : Code} {args : List AV} {hs hs' : List Chunk} {r : AV} (hf : P.funcs[f]? = some fn) (hb : fn.body = some c) (hn : (fn.name == "runtime.NumGoroutine") = false) (hmix : P.follows .mixedOrders = true)
 (nt:Nat) (hnt:nt=args.length+(fn.ntmps-args.length)) (rs:List ResultVar) (hrs:fn.results=rs.toArray) (hle:hs.length≤hs'.length)
 (h:awp P nt hs.length c (zrc P hs.length rs r hs') ⟨zfx 0 args,hsT 0 hs,hs.length⟩):Spec P f args hs r hs' :=
 zok hf hb hn (fun _ _ _ _ _ _ _ _ id hx C=>zm7 hmix id hx C) nt hnt rs hrs hle h
section
variable {k : Nat} {b : Bool} {X Y : (Exit → St → Prop) → St → Prop} {Q : Exit → St → Prop} {s : St}
theorem ze2 (h1:b=true→X Q s) (h2:b=false→Y Q s):zlr k (.c (.v (.bool b))) X Y Q s := .inl ⟨h1,h2⟩
theorem zhk {s':St} (ht:ToK k s s') (h1:b=true→X Q s') (h2:b=false→Y Q s'):zlr k (.c (.v (.bool b))) X Y Q s := .inr (.inr ⟨s',ht,h1,h2⟩)
end
theorem zo9 {α : Type} {k:Nat} {S : α → St} {Pr : α → Prop} {Q:Exit→St→Prop} {s:St} : zkv k S Pr Q .normal s=∃y,Pr y∧ToK k s (S y):=rfl
theorem zpa {α : Type} {k:Nat} {S : α → St} {Pr : α → Prop} {Q:Exit→St→Prop} {s:St} {i:Nat} : zkv k S Pr Q (.exit i) s=Q (.exit i) s:=rfl
theorem zo8 {α : Type} {k:Nat} {S : α → St} {Pr : α → Prop} {Q:Exit→St→Prop} {s:St} : zkv k S Pr Q .ret s=Q .ret s:=rfl
section
variable {P : Program} {f : FuncId} {args args' : List AV} {h : Nat → Chunk} {m : Nat} {K : Eff → Prop} {r : AV}
theorem znc (S:Spec P f args' [] r []) (hw:WkL (cvL [] noC args) args') (k:K ⟨up [] m r,[],0⟩):zho P f args h m K :=
 ⟨_,.inl ⟨[],args',[],r,[],List.nodup_nil,hw,rfl,by simp,S,rfl⟩,k⟩
theorem znd (S:Spec P f args' [] r []) (hw:WkL (cvL [] h args) args') (hr:zpu r=true) (k:K ⟨r,[],0⟩):zho P f args h m K :=
 ⟨_,.inr ⟨args',r,hr,hw,S,rfl⟩,k⟩
theorem zrp {hs hs':List Chunk} (ids:List Nat) (S:Spec P f args' hs r hs') (hw:WkL (cvL ids noC args) args') (hh:hs=ids.map (fun id=>cvC ids noC (h id))) (hnd:ids.Nodup) (hal:∀id∈ids,h id ≠ .dead) (k:K ⟨up ids m r,zjo ids m 0 hs',hs'.length-ids.length⟩):zho P f args h m K :=
 ⟨_,.inl ⟨ids,args',hs,r,hs',hnd,hw,hh,hal,S,rfl⟩,k⟩
variable {c : Bool} {φ : Prop}
theorem znw (S:c=true→Spec P f args' [] r []) (hw:WkL (cvL [] noC args) args') (hφ : c=true → φ) (k:K ⟨.opt c (up [] m r),[],0⟩):zjh P c f args φ h m K :=
 .inl ⟨_,fun hc=>⟨hφ hc,.inl ⟨[],args',[],r,[],List.nodup_nil,hw,rfl,by simp,S hc,rfl⟩⟩,k⟩
theorem zqo (S:c=true→Spec P f args' [] r []) (hw:WkL (cvL [] h args) args') (hr:zpu r=true) (hφ : c=true → φ) (k:K ⟨.opt c r,[],0⟩):zjh P c f args φ h m K :=
 .inl ⟨_,fun hc=>⟨hφ hc,.inr ⟨args',r,hr,hw,S hc,rfl⟩⟩,k⟩
end
def lpK {α : Type} (k:Nat) (S : α → St) (Pr : α → Prop) (μ : α → Nat) (x : α) (Q:Exit→St→Prop):Exit→St→Prop:=fun e s'=>match e with
 | .normal=>∃y,Pr y ∧ μ y < μ x∧ToK k s' (S y)
 | e=>Q e s'
theorem zdl {k:Nat} {A:(Exit→St→Prop)→St→Prop} {Q:Exit→St→Prop} {s:St} {α : Type} (S : α → St) (Pr : α → Prop) (μ : α → Nat) (x : α) (hx:Pr x) (h0:ToK k s (S x))
 (hr:∀x,Pr x→A (lpK k S Pr μ x Q) (S x)):zq4 k A Q s:=⟨α,S,Pr,μ,⟨x,hx,h0⟩,hr⟩
theorem zrh {α : Type} {k:Nat} {S : α → St} {Pr : α → Prop} {μ : α → Nat} {x : α} {Q:Exit→St→Prop} {s:St} : lpK k S Pr μ x Q .normal s=∃y,Pr y ∧ μ y < μ x∧ToK k s (S y):=rfl
theorem zri {α : Type} {k:Nat} {S : α → St} {Pr : α → Prop} {μ : α → Nat} {x : α} {Q:Exit→St→Prop} {s:St} {i:Nat} : lpK k S Pr μ x Q (.exit i) s=Q (.exit i) s:=rfl
theorem zrg {α : Type} {k:Nat} {S : α → St} {Pr : α → Prop} {μ : α → Nat} {x : α} {Q:Exit→St→Prop} {s:St} : lpK k S Pr μ x Q .ret s=Q .ret s:=rfl
theorem ToK.trans {k:Nat} {s s' s'':St} (h:ToK k s s') (h':ToK k s' s''):ToK k s s'':=by
 intro H F β a w hk C
 obtain⟨F',β',C'⟩:=h H F β a w hk C
 exact h' H F' β' a w hk C'
theorem To.nil {k:Nat} {s:St} (t e sz:Nat) (ht:za3 s.t t = .c (.v (.slice none 0 0))):ToK k s ⟨(t,.own s.n)::s.t,(s.n,.row e sz [])::s.h,s.n+1⟩:=by
 intro H F β a w hk C
 have hb0:∀bd,β s.n≠some bd:=fun bd hb=>absurd (C.m.used _ bd hb) (Nat.lt_irrefl _)
 obtain⟨M,E⟩:=C.m.step (w':=w) (h':=zab ((s.n,.row e sz [])::s.h)) (β':=zaf β s.n (some ⟨.slice none 0 0,none,0,sz,[]⟩)) (F':=F) (U':=(· < s.n+1)) (fun i=>i=s.n)
  (fun i hi=>by simp[zaf,Ne.symm hi]) (fun i hi=>by simp[zab,Ne.symm hi]) rfl rfl rfl (Nat.le_refl _) (fun _ _ _=>rfl) (fun i hi=>Nat.lt_succ_of_lt hi) (fun b hb=>hb)
  (fun b hb=>⟨C.m.fin b hb,.inl hb⟩) (fun i bd' hi hu=>by subst hi;exact absurd hu (Nat.lt_irrefl _))
  (fun i bd' hi hb=>by
   subst hi
   simp only[zaf,if_true,Option.some.injEq]at hb
   subst hb
   exact⟨Nat.lt_succ_self _,fun b hb=>by have:=Bind.has_nil hb;simp at this⟩)
  (fun i j _ _ _ hi hj _ _ _ _=>by rw[hi,hj])
  (fun E i hi _=>by
   subst hi
   refine⟨⟨.slice none 0 0,none,0,sz,[]⟩,by simp[zaf],?_⟩
   simp only[zab,if_true,ChOk]
   simp)
 refine⟨F,zaf β s.n (some ⟨.slice none 0 0,none,0,sz,[]⟩),fun t' => ?_,M,C.nt,C.d,C.f,C.g,fun i bd' hi hb => ?_,Nat.le_succ_of_le C.k⟩
 ·simp only[za3]
  by_cases h:t=t'
  ·subst h
   rw[if_pos rfl]
   have h1:=C.t t
   rw[ht,relC]at h1
   simp only[RelA]
   rw[h1.1]
   refine⟨Nat.lt_succ_self _,rfl,fun bd hb => ?_⟩
   simp only[zaf,if_true,Option.some.injEq]at hb
   subst hb;rfl
  ·rw[if_neg h];exact RelA.mono E _ _ (C.t t')
 ·refine C.e i bd' hi ?_
  have:s.n≠i:=by have:=C.k;omega
  simpa[zaf,this]using hb
theorem ToK.refl (k:Nat) (s:St):ToK k s s:=fun _ F β _ _ _ C=>⟨F,β,C⟩
theorem zh1 {P:Program} {rs:List ResultVar} {r:AV} {s:St} {φ : Prop} {xs:List AV} (h:zdk P (za3 s.t) (zab s.h) rs=some (φ,xs)) (hφ : φ) (hw:Wk (cv [] (zab s.h) (zmh xs)) r):znj P 0 rs r [] s:=by
 refine⟨s,ToK.refl _ _,[],rfl,List.nodup_nil,trivial,?_⟩
 rw[h]
 exact⟨hφ,hw⟩
theorem zj9 {P:Program} {k:Nat} {rs:List ResultVar} {r:AV} {s:St} {hs':List Chunk} {φ : Prop} {xs:List AV} (ids:List Nat) (h:zdk P (za3 s.t) (zab s.h) rs=some (φ,xs)) (hk:ids.take k=List.range k) (hnd:ids.Nodup) (hh:hsW ids (zab s.h) ids hs') (hφ : φ) (hw:Wk (cv ids (zab s.h) (zmh xs)) r):znj P k rs r hs' s:=by
 refine⟨s,ToK.refl _ _,ids,hk,hnd,hh,?_⟩
 rw[h]
 exact⟨hφ,hw⟩
theorem zeo {P:Program} {k:Nat} {rs:List ResultVar} {r:AV} {s s':St} {hs':List Chunk} (hto:ToK k s s') (h:znj P k rs r hs' s'):znj P k rs r hs' s:=by
 obtain⟨s2,h2,h3⟩:=h
 exact⟨s2,hto.trans h2,h3⟩
theorem zf4 {P:Program} {f:FuncId} (hf:zem P f) (xs:List Value) (v:Value) (hx:v.oneCell'=true) (h:∀w,Calls P f xs.toArray w fun e w'=>e = .returned v∧Below w.heap.size w w'):Spec P f (xs.map fun x => .c (.v x)) [] (.c (.v v)) []:=by
 refine⟨hf,Nat.le_refl _,fun w F β vs M hv => ?_⟩
 have hvs:vs=xs:=by
  have hl:=hv.len
  apply List.ext_getElem?
  intro i
  by_cases hi:i<xs.length
  ·obtain⟨u,hu,hr⟩:=hv.at i (.c (.v xs[i])) (by simp[hi])
   rw[hu,(relC.1 hr).1];simp[hi]
  ·rw[List.getElem?_eq_none (by simp at hl;omega),List.getElem?_eq_none (by omega)]
 subst hvs
 refine(h w).mono ?_
 rintro e w' ⟨rfl,hb⟩
 obtain⟨S1,S2⟩:=M.step (w':=w') (h':=nth []) (β' := β) (F':=F) (U':=(· < 0)) (fun _=>False) (fun _ _=>rfl) (fun _ _=>rfl) hb.os hb.tape hb.output hb.size (fun b h _=>hb.block b h) (fun _ h=>h) (fun _ h=>h)
  (fun b h=>⟨Nat.lt_of_lt_of_le (M.fin b h) hb.size,.inl h⟩) (fun _ _ h=>h.elim) (fun _ _ h=>h.elim) (fun _ _ _ _ _ h=>h.elim) (fun _ _ h=>h.elim)
 exact⟨v,F,β,rfl,S1,relC.2 ⟨rfl,hx⟩,fun _ h=>h,fun _ h => .inl h,fun _ _ _ h=>⟨_,h⟩⟩
theorem zld {P : Program} {f : FuncId} {fn : Func} (hf : P.funcs[f]? = some fn) (hb : fn.body.isSome = true) (hn : (fn.name == "runtime.NumGoroutine") = false) : zem P f := ⟨fn, hf, hb, hn⟩
theorem ze1 (ids:List Nat) (h:Nat→Chunk):∀xs ys,cvL ids h (xs++ys)=cvL ids h xs++cvL ids h ys
 | [],ys=>rfl
 | x::r,ys=>by simp[cvL,ze1 ids h r ys]
theorem zm0 {α : Type} (f : α → List PV) (l:List α) (i:Nat) (h:i<l.length):(l.map f).getD i []=f l[i]:=by simp[h]
theorem zak (x:AV):Wk x x=True:=eq_true (Wk.refl x)
theorem zjf (t p:Bool):zg3 t p false=(t&&p):=by cases t<;>simp[zg3]
theorem zlk (t q:Bool):zg3 t true q=(t||q):=by cases t<;>simp[zg3]
theorem zne (b:Bool):(b=true→b=true)=True:=by simp
theorem zam (n:Int) (h1 : -9223372036854775808≤n) (h2:n≤9223372036854775807):IntKind.i64.wrap n=n:=by rw[IntKind.wrap_i64];omega
theorem zqg (i:Nat):za3 [] i = .undef:=rfl
theorem zqh (k i:Nat) (x:AV) (r:List (Nat × AV)):za3 ((k,x)::r) i=if k=i then x else za3 r i:=rfl
theorem zo4 (i:Nat):zab [] i = .dead:=rfl
theorem zks (k i:Nat) (x:Chunk) (r:List (Nat × Chunk)):zab ((k,x)::r) i=if k=i then x else zab r i:=rfl
theorem Conc.ghost {H:Hist} {s:St} {F F':Nat→Prop} {β β':Nat→Option Bind} {a:Act} {w:World} (C:Conc H s F β a w) {h':List (Nat × Chunk)} {n':Nat} (hn:s.n≤n') (M:MemOk H.W H.N (· < n') F' β' (zab h') w) (E:Ext (· < s.n) F β w (· < n') F' β' w)
 (hg:∀b,F' b→F b∨∃i bd,β i=some bd∧bd.has b):Conc H ⟨s.t,h',n'⟩ F' β' a w:=by
 refine⟨fun t=>RelA.mono E _ _ (C.t t),M,C.nt,C.d.mono E.f,fun b hb=>(E.f b (C.f b hb)).1,fun b hb => ?_,fun i bd hi hb => ?_,Nat.le_trans C.k hn⟩
 ·rcases hg b hb with h|⟨i,bd,h1,h2⟩
  ·exact C.g b h
  ·exact .inr (C.m.off i bd b h1 h2).2.2
 ·obtain⟨bs,h1⟩:=E.e i bd (Nat.lt_of_lt_of_le hi C.k) hb
  exact C.e i ⟨_,_,_,_,bs⟩ hi h1
theorem MemOk.here' {W:World} {N U F:Nat→Prop} {β : Nat→Option Bind} {h:Nat→Chunk} {w:World} (M:MemOk W N U F β h w) {id:Nat} {c:Chunk} (hc:h id=c) (hd:c ≠ .dead):∃bd,β id=some bd∧ChOk U w F β bd c:=M.get (fun _ _=>rfl) hc hd
theorem To.nst {k:Nat} {s:St} (id e sz c e2 sz2:Nat) (xs:List (List PV)) (hc:zab s.h id = .row e sz xs) (hcs:c<sz) (hx:∀x∈xs,x[c]? = some (.v (.slice none 0 0))) :
 ToK k s ⟨s.t,(id,.nst e sz c e2 sz2 xs (List.replicate xs.length []) none)::s.h,s.n⟩:=by
 intro H F β a w hk C
 obtain⟨bd,hb,q1,q2,q3,q4⟩:=C.m.here' hc (by simp)
 have hU:=C.m.used _ _ hb
 obtain⟨S1,S2⟩:=C.m.step (w':=w) (h':=zab ((id,.nst e sz c e2 sz2 xs (List.replicate xs.length []) none)::s.h)) (β' := β) (F':=F) (U':=(· < s.n)) (fun i=>i=id)
  (fun i hi=>rfl) (fun i hi=>by simp only[zab,if_neg (Ne.symm hi)]) rfl rfl rfl (Nat.le_refl _) (fun _ _ _=>rfl) (fun _ h=>h) (fun _ h=>h) (fun b hb=>⟨C.m.fin b hb,.inl hb⟩)
  (fun i bd' _ _ hb'=>⟨_,hb'⟩)
  (fun i bd' hi hb'=>by
   subst hi
   refine⟨hU,fun b hbb => ?_⟩
   have:=C.m.off _ _ b hb' hbb
   exact⟨this.2.1,this.1,.inr ⟨i,bd',rfl,hb',hbb⟩⟩)
  (fun i j _ _ _ hi hj _ _ _ _=>by rw[hi,hj])
  (fun E i hi _=>by
   subst hi
   refine⟨bd,hb,?_⟩
   simp only[zab,if_true]
   refine⟨⟨q1.1,by rw[q1.2];simp⟩,q2,by simp,hcs,q3,?_⟩
   rcases q4 with ⟨h1,h2,h3⟩|⟨g,cap,cur,h5,h6,h7,h8,h9,h10,hE⟩
   ·exact .inl ⟨h1,h2,h3,rfl⟩
   ·refine .inr ⟨g,cap,cur,h5,h6,h7,h8,h9,h10,by rw[q1.2];simp,?_⟩
    have cel:∀i x,xs[i]? = some x→w.cell? ⟨g,i*sz+c,none⟩=some (.slice none 0 0):=by
     intro i x hxi
     obtain⟨_,hC⟩:=hE.at i x hxi
     obtain⟨u,hu,hr⟩:=hC.at c _ (hx x (List.mem_of_getElem? hxi))
     simp only[RelP]at hr
     rw[Nat.zero_add]at hu
     rw[hu,hr.1]
    refine⟨fun i x y hxi hyi j p hp => ?_,fun i i' b o o' n n' k1 k2 l1 l2 _ _ c1 _ => ?_,fun i id' ho=>by simp at ho⟩
    ·obtain⟨_,hC⟩:=hE.at i x hxi
     obtain⟨u,hu,hr⟩:=hC.at j p hp
     refine⟨u,by simpa using hu,?_⟩
     unfold NCell
     simp only[zce]
     split
     ·rename_i hj
      subst hj
      have:=cel i x hxi
      rw[Nat.zero_add,this]at hu
      cases hu
      exact .inl ⟨rfl,(List.eq_of_mem_replicate (List.mem_of_getElem? hyi))⟩
     ·exact hr
    ·rw[cel i xs[i] (by simp[l1])]at c1
     simp at c1)
 exact⟨F,β,C.ghost (Nat.le_refl _) S1 S2 fun b hb => .inl hb⟩
theorem To.open {k:Nat} {s:St} (id i e sz c e2 sz2:Nat) (xs:List (List PV)) (ys:List (List (List PV))) (hc:zab s.h id = .nst e sz c e2 sz2 xs ys none) (hi:i<xs.length) :
 ToK k s ⟨s.t,(id,.nst e sz c e2 sz2 xs ys (some (i,s.n)))::(s.n,.row e2 sz2 (ys.getD i []))::s.h,s.n+1⟩:=by
 intro H F β a w hk C
 obtain⟨bd,hb,q1,q2,q3,q4,q5,q6⟩:=C.m.here' hc (by simp)
 have hU:=C.m.used _ _ hb
 have hne:id≠s.n:=Nat.ne_of_lt hU
 have hb0:∀bd,β s.n≠some bd:=fun bd hb=>absurd (C.m.used _ bd hb) (Nat.lt_irrefl _)
 rcases q6 with ⟨_,rfl,_⟩|⟨g,cap,cur,h5,h6,h7,h8,h9,h10,h11,h12⟩
 ·simp at hi
 have hyi:i<ys.length:=by rw[q3];exact hi
 have hxi:xs[i]? = some xs[i]:=by simp[hi]
 have hyd:ys[i]? = some (ys.getD i []):=by simp[hyi]
 have hxl:xs[i].length=sz:=q5 _ (List.getElem_mem hi)
 obtain⟨u,hu,hn⟩:=h12.cells i _ _ hxi hyd c (xs[i][c]'(by rw[hxl];exact q4)) (by simp)
 have hn:InnOk w F bd.bs e2 sz2 (ys.getD i []) u:=by
  unfold NCell at hn
  simpa only[zce,if_true]using hn
 -- the new piece
 obtain⟨bn,rest,e1,e2',e3,e4,e5,e6⟩:∃(bn:Bind) (rest:List Nat),bn.v=u∧ChOk (· < s.n+1) w F (zaf (zaf β id (some ⟨bd.v,bd.b,bd.n,bd.sz,rest⟩)) s.n (some bn)) bn (.row e2 sz2 (ys.getD i []))∧(∀b,bn.has b→b∈bd.bs∧b∉rest)∧(∀b,b∈rest→b∈bd.bs) ∧
  (∀b,b∈bd.bs→(∀o n q,u ≠ .slice (some ⟨b,o,none⟩) n q)→b∈rest)∧bn.bs = []:=by
  rcases hn with ⟨rfl,hy⟩|⟨g2,cap2,cur2,rfl,k2,k3,k4,k5,k6,k7⟩
  ·refine⟨⟨.slice none 0 0,none,0,sz2,[]⟩,bd.bs,rfl,?_,fun b hbb=>by have:=Bind.has_nil hbb;simp at this,fun b h=>h,fun b h _=>h,rfl⟩
   rw[hy]
   exact⟨⟨rfl,rfl⟩,rfl,by simp,.inl ⟨rfl,rfl,rfl⟩⟩
  ·refine⟨⟨.slice (some ⟨g2,0,none⟩) (ys.getD i []).length cap2,some g2,(ys.getD i []).length,sz2,[]⟩,bd.bs.filter (fun b => !(b == g2)),rfl,?_,fun b hbb => ?_,fun b h=>(List.mem_filter.1 h).1,fun b h hno => ?_,rfl⟩
   ·refine⟨⟨rfl,rfl⟩,rfl,fun cs hcs => ?_,.inr ⟨g2,cap2,cur2,rfl,rfl,k3,k4,k5,k6,k7⟩⟩
    obtain⟨q,hq⟩:=List.getElem?_of_mem hcs
    exact(k7.at q cs hq).1
   ·have:=Bind.has_nil hbb
    cases this
    exact⟨k2,by simp⟩
   ·refine List.mem_filter.2 ⟨h,?_⟩
    simp only[Bool.not_eq_true',beq_eq_false_iff_ne,ne_eq]
    rintro rfl
    exact hno _ _ _ rfl
 obtain⟨S1,S2⟩:=C.m.step (w':=w) (h':=zab ((id,.nst e sz c e2 sz2 xs ys (some (i,s.n)))::(s.n,.row e2 sz2 (ys.getD i []))::s.h)) (β':=zaf (zaf β id (some ⟨bd.v,bd.b,bd.n,bd.sz,rest⟩)) s.n (some bn)) (F':=F) (U':=(· < s.n+1)) (fun i=>i=id∨i=s.n)
  (fun j hj=>by simp only[not_or]at hj;simp only[zaf,if_neg (Ne.symm hj.1),if_neg (Ne.symm hj.2)])
  (fun j hj=>by simp only[not_or]at hj;simp only[zab,if_neg (Ne.symm hj.1),if_neg (Ne.symm hj.2)])
  rfl rfl rfl (Nat.le_refl _) (fun _ _ _=>rfl) (fun _ h=>Nat.lt_succ_of_lt h) (fun _ h=>h) (fun b hb=>⟨C.m.fin b hb,.inl hb⟩)
  (fun j bd' hj hu hb'=>by
   rcases hj with rfl|rfl
   ·simp only[zaf,if_neg (Ne.symm hne),if_true,Option.some.injEq]at hb'
    subst hb'
    exact⟨bd.bs,hb⟩
   ·exact absurd hu (Nat.lt_irrefl _))
  (fun j bd' hj hb'=>by
   rcases hj with rfl|rfl
   ·simp only[zaf,if_neg (Ne.symm hne),if_true,Option.some.injEq]at hb'
    subst hb'
    refine⟨Nat.lt_succ_of_lt hU,fun b hbb => ?_⟩
    have hbb':bd.has b:=hbb.imp id (e4 b)
    have:=C.m.off _ _ b hb hbb'
    exact⟨this.2.1,this.1,.inr ⟨j,bd,.inl rfl,hb,hbb'⟩⟩
   ·simp only[zaf,if_true,Option.some.injEq]at hb'
    subst hb'
    refine⟨Nat.lt_succ_self _,fun b hbb => ?_⟩
    have hbb':bd.has b := .inr (e3 b hbb).1
    have:=C.m.off _ _ b hb hbb'
    exact⟨this.2.1,this.1,.inr ⟨id,bd,.inl rfl,hb,hbb'⟩⟩)
  (fun j j' bj bj' b hj hj' hbj hbj' h1 h2=>by
   have key:∀b,(⟨bd.v,bd.b,bd.n,bd.sz,rest⟩:Bind).has b→bn.has b→False:=by
    intro b h1 h2
    obtain⟨m1,m2⟩:=e3 b h2
    rcases h1 with h1|h1
    ·rw[h5]at h1;cases h1;exact h11 m1
    ·exact m2 h1
   rcases hj with rfl|rfl<;>rcases hj' with rfl|rfl
   ·rfl
   ·simp only[zaf,if_neg (Ne.symm hne),if_true,Option.some.injEq]at hbj hbj'
    subst hbj hbj'
    exact(key b h1 h2).elim
   ·simp only[zaf,if_neg (Ne.symm hne),if_true,Option.some.injEq]at hbj hbj'
    subst hbj hbj'
    exact(key b h2 h1).elim
   ·rfl)
  (fun E j hj _=>by
   rcases hj with rfl|rfl
   ·refine⟨⟨bd.v,bd.b,bd.n,bd.sz,rest⟩,by simp[zaf,Ne.symm hne],?_⟩
    simp only[zab,if_true]
    refine⟨⟨q1.1,fun b hbb=>q1.2 b (e4 b hbb)⟩,q2,q3,q4,q5,.inr ⟨g,cap,cur,h5,h6,h7,h8,h9,h10,fun h=>h11 (e4 g h),?_⟩⟩
    refine⟨fun i' x y hx hy j' p hp => ?_,fun i1 i2 b o1 o2 n1 n2 k1 k2 l1 l2 m1 m2 c1 c2=>h12.inj i1 i2 b o1 o2 n1 n2 k1 k2 l1 l2 rfl rfl c1 c2,fun i' id' ho => ?_⟩
    ·obtain⟨u',hu',hn'⟩:=h12.cells i' x y hx hy j' p hp
     refine⟨u',hu',?_⟩
     unfold NCell at hn' ⊢
     split
     ·rename_i hj'
      subst hj'
      simp only[if_true,zce]at hn' ⊢
      by_cases hii:i=i'
      ·subst hii
       rw[hu']at hu
       cases hu
       rw[if_pos rfl]
       refine⟨Nat.lt_succ_self _,hn'.one,fun bd' hbd' => ?_⟩
       simp only[zaf,if_true,Option.some.injEq]at hbd'
       subst hbd'
       exact e1.symm
      ·rw[if_neg hii]
       rcases hn' with h|⟨g3,cap3,cur3,rfl,k2,k3⟩
       ·exact .inl h
       ·refine .inr ⟨g3,cap3,cur3,rfl,e5 g3 k2 fun o n q hq=>hii ?_,k3⟩
        subst hq
        exact h12.inj i i' g3 _ _ _ _ _ _ hi (List.getElem?_eq_some_iff.1 hx).1 rfl rfl hu hu'
     ·rename_i hj'
      rw[if_neg hj']at hn'
      exact hn'
    ·simp only[Option.some.injEq,Prod.mk.injEq]at ho
     obtain⟨rfl,rfl⟩:=ho
     exact⟨Nat.lt_succ_self _,hi⟩
   ·refine⟨bn,by simp[zaf],?_⟩
    simp only[zab,if_neg hne,if_true]
    exact e2')
 exact⟨F,_,C.ghost (Nat.le_succ _) S1 S2 fun b hb => .inl hb⟩
theorem To.close {k:Nat} {s:St} (id i j e sz c e2 sz2:Nat) (xs:List (List PV)) (ys:List (List (List PV))) (zs:List (List PV)) (hc:zab s.h id = .nst e sz c e2 sz2 xs ys (some (i,j))) (hj:zab s.h j = .row e2 sz2 zs) :
 ToK k s ⟨s.t,(id,.nst e sz c e2 sz2 xs (ys.set i zs) none)::(j,.dead)::s.h,s.n⟩:=by
 intro H F β a w hk C
 obtain⟨bd,hb,q1,q2,q3,q4,q5,q6⟩:=C.m.here' hc (by simp)
 obtain⟨bj,hbj,z1,z2,z3,z4⟩:=C.m.here' hj (by simp)
 have hU:=C.m.used _ _ hb
 have hUj:=C.m.used _ _ hbj
 have hne:id≠j:=by rintro rfl;rw[hc]at hj;simp at hj
 rcases q6 with ⟨_,_,_,h⟩|⟨g,cap,cur,h5,h6,h7,h8,h9,h10,h11,h12⟩
 ·simp at h
 have hi:=(h12.opu _ _ rfl).2
 have hoth:∀i',zce (some (i,j)) i'=none→¬i=i':=fun i' h hh=>by simp[zce,hh]at h
 have jb:∀b,bj.b=some b→b∉bd.bs∧b≠g:=fun b hbb=>⟨fun h=>hne (C.m.dis id j bd bj b hb hbj (.inr h) (.inl hbb)),fun h=>hne (C.m.dis id j bd bj b hb hbj (.inl (h▸h5)) (.inl hbb))⟩
 let bd':Bind:=⟨bd.v,bd.b,bd.n,bd.sz,bj.b.toList++bd.bs⟩
 have hin:∀b,b∈bj.b.toList→bj.b=some b:=fun q hq=>by
  cases hb:bj.b with
  | none=>rw[hb]at hq;simp at hq
  | some q'=>rw[hb]at hq;simp at hq;rw[hq]
 have hhas:∀b,bd'.has b→bd.has b∨bj.has b:=by
  intro b hb
  rcases hb with hb|hb
  ·exact .inl (.inl hb)
  ·rcases List.mem_append.1 hb with hb|hb
   ·exact .inr (.inl (hin b hb))
   ·exact .inl (.inr hb)
 obtain⟨S1,S2⟩:=C.m.step (w':=w) (h':=zab ((id,.nst e sz c e2 sz2 xs (ys.set i zs) none)::(j,.dead)::s.h)) (β':=zaf (zaf β id (some bd')) j none) (F':=F) (U':=(· < s.n)) (fun i=>i=id∨i=j)
  (fun j' hj=>by simp only[not_or]at hj;simp only[zaf,if_neg (Ne.symm hj.1),if_neg (Ne.symm hj.2)])
  (fun j' hj=>by simp only[not_or]at hj;simp only[zab,if_neg (Ne.symm hj.1),if_neg (Ne.symm hj.2)])
  rfl rfl rfl (Nat.le_refl _) (fun _ _ _=>rfl) (fun _ h=>h) (fun _ h=>h) (fun b hb=>⟨C.m.fin b hb,.inl hb⟩)
  (fun j' bd0 hj hu hb'=>by
   rcases hj with rfl|rfl
   ·simp only[zaf,if_neg (Ne.symm hne),if_true,Option.some.injEq]at hb'
    subst hb'
    exact⟨bd.bs,hb⟩
   ·simp[zaf]at hb')
  (fun j' bd0 hj hb'=>by
   rcases hj with rfl|rfl
   ·simp only[zaf,if_neg (Ne.symm hne),if_true,Option.some.injEq]at hb'
    subst hb'
    refine⟨hU,fun b hbb => ?_⟩
    rcases hhas b hbb with h|h
    ·have:=C.m.off _ _ b hb h
     exact⟨this.2.1,this.1,.inr ⟨j',bd,.inl rfl,hb,h⟩⟩
    ·have:=C.m.off _ _ b hbj h
     exact⟨this.2.1,this.1,.inr ⟨j,bj,.inr rfl,hbj,h⟩⟩
   ·simp[zaf]at hb')
  (fun j1 j2 b1 b2 b h1 h2 hb1 hb2 _ _=>by
   have only:∀i bi,(i=id∨i=j)→zaf (zaf β id (some bd')) j none i=some bi→i=id:=by
    intro i bi hi hb
    rcases hi with rfl|rfl
    ·rfl
    ·simp[zaf]at hb
   rw[only j1 b1 h1 hb1,only j2 b2 h2 hb2])
  (fun E j' hj' hd=>by
   rcases hj' with rfl|rfl
   ·refine⟨bd',by simp[zaf,Ne.symm hne],?_⟩
    simp only[zab,if_true]
    have cin:InnOk w F bd'.bs e2 sz2 zs bj.v:=by
     rcases z4 with ⟨_,m2,m3⟩|⟨g2,cap2,cur2,m1,m2,m3,m4,m5,m6,m7⟩
     ·exact .inl ⟨m3,m2⟩
     ·exact .inr ⟨g2,cap2,cur2,m2,by simp[bd',m1],m3,m4,m5,m6,m7⟩
    refine⟨⟨q1.1,fun b hbb => ?_⟩,q2,by simp[q3],q4,q5,.inr ⟨g,cap,cur,h5,h6,h7,h8,h9,h10,fun h => ?_,?_⟩⟩
    ·rcases List.mem_append.1 hbb with hbb|hbb
     ·have hbb:=hin b hbb
      rcases z4 with ⟨m1,_⟩|⟨g2,cap2,cur2,m1,m2,m3,_⟩
      ·rw[hbb]at m1;simp at m1
      ·rw[hbb]at m1;cases m1;exact⟨cur2,m3⟩
     ·exact q1.2 b hbb
    ·rcases List.mem_append.1 h with h|h
     ·exact(jb g (hin g h)).2 rfl
     ·exact h11 h
    ·have cellc:∀i',i'<xs.length→∃u,w.cell? ⟨g,i'*sz+c,none⟩=some u∧((i'=i∧u=bj.v)∨(¬i=i'∧∃y,ys[i']? = some y∧InnOk w F bd.bs e2 sz2 y u)):=by
      intro i' hi'
      have hxl:xs[i'].length=sz:=q5 _ (List.getElem_mem hi')
      have hyi:i'<ys.length:=by rw[q3];exact hi'
      obtain⟨u,hu,hn⟩:=h12.cells i' _ _ (List.getElem?_eq_getElem hi') (List.getElem?_eq_getElem hyi) c (xs[i'][c]'(by rw[hxl];exact q4)) (by simp)
      refine⟨u,hu,?_⟩
      unfold NCell at hn
      simp only[if_true,zce]at hn
      by_cases hii:i=i'
      ·rw[if_pos hii]at hn
       exact .inl ⟨hii.symm,hn.2.2 bj hbj⟩
      ·rw[if_neg hii]at hn
       exact .inr ⟨hii,_,List.getElem?_eq_getElem hyi,hn⟩
     have hold:∀b o n q,bj.v = .slice (some ⟨b,o,none⟩) n q→bj.b=some b:=by
      intro b o n q h
      rcases z4 with ⟨_,_,m3⟩|⟨g2,cap2,cur2,m1,m2,_⟩
      ·rw[m3]at h;simp at h
      ·rw[m2]at h
       simp only[Value.slice.injEq,Option.some.injEq,Addr.mk.injEq]at h
       rw[m1,h.1.1]
     refine⟨fun i' x y hx hy j' p hp => ?_,fun i1 i2 b o1 o2 n1 n2 k1 k2 l1 l2 _ _ c1 c2 => ?_,fun i' id' ho=>by simp at ho⟩
     ·have hi':i'<xs.length:=(List.getElem?_eq_some_iff.1 hx).1
      by_cases hjc:j'=c
      ·subst hjc
       obtain⟨u,hu,hn⟩:=cellc i' hi'
       refine⟨u,hu,?_⟩
       unfold NCell
       simp only[if_true,zce]
       rcases hn with ⟨rfl,rfl⟩|⟨hii,y',hy',hn⟩
       ·rw[List.getElem?_set_self (by rw[q3];exact hi')]at hy
        cases hy
        exact cin
       ·rw[List.getElem?_set_ne hii,hy']at hy
        cases hy
        exact hn.wide (fun b hb=>⟨hb,rfl⟩) fun q hq=>⟨List.mem_append.2 (.inr hq),rfl⟩
      ·have hyi:i'<ys.length:=by rw[q3];exact hi'
       obtain⟨u,hu,hn⟩:=h12.cells i' x _ hx (List.getElem?_eq_getElem hyi) j' p hp
       refine⟨u,hu,?_⟩
       unfold NCell at hn ⊢
       rw[if_neg hjc]at hn ⊢
       exact hn
     ·obtain⟨u1,hu1,hn1⟩:=cellc i1 l1
      obtain⟨u2,hu2,hn2⟩:=cellc i2 l2
      rw[c1]at hu1;cases hu1
      rw[c2]at hu2;cases hu2
      rcases hn1 with ⟨rfl,e1⟩|⟨m1,y1,_,e1⟩<;>rcases hn2 with ⟨rfl,e2'⟩|⟨m2,y2,_,e2'⟩
      ·rfl
      ·exact((jb b (hold b _ _ _ e1.symm)).1 e2'.blk).elim
      ·exact((jb b (hold b _ _ _ e2'.symm)).1 e1.blk).elim
      ·have o1':zce (some (i,j)) i1=none:=by simp[zce,m1]
       have o2':zce (some (i,j)) i2=none:=by simp[zce,m2]
       exact h12.inj i1 i2 b o1 o2 n1 n2 k1 k2 l1 l2 o1' o2' c1 c2
   ·exact(hd (by simp[zab,hne])).elim)
 exact⟨F,_,C.ghost (Nat.le_refl _) S1 S2 fun b hb => .inl hb⟩
def unN (c sz2:Nat) (xs:List (List PV)) (ys:List (List (List PV))):List (List PV):=List.zipWith (fun x y=>x.set c (.sl sz2 y)) xs ys
theorem To.frzN {k:Nat} {s:St} (id e sz c e2 sz2:Nat) (xs:List (List PV)) (ys:List (List (List PV))) (hc:zab s.h id = .nst e sz c e2 sz2 xs ys none) :
 ToK k s ⟨s.t,(id,.row e sz (unN c sz2 xs ys))::s.h,s.n⟩:=by
 intro H F β a w hk C
 obtain⟨bd,hb,q1,q2,q3,q4,q5,q6⟩:=C.m.here' hc (by simp)
 have hU:=C.m.used _ _ hb
 let bd':Bind:=⟨bd.v,bd.b,bd.n,bd.sz,[]⟩
 have hF:∀b,b∈bd.bs→bd.b≠some b:=by
  intro b hbb h
  rcases q6 with ⟨h1,_⟩|⟨g,cap,cur,h5,_,_,_,_,_,h11,_⟩
  ·rw[h]at h1;simp at h1
  ·rw[h]at h5;cases h5;exact h11 hbb
 obtain⟨S1,S2⟩:=C.m.step (w':=w) (h':=zab ((id,.row e sz (unN c sz2 xs ys))::s.h)) (β':=zaf β id (some bd')) (F':=fun b=>F b∨b∈bd.bs) (U':=(· < s.n)) (fun i=>i=id)
  (fun i hi=>by simp only[zaf,if_neg (Ne.symm hi)]) (fun i hi=>by simp only[zab,if_neg (Ne.symm hi)]) rfl rfl rfl (Nat.le_refl _) (fun _ _ _=>rfl) (fun _ h=>h) (fun _ h => .inl h)
  (fun b hbb=>by
   rcases hbb with hbb|hbb
   ·exact⟨C.m.fin b hbb,.inl hbb⟩
   ·exact⟨(C.m.off _ _ b hb (.inr hbb)).2.1,.inr (.inr ⟨id,bd,rfl,hb,.inr hbb⟩)⟩)
  (fun i bd0 hi _ hb'=>by
   subst hi
   simp only[zaf,if_true,Option.some.injEq]at hb'
   subst hb'
   exact⟨bd.bs,hb⟩)
  (fun i bd0 hi hb'=>by
   subst hi
   simp only[zaf,if_true,Option.some.injEq]at hb'
   subst hb'
   refine⟨hU,fun b hbb => ?_⟩
   have hbb:=Bind.has_nil hbb
   have:=C.m.off _ _ b hb (.inl hbb)
   exact⟨this.2.1,fun h=>h.elim this.1 fun h=>hF b h hbb,.inr ⟨i,bd,rfl,hb,.inl hbb⟩⟩)
  (fun i j _ _ _ hi hj _ _ _ _=>by rw[hi,hj])
  (fun E i hi _=>by
   subst hi
   refine⟨bd',by simp[zaf],?_⟩
   simp only[zab,if_true]
   have hl:(unN c sz2 xs ys).length=xs.length:=by simp[unN,q3]
   refine⟨⟨q1.1,rfl⟩,by rw[hl];exact q2,fun cs hcs => ?_,?_⟩
   ·obtain⟨q,hq⟩:=List.getElem?_of_mem hcs
    unfold unN at hq
    rw[List.getElem?_zipWith]at hq
    cases h1:xs[q]? with
    | none=>rw[h1]at hq;simp at hq
    | some x=>cases h2:ys[q]? with
     | none=>rw[h1,h2]at hq;simp at hq
     | some y =>
      rw[h1,h2]at hq
      simp only[Option.some.injEq]at hq
      subst hq
      rw[List.length_set];exact q5 x (List.mem_of_getElem? h1)
   ·rcases q6 with ⟨h1,h2,h3,_⟩|⟨g,cap,cur,h5,h6,h7,h8,h9,h10,h11,h12⟩
    ·refine .inl ⟨h1,?_,h3⟩
     exact List.eq_nil_of_length_eq_zero (by rw[hl,h2];rfl)
    ·refine .inr ⟨g,cap,cur,h5,by rw[hl];exact h6,h7,by rw[hl];exact h8,h9,h10,RelE.of fun q cs hq => ?_⟩
     unfold unN at hq
     rw[List.getElem?_zipWith]at hq
     cases h1:xs[q]? with
     | none=>rw[h1]at hq;simp at hq
     | some x=>cases h2:ys[q]? with
      | none=>rw[h1,h2]at hq;simp at hq
      | some y =>
       rw[h1,h2]at hq
       simp only[Option.some.injEq]at hq
       subst hq
       have hxl:=q5 x (List.mem_of_getElem? h1)
       refine⟨by rw[List.length_set];exact hxl,RelC.of fun j p hp => ?_⟩
       have hjl:j<x.length:=by have:=(List.getElem?_eq_some_iff.1 hp).1;simpa using this
       obtain⟨u,hu,hn⟩:=h12.cells q x y h1 h2 j x[j] (List.getElem?_eq_getElem hjl)
       refine⟨u,by simpa using hu,?_⟩
       unfold NCell at hn
       by_cases hj:j=c
       ·subst hj
        rw[List.getElem?_set_self hjl]at hp
        cases hp
        simp only[if_true,zce]at hn
        simp only[RelP]
        rcases hn with ⟨rfl,rfl⟩|⟨g2,cap2,cur2,rfl,k2,k3,k4,k5,k6,k7⟩
        ·exact⟨none,0,rfl,Nat.le_refl _,Nat.zero_le _,.inl rfl⟩
        ·exact⟨_,cap2,rfl,k4,k5,.inr ⟨g2,0,rfl,.inr k2,RelE.mono E.f rfl _ _ _ k7⟩⟩
       ·rw[List.getElem?_set_ne (fun h=>hj h.symm),List.getElem?_eq_getElem hjl]at hp
        cases hp
        rw[if_neg hj]at hn
        exact RelP.mono E.f _ _ hn)
 exact⟨_,_,C.ghost (Nat.le_refl _) S1 S2 fun b hbb=>hbb.imp (fun h=>h) fun h=>⟨id,bd,hb,.inr h⟩⟩
theorem MemOk.wkc {W:World} {N U F:Nat→Prop} {β : Nat→Option Bind} {h h':Nat→Chunk} {w:World} (M:MemOk W N U F β h w) (hw:∀id,WkC (h id) (h' id)):MemOk W N U F β h' w:=by
 refine⟨M.size,M.os,M.tape,M.output,M.frame,M.fin,M.used,fun id hd => ?_,M.dis,M.off⟩
 have hn:h id ≠ .dead:=by
  intro e
  have:=hw id
  rw[e]at this
  cases hc:h' id<;>rw[hc]at this<;>first|exact hd hc|exact this
 obtain⟨bd,hb,hk⟩:=M.ch id hn
 exact⟨bd,hb,(hw id).run hk⟩
theorem Spec.keep {P:Program} {f:FuncId} {args:List AV} {r:AV} {e sz:Nat} {xs:List (List PV)} (S:Spec P f args [] r [.row e sz xs]):Spec P f args [] r [.keep e sz xs]:=by
 refine⟨S.1,S.2.1,fun w F β vs M hv=>(S.2.2 w F β vs M hv).mono ?_⟩
 rintro en w' ⟨v,F',β',h1,h2,h3⟩
 refine⟨v,F',β',h1,h2.wkc fun id => ?_,h3⟩
 cases id with
 | zero=>exact⟨rfl,rfl,rfl⟩
 | succ n=>exact trivial
end Go.Proofs.Ytmjbgbmegbkmhaa
namespace Go.Proofs.Ytmjbgbmegbkmhaa
set_option linter.all false
open Go.RowKit
set_option maxRecDepth 100000
set_option maxHeartbeats 2000000
theorem zns {α : Type} (l:List α) (a : α) (i j:Nat) (hi:i≤l.length):(l.take i++a::l.drop i)[j]? = if j<i then l[j]? else if j=i then some a else l[j-1]? := by
 have hl:(l.take i).length=i:=by rw[List.length_take];omega
 rcases Nat.lt_trichotomy j i with h|h|h
 ·rw[if_pos h,List.getElem?_append_left (by omega),List.getElem?_take,if_pos h]
 ·subst h
  rw[if_neg (by omega),if_pos rfl,List.getElem?_append_right (by omega),hl,Nat.sub_self];rfl
 ·rw[if_neg (by omega),if_neg (by omega),List.getElem?_append_right (by omega),hl,show j-i=(j-1-i)+1 by omega,List.getElem?_cons_succ,List.getElem?_drop]
  congr 1;omega
theorem zqs {α : Type} (l x:List α) (s i j t:Nat) (hx:x.length=s) (hi:i*s≤l.length) (ht:t<s):(l.take (i*s)++x++l.drop (i*s))[j*s+t]? = if j<i then l[j*s+t]? else if j=i then x[t]? else l[(j-1)*s+t]? := by
 have hl:(l.take (i*s)).length=i*s:=by rw[List.length_take];omega
 rcases Nat.lt_trichotomy j i with h|h|h
 ·have:(j+1)*s≤i*s:=Nat.mul_le_mul_right s h
  rw[Nat.add_mul]at this
  rw[if_pos h,List.append_assoc,List.getElem?_append_left (by omega),List.getElem?_take,if_pos (by omega)]
 ·subst h
  rw[if_neg (by omega),if_pos rfl,List.getElem?_append_left (by rw[List.length_append];omega),List.getElem?_append_right (by omega),hl,Nat.add_sub_cancel_left]
 ·have h1:(i+1)*s≤j*s:=Nat.mul_le_mul_right s h
  have h2:(j-1)*s+s=j*s:=by
   rw[show j=(j-1)+1 by omega,Nat.add_mul];simp
  rw[Nat.add_mul]at h1
  rw[if_neg (by omega),if_neg (by omega),List.getElem?_append_right (by rw[List.length_append];omega),List.length_append,hl,hx,List.getElem?_drop]
  congr 1;omega
theorem zp4 (hent:zem Try.prog 27) (xs:List (List PV)) (ys:List (List (List PV))) (i:Nat) (hi:i≤xs.length) (hsm:xs.length≤1000000) (z z':List PV) (hz6:z.length=6) (hz2:z[2]? = some (.v (.slice none 0 0))) (hz6':z'.length=6) (hzz:∀t:Nat,t≠2→z'[t]? = z[t]?) :
 Spec Try.prog 27 [.own 0,I .i64 i,.own 1] [.nst 42 6 2 47 3 xs ys none,.row 42 6 [z]] (.own 2) [.dead,.dead,.nst 42 6 2 47 3 (xs.take i++z'::xs.drop i) (ys.take i ++ []::ys.drop i) none]:=by
 refine⟨hent,by simp,fun w F β vs M hv => ?_⟩
 simp only[RelL]at hv
 obtain⟨v0,_,rfl,hv0,u1,_,rfl,hu1,v1,_,rfl,hv1,rfl⟩:=hv
 obtain⟨rfl,_⟩:=relC.1 hu1
 obtain⟨b0,hb0,H0⟩:=M.ch 0 (by simp[nth])
 obtain⟨b1,hb1,H1⟩:=M.ch 1 (by simp[nth])
 simp only[RelA]at hv0 hv1
 obtain rfl:=hv0.2.2 b0 hb0
 obtain rfl:=hv1.2.2 b1 hb1
 change ChOk _ w F β b0 (.nst 42 6 2 47 3 xs ys none)at H0
 change ChOk _ w F β b1 (.row 42 6 [z])at H1
 obtain⟨_,_,_,H1⟩:=H1
 obtain⟨⟨hsz0,hin0⟩,hn0,hyl,_,hxl,H0⟩:=H0
 rcases H1 with ⟨_,h,_⟩|⟨g1,cap1,cur1,h5,h6,h7,h8,h9,h10,hE⟩
 ·simp at h
 simp only[List.length_cons,List.length_nil,Nat.zero_add]at h6 h8
 -- the cells of what is put in
 obtain⟨_,hC⟩:=hE.at 0 z rfl
 have hx1:∀t p,z[t]? = some p→∃u,cur1[t]? = some u∧RelP w F p u:=fun t p hp=>by
  obtain⟨u,hu,hr⟩:=hC.at t p hp
  refine⟨u,?_,hr⟩
  simpa[World.cell?,h7]using hu
 have hx6:(cur1.toList.take 6).length=6:=by rw[List.length_take,Array.length_toList];omega
 have hxt:∀t,t<6→(cur1.toList.take 6)[t]? = cur1[t]? := fun t ht=>by rw[List.getElem?_take,if_pos ht,Array.getElem?_toList]
 -- the row's cells
 obtain⟨cs,hown,blk0,hcell,hcl⟩:∃cs,w.ownsRow 0 42 6 b0.v xs.length cs∧b0.v.ownBlock=b0.b∧(∀g,b0.b=some g→∀j u,cs[j]? = some u↔(j<xs.length*6∧w.cell? ⟨g,j,none⟩=some u))∧(b0.b=none→xs = []):=by
  rcases H0 with ⟨k1,k2,k3,_⟩|⟨g,cap,cur,k1,k2,k3,k4,k5,k6,k7,k8⟩
  ·subst k2
   refine⟨[],by rw[k3];exact World.ownsRow_nil w 0 _ 6,by rw[k3,k1];rfl,fun g hg=>by rw[k1]at hg;simp at hg,fun _=>rfl⟩
  ·refine⟨cur.toList.take (xs.length*6),?_,by rw[k2,k1];rfl,fun g' hg' j u => ?_,fun hn=>by rw[k1]at hn;simp at hn⟩
   ·rw[k2]
    have hle:xs.length*6≤cap*6:=Nat.mul_le_mul_right 6 k4
    have hcl:cur.toList.length=cap*6:=by rw[Array.length_toList];exact k6
    exact⟨by rw[List.length_take,hcl];omega,.inr ⟨g,cap,cur,rfl,Nat.zero_le _,k3,k4,k5,k6,rfl⟩⟩
   ·rw[k1]at hg'
    cases hg'
    rw[List.getElem?_take]
    constructor
    ·intro h
     split at h
     ·rename_i hj
      rw[Array.getElem?_toList]at h
      exact⟨hj,by simp[World.cell?,k3,h]⟩
     ·simp at h
    ·rintro⟨hj,h⟩
     rw[if_pos hj,Array.getElem?_toList]
     simpa[World.cell?,k3]using h
 -- each cell of the row: what is known of it
 have hold:∀j x y,xs[j]? = some x→ys[j]? = some y→∀t p,x[t]? = some p→∃u,cs[j*6+t]? = some u∧NCell (· < 2) w F β b0.bs 2 47 3 p y none t u:=by
  intro j x y hx hy t p hp
  have hj:j<xs.length:=(List.getElem?_eq_some_iff.1 hx).1
  rcases H0 with ⟨k1,k2,k3,_⟩|⟨g,cap,cur,k1,k2,k3,k4,k5,k6,k7,k8⟩
  ·rw[k2]at hj;simp at hj
  ·obtain⟨u,hu,hn⟩:=k8.cells j x y hx hy t p hp
   have ht:t<6:=by
    have h1:=(List.getElem?_eq_some_iff.1 hp).1
    have h2:=hxl x (List.mem_of_getElem? hx)
    omega
   exact⟨u,(hcell g k1 _ u).2 ⟨by omega,hu⟩,hn⟩
 have hinj:∀j j' b o o' n n' k k',cs[j*6+2]? = some (.slice (some ⟨b,o,none⟩) n k)→cs[j'*6+2]? = some (.slice (some ⟨b,o',none⟩) n' k')→j=j':=by
  intro j j' b o o' n n' k k' h1 h2
  rcases H0 with ⟨k1,k2,k3,_⟩|⟨g,cap,cur,k1,k2,k3,k4,k5,k6,k7,k8⟩
  ·have:=hown.1
   rw[k2]at this
   have hc0:cs = []:=List.eq_nil_of_length_eq_zero (by simpa using this)
   rw[hc0]at h1
   simp at h1
  ·obtain⟨a1,a2⟩:=(hcell g k1 _ _).1 h1
   obtain⟨c1,c2⟩:=(hcell g k1 _ _).1 h2
   exact k8.inj j j' b o o' n n' k k' (by omega) (by omega) rfl rfl a2 c2
 have h1c:∀v∈cs,v.oneCell'=true:=by
  intro v hv
  obtain⟨q,hq⟩:=List.getElem?_of_mem hv
  have hql:q<xs.length*6:=by have:=(List.getElem?_eq_some_iff.1 hq).1;rw[hown.1]at this;exact this
  have hj:q/6<xs.length:=by omega
  have hjy:q/6<ys.length:=by omega
  have hxlen:=hxl _ (List.getElem_mem hj)
  obtain⟨u,hu,hn⟩:=hold (q/6) _ _ (List.getElem?_eq_getElem hj) (List.getElem?_eq_getElem hjy) (q % 6) _ (List.getElem?_eq_getElem (by rw[hxlen];omega))
  rw[show q/6*6+q % 6=q by omega,hq]at hu
  cases hu
  unfold NCell at hn
  split at hn
  ·exact hn.one
  ·exact hn.one
 have hne:b0.v.ownBlock≠some g1:=fun h=>absurd (M.dis 0 1 b0 b1 g1 hb0 hb1 (.inl (by rw[←blk0];exact h)) (.inl h5)) (by decide)
 have hbs:∀q,q∈b0.bs→b0.b≠some q∧q<w.heap.size∧¬F q:=fun q hq=>by
  have:=M.off 0 b0 q hb0 (.inr hq)
  refine⟨fun h => ?_,this.2.1,this.1⟩
  rcases H0 with ⟨k1,k2,k3,_⟩|⟨g,cap,cur,k1,k2,k3,k4,k5,k6,k7,k8⟩
  ·rw[k1]at h;simp at h
  ·rw[k1]at h;cases h;exact k7 hq
 have hC:=zk1 w b0.v xs.length cs (cur1.toList.take 6) hown h1c i hi hsm g1 cap1 cur1 _ h7 hx6 (fun j v hj=>by
  have:j<6:=by have:=(List.getElem?_eq_some_iff.1 hj).1;omega
  rw[hxt j this]at hj;exact hj) (fun v hv=>by
  obtain⟨q,hq⟩:=List.getElem?_of_mem hv
  have hq6:q<6:=by have:=(List.getElem?_eq_some_iff.1 hq).1;omega
  rw[hxt q hq6]at hq
  obtain⟨u,hu,hr⟩:=hx1 q _ (List.getElem?_eq_getElem (by omega:q<z.length))
  rw[hu]at hq;cases hq;exact hr.one) hne
 rw[h6]
 refine hC.mono ?_
 rintro en w' ⟨v',rfl,hown',hgr,hob⟩
 have hinn:∀q,q∈b0.bs→w'.heap[q]? = w.heap[q]? := fun q hq=>hgr.block q (hbs q hq).2.1 (fun h=>(hbs q hq).1 (by rw[←blk0];exact h.symm))
 let bd':Bind:=⟨v',v'.ownBlock,xs.length+1,6,b0.bs⟩
 have hvlt:∀q,v'.ownBlock=some q→q<w'.heap.size∧(w.heap.size≤q∨b0.b=some q):=by
  intro q hq
  refine⟨(hown'.lt q hq).2,?_⟩
  rcases hob with h|h
  ·exact .inr (by rw[←blk0,←h];exact hq)
  ·exact .inl (h q hq)
 have oth:∀j,¬(j=2∨j=0∨j=1)→¬2=j∧¬0=j∧¬1=j:=fun j h=>⟨fun e=>h (.inl e.symm),fun e=>h (.inr (.inl e.symm)),fun e=>h (.inr (.inr e.symm))⟩
 have hxs':(xs.take i++z'::xs.drop i).length=xs.length+1:=by simp;omega
 have hys':(ys.take i ++ []::ys.drop i).length=xs.length+1:=by simp;omega
 obtain⟨S1,S2⟩:=M.step (w':=w') (h':=nth [.dead,.dead,.nst 42 6 2 47 3 (xs.take i++z'::xs.drop i) (ys.take i ++ []::ys.drop i) none]) (β':=zaf (zaf (zaf β 1 none) 0 none) 2 (some bd')) (F':=F) (U':=(· < 3)) (fun j=>j=2∨j=0∨j=1)
  (fun j hj=>by obtain⟨h1,h2,h3⟩:=oth j hj;simp only[zaf,if_neg h1,if_neg h2,if_neg h3])
  (fun j hj=>by
   match j,hj with
   | 0,hj=>exact(hj (.inr (.inl rfl))).elim
   | 1,hj=>exact(hj (.inr (.inr rfl))).elim
   | 2,hj=>exact(hj (.inl rfl)).elim
   | j+3,_=>simp[nth])
  hgr.os hgr.tape hgr.output hgr.size
  (fun q hq hn=>hgr.block q hq fun he=>hn 0 b0 (.inr (.inl rfl)) hb0 (.inl (by rw[←blk0];exact he.symm)))
  (fun j hj=>by simp at hj;omega) (fun b hb=>hb) (fun b hb=>⟨Nat.lt_of_lt_of_le (M.fin b hb) hgr.size,.inl hb⟩)
  (fun j bd hj hu hb=>by
   rcases hj with rfl|rfl|rfl
   ·simp at hu
   ·simp[zaf]at hb
   ·simp[zaf]at hb)
  (fun j bd hj hb=>by
   rcases hj with rfl|rfl|rfl
   ·simp only[zaf,if_true,Option.some.injEq]at hb
    subst hb
    refine⟨by omega,fun q hq => ?_⟩
    rcases hq with hq|hq
    ·obtain⟨h1,h2⟩:=hvlt q hq
     refine⟨h1,?_,?_⟩
     ·rcases h2 with h2|h2
      ·intro hf;have:=M.fin q hf;omega
      ·exact(M.off 0 b0 q hb0 (.inl h2)).1
     ·rcases h2 with h2|h2
      ·exact .inl h2
      ·exact .inr ⟨0,b0,.inr (.inl rfl),hb0,.inl h2⟩
    ·obtain⟨a1,a2,a3⟩:=hbs q hq
     exact⟨Nat.lt_of_lt_of_le a2 hgr.size,a3,.inr ⟨0,b0,.inr (.inl rfl),hb0,.inr hq⟩⟩
   ·simp[zaf]at hb
   ·simp[zaf]at hb)
  (fun j j' bj bj' q hj hj' hbj hbj' _ _=>by
   have only:∀j bj,(j=2∨j=0∨j=1)→zaf (zaf (zaf β 1 none) 0 none) 2 (some bd') j=some bj→j=2:=by
    intro j bj hj hb
    rcases hj with rfl|rfl|rfl
    ·rfl
    ·simp[zaf]at hb
    ·simp[zaf]at hb
   rw[only j bj hj hbj,only j' bj' hj' hbj'])
  (fun E j hj hdd=>by
   rcases hj with rfl|rfl|rfl
   ·refine⟨bd',by simp[zaf],?_⟩
    change ChOk _ w' F _ bd' (.nst 42 6 2 47 3 (xs.take i++z'::xs.drop i) (ys.take i ++ []::ys.drop i) none)
    refine⟨⟨rfl,fun q hq => ?_⟩,by rw[hxs'],by rw[hxs',hys'],by decide,fun c hc => ?_,?_⟩
    ·obtain⟨cur,hc⟩:=hin0 q hq
     exact⟨cur,(hinn q hq).trans hc⟩
    ·rcases List.mem_append.1 hc with hc|hc
     ·exact hxl c (List.mem_of_mem_take hc)
     ·rcases List.mem_cons.1 hc with rfl|hc
      ·exact hz6'
      ·exact hxl c (List.mem_of_mem_drop hc)
    rcases hown'.2 with ⟨_,hn0⟩|⟨g,cap,cur,hv0,_,hg,hnc,hcm,hcs,htake⟩
    ·omega
    have hvc:∀j t,j<xs.length+1→t<6→w'.cell? ⟨g,j*6+t,none⟩=if j<i then cs[j*6+t]? else if j=i then (cur1.toList.take 6)[t]? else cs[(j-1)*6+t]? := by
     intro j t hj ht
     have hlt:j*6+t<(xs.length+1)*6:=by omega
     have e1:(cur.toList.take ((xs.length+1)*6))[j*6+t]? = cur[j*6+t]? := by rw[List.getElem?_take,if_pos hlt,Array.getElem?_toList]
     rw[htake,zqs cs (cur1.toList.take 6) 6 i j t hx6 (by rw[hown.1];exact Nat.mul_le_mul_right 6 hi) ht]at e1
     rw[e1]
     simp[World.cell?,hg]
    have wide:∀p y t u,NCell (· < 2) w F β b0.bs 2 47 3 p y none t u→NCell (· < 3) w' F (zaf (zaf (zaf β 1 none) 0 none) 2 (some bd')) b0.bs 2 47 3 p y none t u:=by
     intro p y t u h
     unfold NCell at h ⊢
     split
     ·rename_i ht
      rw[if_pos ht]at h
      exact h.mono E.f hinn
     ·rename_i ht
      rw[if_neg ht]at h
      exact RelP.mono E.f _ _ h
    refine .inr ⟨g,cap,cur,by simp[bd',hv0,Value.ownBlock],by rw[hxs'];exact hv0,hg,by rw[hxs'];exact hnc,hcm,hcs,?_,?_,?_,fun i id ho=>by simp at ho⟩
    ·intro hgb
     rcases (hvlt g (by rw[hv0];rfl)).2 with h|h
     ·have:=(hbs g hgb).2.1;omega
     ·exact(hbs g hgb).1 h
    ·intro j x y hx hy t p hp
     have hj:j<xs.length+1:=by rw[←hxs'];exact(List.getElem?_eq_some_iff.1 hx).1
     have ht:t<6:=by
      have h1:=(List.getElem?_eq_some_iff.1 hp).1
      have hm:x∈xs.take i++z'::xs.drop i:=List.mem_of_getElem? hx
      have h2:x.length=6:=by
       rcases List.mem_append.1 hm with hm|hm
       ·exact hxl x (List.mem_of_mem_take hm)
       ·rcases List.mem_cons.1 hm with rfl|hm
        ·exact hz6'
        ·exact hxl x (List.mem_of_mem_drop hm)
      omega
     rw[hvc j t hj ht]
     rw[zns xs z' i j hi]at hx
     rw[zns ys [] i j (by omega)]at hy
     by_cases c1:j<i
     ·rw[if_pos c1]at hx hy ⊢
      obtain⟨u,hu,hn⟩:=hold j x y hx hy t p hp
      exact⟨u,hu,wide _ _ _ _ hn⟩
     ·rw[if_neg c1]at hx hy ⊢
      by_cases c2:j=i
      ·rw[if_pos c2]at hx hy ⊢
       cases hx;cases hy
       by_cases ht2:t=2
       ·subst ht2
        obtain⟨u,hu,hr⟩:=hx1 2 _ hz2
        refine⟨u,by rw[hxt 2 ht];exact hu,?_⟩
        unfold NCell
        rw[if_pos rfl]
        simp only[RelP]at hr
        exact .inl ⟨hr.1,rfl⟩
       ·rw[hzz t ht2]at hp
        obtain⟨u,hu,hr⟩:=hx1 t p hp
        refine⟨u,by rw[hxt t ht];exact hu,?_⟩
        unfold NCell
        rw[if_neg ht2]
        exact RelP.mono E.f _ _ hr
      ·rw[if_neg c2]at hx hy ⊢
       obtain⟨u,hu,hn⟩:=hold (j-1) x y hx hy t p hp
       exact⟨u,hu,wide _ _ _ _ hn⟩
    ·intro j j' b o o' n n' k k' hj hj' _ _ e1 e2
     rw[hxs']at hj hj'
     have znil:(cur1.toList.take 6)[2]? = some (.slice none 0 0):=by
      obtain⟨u,hu,hr⟩:=hx1 2 _ hz2
      simp only[RelP]at hr
      rw[hxt 2 (by decide),hu,hr.1]
     rw[hvc j 2 hj (by decide)]at e1
     rw[hvc j' 2 hj' (by decide)]at e2
     by_cases c1:j<i
     ·rw[if_pos c1]at e1
      by_cases d1:j'<i
      ·rw[if_pos d1]at e2
       exact hinj j j' b o o' n n' k k' e1 e2
      ·rw[if_neg d1]at e2
       by_cases d2:j'=i
       ·rw[if_pos d2,znil]at e2;simp at e2
       ·rw[if_neg d2]at e2
        have:=hinj j (j'-1) b o o' n n' k k' e1 e2
        omega
     ·rw[if_neg c1]at e1
      by_cases c2:j=i
      ·rw[if_pos c2,znil]at e1;simp at e1
      ·rw[if_neg c2]at e1
       by_cases d1:j'<i
       ·rw[if_pos d1]at e2
        have:=hinj (j-1) j' b o o' n n' k k' e1 e2
        omega
       ·rw[if_neg d1]at e2
        by_cases d2:j'=i
        ·rw[if_pos d2,znil]at e2;simp at e2
        ·rw[if_neg d2]at e2
         have:=hinj (j-1) (j'-1) b o o' n n' k k' e1 e2
         omega
   ·exact(hdd (by simp[nth])).elim
   ·exact(hdd (by simp[nth])).elim)
 refine⟨v',F,_,rfl,S1,?_,fun _ h=>h,fun _ h => .inl h,fun j bd hj hb => ?_⟩
 ·simp only[RelA]
  refine⟨by simp,?_,fun bd hb => ?_⟩
  ·rcases hown'.2 with ⟨hv0,_⟩|⟨g,cap,cur,hv0,_⟩<;>rw[hv0]<;>rfl
  ·simp only[zaf,if_true,Option.some.injEq]at hb
   subst hb;rfl
 ·have hj':j=0∨j=1:=by simp at hj;omega
  rcases hj' with rfl|rfl<;>simp[zaf]at hb
end Go.Proofs.Ytmjbgbmegbkmhaa
namespace Go.Proofs.Ytmjbgbmegbkmhaa
set_option linter.all false
open Go.RowKit
theorem RelL.setAt {U F:Nat→Prop} {β : Nat→Option Bind} {w:World} {y:AV} : ∀ {cs:List AV} {us:List Value} (j:Nat),RelL U w F β cs us→(∀u,us[j]? = some u→RelA U w F β y u)→RelL U w F β (cs.set j y) us
 | [],us,j,h,_=>by simpa using h
 | x::r,us,j,h,hy=>by
  simp only[RelL]at h
  obtain⟨u,us',rfl,h1,h2⟩:=h
  cases j with
  | zero=>simp only[List.set_cons_zero,RelL];exact⟨u,us',rfl,hy u rfl,h2⟩
  | succ j=>simp only[List.set_cons_succ,RelL];exact⟨u,us',rfl,h1,RelL.setAt j h2 (fun v hv=>hy v (by simpa using hv))⟩
theorem To.nilC {k:Nat} {s:St} (id j e sz tt:Nat) (cs:List AV) (hc:zab s.h id = .blk tt cs) (hj:cs[j]? = some (.c (.v (.slice none 0 0)))):ToK k s ⟨s.t,(s.n,.row e sz [])::(id,.blk tt (cs.set j (.own s.n)))::s.h,s.n+1⟩:=by
 intro H F β a w hk C
 obtain⟨bd0,hb1,hb2⟩:=C.m.ch id (by rw[hc];simp)
 have hidn:id≠s.n:=fun h=>absurd (C.m.used _ _ hb1) (by rw[h];exact Nat.lt_irrefl _)
 obtain⟨M,E⟩:=C.m.step (w':=w) (h':=zab ((s.n,.row e sz [])::(id,.blk tt (cs.set j (.own s.n)))::s.h)) (β':=zaf β s.n (some ⟨.slice none 0 0,none,0,sz,[]⟩)) (F':=F) (U':=(· < s.n+1)) (fun i=>i=s.n∨i=id)
  (fun i hi=>by simp only[not_or]at hi;simp[zaf,Ne.symm hi.1]) (fun i hi=>by simp only[not_or]at hi;simp[zab,Ne.symm hi.1,Ne.symm hi.2]) rfl rfl rfl (Nat.le_refl _) (fun _ _ _=>rfl) (fun i hi=>Nat.lt_succ_of_lt hi) (fun b hb=>hb)
  (fun b hb=>⟨C.m.fin b hb,.inl hb⟩)
  (fun i bd' hi hu hb=>by
   rcases hi with rfl|rfl
   ·exact absurd hu (Nat.lt_irrefl _)
   ·exact⟨_,by simpa[zaf,Ne.symm hidn]using hb⟩)
  (fun i bd' hi hb=>by
   rcases hi with rfl|rfl
   ·simp only[zaf,if_true,Option.some.injEq]at hb
    subst hb
    exact⟨Nat.lt_succ_self _,fun b hb=>by have:=Bind.has_nil hb;simp at this⟩
   ·have hb' : β i=some bd':=by simpa[zaf,Ne.symm hidn]using hb
    refine⟨Nat.lt_succ_of_lt (C.m.used _ _ hb'),fun b hbb => ?_⟩
    obtain⟨p1,p2,p3⟩:=C.m.off _ _ _ hb' hbb
    exact⟨p2,p1,.inr ⟨i,bd',.inr rfl,hb',hbb⟩⟩)
  (fun i j' bi bj b hi hj' hbi hbj h1 h2=>by
   rcases hi with rfl|rfl<;>rcases hj' with rfl|rfl
   ·rfl
   ·simp only[zaf,if_true,Option.some.injEq]at hbi;subst hbi;have:=Bind.has_nil h1;simp at this
   ·simp only[zaf,if_true,Option.some.injEq]at hbj;subst hbj;have:=Bind.has_nil h2;simp at this
   ·rfl)
  (fun E i hi _=>by
   rcases hi with rfl|rfl
   ·refine⟨⟨.slice none 0 0,none,0,sz,[]⟩,by simp[zaf],?_⟩
    simp only[zab,if_true,ChOk]
    simp
   ·refine⟨bd0,by simpa[zaf,Ne.symm hidn]using hb1,?_⟩
    have hb2':=ChOk.mono E (fun g _=>rfl) hb2
    rw[hc]at hb2'
    simp only[zab,if_true,Ne.symm hidn,if_false]
    obtain⟨q1,q2,g,vs,q3,q4,q5,q6,q7⟩:=hb2'
    refine⟨by rw[List.length_set];exact q1,q2,g,vs,q3,q4,q5,RelL.setAt j q6 (fun u hu => ?_),q7⟩
    obtain⟨u',hu',hr⟩:=q6.at j _ hj
    rw[hu]at hu';cases hu'
    rw[relC]at hr
    simp only[RelA]
    rw[hr.1]
    refine⟨Nat.lt_succ_self _,rfl,fun bd hb => ?_⟩
    simp only[zaf,if_true,Option.some.injEq]at hb
    subst hb;rfl)
 refine⟨F,zaf β s.n (some ⟨.slice none 0 0,none,0,sz,[]⟩),fun t'=>RelA.mono E _ _ (C.t t'),M,C.nt,C.d,C.f,C.g,fun i bd' hi hb => ?_,Nat.le_succ_of_le C.k⟩
 refine C.e i bd' hi ?_
 have:s.n≠i:=by have:=C.k;omega
 simpa[zaf,this]using hb
theorem To.moveN {k:Nat} {s:St} (bid j id e sz c e2 sz2 tt:Nat) (cs:List AV) (xs:List (List PV)) (ys:List (List (List PV))) (hc:zab s.h bid = .blk tt cs) (hj:cs[j]? = some (.own id)) (hr:zab s.h id = .nst e sz c e2 sz2 xs ys none) :
 ToK k s ⟨s.t,(s.n,.nst e sz c e2 sz2 xs ys none)::(id,.dead)::(bid,.blk tt (cs.set j (.own s.n)))::s.h,s.n+1⟩:=by
 intro H F β a w hk C
 obtain⟨bd0,hb1,hb2⟩:=C.m.ch bid (by rw[hc];simp)
 obtain⟨bd1,hr1,hr2⟩:=C.m.ch id (by rw[hr];simp)
 have hbn:bid≠s.n:=fun h=>absurd (C.m.used _ _ hb1) (by rw[h];exact Nat.lt_irrefl _)
 have hin:id≠s.n:=fun h=>absurd (C.m.used _ _ hr1) (by rw[h];exact Nat.lt_irrefl _)
 have hbi:bid≠id:=fun h=>by rw[h,hr]at hc;simp at hc
 have hb2':=hb2
 rw[hc]at hb2'
 obtain⟨q1,q2,g0,vs,q3,q4,q5,q6,q7⟩:=hb2'
 obtain⟨u,hu,hv⟩:=q6.at j _ hj
 simp only[RelA]at hv
 obtain⟨_,hone,hv⟩:=hv
 obtain rfl:=hv bd1 hr1
 obtain⟨M,E⟩:=C.m.step (w':=w) (h':=zab ((s.n,.nst e sz c e2 sz2 xs ys none)::(id,.dead)::(bid,.blk tt (cs.set j (.own s.n)))::s.h)) (β':=zaf (zaf β id none) s.n (some bd1)) (F':=F) (U':=(· < s.n+1)) (fun i=>i=s.n∨i=id∨i=bid)
  (fun i hi=>by simp only[not_or]at hi;simp[zaf,Ne.symm hi.1,Ne.symm hi.2.1]) (fun i hi=>by simp only[not_or]at hi;simp[zab,Ne.symm hi.1,Ne.symm hi.2.1,Ne.symm hi.2.2]) rfl rfl rfl (Nat.le_refl _) (fun _ _ _=>rfl) (fun i hi=>Nat.lt_succ_of_lt hi) (fun b hb=>hb)
  (fun b hb=>⟨C.m.fin b hb,.inl hb⟩)
  (fun i bd' hi hu hb=>by
   rcases hi with rfl|rfl|rfl
   ·exact absurd hu (Nat.lt_irrefl _)
   ·simp[zaf,Ne.symm hin]at hb
   ·exact⟨_,by simpa[zaf,Ne.symm hbn,Ne.symm hbi]using hb⟩)
  (fun i bd' hi hb=>by
   rcases hi with rfl|rfl|rfl
   ·simp only[zaf,if_true,Option.some.injEq]at hb
    subst hb
    refine⟨Nat.lt_succ_self _,fun b hbb => ?_⟩
    obtain⟨r1,r2,r3⟩:=C.m.off _ _ _ hr1 hbb
    exact⟨r2,r1,.inr ⟨id,bd1,.inr (.inl rfl),hr1,hbb⟩⟩
   ·simp[zaf,Ne.symm hin]at hb
   ·have hb' : β i=some bd':=by simpa[zaf,Ne.symm hbn,Ne.symm hbi]using hb
    refine⟨Nat.lt_succ_of_lt (C.m.used _ _ hb'),fun b hbb => ?_⟩
    obtain⟨p1,p2,p3⟩:=C.m.off _ _ _ hb' hbb
    exact⟨p2,p1,.inr ⟨i,bd',.inr (.inr rfl),hb',hbb⟩⟩)
  (fun i j' bi bj b hi hj' hbi2 hbj h1 h2=>by
   have old:∀i' bd',i'=bid→(zaf (zaf β id none) s.n (some bd1)) i'=some bd' → β bid=some bd':=by
    intro i' bd' h hb;subst h;simpa[zaf,Ne.symm hbn,Ne.symm hbi]using hb
   rcases hi with rfl|rfl|rfl<;>rcases hj' with rfl|rfl|rfl
   ·rfl
   ·simp[zaf,Ne.symm hin]at hbj
   ·simp only[zaf,if_true,Option.some.injEq]at hbi2;subst hbi2
    have:=C.m.dis id j' bd1 bj b hr1 (old _ _ rfl hbj) h1 h2
    exact absurd this.symm hbi
   ·simp[zaf,Ne.symm hin]at hbi2
   ·rfl
   ·simp[zaf,Ne.symm hin]at hbi2
   ·simp only[zaf,if_true,Option.some.injEq]at hbj;subst hbj
    have:=C.m.dis i id bi bd1 b (old _ _ rfl hbi2) hr1 h1 h2
    exact absurd this hbi
   ·simp[zaf,Ne.symm hin]at hbj
   ·rfl)
  (fun E i hi hd=>by
   rcases hi with rfl|rfl|rfl
   ·refine⟨bd1,by simp[zaf],?_⟩
    have hr3:=ChOk.mono E (fun g _=>rfl) hr2
    rw[hr]at hr3
    simp only[zab,if_true]
    exact hr3
   ·simp[zab,Ne.symm hin]at hd
   ·refine⟨bd0,by simpa[zaf,Ne.symm hbn,Ne.symm hbi]using hb1,?_⟩
    have hb3:=ChOk.mono E (fun g _=>rfl) hb2
    rw[hc]at hb3
    simp only[zab,if_true,Ne.symm hbn,Ne.symm hbi,if_false]
    obtain⟨q1,q2,g,vs',q3',q4,q5',q6',q7⟩:=hb3
    have hg:g=g0:=by rw[q3]at q3';exact(Option.some.inj q3').symm
    subst hg
    have hvs:vs'=vs:=by rw[q5]at q5';simpa using q5'.symm
    subst hvs
    refine⟨by rw[List.length_set];exact q1,q2,g,vs',q3',q4,q5',RelL.setAt j q6' (fun u hu2 => ?_),q7⟩
    rw[hu]at hu2
    obtain rfl:=Option.some.inj hu2
    simp only[RelA]
    refine⟨Nat.lt_succ_self _,hone,fun bd hb => ?_⟩
    simp only[zaf,if_true,Option.some.injEq]at hb
    subst hb;rfl)
 refine⟨F,_,fun t'=>RelA.mono E _ _ (C.t t'),M,C.nt,C.d,C.f,C.g,fun i bd' hi hb => ?_,Nat.le_succ_of_le C.k⟩
 have h1:s.n≠i:=by have:=C.k;omega
 by_cases h2:id=i
 ·subst h2;simp[zaf,h1]at hb
 ·exact C.e i bd' hi (by simpa[zaf,h1,h2]using hb)
theorem Spec.rawN {P:Program} {f:FuncId} {args:List AV} {r:AV} {e sz c e2 sz2:Nat} (xs:List (List PV)) (ys:List (List (List PV)))
 (S:∀q:Nat→PV,Spec P f (.own 0::args) [.row e sz (xs.mapIdx fun i x=>x.set c (q i))] r [.row e sz (xs.mapIdx fun i x=>x.set c (q i))]):Spec P f (.own 0::args) [.nst e sz c e2 sz2 xs ys none] r [.nst e sz c e2 sz2 xs ys none]:=by
 refine⟨(S fun _ => .undef).1,by simp,fun w F β vs M hv => ?_⟩
 obtain⟨b0,hb0,H0⟩:=M.ch 0 (by simp[nth])
 change ChOk _ w F β b0 (.nst e sz c e2 sz2 xs ys none)at H0
 have H0':=H0
 obtain⟨⟨hsz0,hin0⟩,hn0,hyl,hcz,hxl,H0⟩:=H0
 -- what stands in the column
 obtain⟨q,hq⟩:∃q:Nat→Value,∀g,b0.b=some g→∀i,i<xs.length→w.cell? ⟨g,i*sz+c,none⟩=some (q i)∧(q i).oneCell'=true:=by
  refine⟨fun i=>match b0.b with|some g=>(w.cell? ⟨g,i*sz+c,none⟩).getD undef|none=>undef,fun g hg i hi => ?_⟩
  rcases H0 with ⟨k1,k2,k3,_⟩|⟨g',cap,cur,k1,k2,k3,k4,k5,k6,k7,k8⟩
  ·rw[k2]at hi;simp at hi
  ·rw[k1]at hg
   cases hg
   have hil:(xs[i]'hi).length=sz:=hxl _ (List.getElem_mem hi)
   obtain⟨u,hu,hn⟩:=k8.cells i _ _ (List.getElem?_eq_getElem hi) (List.getElem?_eq_getElem (by rw[hyl];exact hi)) c _ (List.getElem?_eq_getElem (by rw[hil];exact hcz))
   simp only[k1,hu,Option.getD_some]
   refine⟨trivial,?_⟩
   unfold NCell at hn
   rw[if_pos rfl]at hn
   exact hn.one
 let bd1:Bind:=⟨b0.v,b0.b,b0.n,b0.sz,[]⟩
 obtain⟨S1,S2,S3⟩:=S fun i => .v (q i)
 have hU:∀i bd,β i=some bd→i=0:=fun i bd hb=>by have:=M.used i bd hb;simp at this;omega
 have hlen:(xs.mapIdx fun i x=>x.set c (PV.v (q i))).length=xs.length:=by simp
 let β1:Nat→Option Bind:=fun i=>if i=0 then some bd1 else none
 have M1:MemOk w (inB β1) (· < 1) F β1 (nth [.row e sz (xs.mapIdx fun i x=>x.set c (PV.v (q i)))]) w:=by
  refine⟨Nat.le_refl _,rfl,rfl,rfl,fun _ _ _=>rfl,M.fin,fun i bd hb => ?_,fun i hd => ?_,fun i j bi bj b h1 h2 _ _ => ?_,fun i bd b hb hh => ?_⟩
  ·simp only[β1]at hb
   split at hb
   ·omega
   ·simp at hb
  ·cases i with
   | succ i=>simp[nth]at hd
   | zero =>
    refine⟨bd1,by simp[β1],?_⟩
    change ChOk _ w F β1 bd1 (.row e sz (xs.mapIdx fun i x=>x.set c (PV.v (q i))))
    refine⟨⟨hsz0,rfl⟩,by rw[hlen];exact hn0,fun cs hcs => ?_,?_⟩
    ·obtain⟨i,hi⟩:=List.getElem?_of_mem hcs
     rw[List.getElem?_mapIdx]at hi
     cases hx:xs[i]? with
     | none=>rw[hx]at hi;simp at hi
     | some x =>
      rw[hx]at hi
      simp only[Option.map_some,Option.some.injEq]at hi
      subst hi
      rw[List.length_set];exact hxl x (List.mem_of_getElem? hx)
    ·rcases H0 with ⟨k1,k2,k3,_⟩|⟨g,cap,cur,k1,k2,k3,k4,k5,k6,k7,k8⟩
     ·exact .inl ⟨k1,by rw[k2];rfl,k3⟩
     ·refine .inr ⟨g,cap,cur,k1,by rw[hlen];exact k2,k3,by rw[hlen];exact k4,k5,k6,RelE.of fun i cs hi => ?_⟩
      rw[List.getElem?_mapIdx]at hi
      cases hx:xs[i]? with
      | none=>rw[hx]at hi;simp at hi
      | some x =>
       rw[hx]at hi
       simp only[Option.map_some,Option.some.injEq]at hi
       subst hi
       have hil:i<xs.length:=(List.getElem?_eq_some_iff.1 hx).1
       have hxz:=hxl x (List.mem_of_getElem? hx)
       refine⟨by rw[List.length_set];exact hxz,RelC.of fun j p hp => ?_⟩
       have hjl:j<x.length:=by have:=(List.getElem?_eq_some_iff.1 hp).1;simpa using this
       by_cases hj:j=c
       ·subst hj
        rw[List.getElem?_set_self hjl]at hp
        cases hp
        obtain⟨z1,z2⟩:=hq g k1 i hil
        exact⟨q i,by rw[Nat.zero_add];exact z1,by simp only[RelP];exact⟨trivial,z2⟩⟩
       ·rw[List.getElem?_set_ne (fun h=>hj h.symm)]at hp
        obtain⟨u,hu,hn⟩:=k8.cells i x _ hx (List.getElem?_eq_getElem (by rw[hyl];exact hil)) j p hp
        unfold NCell at hn
        rw[if_neg hj]at hn
        exact⟨u,by rw[Nat.zero_add];exact hu,hn⟩
  ·have:∀i bd,β1 i=some bd→i=0:=fun i bd hb=>by
    simp only[β1]at hb
    split at hb
    ·assumption
    ·simp at hb
   rw[this i bi h1,this j bj h2]
  ·simp only[β1]at hb
   split at hb
   ·cases hb
    have h':=Bind.has_nil hh
    have:=M.off 0 b0 b hb0 (.inl h')
    exact⟨this.1,this.2.1,.inr ⟨0,bd1,by simp[β1],.inl h'⟩⟩
   ·simp at hb
 have hv1:RelL (· < 1) w F β1 (.own 0::args) vs:=RelL.mono (E:=⟨fun _ h=>h,fun _ h=>⟨h,rfl⟩,fun i bd hi hb=>by
  simp only[β1]at hb
  split at hb
  ·rename_i h0
   subst h0
   cases hb
   exact⟨b0.bs,hb0⟩
  ·simp at hb⟩) _ _ hv
 refine(S3 w F β1 vs M1 hv1).mono ?_
 rintro en w' ⟨v,F',β',rfl,M',hr,hF,hF',hβ⟩
 have hbs:∀b,b∈b0.bs→b<w.heap.size∧¬inB β1 b∧¬F b:=fun b hb=>by
  have:=M.off 0 b0 b hb0 (.inr hb)
  refine⟨this.2.1,?_,this.1⟩
  rintro⟨i,bd,h1,h2⟩
  simp only[β1]at h1
  split at h1
  ·cases h1
   have h2:=Bind.has_nil h2
   rcases H0 with ⟨k1,_⟩|⟨g,cap,cur,k1,k2,k3,k4,k5,k6,k7,k8⟩
   ·exact absurd (h2.symm.trans k1) (by simp)
   ·have:some b=some g:=h2.symm.trans k1
    cases this;exact k7 hb
  ·simp at h1
 have hinn:∀b,b∈b0.bs→w'.heap[b]? = w.heap[b]? := fun b hb=>M'.frame b (hbs b hb).1 (hbs b hb).2.1
 obtain⟨bdr,hbr,Hr⟩:=M'.ch 0 (by simp[nth])
 obtain⟨bs1,hbs1⟩:=hβ 0 bdr (by simp) hbr
 have hbd:bd1=⟨bdr.v,bdr.b,bdr.n,bdr.sz,bs1⟩:=by simpa[β1]using hbs1
 have eb1:bdr.v=b0.v:=(congrArg Bind.v hbd).symm
 have eb2:bdr.b=b0.b:=(congrArg Bind.b hbd).symm
 have eb3:bdr.n=b0.n:=(congrArg Bind.n hbd).symm
 have eb4:bdr.sz=b0.sz:=(congrArg Bind.sz hbd).symm
 have hbr0:bdr=⟨b0.v,b0.b,b0.n,b0.sz,bdr.bs⟩:=by rw[←eb1,←eb2,←eb3,←eb4]
 change ChOk _ w' F' β' bdr (.row e sz (xs.mapIdx fun i x=>x.set c (PV.v (q i))))at Hr
 obtain⟨⟨hrz,hrn⟩,hrl,hrc,Hr⟩:=Hr
 have hU':∀i bd,β' i=some bd→i=0:=fun i bd hb=>by have:=M'.used i bd hb;simp at this;omega
 let β2:Nat→Option Bind:=fun i=>if i=0 then some b0 else none
 have hF2:∀b,b∈b0.bs→¬F' b:=fun b hb hf=>by
  rcases hF' b hf with h|h|h
  ·exact(hbs b hb).2.2 h
  ·have:=(hbs b hb).1;omega
  ·exact(hbs b hb).2.1 h
 have hsub:∀b,inB β1 b→inB β b:=fun b ⟨i,bd,h1,h2⟩=>by
  simp only[β1]at h1
  split at h1
  ·cases h1
   exact⟨0,b0,hb0,.inl (Bind.has_nil h2)⟩
  ·simp at h1
 refine⟨v,F',β2,rfl,⟨M'.size,M'.os,M'.tape,M'.output,fun b hb hn=>M'.frame b hb fun h=>hn (hsub b h),M'.fin,fun i bd hb => ?_,fun i hd => ?_,fun i j bi bj b h1 h2 _ _ => ?_,fun i bd b hb hh => ?_⟩,RelA.mono (E:=⟨fun _ h=>h,fun _ h=>⟨h,rfl⟩,fun i bd hi hb => ?_⟩) _ _ hr,hF,fun b hb => ?_,fun i bd hi hb => ?_⟩
 ·simp only[β2]at hb
  split at hb
  ·rename_i h0;subst h0;simp
  ·simp at hb
 ·cases i with
  | succ i=>simp[nth]at hd
  | zero =>
   refine⟨b0,by simp[β2],?_⟩
   change ChOk _ w' F' β2 b0 (.nst e sz c e2 sz2 xs ys none)
   refine⟨⟨hsz0,fun b hb => ?_⟩,hn0,hyl,hcz,hxl,?_⟩
   ·obtain⟨cur,hc⟩:=hin0 b hb
    exact⟨cur,(hinn b hb).trans hc⟩
   ·rcases H0 with h|⟨g,cap,cur,k1,k2,k3,k4,k5,k6,k7,k8⟩
    ·exact .inl h
    ·rcases Hr with ⟨l1,_⟩|⟨g',cap',cur',l1,l2,l3,l4,l5,l6,l7⟩
     ·rw[hbr0]at l1
      exact absurd (k1.symm.trans l1) (by simp)
     ·rw[hbr0]at l1 l2
      have hg:g'=g:=by have:=l1.symm.trans k1;simpa using this
      subst hg
      have hcap:cap'=cap:=by
       have:=l2.symm.trans k2
       simp only[Value.slice.injEq]at this
       exact this.2.2
      subst hcap
      have hcol:∀i x,xs[i]? = some x→∀j p,(x.set c (PV.v (q i)))[j]? = some p→∃u,w'.cell? ⟨g',i*sz+j,none⟩=some u∧RelP w' F' p u:=fun i x hx j p hp=>by
       obtain⟨_,hC⟩:=l7.at i (x.set c (PV.v (q i))) (by rw[List.getElem?_mapIdx,hx];rfl)
       obtain⟨u,hu,hr⟩:=hC.at j p hp
       exact⟨u,by rwa [Nat.zero_add]at hu,hr⟩
      have hcc:∀i,i<xs.length→w'.cell? ⟨g',i*sz+c,none⟩=w.cell? ⟨g',i*sz+c,none⟩:=fun i hi=>by
       have hil:(xs[i]'hi).length=sz:=hxl _ (List.getElem_mem hi)
       obtain⟨u,hu,hr⟩:=hcol i _ (List.getElem?_eq_getElem hi) c (PV.v (q i)) (List.getElem?_set_self (by rw[hil];exact hcz))
       simp only[RelP]at hr
       rw[hu,hr.1,(hq g' k1 i hi).1]
      have K:zdf w F w' F':=fun b hb=>⟨hF b hb,M'.frame b (M.fin b hb) fun⟨i,bd,h1,h2⟩=>by
       simp only[β1]at h1
       split at h1
       ·cases h1
        exact(M.off 0 b0 b hb0 (.inl (Bind.has_nil h2))).1 hb
       ·simp at h1⟩
      refine .inr ⟨g',cap',cur',k1,k2,l3,k4,k5,l6,k7,fun i x y hx hy j p hp => ?_,fun i i' b o o' n n' k k' h1 h2 h3 h4 h5 h6 => ?_,fun i id ho=>by simp at ho⟩
      ·have hi:i<xs.length:=(List.getElem?_eq_some_iff.1 hx).1
       by_cases hj:j=c
       ·subst hj
        obtain⟨u,hu,hn⟩:=k8.cells i x y hx hy j p hp
        refine⟨u,(hcc i hi).trans hu,?_⟩
        unfold NCell at hn ⊢
        rw[if_pos rfl]at hn ⊢
        exact hn.mono K hinn
       ·obtain⟨u,hu,hr⟩:=hcol i x hx j p (by rw[List.getElem?_set_ne (fun h=>hj h.symm)];exact hp)
        refine⟨u,hu,?_⟩
        unfold NCell
        rw[if_neg hj]
        exact hr
      ·exact k8.inj i i' b o o' n n' k k' h1 h2 h3 h4 ((hcc i h1).symm.trans h5) ((hcc i' h2).symm.trans h6)
 ·have:∀i bd,β2 i=some bd→i=0:=fun i bd hb=>by
   simp only[β2]at hb
   split at hb
   ·assumption
   ·simp at hb
  rw[this i bi h1,this j bj h2]
 ·simp only[β2]at hb
  split at hb
  ·cases hb
   rcases hh with hh|hh
   ·have:=M'.off 0 bdr b hbr (.inl (by rw[hbr0];exact hh))
    refine⟨this.1,this.2.1,.inr ⟨0,b0,hb0,.inl hh⟩⟩
   ·exact⟨hF2 b hh,Nat.lt_of_lt_of_le (hbs b hh).1 M'.size,.inr ⟨0,b0,hb0,.inr hh⟩⟩
  ·simp at hb
 ·simp only[β2]at hb
  split at hb
  ·rename_i h0
   subst h0
   cases hb
   exact⟨bdr.bs,by rw[hbr];exact congrArg some hbr0⟩
  ·simp at hb
 ·rcases hF' b hb with h|h|h
  ·exact .inl h
  ·exact .inr (.inl h)
  ·exact .inr (.inr (hsub b h))
 ·simp only[β2]at hb
  split at hb
  ·rename_i h0
   subst h0
   cases hb
   exact⟨b0.bs,hb0⟩
  ·simp at hb
def zr2 (ops:Array Oper) (n:Nat) (K:St→Prop) (acc:List (List Nat × List Nat)) (s':St):Prop:=zis ops acc=true∧K ⟨s'.t,s'.h,n+4*ops.size⟩
theorem za1 {P:Program} {nt:Nat} {ops:Array Oper} {K:St→Prop} {t:List (Nat × AV)} {h:List (Nat × Chunk)} {n:Nat} (ds:List (Option Tmp)) (hds:ops.toList.map (fun o:Oper=>o.dst)=ds)
 (G:∀(O:Array Oper) (l:List Oper) (R:List (List Nat × List Nat)→St→Prop),l=ops.toList→(∀j:Nat,(O[j]?).bind (fun o:Oper=>o.dst)=(ds[j]?).bind id)→R=zr2 ops n K→zer P nt O n 0 l [] R ⟨t,h,n⟩):zac P nt ops K ⟨t,h,n⟩:=by
 refine G ops ops.toList _ rfl (fun j => ?_) rfl
 rw[←hds,List.getElem?_map,Array.getElem?_toList]
 cases ops[j]? <;> rfl
theorem zaz {P:Program} {nt:Nat} {O:Array Oper} {n i:Nat} {o:Oper} {r0:List Oper} {acc:List (List Nat × List Nat)} {R:List (List Nat × List Nat)→St→Prop} {s:St}
 (G:∀r,r=r0→zer P nt O n i (o::r) acc R s):zer P nt O n i (o::r0) acc R s:=G r0 rfl
theorem zhj {P:Program} {nt:Nat} {O:Array Oper} {n i:Nat} {acc:List (List Nat × List Nat)} {R:List (List Nat × List Nat)→St→Prop} {t:List (Nat × AV)} {h:List (Nat × Chunk)} {m:Nat} (G:R acc ⟨t,h,m⟩):zer P nt O n i [] acc R ⟨t,h,m⟩:=G
theorem zhi {ops:Array Oper} {n:Nat} {K:St→Prop} {acc:List (List Nat × List Nat)} {t:List (Nat × AV)} {h:List (Nat × Chunk)} {m:Nat} (G1:zis ops acc=true) (G2:K ⟨t,h,n+4*ops.size⟩):zr2 ops n K acc ⟨t,h,m⟩:=⟨G1,G2⟩
theorem zkr (Z:List Nat) (h:Nat→Chunk):∀(l:List (Nat × AV)) (t:Nat),za3 (l.map fun p=>(p.1,fz Z h p.2)) t=fz Z h (za3 l t)
 | [],t=>by simp only[List.map_nil,za3,fz]
 | (k,x)::r,t=>by
  simp only[List.map_cons,za3]
  by_cases e:k=t
  ·rw[if_pos e,if_pos e]
  ·rw[if_neg e,if_neg e];exact zkr Z h r t
theorem To.frz {k:Nat} {s:St} (Z:List Nat):ToK k s ⟨s.t.map fun p=>(p.1,fz Z (zab s.h) p.2),zb1 Z++s.h,s.n⟩:=by
 intro H F β a w hk C
 have M:=zny C.m Z
 have e:zab (zb1 Z++s.h)=fzH Z (zab s.h):=by
  rw[←zdn,zd0]
 refine⟨fzF Z F β,fzB Z β,fun t => ?_,by rw[e];exact M,C.nt,C.d.more fun _ hb => .inl hb,fun b hb => .inl (C.f b hb),fun b hb => ?_,fun i bd hi hb=>C.e i bd hi (za8 hb).2,C.k⟩
 ·simp only[zkr]
  exact zgs C.m (fun _ _=>rfl) Z _ _ (C.t t)
 ·rcases hb with h1|⟨id,bd,_,h2,h3⟩
  ·exact C.g b h1
  ·exact .inr (C.m.off id bd b h2 (.inl h3)).2.2
theorem zqn {P:Program} {c:Bool} {f:FuncId} {args:List AV} {φ : Prop} {h:Nat→Chunk} {m:Nat} {K:Eff→Prop} (hc:c=false) (k:K ⟨.undef,[],0⟩):zjh P c f args φ h m K := .inr ⟨fun h=>absurd (hc.symm.trans h) (by decide),fun _=>k⟩
end Go.Proofs.Ytmjbgbmegbkmhaa
namespace Go.Proofs.Ytmjbgbmegbkmhaa
set_option linter.all false
open Go.RowKit Go.ChangeShapes Go.WideShapes Go.ChangeAt
def Opens (P:Program) (T sz:Nat) (w:World) {α : Type} (enc : α → List Value) (ok : α → Prop):Prop :=
 ∀(H:Type) (eH:TypeId × Value→H) (fuel:Nat) (cs:List Value) (y:DataW H × List MemPlace),DataW.trod eH P w 0 (fun _=>true) true fuel T cs=some y→(∀n∈y.1.weights P T,n≤reachBytes)→∃x : α,cs=enc x∧cs.length=sz∧ok x
theorem Opens.int {P:Program} {T:Nat} {w:World} {k:IntKind} (h:P.underlying T=some (.int k)):Opens P T 1 w (fun n:Int => [.int k n]) (fun n=>(Lit.int k n).wf=true):=by
 intro H eH fuel cs y hy _
 obtain⟨n,rfl,_,hw⟩:=DataW.trod_int h hy
 exact⟨n,rfl,rfl,hw⟩
theorem zoa {n:Int} (h:(Lit.int .i64 n).wf=true) : -9223372036854775808≤n∧n≤9223372036854775807:=by
 simpa[Lit.wf,IntKind.min,IntKind.max,IntKind.signed,IntKind.bits]using h
theorem zn8 {n:Int} (h:(Lit.int .u64 n).wf=true):0≤n∧n≤18446744073709551615:=by
 simpa[Lit.wf,IntKind.min,IntKind.max,IntKind.signed,IntKind.bits]using h
theorem zn9 {n:Int} (h:(Lit.int .u32 n).wf=true):0≤n∧n≤4294967295:=by
 simpa[Lit.wf,IntKind.min,IntKind.max,IntKind.signed,IntKind.bits]using h
theorem Opens.i64 {P:Program} {T:Nat} {w:World} (h:P.underlying T=some (.int .i64)):Opens P T 1 w zr3 (fun n => -9223372036854775808≤n∧n≤9223372036854775807):=by
 intro H eH fuel cs y hy _
 obtain⟨n,rfl,_,hw⟩:=DataW.trod_int h hy
 exact⟨n,rfl,rfl,zoa hw⟩
theorem Opens.u64 {P:Program} {T:Nat} {w:World} (h:P.underlying T=some (.int .u64)):Opens P T 1 w e64 (fun n=>n<18446744073709551616):=by
 intro H eH fuel cs y hy _
 obtain⟨n,rfl,_,hw⟩:=DataW.trod_int h hy
 have:=zn8 hw
 exact⟨n.toNat,by simp only[e64];congr 2;omega,rfl,by omega⟩
theorem Opens.u32 {P:Program} {T:Nat} {w:World} (h:P.underlying T=some (.int .u32)):Opens P T 1 w e32 (fun n=>n<4294967296):=by
 intro H eH fuel cs y hy _
 obtain⟨n,rfl,_,hw⟩:=DataW.trod_int h hy
 have:=zn9 hw
 exact⟨n.toNat,by simp only[e32];congr 2;omega,rfl,by omega⟩
def zrn (b:Bool):List Value := [.bool b]
theorem Opens.bool {P:Program} {T:Nat} {w:World} (h:P.underlying T=some .bool):Opens P T 1 w zrn (fun _=>True):=by
 intro H eH fuel cs y hy _
 obtain⟨b,rfl,_⟩:=DataW.trod_bool h hy
 exact⟨b,rfl,rfl,trivial⟩
def zsw (s:ByteArray):List Value := [.string s]
theorem Opens.str {P:Program} {T:Nat} {w:World} (h:P.underlying T=some .string):Opens P T 1 w zsw (fun s=>s.size≤140737488351232):=by
 intro H eH fuel cs y hy hw
 obtain⟨s,rfl,rfl,hs⟩:=DataW.trod_string h hy
 exact⟨s,rfl,rfl,(by
  have h:=hw s.data.toList.length (List.mem_singleton.2 rfl)
  have e:s.data.toList.length=s.size:=Array.length_toList
  rw[e]at h
  exact h)⟩
structure SL (α : Type) where
 a:Option Addr
 c:Nat
 xs:List α
def SL.val {α : Type} (s:SL α):Value := .slice s.a s.xs.length s.c
def SL.enc {α : Type} (s:SL α):List Value := [s.val]
structure SLok {α : Type} (w : World) (B : Nat) (sz bts : Nat) (enc : α → List Value) (ok : α → Prop) (s : SL α) : Prop where
 els:Els w B s.a sz enc s.xs
 each:∀x∈s.xs,ok x∧(enc x).length=sz
 cap:s.xs.length≤s.c
 max:s.c≤maxLen
 reach:s.c*bts≤140737488351232
 nil:s.a=none→s.xs.length=0∧s.c=0
theorem Opens.slice {P:Program} {T E sz bts:Nat} {w:World} {α : Type} {enc : α → List Value} {ok : α → Prop} (hT:P.underlying T=some (.slice E)) (hc:P.cellsOf E=sz) (hsz:0<sz) (hby:P.bytesOf E=bts) (hE:Opens P E sz w enc ok) :
 Opens P T 1 w (SL.enc (α := α)) (SLok w w.heap.size sz bts enc ok):=by
 intro H eH fuel cs y hy hw
 rcases Deep.open_slice hT hy with ⟨rfl,_⟩|⟨a,len,cap,m,n,D,Pl,rfl,_,hl,hm,hmm,hy2,hx⟩
 ·exact⟨⟨none,0,[]⟩,rfl,rfl,⟨.inl rfl,by simp,Nat.le_refl _,Nat.zero_le _,by simp,fun _=>⟨rfl,rfl⟩⟩⟩
 ·simp only[if_true]at hmm
  subst hmm
  subst hy2
  have hreach:m*bts≤140737488351232:=by
   have h:=hw ((len+(m-len))*P.bytesOf E) (by simp[DataW.weights,hT])
   rw[show len+(m-len)=m from by omega,hby]at h
   exact h
  have hwe:∀i,i<len→∀k∈(D i).weights P E,k≤reachBytes:=by
   intro i hi k hk
   refine hw k ?_
   simp only[DataW.weights,hT,List.mem_cons,List.mem_append]
   refine .inr (.inl ?_)
   have key:∀(l:List (DataW H)),D i∈l→k∈DataW.weightsAll P E l:=by
    intro l
    induction l with
    | nil=>intro h;simp at h
    | cons d l ih =>
     intro h
     simp only[DataW.weightsAll,List.mem_append]
     rcases List.mem_cons.1 h with rfl|h
     ·exact .inl hk
     ·exact .inr (ih h)
   exact key _ (List.mem_map.2 ⟨i,List.mem_range.2 hi,rfl⟩)
  have hx2:∀i,i<len→∃x : α,ok x∧(enc x).length=sz∧∀j,j<sz→w.cell? ((a.add (i*sz)).add j)=(enc x)[j]? := by
   intro i hi
   obtain⟨cs',h1,h2⟩:=hx i (by omega)
   obtain⟨x,rfl,hlen,hok⟩:=hE H eH n cs' _ h2 (hwe i hi)
   obtain⟨_,_,h3⟩:=World.cells?_some h1
   rw[hc]at h3
   exact⟨x,hok,hlen,h3⟩
  by_cases h0:len=0
  ·subst h0
   exact⟨⟨some a,m,[]⟩,rfl,rfl,⟨.inl rfl,by simp,Nat.zero_le _,hm,hreach,fun h=>by simp at h⟩⟩
  ·obtain⟨x0,_⟩:=hx2 0 (by omega)
   have:Inhabited α := ⟨x0⟩
   obtain⟨f,hf⟩:=Deep.choose_lt (p:=fun i x=>ok x∧(enc x).length=sz∧∀j,j<sz→w.cell? ((a.add (i*sz)).add j)=(enc x)[j]?) hx2
   have hlen:((List.range len).map f).length=len:=by simp
   refine⟨⟨some a,m,(List.range len).map f⟩,by simp[SL.enc,SL.val],rfl,⟨?_,?_,by simpa using hl,hm,hreach,fun h=>by simp at h⟩⟩
   ·obtain⟨_,hl0,hc0⟩:=hf 0 (by omega)
    have hcell:=hc0 0 hsz
    rw[List.getElem?_eq_getElem (by omega)]at hcell
    simp only[Nat.zero_mul]at hcell
    have hadd0:((a.add 0).add 0)=a:=by simp[Addr.add]
    rw[hadd0]at hcell
    have hsp:=World.cell?_spot hcell
    have hlt:=World.block_lt_of_cell? w a hcell
    obtain⟨b,o,sp⟩:=a
    simp only at hsp
    subst hsp
    refine .inr ⟨b,o,rfl,hlt,fun i j v hv => ?_⟩
    cases hxi:((List.range len).map f)[i]? with
    | none=>rw[hxi]at hv;simp at hv
    | some x =>
     rw[hxi]at hv
     have hi:i<len:=by have:=(List.getElem?_eq_some_iff.1 hxi).1;simpa using this
     have hfx:f i=x:=by simpa[hi]using hxi
     obtain⟨_,hl1,hc1⟩:=hf i hi
     have hj:j<sz:=by
      have hv':(enc x)[j]? = some v:=by simpa using hv
      have:=(List.getElem?_eq_some_iff.1 hv').1
      rw[←hfx,hl1]at this;exact this
     have:=hc1 j hj
     rw[hfx]at this
     rw[Deep.add_add,Addr.add_lit]at this
     rw[this];simpa using hv
   ·intro x hx
    simp only[List.mem_map,List.mem_range]at hx
    obtain⟨i,hi,rfl⟩:=hx
    obtain⟨h1,h2,_⟩:=hf i hi
    exact⟨h1,h2⟩
theorem Opens.map {P:Program} {T sz:Nat} {w:World} {α β : Type} {enc : α → List Value} {ok : α → Prop} {enc' : β → List Value} {ok' : β → Prop} (h:Opens P T sz w enc ok) (f : α → β) (hf:∀x,enc' (f x)=enc x) (hok:∀x,ok x→ok' (f x)):Opens P T sz w enc' ok':=by
 intro H eH fuel cs y hy hw
 obtain⟨x,rfl,hl,ho⟩:=h H eH fuel cs y hy hw
 exact⟨f x,(hf x).symm,hl,hok x ho⟩
def OpensF (P:Program) (w:World) (fs:List Field) (o sz:Nat) {α : Type} (enc : α → List Value) (ok : α → Prop):Prop :=
 ∀(H:Type) (eH:TypeId × Value→H) (fuel:Nat) (cs:List Value),cs.length=o+sz →
  (∀f∈fs,∃y,DataW.trod eH P w 0 (fun _=>true) true fuel f.type ((cs.drop f.offset).take (P.cellsOf f.type))=some y∧∀n∈y.1.weights P f.type,n≤reachBytes)→∃x : α,cs.drop o=enc x∧ok x
theorem OpensF.nil {P:Program} {w:World} {o:Nat} : OpensF P w [] o 0 (fun _:Unit => []) (fun _=>True):=by
 intro H eH fuel cs hl _
 exact⟨(),List.drop_eq_nil_of_le (by omega),trivial⟩
theorem OpensF.cons {P:Program} {w:World} {f:Field} {fs:List Field} {o n sz:Nat} {α β : Type} {enc : α → List Value} {ok : α → Prop} {enc' : β → List Value} {ok' : β → Prop}
 (ho:f.offset=o) (hn:P.cellsOf f.type=n) (h:Opens P f.type n w enc ok) (h':OpensF P w fs (o+n) sz enc' ok') :
 OpensF P w (f::fs) o (n+sz) (fun x : α × β => enc x.1++enc' x.2) (fun x=>ok x.1∧ok' x.2):=by
 intro H eH fuel cs hl hall
 obtain⟨y,hy,hw⟩:=hall f (by simp)
 rw[ho,hn]at hy
 obtain⟨x,hx,_,hok⟩:=h H eH fuel _ y hy hw
 obtain⟨x',hx',hok'⟩:=h' H eH fuel cs (by omega) (fun g hg=>hall g (by simp[hg]))
 refine⟨(x,x'),?_,hok,hok'⟩
 show cs.drop o=enc x++enc' x'
 rw[←hx,←hx',←List.drop_drop,List.take_append_drop]
theorem Opens.struct {P:Program} {T sz:Nat} {w:World} {fs:Array Field} {α : Type} {enc : α → List Value} {ok : α → Prop} (hT:P.underlying T=some (.struct fs)) (hc:P.cellsOf T=sz) (h:OpensF P w fs.toList 0 sz enc ok) :
 Opens P T sz w enc ok:=by
 intro H eH fuel cs y hy hw
 obtain⟨xs,n,_,rfl,hl,hlen,hfs⟩:=DataW.trod_struct hT hy
 obtain⟨x,hx,hok⟩:=h H eH n cs (by omega) (fun f hf=>by
  obtain⟨i,hi,he⟩:=List.getElem_of_mem hf
  have hi':i<fs.size:=by simpa using hi
  have hfi:fs[i]? = some f:=by rw[Array.getElem?_eq_getElem hi'];simpa using he
  have:=hfs i f hfi
  have hx:xs[i]? = some (xs[i]'(by omega)):=List.getElem?_eq_getElem (by omega)
  rw[hx]at this
  refine⟨_,this,fun k hk=>hw k ?_⟩
  simp only[DataW.weights,hT]
  refine DataW.weights_mem_each (j:=i) (t:=f.type) ?_ ?_ k hk
  ·rw[List.getElem?_map,Array.getElem?_toList,hfi];rfl
  ·rw[List.getElem?_map,hx];rfl)
 exact⟨x,by simpa using hx,by omega,hok⟩
theorem Opens.arg {P:Program} {T sz:Nat} {w:World} {α : Type} {enc : α → List Value} {ok : α → Prop} (h:Opens P T sz w enc ok) {H:Type} {eH:TypeId × Value→H} {v:Value} {d:DataW H} {p:List MemPlace}
 (hT:DataW.Trod eH P w 0 (fun _=>true) true T v d p) {ts:List TypeId} {ds:List (DataW H)} (hz:(DataW.weightsEach P ts ds).all (· ≤ reachBytes)=true) (j:Nat) (h1:ts[j]? = some T) (h2:ds[j]? = some d):∃x : α,v.cells.toList=enc x∧ok x:=by
 obtain⟨fuel,hf⟩:=hT
 obtain⟨x,h1,_,h2⟩:=h H eH fuel _ _ hf (fun n hn=>by
  have:=List.all_eq_true.1 hz n (DataW.weights_mem_each h1 h2 n hn)
  simpa using this)
 exact⟨x,h1,h2⟩
end Go.Proofs.Ytmjbgbmegbkmhaa
namespace Go.Proofs.Ytmjbgbmegbkmhaa
set_option linter.all false
open Go.RowKit
theorem zp7 {w:World} {F:Nat→Prop} {b:Nat} : ∀(ps:List PV) (vs:List Value) (o:Nat),vs.length=ps.length→(∀(j:Nat) v,vs[j]? = some v→w.cell? ⟨b,o+j,none⟩=some v)→(∀(j:Nat) p u,ps[j]? = some p→vs[j]? = some u→RelP w F p u)→RelC w F b o ps
 | [],_,_,_,_,_=>by simp only[RelC]
 | p::ps,[],_,h,_,_=>by simp at h
 | p::ps,v::vs,o,h,hc,hr=>by
  simp only[RelC]
  refine⟨⟨v,by have:=hc 0 v rfl;simpa using this,hr 0 p v rfl rfl⟩,zp7 ps vs (o+1) (by simpa using h) (fun j u hu => ?_) (fun j q u h1 h2=>hr (j+1) q u h1 h2)⟩
  have:=hc (j+1) u hu
  rwa [show o+(j+1)=o+1+j from by omega]at this
theorem zp6 {α : Type} {w:World} {F:Nat→Prop} {b sz:Nat} {enc : α → List Value} {pv : α → List PV} : ∀(xs:List α) (o:Nat),(∀i j v,(xs[i]?).bind (fun x=>(enc x)[j]?)=some v→w.cell? ⟨b,o+(i*sz+j),none⟩=some v) →
 (∀x∈xs,(pv x).length=sz∧(enc x).length=sz∧∀(j:Nat) p u,(pv x)[j]? = some p→(enc x)[j]? = some u→RelP w F p u)→RelE w F b sz o (xs.map pv)
 | [],_,_,_=>by simp only[List.map_nil,RelE]
 | x::xs,o,hc,hp=>by
  simp only[List.map_cons,RelE]
  obtain⟨h1,h2,h3⟩:=hp x (by simp)
  refine⟨h1,zp7 (pv x) (enc x) o (by rw[h1,h2]) (fun j v hv => ?_) h3,zp6 xs (o+sz) (fun i j v hv => ?_) fun y hy=>hp y (List.mem_cons_of_mem _ hy)⟩
  ·have:=hc 0 j v (by simpa using hv);simpa using this
  ·have:=hc (i+1) j v (by simpa using hv)
   rwa [show o+((i+1)*sz+j)=o+sz+(i*sz+j)from by rw[Nat.succ_mul];omega]at this
theorem zp5 {α : Type} {w:World} {B sz bts:Nat} {enc : α → List Value} {ok : α → Prop} {s:SL α} {pv : α → List PV} (h:SLok w B sz bts enc ok s)
 (hp:∀x∈s.xs,ok x→(pv x).length=sz∧∀(j:Nat) p u,(pv x)[j]? = some p→(enc x)[j]? = some u→RelP w (· < B) p u):RelP w (· < B) (.sl sz (s.xs.map pv)) s.val:=by
 simp only[RelP]
 refine⟨s.a,s.c,by simp[SL.val],by simpa using h.cap,h.max,?_⟩
 rcases h.els with h1|⟨b,o,ha,hb,hc⟩
 ·exact .inl (by rw[h1];rfl)
 ·refine .inr ⟨b,o,ha,hb,zp6 s.xs o hc fun x hx => ?_⟩
  obtain⟨h1,h2⟩:=h.each x hx
  obtain⟨h3,h4⟩:=hp x hx h1
  exact⟨h3,h2,h4⟩
theorem zl2 {P:Program} {f:FuncId} {args:List AV} (S:Spec P f args [] (B true) []) {w:World} {vs:List Value} (hr:RelL (· < 0) w (· < w.heap.size) (fun _=>none) args vs) :
 Calls P f vs.toArray w fun e w'=>e = .returned (.bool true)∧Below w.heap.size w w':=by
 have M:MemOk w (inB fun _=>none) (· < ([]:List Chunk).length) (· < w.heap.size) (fun _=>none) (nth []) w :=
  ⟨Nat.le_refl _,rfl,rfl,rfl,fun _ _ _=>rfl,fun _ h=>h,fun _ _ h=>by simp at h,fun _ h=>absurd rfl h,fun _ _ _ _ _ h=>by simp at h,fun _ _ _ h=>by simp at h⟩
 refine(S.2.2 w (· < w.heap.size) (fun _=>none) vs M hr).mono ?_
 rintro e w' ⟨v,F',β',rfl,M',hv,_⟩
 refine⟨by rw[relB.1 hv],M'.os,M'.tape,M'.output,M'.size,fun b hb=>M'.frame b hb ?_⟩
 rintro⟨i,bd,h,_⟩
 simp at h
theorem zma {U F:Nat→Prop} {β : Nat→Option Bind} {w:World} : RelL U w F β [] []:=by simp only[RelL]
theorem zgd {U F:Nat→Prop} {β : Nat→Option Bind} {w:World} {x:AV} {xs:List AV} {v:Value} {vs:List Value} (h1:RelA U w F β x v) (h2:RelL U w F β xs vs):RelL U w F β (x::xs) (v::vs):=by
 simp only[RelL];exact⟨v,vs,rfl,h1,h2⟩
theorem zp8 {U F:Nat→Prop} {β : Nat→Option Bind} {w:World} {p:PV} {v:Value} (h:RelP w F p v):RelA U w F β (.c p) v:=by simp only[RelA];exact h
theorem zgc {F:Nat→Prop} {w:World} {v:Value} (h:v.oneCell'=true):RelP w F (.v v) v:=by simp[RelP,h]
theorem To.ptrN {k:Nat} {s:St} (t id i o e sz c e2 sz2:Nat) (xs:List (List PV)) (ys:List (List (List PV))) (op:Option (Nat × Nat)) (ht:za3 s.t t = .ptr id 0 (i*sz+o)) (hc:zab s.h id = .nst e sz c e2 sz2 xs ys op):ToK k s ⟨(t,.ptr id i o)::s.t,s.h,s.n⟩:=by
 intro H F β a w hk C
 refine⟨F,β,fun t' => ?_,C.m,C.nt,C.d,C.f,C.g,C.e,C.k⟩
 by_cases htt:t=t'
 ·subst htt
  simp only[za3,if_true]
  have h:=C.t t
  rw[ht]at h
  simp only[RelA]at h ⊢
  refine⟨h.1,h.2.1,fun bd hb => ?_⟩
  obtain⟨g,hg,hv⟩:=h.2.2 bd hb
  obtain⟨bd',hb',q1,_⟩:=C.m.here' hc (by simp)
  rw[hb]at hb';cases hb'
  refine⟨g,hg,?_⟩
  rw[hv,q1.1,Nat.zero_mul,Nat.zero_add]
 ·simp only[za3,if_neg htt]
  exact C.t t'
theorem zpj {α : Type} (xs:List (List α)) (sz:Nat) (h:∀x∈xs,x.length=sz) (i j:Nat) (x:List α) (hx:xs[i]? = some x) (hj:j<sz):xs.flatten[i*sz+j]? = x[j]? := by
 induction xs generalizing i with
 | nil=>simp at hx
 | cons a r ih =>
  have ha:=h a (by simp)
  rw[List.flatten_cons]
  cases i with
  | zero =>
   simp at hx
   subst hx
   rw[Nat.zero_mul,Nat.zero_add,List.getElem?_append_left (by omega)]
  | succ i =>
   rw[Nat.add_mul,List.getElem?_append_right (by omega),ha]
   rw[show i*sz+1*sz+j-sz=i*sz+j by omega]
   exact ih (fun x hx=>h x (by simp[hx])) i (by simpa using hx)
theorem To.arrN {k:Nat} {s:St} (t id tt sz c e2 sz2 n:Nat) (cs:List AV) (x x':List PV) (hc:zab s.h id = .blk tt cs) (ht:za3 s.t t = .ptr id 0 0) (hcs:cs=((List.replicate n x).flatten).map .c) (hx:x.length=sz) (hcz:c<sz) (hxc:x[c]? = some (.v (.slice none 0 0))) (hn:n≤maxLen) (hx':x'.length=sz) (hxx:∀j:Nat,j≠c→x'[j]? = x[j]?) :
 ToK k s ⟨(t,.ptr s.n 0 0)::s.t,(s.n,.nst tt sz c e2 sz2 (List.replicate n x') (List.replicate n []) none)::(id,.dead)::s.h,s.n+1⟩:=by
 intro H F β a w hk C
 obtain⟨bd0,hb1,hb2⟩:=C.m.ch id (by rw[hc];simp)
 have hbn:id≠s.n:=fun h=>absurd (C.m.used _ _ hb1) (by rw[h];exact Nat.lt_irrefl _)
 have hb2':=hb2
 rw[hc]at hb2'
 obtain⟨q1,q2,g0,vs,q3,q4,q5,q6,q7⟩:=hb2'
 have hlen:((List.replicate n x).flatten).length=n*sz:=by
  have:=zbr (sz:=sz) (xs:=List.replicate n x) (fun c hc=>by rw[(List.mem_replicate.1 hc).2];exact hx)
  rw[this,List.length_replicate]
 have hvl:vs.size=n*sz:=by
  have:=q6.len
  rw[hcs,List.length_map,hlen]at this
  simpa using this
 let bd1:Bind:=⟨.slice (some ⟨g0,0,none⟩) n n,some g0,n,sz,[]⟩
 have hhas:∀b,bd1.has b→bd0.has b:=fun b h=>by
  have:=Bind.has_nil h
  exact .inl (q3.trans this)
 obtain⟨M,E⟩:=C.m.step (w':=w) (h':=zab ((s.n,.nst tt sz c e2 sz2 (List.replicate n x') (List.replicate n []) none)::(id,.dead)::s.h)) (β':=zaf (zaf β id none) s.n (some bd1)) (F':=F) (U':=(· < s.n+1)) (fun i=>i=s.n∨i=id)
  (fun i hi=>by simp only[not_or]at hi;simp[zaf,Ne.symm hi.1,Ne.symm hi.2]) (fun i hi=>by simp only[not_or]at hi;simp[zab,Ne.symm hi.1,Ne.symm hi.2]) rfl rfl rfl (Nat.le_refl _) (fun _ _ _=>rfl) (fun i hi=>Nat.lt_succ_of_lt hi) (fun b hb=>hb)
  (fun b hb=>⟨C.m.fin b hb,.inl hb⟩)
  (fun i bd' hi hu hb=>by
   rcases hi with rfl|rfl
   ·exact absurd hu (Nat.lt_irrefl _)
   ·simp[zaf,Ne.symm hbn]at hb)
  (fun i bd' hi hb=>by
   rcases hi with rfl|rfl
   ·simp only[zaf,if_true,Option.some.injEq]at hb
    subst hb
    refine⟨Nat.lt_succ_self _,fun b hbb => ?_⟩
    obtain⟨r1,r2,r3⟩:=C.m.off _ _ _ hb1 (hhas b hbb)
    exact⟨r2,r1,.inr ⟨id,bd0,.inr rfl,hb1,hhas b hbb⟩⟩
   ·simp[zaf,Ne.symm hbn]at hb)
  (fun i j' bi bj b hi hj' hbi2 hbj h1 h2=>by
   rcases hi with rfl|rfl<;>rcases hj' with rfl|rfl
   ·rfl
   ·simp[zaf,Ne.symm hbn]at hbj
   ·simp[zaf,Ne.symm hbn]at hbi2
   ·rfl)
  (fun E i hi hd=>by
   rcases hi with rfl|rfl
   ·refine⟨bd1,by simp[zaf],?_⟩
    simp only[zab,if_true]
    refine⟨⟨rfl,fun b hb=>by simp[bd1]at hb⟩,by simp[bd1],by simp,hcz,fun c hc=>by rw[(List.mem_replicate.1 hc).2];exact hx',.inr ⟨g0,n,vs,rfl,by simp[bd1],q5,by simp,hn,hvl,by simp[bd1],?_⟩⟩
    have cell:∀i j p,i<n→x[j]? = some p→∃u,w.cell? ⟨g0,i*sz+j,none⟩=some u∧RelP w F p u:=fun i j p hi hp=>by
     have hjs:j<sz:=by rw[←hx];exact(List.getElem?_eq_some_iff.1 hp).1
     have hf:cs[i*sz+j]? = some (.c p):=by
      rw[hcs,List.getElem?_map,zpj _ sz (fun c hc=>by rw[(List.mem_replicate.1 hc).2];exact hx) i j x (by rw[List.getElem?_replicate,if_pos hi]) hjs,hp];rfl
     obtain⟨u,hu,hr⟩:=q6.at _ _ hf
     simp only[RelA]at hr
     refine⟨u,?_,hr⟩
     simp only[World.cell?,q5]
     simpa using hu
    refine⟨fun i z y hz hy j p hp => ?_,fun i i' b o o' n1 n2 k1 k2 h1 h2 _ _ e1 e2' => ?_,fun i id' ho=>by simp at ho⟩
    ·rw[List.getElem?_replicate]at hz hy
     split at hz
     ·rename_i hi
      rw[if_pos hi]at hy
      cases hz;cases hy
      by_cases hj:j=c
      ·subst hj
       obtain⟨u,hu,hr⟩:=cell i j _ hi hxc
       refine⟨u,hu,?_⟩
       unfold NCell
       rw[if_pos rfl]
       simp only[RelP]at hr
       simp only[zce]
       exact .inl ⟨hr.1,rfl⟩
      ·rw[hxx j hj]at hp
       obtain⟨u,hu,hr⟩:=cell i j p hi hp
       refine⟨u,hu,?_⟩
       unfold NCell
       rw[if_neg hj]
       exact hr
     ·simp at hz
    ·rw[List.length_replicate]at h1
     obtain⟨u,hu,hr⟩:=cell i c _ h1 hxc
     rw[e1]at hu
     cases hu
     simp only[RelP]at hr
     simp at hr
   ·simp[zab,Ne.symm hbn]at hd)
 refine⟨F,_,fun t' => ?_,M,C.nt,C.d,C.f,C.g,fun i bd' hi hb => ?_,Nat.le_succ_of_le C.k⟩
 ·by_cases htt:t=t'
  ·subst htt
   simp only[za3,if_true]
   have h:=C.t t
   rw[ht]at h
   simp only[RelA]at h ⊢
   obtain⟨g,hg,hv⟩:=h.2.2 bd0 hb1
   rw[q3]at hg;cases hg
   refine⟨Nat.lt_succ_self _,h.2.1,fun bd hb => ?_⟩
   simp only[zaf,if_true,Option.some.injEq]at hb
   subst hb
   exact⟨g0,rfl,by rw[hv];simp⟩
  ·simp only[za3,if_neg htt]
   exact RelA.mono E _ _ (C.t t')
 ·have h1:s.n≠i:=by have:=C.k;omega
  by_cases h2:id=i
  ·subst h2;simp[zaf,h1]at hb
  ·exact C.e i bd' hi (by simpa[zaf,h1,h2]using hb)
theorem zq8 {P:Program} {rs:List ResultVar} {r:AV} {s:St} {φ : Prop} {xs:List AV} (h:zdk P (za3 s.t) (zab s.h) rs=some (φ,xs)) (hw:Wk (cv [] (zab s.h) (zmh xs)) r) (hφ : φ := by repeat' (first|exact trivial|exact rfl|refine⟨?_,?_⟩)):znj P 0 rs r [] s:=zh1 h hφ hw
theorem wkc {x y:AV} (h:Wk x y:=by first|exact Wk.refl _|exact Wk.nil _|(refine Wk.tup ?_;repeat' (first|exact trivial|exact Wk.refl _|exact Wk.nil _|refine⟨?_,?_⟩|(refine Wk.agg ?_)))):Wk x y:=h
theorem obA {a b:Prop} (h:b) (ha:a:=by first|omega|decide|(simp;done)|(simp;omega)|(intro hh;refine⟨hh,?_⟩;omega)|(simp[zpx,zbc];done)|(simp +contextual;done)|fail):a∧b:=⟨ha,h⟩
theorem tdv {a b:Int} (h:0≤a):a.tdiv b=a/b:=Int.tdiv_eq_ediv_of_nonneg h
theorem tmd {a b:Int} (h:0≤a):a.tmod b=a % b:=Int.tmod_eq_emod_of_nonneg h
theorem xa {p:Prop} [Decidable p]:(decide p=true)=p:=decide_eq_true_eq
theorem xb {p:Prop} [Decidable p]:decide p=false↔¬p:=decide_eq_false_iff_not
theorem xc {b:Bool} : ((!b)=true)↔b=false:=by cases b<;>simp
theorem xd {b:Bool} : ((!b)=false)↔b=true:=by cases b<;>simp
theorem xe {a b:Bool} : (a||b)=true↔a=true∨b=true:=by cases a<;>simp
theorem xf {a b:Bool} : (a&&b)=true↔a=true∧b=true:=by cases a<;>simp
theorem xg {a b:Bool} : (a||b)=false↔a=false∧b=false:=by cases a<;>simp
theorem xh {a b:Bool} : (a&&b)=false↔a=false∨b=false:=by cases a<;>simp
theorem xi {a b:Int} : ¬a<b↔b≤a:=Int.not_lt
theorem xj {a b:Int} : ¬a≤b↔b<a:=Int.not_le
theorem xk {p q:Prop} : ¬(p∧q)↔(p→¬q):=not_and
theorem xl {p q:Prop} : ¬(p∨q)↔¬p∧¬q:=not_or
attribute [push_cast] drE zft zit zgg zpz awp zqw opW zg9 opX opG ex4 ex3 zmi zid zic zfg zdu zie zib zbb fz fzL inZ fzH zb1 zj3 zi3 zjb zee kty zqk zja ex2 ex1 zef zfu zoc zqx zbs zgh zfr zbq zfm zes zfb ziu zmq zc4 zc5 zmu zgf zjf zlk zng zij zhw zq9 zdb zhh zqf zq5 zl3 cellsOf zg4 zf1 zaa zck zpw zfw zb3 zp2 zig zb6 ze9 zop znh zjd zra zm1 zca za4 St.app zlw zqg zqh zo4 zks zcn ofV zr0 zrr zr1 zkl zn7 opK drK zrh zri zrg zo9 zpa zo8 zfx hsT zrc I B S Op.operands Call.operands cv cvL ix ix.go znb cvC up upL upC zjo upI zer zi0 zjq zhl zpf znt zlx zc3 zak zne cvT cvH hsW zdk zmh WkL WkC List.map_cons List.map_nil Option.toArray List.getElem?_cons_zero List.getElem?_cons_succ List.getElem?_nil List.drop_succ_cons List.drop_zero List.drop_nil List.take_succ_cons List.take_zero List.take_nil List.append_nil List.nil_append List.cons_append List.getElem?_toArray List.length_cons List.length_nil List.all_cons List.all_nil Bool.and_true Bool.true_and Bool.and_self Bool.and_false Bool.false_and Bool.or_false Bool.or_true Bool.true_or Bool.false_or Option.map_some Option.map_none Option.bind_some Option.bind_none if_true if_false true_and and_true List.getD_cons_zero List.getD_cons_succ Bool.not_true Bool.not_false Bool.false_eq_true not_false_eq_true not_true_eq_false Option.isSome_some List.isEmpty_cons Nat.add_zero Nat.zero_add List.length_map List.replicate_succ List.replicate_zero Nat.sub_zero and_self implies_true forall_const Value.oneCell' imp_self Int.toNat_zero Int.toNat_one Int.toNat_natCast true_or or_true or_false false_or Array.toList_append List.size_toArray decide_true decide_false Nat.ble_eq Nat.beq_eq Bool.and_eq_true Int.natCast_add Int.cast_ofNat_Int Int.natCast_zero Int.natCast_one decide_eq_true_eq decide_eq_false_iff_not Bool.not_eq_true' Bool.not_eq_false' Bool.or_eq_true Bool.or_eq_false_iff Bool.and_eq_false_iff beq_self_eq_true
theorem xtI:True:=True.intro
structure XHid (p : Prop) : Prop where
 x:p
theorem xst {G G':Prop} (k:G') (h:XHid G'→G:=by intro h0;first|((try simp(etaStruct := .none)only[push_cast,zac,seval]);(try simp(disch:=omega)only[zam,zak,tdv,tmd]);(repeat with_reducible refine obA ?_);exact h0.x)|(have _h:XHid True:=h0;(try simp(etaStruct := .none)only[push_cast,zac,seval]);(try simp(disch:=omega)only[zam,zak,tdv,tmd]);(repeat with_reducible refine obA ?_))):G:=h ⟨k⟩
theorem xsu {G G':Prop} (k:G') (h:XHid G'→G:=by intro h0;first|((try simp(disch:=omega)only[zam,zak,tdv,tmd]);(repeat with_reducible refine obA ?_);exact h0.x)|(have _h:XHid True:=h0;(try simp(disch:=omega)only[zam,zak,tdv,tmd]);(repeat with_reducible refine obA ?_))):G:=h ⟨k⟩
theorem xhh {p q:Prop} (x:p) (h:p→q:=by intro h0;(simp only[xa,xb,xc,xd,xe,xf,xg,xh,xi,xj,Bool.not_true,Bool.not_false,xk,xl]at h0);exact h0):q:=h x
theorem xrz {P:Program} {rs:List ResultVar} {r:AV} {s:St} {φ : Prop} {xs:List AV} (h:zdk P (za3 s.t) (zab s.h) rs=some (φ,xs)) (hw:Wk (cv [] (zab s.h) (zmh xs)) r:=by first|(refine Wk.of ?_;(try simp(etaStruct := .none)only[push_cast,zac,seval]);first|done|(simp[*];done)|(simp_all;done)|fail)|((try simp(etaStruct := .none)only[push_cast,zac,seval]);(try simp[*]);(try exact wkc))) (hφ : φ := by repeat' (first|exact trivial|exact rfl|refine⟨?_,?_⟩)):znj P 0 rs r [] s:=zh1 h hφ hw
section
variable {P : Program} {f : FuncId} {args args' : List AV} {h : Nat → Chunk} {m : Nat} {K : Eff → Prop} {r : AV} {c : Bool} {φ : Prop}
theorem caP (S:Spec P f args' [] r []) (k:K ⟨up [] m r,[],0⟩) (hw:WkL (cvL [] noC args) args':=by exact WkL.refl _):zho P f args h m K:=znc S hw k
theorem gcP (S:c=true→Spec P f args' [] r []) (k:K ⟨.opt c (up [] m r),[],0⟩) (hw:WkL (cvL [] noC args) args':=by exact WkL.refl _) (hφ : c=true → φ := by intro hc;(try simp(etaStruct := .none)only[push_cast,zac,seval]);(try simp_all)):zjh P c f args φ h m K:=znw S hw hφ k
theorem caM {hs hs':List Chunk} (ids:List Nat) (S:Spec P f args' hs r hs') (k:K ⟨up ids m r,zjo ids m 0 hs',hs'.length-ids.length⟩) (hw:WkL (cvL ids noC args) args':=by exact WkL.refl _) (hh:hs=ids.map (fun id=>cvC ids noC (h id)):=by rfl) (hnd:ids.Nodup:=by decide) (hal:∀id∈ids,h id ≠ .dead:=by simp[zks]):zho P f args h m K:=zrp ids S hw hh hnd hal k
end
theorem cI {k:Nat} {b:Bool} {X Y:(Exit→St→Prop)→St→Prop} {Q:Exit→St→Prop} {s:St} {A B:Prop} (h1:A→X Q s) (h2:B→Y Q s) (ea:b=true→A:=by intro h0;first|exact xhh h0|exact h0) (eb:b=false→B:=by intro h0;first|exact xhh h0|exact h0):zlr k (.c (.v (.bool b))) X Y Q s:=ze2 (fun h=>h1 (ea h)) (fun h=>h2 (eb h))
theorem xz1 {G G' P1:Prop} (p1:P1) (k:G') (h:P1→XHid G'→G:=by intro z1 h0;first|((iterate 2((try simp(etaStruct := .none)only[push_cast,zac,seval,z1]);(try simp(disch:=omega)only[zam,zak,tdv,tmd]);(repeat with_reducible refine obA ?_)));exact h0.x)|(have _h:XHid True:=h0;(iterate 2((try simp(etaStruct := .none)only[push_cast,zac,seval,z1]);(try simp(disch:=omega)only[zam,zak,tdv,tmd]);(repeat with_reducible refine obA ?_))))):G:=h p1 ⟨k⟩
theorem xz2 {G G' P1 P2:Prop} (p1:P1) (p2:P2) (k:G') (h:P1→P2→XHid G'→G:=by intro z1 z2 h0;first|((iterate 2((try simp(etaStruct := .none)only[push_cast,zac,seval,z1,z2]);(try simp(disch:=omega)only[zam,zak,tdv,tmd]);(repeat with_reducible refine obA ?_)));exact h0.x)|(have _h:XHid True:=h0;(iterate 2((try simp(etaStruct := .none)only[push_cast,zac,seval,z1,z2]);(try simp(disch:=omega)only[zam,zak,tdv,tmd]);(repeat with_reducible refine obA ?_))))):G:=h p1 p2 ⟨k⟩
theorem xz3 {G G' P1 P2 P3:Prop} (p1:P1) (p2:P2) (p3:P3) (k:G') (h:P1→P2→P3→XHid G'→G:=by intro z1 z2 z3 h0;first|((iterate 2((try simp(etaStruct := .none)only[push_cast,zac,seval,z1,z2,z3]);(try simp(disch:=omega)only[zam,zak,tdv,tmd]);(repeat with_reducible refine obA ?_)));exact h0.x)|(have _h:XHid True:=h0;(iterate 2((try simp(etaStruct := .none)only[push_cast,zac,seval,z1,z2,z3]);(try simp(disch:=omega)only[zam,zak,tdv,tmd]);(repeat with_reducible refine obA ?_))))):G:=h p1 p2 p3 ⟨k⟩
theorem xz4 {G G' P1 P2 P3 P4:Prop} (p1:P1) (p2:P2) (p3:P3) (p4:P4) (k:G') (h:P1→P2→P3→P4→XHid G'→G:=by intro z1 z2 z3 z4 h0;first|((iterate 2((try simp(etaStruct := .none)only[push_cast,zac,seval,z1,z2,z3,z4]);(try simp(disch:=omega)only[zam,zak,tdv,tmd]);(repeat with_reducible refine obA ?_)));exact h0.x)|(have _h:XHid True:=h0;(iterate 2((try simp(etaStruct := .none)only[push_cast,zac,seval,z1,z2,z3,z4]);(try simp(disch:=omega)only[zam,zak,tdv,tmd]);(repeat with_reducible refine obA ?_))))):G:=h p1 p2 p3 p4 ⟨k⟩
theorem xz5 {G G' P1 P2 P3 P4 P5:Prop} (p1:P1) (p2:P2) (p3:P3) (p4:P4) (p5:P5) (k:G') (h:P1→P2→P3→P4→P5→XHid G'→G:=by intro z1 z2 z3 z4 z5 h0;first|((iterate 2((try simp(etaStruct := .none)only[push_cast,zac,seval,z1,z2,z3,z4,z5]);(try simp(disch:=omega)only[zam,zak,tdv,tmd]);(repeat with_reducible refine obA ?_)));exact h0.x)|(have _h:XHid True:=h0;(iterate 2((try simp(etaStruct := .none)only[push_cast,zac,seval,z1,z2,z3,z4,z5]);(try simp(disch:=omega)only[zam,zak,tdv,tmd]);(repeat with_reducible refine obA ?_))))):G:=h p1 p2 p3 p4 p5 ⟨k⟩
theorem xz6 {G G' P1 P2 P3 P4 P5 P6:Prop} (p1:P1) (p2:P2) (p3:P3) (p4:P4) (p5:P5) (p6:P6) (k:G') (h:P1→P2→P3→P4→P5→P6→XHid G'→G:=by intro z1 z2 z3 z4 z5 z6 h0;first|((iterate 2((try simp(etaStruct := .none)only[push_cast,zac,seval,z1,z2,z3,z4,z5,z6]);(try simp(disch:=omega)only[zam,zak,tdv,tmd]);(repeat with_reducible refine obA ?_)));exact h0.x)|(have _h:XHid True:=h0;(iterate 2((try simp(etaStruct := .none)only[push_cast,zac,seval,z1,z2,z3,z4,z5,z6]);(try simp(disch:=omega)only[zam,zak,tdv,tmd]);(repeat with_reducible refine obA ?_))))):G:=h p1 p2 p3 p4 p5 p6 ⟨k⟩
theorem xz7 {G G' P1 P2 P3 P4 P5 P6 P7:Prop} (p1:P1) (p2:P2) (p3:P3) (p4:P4) (p5:P5) (p6:P6) (p7:P7) (k:G') (h:P1→P2→P3→P4→P5→P6→P7→XHid G'→G:=by intro z1 z2 z3 z4 z5 z6 z7 h0;first|((iterate 2((try simp(etaStruct := .none)only[push_cast,zac,seval,z1,z2,z3,z4,z5,z6,z7]);(try simp(disch:=omega)only[zam,zak,tdv,tmd]);(repeat with_reducible refine obA ?_)));exact h0.x)|(have _h:XHid True:=h0;(iterate 2((try simp(etaStruct := .none)only[push_cast,zac,seval,z1,z2,z3,z4,z5,z6,z7]);(try simp(disch:=omega)only[zam,zak,tdv,tmd]);(repeat with_reducible refine obA ?_))))):G:=h p1 p2 p3 p4 p5 p6 p7 ⟨k⟩
theorem xz8 {G G' P1 P2 P3 P4 P5 P6 P7 P8:Prop} (p1:P1) (p2:P2) (p3:P3) (p4:P4) (p5:P5) (p6:P6) (p7:P7) (p8:P8) (k:G') (h:P1→P2→P3→P4→P5→P6→P7→P8→XHid G'→G:=by intro z1 z2 z3 z4 z5 z6 z7 z8 h0;first|((iterate 2((try simp(etaStruct := .none)only[push_cast,zac,seval,z1,z2,z3,z4,z5,z6,z7,z8]);(try simp(disch:=omega)only[zam,zak,tdv,tmd]);(repeat with_reducible refine obA ?_)));exact h0.x)|(have _h:XHid True:=h0;(iterate 2((try simp(etaStruct := .none)only[push_cast,zac,seval,z1,z2,z3,z4,z5,z6,z7,z8]);(try simp(disch:=omega)only[zam,zak,tdv,tmd]);(repeat with_reducible refine obA ?_))))):G:=h p1 p2 p3 p4 p5 p6 p7 p8 ⟨k⟩
end Go.Proofs.Ytmjbgbmegbkmhaa
