/- Lemmas for the proof of fieldSays.proved. -/
import Derived.Test.YthlcafpcndagcaaDoorFSa3
import Derived.Shelf.Small.Strs
import Derived.Shelf.Strings.Search1
import Derived.Shelf.Strings.Search2
import Derived.Shelf.Strings.Search3
import Derived.Shelf.Strings.Count
import Derived.Shelf.LaysM
import Derived.Shelf.Strings.Shaped
import Derived.Test.YthlcafpcndagcaaDoorProg
namespace Go.Proofs.YthlcafpcndagcaaDoor
set_option linter.all false
open Go.RowKit
theorem RelL.setAt {U F:Nat→Prop} {β : Nat→Option Bind} {w:World} {y:AV} : ∀ {cs:List AV} {us:List Value} (j:Nat),RelL U w F β cs us→(∀u,us[j]? = some u→RelA U w F β y u)→RelL U w F β (cs.set j y) us
 | [],us,j,h,_=>by simpa using h
 | x::r,us,j,h,hy=>by
  simp only[RelL]at h
  obtain⟨u,us',rfl,h1,h2⟩:=h
  cases j with
  | zero=>simp only[List.set_cons_zero,RelL];exact⟨u,us',rfl,hy u rfl,h2⟩
  | succ j=>simp only[List.set_cons_succ,RelL];exact⟨u,us',rfl,h1,RelL.setAt j h2 (fun v hv=>hy v (by simpa using hv))⟩
theorem To.nilC {k:Nat} {s:St} (id j e sz tt:Nat) (cs:List AV) (hc:zac s.h id = .blk tt cs) (hj:cs[j]? = some (.c (.v (.slice none 0 0)))):ToK k s ⟨s.t,(s.n,.row e sz [])::(id,.blk tt (cs.set j (.own s.n)))::s.h,s.n+1⟩:=by
 intro H F β a w hk C
 obtain⟨bd0,hb1,hb2⟩:=C.m.ch id (by rw[hc];simp)
 have hidn:id≠s.n:=fun h=>absurd (C.m.used _ _ hb1) (by rw[h];exact Nat.lt_irrefl _)
 obtain⟨M,E⟩:=C.m.step (w':=w) (h':=zac ((s.n,.row e sz [])::(id,.blk tt (cs.set j (.own s.n)))::s.h)) (β':=za9 β s.n (some ⟨.slice none 0 0,none,0,sz,[]⟩)) (F':=F) (U':=(· < s.n+1)) (fun i=>i=s.n∨i=id)
  (fun i hi=>by simp only[not_or]at hi;simp[za9,Ne.symm hi.1]) (fun i hi=>by simp only[not_or]at hi;simp[zac,Ne.symm hi.1,Ne.symm hi.2]) rfl rfl rfl (Nat.le_refl _) (fun _ _ _=>rfl) (fun i hi=>Nat.lt_succ_of_lt hi) (fun b hb=>hb)
  (fun b hb=>⟨C.m.fin b hb,.inl hb⟩)
  (fun i bd' hi hu hb=>by
   rcases hi with rfl|rfl
   ·exact absurd hu (Nat.lt_irrefl _)
   ·exact⟨_,by simpa[za9,Ne.symm hidn]using hb⟩)
  (fun i bd' hi hb=>by
   rcases hi with rfl|rfl
   ·simp only[za9,if_true,Option.some.injEq]at hb
    subst hb
    exact⟨Nat.lt_succ_self _,fun b hb=>by have:=Bind.has_nil hb;simp at this⟩
   ·have hb' : β i=some bd':=by simpa[za9,Ne.symm hidn]using hb
    refine⟨Nat.lt_succ_of_lt (C.m.used _ _ hb'),fun b hbb => ?_⟩
    obtain⟨p1,p2,p3⟩:=C.m.off _ _ _ hb' hbb
    exact⟨p2,p1,.inr ⟨i,bd',.inr rfl,hb',hbb⟩⟩)
  (fun i j' bi bj b hi hj' hbi hbj h1 h2=>by
   rcases hi with rfl|rfl<;>rcases hj' with rfl|rfl
   ·rfl
   ·simp only[za9,if_true,Option.some.injEq]at hbi;subst hbi;have:=Bind.has_nil h1;simp at this
   ·simp only[za9,if_true,Option.some.injEq]at hbj;subst hbj;have:=Bind.has_nil h2;simp at this
   ·rfl)
  (fun E i hi _=>by
   rcases hi with rfl|rfl
   ·refine⟨⟨.slice none 0 0,none,0,sz,[]⟩,by simp[za9],?_⟩
    simp only[zac,if_true,ChOk]
    simp
   ·refine⟨bd0,by simpa[za9,Ne.symm hidn]using hb1,?_⟩
    have hb2':=ChOk.mono E (fun g _=>rfl) hb2
    rw[hc]at hb2'
    simp only[zac,if_true,Ne.symm hidn,if_false]
    obtain⟨q1,q2,g,vs,q3,q4,q5,q6,q7⟩:=hb2'
    refine⟨by rw[List.length_set];exact q1,q2,g,vs,q3,q4,q5,RelL.setAt j q6 (fun u hu => ?_),q7⟩
    obtain⟨u',hu',hr⟩:=q6.at j _ hj
    rw[hu]at hu';cases hu'
    rw[relC]at hr
    simp only[RelA]
    rw[hr.1]
    refine⟨Nat.lt_succ_self _,rfl,fun bd hb => ?_⟩
    simp only[za9,if_true,Option.some.injEq]at hb
    subst hb;rfl)
 refine⟨F,za9 β s.n (some ⟨.slice none 0 0,none,0,sz,[]⟩),fun t'=>RelA.mono E _ _ (C.t t'),M,C.nt,C.d,C.f,C.g,fun i bd' hi hb => ?_,Nat.le_succ_of_le C.k⟩
 refine C.e i bd' hi ?_
 have:s.n≠i:=by have:=C.k;omega
 simpa[za9,this]using hb
def zrd (ops:Array Oper) (n:Nat) (K:St→Prop) (acc:List (List Nat × List Nat)) (s':St):Prop:=zi8 ops acc=true∧K ⟨s'.t,s'.h,n+4*ops.size⟩
theorem zf7 {P:Program} {nt:Nat} {ops:Array Oper} {K:St→Prop} {t:List (Nat × AV)} {h:List (Nat × Chunk)} {n:Nat} (ds:List (Option Tmp)) (hds:ops.toList.map (fun o:Oper=>o.dst)=ds)
 (G:∀(O:Array Oper) (l:List Oper) (R:List (List Nat × List Nat)→St→Prop),l=ops.toList→(∀j:Nat,(O[j]?).bind (fun o:Oper=>o.dst)=(ds[j]?).bind id)→R=zrd ops n K→zey P nt O n 0 l [] R ⟨t,h,n⟩):zab P nt ops K ⟨t,h,n⟩:=by
 refine G ops ops.toList _ rfl (fun j => ?_) rfl
 rw[←hds,List.getElem?_map,Array.getElem?_toList]
 cases ops[j]? <;> rfl
theorem zgy {P:Program} {nt:Nat} {O:Array Oper} {n i:Nat} {o:Oper} {r0:List Oper} {acc:List (List Nat × List Nat)} {R:List (List Nat × List Nat)→St→Prop} {s:St}
 (G:∀r,r=r0→zey P nt O n i (o::r) acc R s):zey P nt O n i (o::r0) acc R s:=G r0 rfl
theorem zqn {P:Program} {nt:Nat} {O:Array Oper} {n i:Nat} {acc:List (List Nat × List Nat)} {R:List (List Nat × List Nat)→St→Prop} {t:List (Nat × AV)} {h:List (Nat × Chunk)} {m:Nat} (G:R acc ⟨t,h,m⟩):zey P nt O n i [] acc R ⟨t,h,m⟩:=G
theorem zqm {ops:Array Oper} {n:Nat} {K:St→Prop} {acc:List (List Nat × List Nat)} {t:List (Nat × AV)} {h:List (Nat × Chunk)} {m:Nat} (G1:zi8 ops acc=true) (G2:K ⟨t,h,n+4*ops.size⟩):zrd ops n K acc ⟨t,h,m⟩:=⟨G1,G2⟩
end Go.Proofs.YthlcafpcndagcaaDoor
namespace Go.Proofs
open Go.Shelf
def Tryd.lays137_ren:Go.Shelf.Ren:=⟨fun|137=>16|217=>25|266=>31|n=>n,fun|9=>9|5=>5|3=>3|n=>n,fun|n=>n⟩
theorem Tryd.lays137:Go.Proofs.Lays.n137 Tryd.prog Tryd.lays137_ren:={
 mixed:=by kernel_rfl
 f137:=Tryd.func16.trans (congrArg some (by kernel_rfl))
 f217:=Tryd.func25.trans (congrArg some (by kernel_rfl))
 f266:=Tryd.func31.trans (congrArg some (by kernel_rfl))
 t3:=Tryd.underlying3
 a3:=Tryd.isAgg3
 z3:=Tryd.sizeOf3
 v3:=Tryd.zeroValue3
 t5:=Tryd.underlying5
 a5:=Tryd.isAgg5
 z5:=Tryd.sizeOf5
 v5:=Tryd.zeroValue5
 t9:=Tryd.underlying9
 a9:=Tryd.isAgg9
 z9:=Tryd.sizeOf9
 v9:=Tryd.zeroValue9 }
open Go.RowKit in
theorem Tryd.strings_IndexByte (s:ByteArray) (c:Int) (w:World) :
 Calls Tryd.prog 16 #[.string s,.int .u8 c] w fun e w'=>e = .returned (.int .i64 (Lib.indexByte s.data.toList c.toNat.toUInt8))∧w'=w:=Any.strings_IndexByte Tryd.lays137 s c w
def Tryd.lays143_ren:Go.Shelf.Ren:=⟨fun|143=>28|219=>32|217=>25|225=>34|224=>35|267=>36|266=>31|314=>38|n=>n,fun|9=>9|3=>3|4=>4|5=>5|46=>58|146=>62|51=>61|n=>n,fun|1=>0|n=>n⟩
theorem Tryd.lays143:Go.Proofs.Lays.n143 Tryd.prog Tryd.lays143_ren:={
 mixed:=by kernel_rfl
 f143:=Tryd.func28.trans (congrArg some (by kernel_rfl))
 f217:=Tryd.func25.trans (congrArg some (by kernel_rfl))
 f219:=Tryd.func32.trans (congrArg some (by kernel_rfl))
 f224:=Tryd.func35.trans (congrArg some (by kernel_rfl))
 f225:=Tryd.func34.trans (congrArg some (by kernel_rfl))
 f266:=Tryd.func31.trans (congrArg some (by kernel_rfl))
 f267:=Tryd.func36.trans (congrArg some (by kernel_rfl))
 f314:=Tryd.func38.trans (congrArg some (by kernel_rfl))
 t3:=Tryd.underlying3
 a3:=Tryd.isAgg3
 z3:=Tryd.sizeOf3
 v3:=Tryd.zeroValue3
 t4:=Tryd.underlying4
 a4:=Tryd.isAgg4
 z4:=Tryd.sizeOf4
 v4:=Tryd.zeroValue4
 t5:=Tryd.underlying5
 a5:=Tryd.isAgg5
 z5:=Tryd.sizeOf5
 v5:=Tryd.zeroValue5
 t9:=Tryd.underlying9
 a9:=Tryd.isAgg9
 z9:=Tryd.sizeOf9
 v9:=Tryd.zeroValue9
 t46:=Tryd.underlying58
 a46:=Tryd.isAgg58
 z46:=Tryd.sizeOf58
 v46:=Tryd.zeroValue58
 t51:=Tryd.underlying61
 a51:=Tryd.isAgg61
 z51:=Tryd.sizeOf61
 v51:=Tryd.zeroValue61
 t146:=Tryd.underlying62
 a146:=Tryd.isAgg62
 z146:=Tryd.sizeOf62
 v146:=Tryd.zeroValue62
 g1:=by kernel_rfl }
open Go.RowKit Go.Lib in
theorem Tryd.strings_Index_one (s:ByteArray) (c:UInt8) (w:World) :
 Calls Tryd.prog 28 #[.string s,.string ⟨#[c]⟩] w fun e w'=>e = .returned (.int .i64 (Lib.indexByte s.data.toList c))∧w'=w:=Any.strings_Index_one Tryd.lays143 s c w
def Tryd.lays138_ren:Go.Shelf.Ren:=⟨fun|138=>17|195=>26|218=>27|143=>28|219=>32|217=>25|225=>34|224=>35|267=>36|266=>31|314=>38|n=>n,fun|9=>9|3=>3|4=>4|5=>5|0=>0|46=>58|146=>62|51=>61|n=>n,fun|1=>0|n=>n⟩
theorem Tryd.lays138:Go.Proofs.Lays.n138 Tryd.prog Tryd.lays138_ren:={
 mixed:=by kernel_rfl
 f138:=Tryd.func17.trans (congrArg some (by kernel_rfl))
 f143:=Tryd.func28.trans (congrArg some (by kernel_rfl))
 f195:=Tryd.func26.trans (congrArg some (by kernel_rfl))
 f217:=Tryd.func25.trans (congrArg some (by kernel_rfl))
 f218:=Tryd.func27.trans (congrArg some (by kernel_rfl))
 f219:=Tryd.func32.trans (congrArg some (by kernel_rfl))
 f224:=Tryd.func35.trans (congrArg some (by kernel_rfl))
 f225:=Tryd.func34.trans (congrArg some (by kernel_rfl))
 f266:=Tryd.func31.trans (congrArg some (by kernel_rfl))
 f267:=Tryd.func36.trans (congrArg some (by kernel_rfl))
 f314:=Tryd.func38.trans (congrArg some (by kernel_rfl))
 t0:=Tryd.underlying0
 a0:=Tryd.isAgg0
 z0:=Tryd.sizeOf0
 v0:=Tryd.zeroValue0
 t3:=Tryd.underlying3
 a3:=Tryd.isAgg3
 z3:=Tryd.sizeOf3
 v3:=Tryd.zeroValue3
 t4:=Tryd.underlying4
 a4:=Tryd.isAgg4
 z4:=Tryd.sizeOf4
 v4:=Tryd.zeroValue4
 t5:=Tryd.underlying5
 a5:=Tryd.isAgg5
 z5:=Tryd.sizeOf5
 v5:=Tryd.zeroValue5
 t9:=Tryd.underlying9
 a9:=Tryd.isAgg9
 z9:=Tryd.sizeOf9
 v9:=Tryd.zeroValue9
 t46:=Tryd.underlying58
 a46:=Tryd.isAgg58
 z46:=Tryd.sizeOf58
 v46:=Tryd.zeroValue58
 t51:=Tryd.underlying61
 a51:=Tryd.isAgg61
 z51:=Tryd.sizeOf61
 v51:=Tryd.zeroValue61
 t146:=Tryd.underlying62
 a146:=Tryd.isAgg62
 z146:=Tryd.sizeOf62
 v146:=Tryd.zeroValue62
 g1:=by kernel_rfl }
open Go.RowKit Go.Lib in
theorem Tryd.strings_Count_one (s:ByteArray) (c:UInt8) (w:World) :
 Calls Tryd.prog 17 #[.string s,.string ⟨#[c]⟩] w fun e w'=>e = .returned (.int .i64 (Lib.countByte s.data.toList c))∧w'=w:=Any.strings_Count_one Tryd.lays138 s c w
end Go.Proofs
