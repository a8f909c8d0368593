/- Lemmas for the proof of hostDoes.proved. -/
import Derived.Test.YtbapdgmcndgieaaGreatHoD7
namespace Go.Proofs.YtbapdgmcndgieaaGreat
set_option linter.all false
open Go.RowKit
set_option maxRecDepth 100000
set_option maxHeartbeats 2000000
theorem z7k (b:Cel) {m:Nat} (hm:m<9):(zc1 b).getD (m+1) default=⟨b.x+((m % 3:Nat):Int)-1,b.y+((m/3:Nat):Int)-1⟩:=by
 have e:m+1=1+3*(m/3)+m % 3:=by omega
 rw[e,zs9 b (by omega) (by omega)]
 congr 1<;>omega
theorem yap (w:Wld) (d:Ded) (hw:Right w) (h:d.kind=3) (hge:w.stocks.length≤d.who.toNat):Spec Tryz.prog 126 [zbk w,zkc d] [] (.tup [zbk w,B false]) []:=by
 have p1:=hw.places
 have p2:=hw.nb
 have p3:=hw.sl
 have p4:=hw.ml
 have p5:=hw.nt
 have hg:(w.stocks.map zac).getD d.who.toNat [] = []:=by
  simp only[List.getD_eq_getElem?_getD];rw[List.getElem?_eq_none (by rw[List.length_map];exact hge)];rfl
 have hwf:zap d.who 0 ((w.bases.length:Int)-1)=false:=by rw[within_f];omega
 refine spB Tryz.func126 292 [.cell 4 28,.tmp 5] Tryz.results126 ?_
 try refine xz1 hg ?_
 refine caM [] (zbf w.stocks (by omega)) ?_
 try refine xz1 hg ?_
 refine caM [] (zbf w.mines (by omega)) ?_
 try refine xz1 hg ?_
 refine caM [] (zcx w.troops (by omega)) ?_
 try refine xz1 hg ?_
 (try(refine⟨by kernel_rfl,?_⟩))
 try refine xz1 hg ?_
 refine zbv (zhx _ [] [.fel 5 [zqi d] 0 0] w.troops (zgh d.who) (by omega) (fun t _=>zl4 t d) (fun _=>rfl) (fun _=>rfl)) (WkL.refl _) rfl ?_
 try refine xz1 hg ?_
 refine cI (fun h1 => ?_) fun h1 => ?_
 ·exfalso;omega
 ·try refine xz1 hg ?_
  refine cI (fun h2 => ?_) fun h2 => ?_
  ·exfalso;omega
  ·try refine xz1 hg ?_
   refine cI (fun h3 => ?_) fun h3 => ?_
   ·try refine xz1 hg ?_
    refine caP (zay d.who 0 ((w.bases.length:Int)-1)) ?_
    try refine xz1 hg ?_
    refine gcP (fun hcc=>zay d.what 1 2) ?_
    try refine xz1 hg ?_
    repeat(with_reducible refine And.intro ?_ ?_;· (simp[hwf];done))
    refine zje ?_ ?_
    ·simp[hwf]
    try refine xz1 hg ?_
    repeat(with_reducible refine And.intro ?_ ?_;· (simp[hwf];done))
    (try(refine⟨by kernel_rfl,?_⟩))
    try refine xz1 hg ?_
    refine cI (fun h4 => ?_) fun h4 => ?_
    ·try refine xz1 hg ?_
     exact xrz rfl
    ·simp[hwf]at h4
   ·exact absurd h h3
theorem zt5 (w:Wld) (d:Ded) (hw:Right w) (h:d.kind=3) (hs:d.who.toNat<w.stocks.length) (b:Bool) (W:Wld) (hW1:zfs w d=false→W=w∧b=false) (hW2:zfs w d=true→zng w (w.bases.getD d.who.toNat default)=none→W=w∧b=false)
 (hW3:∀c,zfs w d=true→zng w (w.bases.getD d.who.toNat default)=some c→W=zdm w d c∧b=true):Spec Tryz.prog 126 [zbk w,zkc d] [] (.tup [zbk W,B b]) []:=by
 have p1:=hw.places
 have p2:=hw.nb
 have p3:=hw.sl
 have p4:=hw.ml
 have p5:=hw.nt
 have hb:d.who.toNat<w.bases.length:=by omega
 have hbb:=zqp hw hb
 have hnx:=hw.nx
 have hst:=(hw.base _ hb).2.1
 obtain⟨a,ha⟩:∃a,a=w.bases.getD d.who.toNat default:=⟨_,rfl⟩
 have hal:(zc1 a).length=10:=rfl
 rw[←ha]at hbb hW2 hW3
 refine spB Tryz.func126 292 [.cell 4 28,.tmp 5] Tryz.results126 ?_
 (iterate 2((try simp(etaStruct := .none) (maxSteps:=1000000)only[push_cast,zab,seval,zaa _ _ _ hs,zaa _ _ _ hb,←ha,zac,zaz]);(try(refine xsu ?_;try exact xtI))))
 refine caM [] (zbf w.stocks (by omega)) ?_
 (iterate 2((try simp(etaStruct := .none) (maxSteps:=1000000)only[push_cast,zab,seval,zaa _ _ _ hs,zaa _ _ _ hb,←ha,zac,zaz]);(try(refine xsu ?_;try exact xtI))))
 refine caM [] (zbf w.mines (by omega)) ?_
 (iterate 2((try simp(etaStruct := .none) (maxSteps:=1000000)only[push_cast,zab,seval,zaa _ _ _ hs,zaa _ _ _ hb,←ha,zac,zaz]);(try(refine xsu ?_;try exact xtI))))
 refine caM [] (zcx w.troops (by omega)) ?_
 (iterate 2((try simp(etaStruct := .none) (maxSteps:=1000000)only[push_cast,zab,seval,zaa _ _ _ hs,zaa _ _ _ hb,←ha,zac,zaz]);(try(refine xsu ?_;try exact xtI))))
 (try(refine⟨by kernel_rfl,?_⟩))
 (iterate 2((try simp(etaStruct := .none) (maxSteps:=1000000)only[push_cast,zab,seval,zaa _ _ _ hs,zaa _ _ _ hb,←ha,zac,zaz]);(try(refine xsu ?_;try exact xtI))))
 refine zbv (zhx _ [] [.fel 5 [zqi d] 0 0] w.troops (zgh d.who) (by omega) (fun t _=>zl4 t d) (fun _=>rfl) (fun _=>rfl)) (WkL.refl _) rfl ?_
 (iterate 2((try simp(etaStruct := .none) (maxSteps:=1000000)only[push_cast,zab,seval,zaa _ _ _ hs,zaa _ _ _ hb,←ha,zac,zaz]);(try(refine xsu ?_;try exact xtI))))
 refine cI (fun h1 => ?_) fun h1 => ?_
 ·exfalso;omega
 ·(iterate 2((try simp(etaStruct := .none) (maxSteps:=1000000)only[push_cast,zab,seval,zaa _ _ _ hs,zaa _ _ _ hb,←ha,zac,zaz]);(try(refine xsu ?_;try exact xtI))))
  refine cI (fun h2 => ?_) fun h2 => ?_
  ·exfalso;omega
  ·(iterate 2((try simp(etaStruct := .none) (maxSteps:=1000000)only[push_cast,zab,seval,zaa _ _ _ hs,zaa _ _ _ hb,←ha,zac,zaz]);(try(refine xsu ?_;try exact xtI))))
   refine zal (fun h3 => ?_) (fun h3 => ?_)
   ·(try replace h3:=xhh h3)
    (iterate 2((try simp(etaStruct := .none) (maxSteps:=1000000)only[push_cast,zab,seval,zaa _ _ _ hs,zaa _ _ _ hb,←ha,zac,zaz]);(try(refine xsu ?_;try exact xtI))))
    refine caP (zay d.who 0 ((w.bases.length:Int)-1)) ?_
    (iterate 2((try simp(etaStruct := .none) (maxSteps:=1000000)only[push_cast,zab,seval,zaa _ _ _ hs,zaa _ _ _ hb,←ha,zac,zaz]);(try(refine xsu ?_;try exact xtI))))
    refine gcP (fun hcc=>zay d.what 1 2) ?_
    (iterate 2((try simp(etaStruct := .none) (maxSteps:=1000000)only[push_cast,zab,seval,zaa _ _ _ hs,zaa _ _ _ hb,←ha,zac,zaz]);(try(refine xsu ?_;try exact xtI))))
    refine⟨fun hh=>⟨hh,by have:=(within_iff).1 hh.1;omega⟩,fun hh=>⟨hh,hs⟩,?_⟩
    refine gcP (fun hcc=>zhh d.what (by simp at hcc;have:=(within_iff).1 hcc.2;omega)) ?_
    (iterate 2((try simp(etaStruct := .none) (maxSteps:=1000000)only[push_cast,zab,seval,zaa _ _ _ hs,zaa _ _ _ hb,←ha,zac,zaz]);(try(refine xsu ?_;try exact xtI))))
    (try(refine⟨by kernel_rfl,?_⟩))
    (iterate 2((try simp(etaStruct := .none) (maxSteps:=1000000)only[push_cast,zab,seval,zaa _ _ _ hs,zaa _ _ _ hb,←ha,zac,zaz]);(try(refine xsu ?_;try exact xtI))))
    refine cI (fun h4 => ?_) fun h4 => ?_
    ·have hno:zfs w d=false:=by
      cases hh:zfs w d with
      | false=>rfl
      | true =>
       exfalso
       have hi:=hireOk_iff.1 hh
       rcases h4 with (((h4|h4)|h4)|h4)|h4
       ·rw[within_f]at h4;omega
       ·rw[within_f]at h4;omega
       ·omega
       ·omega
       ·omega
     obtain⟨rfl,rfl⟩:=hW1 hno
     (iterate 2((try simp(etaStruct := .none) (maxSteps:=1000000)only[push_cast,zab,seval,zaa _ _ _ hs,zaa _ _ _ hb,←ha,zac,zaz]);(try(refine xsu ?_;try exact xtI))))
     exact xrz rfl
    ·have hyes:zfs w d=true:=by
      rw[hireOk_iff]
      have q1:=(within_iff).1 h4.1.1.1.1
      have q2:=(within_iff).1 h4.1.1.1.2
      exact⟨⟨⟨⟨⟨by omega,by omega⟩,by omega⟩,by omega⟩,by omega⟩,by omega⟩
     have q1:=(within_iff).1 h4.1.1.1.1
     have q2:=(within_iff).1 h4.1.1.1.2
     have hwk:d.what=1∨d.what=2:=by omega
     have hpr:0≤(zbh d.what).price∧(zbh d.what).price≤12:=by rcases hwk with e|e<;>rw[e]<;>decide
     (iterate 2((try simp(etaStruct := .none) (maxSteps:=1000000)only[push_cast,zab,seval,zaa _ _ _ hs,zaa _ _ _ hb,←ha,zac,zaz]);(try(refine xsu ?_;try exact xtI))))
     refine zas (fun i:Nat=>⟨[(10,I .i64 ((i:Int)-1)),(9,.ptr 3 0 0),(4,.ptr 2 0 0),(3,.ptr 1 0 0),(2,.ptr 0 0 0)],[(0,.blk 28 (z4z w 4 5 6)),(1,.blk 191 [I .i64 d.kind,I .i64 d.who,I .i64 d.c.x,I .i64 d.c.y,I .i64 d.what]),(2,.blk 28 [I .i64 0,I .i64 0,.c (.v (.slice none 0 0)),.c (.v (.slice none 0 0)),.c (.v (.slice none 0 0)),.c (.v (.slice none 0 0)),.c (.v (.slice none 0 0)),I .i64 0,I .i64 0]),(3,.blk 41 [I .i64 a.x,I .i64 a.y]),(4,stR w),(5,miR w),(6,trR w)],7⟩) (fun i:Nat=>i≤10∧∀j,j<i→zj7 w ((zc1 a).getD j default)=false) (fun i:Nat=>10-i) (0) (⟨Nat.zero_le _,fun j h=>absurd h (Nat.not_lt_zero _)⟩) (To.mk [0,1,2,215,11,23,35] rfl rfl (by decide) ?_ ?_) ?_
     ·simp(etaStruct := .none)only[push_cast,zab,seval]
     ·simp(etaStruct := .none)only[push_cast,zab,seval,Int.zero_sub]
     rintro i ⟨hi,hn⟩
     (iterate 2((try simp(etaStruct := .none) (maxSteps:=1000000)only[push_cast,zab,seval,zaa _ _ _ hs,zaa _ _ _ hb,←ha,zac,zaz]);(try(refine xsu ?_;try exact xtI))))
     refine zal (fun h5 => ?_) (fun h5 => ?_)
     ·(try replace h5:=xhh h5)
      have hi9:i<10:=by omega
      obtain⟨x,hx⟩:∃x,x=(zc1 a).getD i default:=⟨_,rfl⟩
      (iterate 2((try simp(etaStruct := .none) (maxSteps:=1000000)only[push_cast,zab,seval,zaa _ _ _ hs,zaa _ _ _ hb,←ha,zac,zaz]);(try(refine xsu ?_;try exact xtI))))
      refine zmz (fun _u:Unit=>⟨[(11,.ptr 7 0 0),(10,I .i64 ((i:Int)-1)),(9,.ptr 3 0 0),(4,.ptr 2 0 0),(3,.ptr 1 0 0),(2,.ptr 0 0 0)],[(0,.blk 28 (z4z w 4 5 6)),(1,.blk 191 [I .i64 d.kind,I .i64 d.who,I .i64 d.c.x,I .i64 d.c.y,I .i64 d.what]),(2,.blk 28 [I .i64 0,I .i64 0,.c (.v (.slice none 0 0)),.c (.v (.slice none 0 0)),.c (.v (.slice none 0 0)),.c (.v (.slice none 0 0)),.c (.v (.slice none 0 0)),I .i64 0,I .i64 0]),(3,.blk 41 [I .i64 a.x,I .i64 a.y]),(4,stR w),(5,miR w),(6,trR w),(7,.blk 41 [I .i64 x.x,I .i64 x.y])],8⟩) (fun _u:Unit=>Tr) (fun h6 => ?_) (fun h6 => ?_) ?_
      ·(try replace h6:=xhh h6)
       obtain⟨m,hm⟩:∃m:Nat,i=m+1:=⟨i-1,by omega⟩
       have hxm:=z7k a (m:=m) (by omega)
       rw[←hm,←hx]at hxm
       have em:((i:Int)-1).tmod 3=((m % 3:Nat):Int):=by rw[hm,show (((m+1:Nat):Int)-1)=(m:Int)from by omega,Int.tmod_eq_emod_of_nonneg (by omega)];rfl
       have ed:IntKind.i64.wrap (((i:Int)-1).tdiv 3)=((m/3:Nat):Int):=by rw[hm,show (((m+1:Nat):Int)-1)=(m:Int)from by omega,Int.tdiv_eq_ediv_of_nonneg (by omega)];exact zaq _ (by omega) (by omega)
       (iterate 2((try simp(etaStruct := .none) (maxSteps:=1000000)only[push_cast,zab,seval,zaa _ _ _ hs,zaa _ _ _ hb,←ha,zac,zaz,em,ed]);(try(refine xsu ?_;try exact xtI))))
       refine⟨(),trI,To.mk [0,1,2,3,4,5,6,7] rfl rfl (by decide) ?_ ?_⟩
       ·(try(refine xz3 hxm em ed ?_;try exact xtI))
       ·(iterate 2((try simp(etaStruct := .none) (maxSteps:=1000000)only[push_cast,zab,seval,zaa _ _ _ hs,zaa _ _ _ hb,←ha,zac,zaz,em,ed]);(try(refine xsu ?_;try exact xtI))))
      ·(try replace h6:=xhh h6)
       obtain rfl:i=0:=by omega
       have hxa:x=a:=hx
       (iterate 2((try simp(etaStruct := .none) (maxSteps:=1000000)only[push_cast,zab,seval,zaa _ _ _ hs,zaa _ _ _ hb,←ha,zac,zaz]);(try(refine xsu ?_;try exact xtI))))
       refine⟨(),trI,To.mk [0,1,2,3,4,5,6,7] rfl rfl (by decide) ?_ ?_⟩
       ·(try(refine xz1 hxa ?_;try exact xtI))
       ·(iterate 2((try simp(etaStruct := .none) (maxSteps:=1000000)only[push_cast,zab,seval,zaa _ _ _ hs,zaa _ _ _ hb,←ha,zac,zaz]);(try(refine xsu ?_;try exact xtI))))
      ·rintro _ _
       skip
       (iterate 2((try simp(etaStruct := .none) (maxSteps:=1000000)only[push_cast,zab,seval,zaa _ _ _ hs,zaa _ _ _ hb,←ha,zac,zaz]);(try(refine xsu ?_;try exact xtI))))
       refine caP (zp7 w.f x hw.f) ?_
       (iterate 2((try simp(etaStruct := .none) (maxSteps:=1000000)only[push_cast,zab,seval,zaa _ _ _ hs,zaa _ _ _ hb,←ha,zac,zaz]);(try(refine xsu ?_;try exact xtI))))
       refine zg2 (fun hcc=>ztn _ [] [.fel 2 [[pI x.x,pI x.y]] 0 0] w.troops (fun t=>decide (t.c=x)) (by omega) (fun t _=>yei t x) (fun _=>rfl) (fun _=>rfl)) (WkL.refl _) rfl (by intro hc;(try simp(etaStruct := .none)only[push_cast,zab,seval]);(try simp_all)) ?_
       (iterate 2((try simp(etaStruct := .none) (maxSteps:=1000000)only[push_cast,zab,seval,zaa _ _ _ hs,zaa _ _ _ hb,←ha,zac,zaz]);(try(refine xsu ?_;try exact xtI))))
       refine cI (fun h7 => ?_) fun h7 => ?_
       ·have hfb:zj7 w x=true:=by unfold zj7;rw[h7.1,h7.2];rfl
        obtain⟨rfl,rfl⟩:=hW3 x hyes (by unfold zng;rw[hx];exact zjh _ _ i (by rw[hal];exact hi9) (by rw[←hx];exact hfb) hn)
        (iterate 2((try simp(etaStruct := .none) (maxSteps:=1000000)only[push_cast,zab,seval,zaa _ _ _ hs,zaa _ _ _ hb,←ha,zac,zaz]);(try(refine xsu ?_;try exact xtI))))
        refine caP (zhh d.what hwk) ?_
        (iterate 2((try simp(etaStruct := .none) (maxSteps:=1000000)only[push_cast,zab,seval,zaa _ _ _ hs,zaa _ _ _ hb,←ha,zac,zaz]);(try(refine xsu ?_;try exact xtI))))
        (try(refine⟨by kernel_rfl,?_⟩))
        (iterate 2((try simp(etaStruct := .none) (maxSteps:=1000000)only[push_cast,zab,seval,zaa _ _ _ hs,zaa _ _ _ hb,←ha,zac,zaz]);(try(refine xsu ?_;try exact xtI))))
        refine caP (zhh d.what hwk) ?_
        (iterate 2((try simp(etaStruct := .none) (maxSteps:=1000000)only[push_cast,zab,seval,zaa _ _ _ hs,zaa _ _ _ hb,←ha,zac,zaz]);(try(refine xsu ?_;try exact xtI))))
        (try(refine⟨by kernel_rfl,?_⟩))
        (iterate 2((try simp(etaStruct := .none) (maxSteps:=1000000)only[push_cast,zab,seval,zaa _ _ _ hs,zaa _ _ _ hb,←ha,zac,zaz]);(try(refine xsu ?_;try exact xtI))))
        simp(etaStruct := .none)only[push_cast,zab,seval,zdm,zbk,List.map_set,List.map_append,zac,zaw]
        exact zbe rfl (by repeat' (first|exact trivial|exact rfl|refine⟨?_,?_⟩)) (Wk.refl _)
       ·have hfb:zj7 w x=false:=by
         unfold zj7
         rcases h7 with h7|h7
         ·rw[h7];rfl
         ·rw[h7];simp
        (iterate 2((try simp(etaStruct := .none) (maxSteps:=1000000)only[push_cast,zab,seval,zaa _ _ _ hs,zaa _ _ _ hb,←ha,zac,zaz]);(try(refine xsu ?_;try exact xtI))))
        refine⟨i+1,⟨by omega,fun j hj=>by
 rcases Nat.lt_or_ge j i with h'|h'
 ·exact hn j h'
 ·rw [show j = i by omega, ← hx]; exact hfb⟩, by omega, To.mk [0, 1, 2, 3, 4, 5, 6] rfl rfl (by decide) ?_ ?_⟩
        ·(iterate 2((try simp(etaStruct := .none) (maxSteps:=1000000)only[push_cast,zab,seval,zaa _ _ _ hs,zaa _ _ _ hb,←ha,zac,zaz]);(try(refine xsu ?_;try exact xtI))))
        ·(iterate 2((try simp(etaStruct := .none)only[push_cast,zab,seval,Int.add_sub_cancel,Int.sub_add_cancel]);(try(refine xsu ?_;try exact xtI))))
     ·(try replace h5:=xhh h5)
      obtain⟨rfl,rfl⟩:=hW2 hyes (zmx _ _ (fun j hj=>hn j (by rw[hal]at hj;omega)))
      (iterate 2((try simp(etaStruct := .none) (maxSteps:=1000000)only[push_cast,zab,seval,zaa _ _ _ hs,zaa _ _ _ hb,←ha,zac,zaz]);(try(refine xsu ?_;try exact xtI))))
      exact xrz rfl
   ·(try replace h3:=xhh h3)
    exact absurd h h3
end Go.Proofs.YtbapdgmcndgieaaGreat
namespace Go.Proofs.YtbapdgmcndgieaaGreat
set_option linter.all false
open Go.RowKit
set_option maxRecDepth 100000
set_option maxHeartbeats 1000000
theorem z62 (w:Wld) (d:Ded) (hw:Right w):Spec Tryz.prog 126 [zbk w,zkc d] [] (.tup [zbk (ze1 w d).1,B (ze1 w d).2]) []:=by
 have none:d.kind=1∨d.kind=2→w.troops.findIdx? (zgh d.who)=none→Spec Tryz.prog 126 [zbk w,zkc d] [] (.tup [zbk w,B false]) []:=fun h hf=>by
  rcases Nat.eq_zero_or_pos w.troops.length with h3|h3
  ·exact z5g w d hw h (List.eq_nil_of_length_eq_zero h3)
  ·exact yao w d hw h hf h3
 unfold ze1
 split
 ·rename_i h
  split
  ·rename_i i hi
   split
   ·rename_i ho;exact z08 w d i hw h hi true _ ⟨fun _=>⟨rfl,rfl⟩,fun h2=>by rw[ho]at h2;simp at h2⟩
   ·rename_i ho;exact z08 w d i hw h hi false _ ⟨fun h2=>absurd h2 ho,fun _=>⟨rfl,rfl⟩⟩
  ·rename_i hi;exact none (.inl h) hi
 ·split
  ·rename_i h
   split
   ·rename_i i hi
    split
    ·rename_i ho;exact z09 w d i hw h hi _ _ ⟨fun _=>⟨rfl,rfl⟩,fun h2=>by rw[ho]at h2;simp at h2⟩
    ·rename_i ho;exact z09 w d i hw h hi false _ ⟨fun h2=>absurd h2 ho,fun _=>⟨rfl,rfl⟩⟩
   ·rename_i hi;exact none (.inr h) hi
  ·split
   ·rename_i h
    split
    ·rename_i ho
     have hoi:=hireOk_iff.1 ho
     have hs:d.who.toNat<w.stocks.length:=by have:=hw.sl;omega
     split
     ·rename_i c hc;exact zt5 w d hw h hs true _ (fun h2=>by rw[ho]at h2;simp at h2) (fun _ h2=>by rw[hc]at h2;simp at h2) (fun c' _ h2=>by rw[hc]at h2;rw[Option.some.inj h2];exact⟨rfl,rfl⟩)
     ·rename_i hc;exact zt5 w d hw h hs false _ (fun h2=>by rw[ho]at h2;simp at h2) (fun _ _=>⟨rfl,rfl⟩) (fun c' _ h2=>by rw[hc]at h2;simp at h2)
    ·rename_i ho
     rcases Nat.lt_or_ge d.who.toNat w.stocks.length with h2|h2
     ·exact zt5 w d hw h h2 false _ (fun _=>⟨rfl,rfl⟩) (fun h3=>absurd h3 ho) (fun c' h3=>absurd h3 ho)
     ·exact yap w d hw h h2
   ·exact ykm w d hw ⟨by assumption,by assumption,by assumption⟩
theorem zuv (w:Wld) (l:List Ded) (hw:Right w) (hll:l.length≤200):Spec Tryz.prog 91 [zbk w,.c (.sl 5 (l.map zjp))] [] (.tup [zbk (za6 w l).1,.c (.sl 1 ((za6 w l).2.map ze2))]) []:=by
 refine spB Tryz.func91 29 [.cell 4 28,.tmp 5] Tryz.results91 ?_
 try refine xst ?_
 refine zas (fun k:Nat=>⟨[(12,I .i64 k),(11,I .i64 l.length),(10,.c (.sl 5 (l.map zjp))),(6,.own 2),(4,.ptr 1 0 0),(2,.ptr 0 0 0)],[(0,.blk 28 (zhq (za6 w (l.take k)).1)),(1,.blk 28 [I .i64 0,I .i64 0,.c (.v (.slice none 0 0)),.c (.v (.slice none 0 0)),.c (.v (.slice none 0 0)),.c (.v (.slice none 0 0)),.c (.v (.slice none 0 0)),I .i64 0,I .i64 0]),(2,.row 4 1 ((za6 w (l.take k)).2.map ze2))],3⟩) (fun k:Nat=>k≤l.length) (fun k:Nat=>l.length-k) (0) (Nat.zero_le _) ((To.nil 6 4 1 rfl).trans (To.mk [0,1,2] rfl rfl (by decide) ?_ ?_)) ?_
 ·simp(etaStruct := .none)only[push_cast,zab,seval,List.take_zero,za6]
 ·simp(etaStruct := .none)only[push_cast,zab,seval]
 rintro k hk
 try refine xst ?_
 refine cI (fun h1 => ?_) fun h1 => ?_
 ·have hlt:k<l.length:=by omega
  obtain⟨d,hd⟩:∃d,d=l.getD k default:=⟨_,rfl⟩
  have hst:za6 w (l.take (k+1))=((ze1 (za6 w (l.take k)).1 d).1,(za6 w (l.take k)).2 ++ [(ze1 (za6 w (l.take k)).1 d).2]):=by rw[zav _ _ hlt,←hd,zmy]
  have hR:=zh7 (l.take k) hw
  have hbl:=zoh (l.take k) w
  rw[List.length_take]at hbl
  generalize (za6 w (l.take k)).1=W at *
  generalize (za6 w (l.take k)).2=bs at *
  try refine xz4 (gd hlt) hd.symm zxh zm4 ?_
  refine caP (z62 W d hR) ?_
  try refine xz4 (gd hlt) hd.symm zxh zm4 ?_
  refine⟨k+1,by omega,by omega,To.mk [0,1,5] rfl rfl (by decide) ?_ ?_⟩
  ·(iterate 2((try simp(etaStruct := .none)only[push_cast,zab,seval,hst,List.map_append,ze2]);(try(refine xsu ?_;try exact xtI))))
  ·(try(refine xz4 (gd hlt) hd.symm zxh zm4 ?_;try exact xtI))
 ·obtain rfl:k=l.length:=by omega
  iterate 2(try simp(etaStruct := .none)only[push_cast,zab,seval,List.take_length];try refine xsu ?_)
  exact xrz rfl
theorem z4t {l:List Ord} {w:Wld} (h:zcc l=0):zb7 l w=zah w:=by unfold zb7;rw[if_neg (by simp[h])]
theorem z4u {l:List Ord} {w:Wld} (h:zcc l≠0):zb7 l w=zcc l:=by unfold zb7;rw[if_pos h]
theorem yad (w:Wld) (l:List Ord) (WR:Cel→List Int) (hWR:∀a,zai w.f [a] (WR a)) (hll:l.length≤9223372036854775807) (h:zb3 l w=0):Spec Tryz.prog 52 [zbk w,.c (.sl 6 (l.map zch))] [] (.tup [zbk (zgn WR w l),z5e (zzz w l) (zzy WR w l) (zz0 WR w l),I .i64 0]) []:=by
 have hs:zb7 l w=0:=by unfold zb3 at h;split at h;rename_i h1;exact absurd h h1;rename_i h1;simpa using h1
 have hn:w.now<1000000:=by unfold zb3 at h;rw[if_neg (by simp[hs])]at h;split at h;exact absurd h (by decide);omega
 obtain⟨ho,hw⟩:=zdx hs
 have R0:=zds hw
 have RA:=zl0 R0 l
 have RB:=zlz R0 hWR l
 have RC:=zly R0 hWR l
 obtain⟨o1,o2⟩:=zfy ho
 obtain⟨n1,n2,n3⟩:=zns (w:=w) ho
 have hnow:(tkC WR w l).now=w.now:=zts WR w l
 have hnw:=R0.nw
 have OR:=zgt l hll
 rw[ho]at OR
 have WRI:=ze6 w R0.l
 rw[hw]at WRI
 have HK:=z0d w (zbu l w) R0.l hw (by omega)
 rw[show zc3 w (zbu l w)=tkA w l from rfl,show zyx w (zbu l w)=zzz w l from rfl]at HK
 have hfo:=zba RA.f
 have hb:=z04 RA
 have MK:=z16 (tkA w l) (zcw l w) WR hWR (by omega) (by omega) (by omega)
 rw[show zze (tkA w l) (zew (tkA w l).f WR (zcw l w) (tkA w l).troops).1=tkB WR w l from rfl,show (zew (tkA w l).f WR (zcw l w) (tkA w l).troops).2=zzy WR w l from rfl]at MK
 have DK:=zuv (tkB WR w l) (zbq l w) RB (by omega)
 rw[show (za6 (tkB WR w l) (zbq l w)).1=tkC WR w l from rfl,show (za6 (tkB WR w l) (zbq l w)).2=zz0 WR w l from rfl]at DK
 have hup:IntKind.i64.wrap ((tkC WR w l).now+1)=w.now+1:=by rw[hnow];exact zaq _ (by omega) (by omega)
 have htv:zgn WR w l = { tkC WR w l with now:=w.now+1 }:=by unfold zgn z1s;rw[hnow]
 rw[htv]
 refine spB Tryz.func52 66 [.cell 4 28,.cell 5 103,.tmp 6] Tryz.results52 ?_
 try refine xst ?_
 refine caP (OR) ?_
 try refine xst ?_
 refine cI (fun h1 => ?_) fun h1 => ?_
 ·try refine xst ?_
  refine caP (WRI) ?_
  try refine xst ?_
  refine cI (fun h2 => ?_) fun h2 => ?_
  ·omega
  ·try refine xst ?_
   refine cI (fun h3 => ?_) fun h3 => ?_
   ·simp at h3
   ·iterate 2(try simp(etaStruct := .none)only[push_cast,zab,seval,hup];try refine xsu ?_)
    refine caP (yct l w R0.l o1) ?_
    iterate 2(try simp(etaStruct := .none)only[push_cast,zab,seval,hup];try refine xsu ?_)
    refine caP (yfu l w R0.l o1) ?_
    iterate 2(try simp(etaStruct := .none)only[push_cast,zab,seval,hup];try refine xsu ?_)
    refine caP (ycn l w R0.l o1 o2) ?_
    iterate 2(try simp(etaStruct := .none)only[push_cast,zab,seval,hup];try refine xsu ?_)
    (try(refine⟨by kernel_rfl,?_⟩))
    iterate 2(try simp(etaStruct := .none)only[push_cast,zab,seval,hup];try refine xsu ?_)
    refine caP (HK) ?_
    iterate 2(try simp(etaStruct := .none)only[push_cast,zab,seval,hup];try refine xsu ?_)
    refine caP (MK) ?_
    iterate 2(try simp(etaStruct := .none)only[push_cast,zab,seval,hup];try refine xsu ?_)
    refine caP (DK) ?_
    iterate 2(try simp(etaStruct := .none)only[push_cast,zab,seval,hup];try refine xsu ?_)
    (try(refine⟨by kernel_rfl,?_⟩))
    iterate 2(try simp(etaStruct := .none)only[push_cast,zab,seval,hup];try refine xsu ?_)
    exact xrz rfl
 ·simp at h1
theorem yac (w:Wld) (l:List Ord) (hl:zdf w) (hll:l.length≤9223372036854775807) (h:zcc l≠0):Spec Tryz.prog 52 [zbk w,.c (.sl 6 (l.map zch))] [] (.tup [zbk default,z5e [] [] [],I .i64 (zcc l)]) []:=by
 refine spB Tryz.func52 66 [.cell 4 28,.cell 5 103,.tmp 6] Tryz.results52 ?_
 try refine xst ?_
 refine caP (zgt l hll) ?_
 try refine xst ?_
 refine cI (fun h1 => ?_) fun h1 => ?_
 ·exact absurd h1 h
 ·try refine xst ?_
  refine cI (fun h2 => ?_) fun h2 => ?_
  ·exact absurd h2.1 h
  ·try refine xst ?_
   refine cI (fun h3 => ?_) fun h3 => ?_
   ·try refine xst ?_
    exact xrz rfl
   ·exact absurd h3 h
theorem yab (w:Wld) (l:List Ord) (hl:zdf w) (hll:l.length≤9223372036854775807) (ho:zcc l=0) (h:zah w≠0):Spec Tryz.prog 52 [zbk w,.c (.sl 6 (l.map zch))] [] (.tup [zbk default,z5e [] [] [],I .i64 (zah w)]) []:=by
 have OR:=zgt l hll
 rw[ho]at OR
 refine spB Tryz.func52 66 [.cell 4 28,.cell 5 103,.tmp 6] Tryz.results52 ?_
 try refine xst ?_
 refine caP (OR) ?_
 try refine xst ?_
 refine cI (fun h1 => ?_) fun h1 => ?_
 ·try refine xst ?_
  refine caP (ze6 w hl) ?_
  try refine xst ?_
  refine cI (fun h2 => ?_) fun h2 => ?_
  ·exact absurd h2.1 h
  ·try refine xst ?_
   refine cI (fun h3 => ?_) fun h3 => ?_
   ·try refine xst ?_
    exact xrz rfl
   ·exact absurd h3 h
 ·simp at h1
theorem yae (w:Wld) (l:List Ord) (hl:zdf w) (hll:l.length≤9223372036854775807) (ho:zcc l=0) (hw:zah w=0) (hn:1000000≤w.now):Spec Tryz.prog 52 [zbk w,.c (.sl 6 (l.map zch))] [] (.tup [zbk default,z5e [] [] [],I .i64 6]) []:=by
 have OR:=zgt l hll
 rw[ho]at OR
 have WRI:=ze6 w hl
 rw[hw]at WRI
 have hnw:=(zds hw).nw
 refine spB Tryz.func52 66 [.cell 4 28,.cell 5 103,.tmp 6] Tryz.results52 ?_
 try refine xst ?_
 refine caP (OR) ?_
 try refine xst ?_
 refine cI (fun h1 => ?_) fun h1 => ?_
 ·try refine xst ?_
  refine caP (WRI) ?_
  try refine xst ?_
  refine cI (fun h2 => ?_) fun h2 => ?_
  ·try refine xst ?_
   refine cI (fun h3 => ?_) fun h3 => ?_
   ·try refine xst ?_
    exact xrz rfl
   ·simp at h3
  ·omega
 ·simp at h1
def zkn (WR:Cel→List Int) (w:Wld) (l:List Ord):Wld:=if zb3 l w=0 then zgn WR w l else default
def zvi (w:Wld) (l:List Ord):List Int:=if zb3 l w=0 then zzz w l else []
def zvh (WR:Cel→List Int) (w:Wld) (l:List Ord):List Int:=if zb3 l w=0 then zzy WR w l else []
def zvj (WR:Cel→List Int) (w:Wld) (l:List Ord):List Bool:=if zb3 l w=0 then zz0 WR w l else []
theorem zz1 (w:Wld) (l:List Ord) (WR:Cel→List Int) (hWR:∀a,zai w.f [a] (WR a)) (hl:zdf w) (hll:l.length≤9223372036854775807):Spec Tryz.prog 61 [zbk w,.c (.sl 6 (l.map zch))] [] (.tup [zbk (zkn WR w l),z5e (zvi w l) (zvh WR w l) (zvj WR w l),I .i64 (zb3 l w)]) []:=by
 unfold zkn zvi zvh zvj
 by_cases h:zb3 l w=0
 ·rw[if_pos h,if_pos h,if_pos h,if_pos h,h];exact z9o w l WR hWR hll h
 ·rw[if_neg h,if_neg h,if_neg h,if_neg h]
  by_cases hs:zb7 l w=0
  ·have hn:1000000≤w.now:=by
    unfold zb3 at h;rw[if_neg (by simp[hs])]at h;split at h;assumption;exact absurd rfl h
   rw[show zb3 l w=6 from by unfold zb3;rw[if_neg (by simp[hs]),if_pos hn]];exact z9p w l hl hll hs hn
  ·rw[show zb3 l w=zb7 l w from by unfold zb3;rw[if_pos hs]];exact z9q w l hl hll hs
theorem z0z (w:Wld) (l:List Ord) (WR:Cel→List Int) (hWR:∀a,zai w.f [a] (WR a)) (hl:zdf w) (hll:l.length≤9223372036854775807):Spec Tryz.prog 52 [zbk w,.c (.sl 6 (l.map zch))] [] (.tup [zbk (zkn WR w l),z5e (zvi w l) (zvh WR w l) (zvj WR w l),I .i64 (zb3 l w)]) []:=by
 unfold zkn zvi zvh zvj
 by_cases h:zb3 l w=0
 ·rw[if_pos h,if_pos h,if_pos h,if_pos h,h];exact yad w l WR hWR hll h
 ·rw[if_neg h,if_neg h,if_neg h,if_neg h]
  by_cases hs:zb7 l w=0
  ·have hn:1000000≤w.now:=by
    unfold zb3 at h;rw[if_neg (by simp[hs])]at h;split at h;assumption;exact absurd rfl h
   obtain⟨ho,hw⟩:=zdx hs
   rw[show zb3 l w=6 from by unfold zb3;rw[if_neg (by simp[hs]),if_pos hn]];exact yae w l hl hll ho hw hn
  ·rw[show zb3 l w=zb7 l w from by unfold zb3;rw[if_pos hs]]
   by_cases ho:zcc l=0
   ·rw[z4t ho]at hs ⊢;exact yab w l hl hll ho hs
   ·rw[z4u ho];exact yac w l hl hll ho
end Go.Proofs.YtbapdgmcndgieaaGreat
namespace Go.Proofs.YtbapdgmcndgieaaGreat
set_option linter.all false
open Go.RowKit
theorem zo1 {P:Program} {f:FuncId} (hf:zm7 P f) (args:List AV) (r:AV) (v:Value) (hr:∀(U:Nat→Prop) (w:World) (F:Nat→Prop) (β : Nat→Option Bind),RelA U w F β r v)
 (h:∀(w:World) (F:Nat→Prop) (β : Nat→Option Bind) (vs:List Value),(∀b,F b→b<w.heap.size)→RelL (· < 0) w F β args vs→Calls P f vs.toArray w fun e w'=>e = .returned v∧Below w.heap.size w w'):Spec P f args [] r []:=by
 refine⟨hf,Nat.le_refl _,fun w F β vs M hv => ?_⟩
 refine(h w F β vs M.fin hv).mono ?_
 rintro e w' ⟨rfl,hb⟩
 obtain⟨S1,S2⟩:=M.step (w':=w') (h':=nth []) (β' := β) (F':=F) (U':=(· < 0)) (fun _=>False) (fun _ _=>rfl) (fun _ _=>rfl) hb.os hb.tape hb.output hb.size (fun b h _=>hb.block b h) (fun _ h=>h) (fun _ h=>h)
  (fun b h=>⟨Nat.lt_of_lt_of_le (M.fin b h) hb.size,.inl h⟩) (fun _ _ h=>h.elim) (fun _ _ h=>h.elim) (fun _ _ _ _ _ h=>h.elim) (fun _ _ h=>h.elim)
 exact⟨v,F,β,rfl,S1,hr _ _ _ _,fun _ h=>h,fun _ h => .inl h,fun _ _ _ h=>⟨_,h⟩⟩
theorem zt2 {α : Type} {w:World} {F:Nat→Prop} {u:Value} (enc : α → Value) (xs:List α) (hF:∀b,F b→b<w.heap.size) (h:RelP w F (.sl 1 (xs.map fun x => [.v (enc x)])) u) :
 ∃a c,u = .slice a xs.length c∧xs.length≤c∧c≤maxLen∧Els w w.heap.size a 1 (fun x => [enc x]) xs:=by
 simp only[RelP]at h
 obtain⟨a,c,rfl,h1,h2,h3⟩:=h
 rw[List.length_map]at h1
 refine⟨a,c,by rw[List.length_map],h1,h2,?_⟩
 rcases h3 with h3|⟨b,o,rfl,hb,hE⟩
 ·exact .inl (by simpa using h3)
 ·refine .inr ⟨b,o,rfl,hF b hb,fun i j v hv => ?_⟩
  cases hx:xs[i]? with
  | none=>rw[hx]at hv;simp at hv
  | some x =>
   rw[hx]at hv
   cases j with
   | succ j=>simp at hv
   | zero =>
    have hv':enc x=v:=by simpa using hv
    obtain⟨_,hc⟩:=RelE.at hE i [.v (enc x)] (by simp[hx])
    obtain⟨u,hu,hr⟩:=RelC.at hc 0 _ rfl
    simp only[RelP]at hr
    rw[←hv',←hr.1,←hu];rfl
theorem zpa {w:World} {U F:Nat→Prop} {β : Nat→Option Bind} {p:PV} {vs:List Value} (h:RelL U w F β [.c p] vs):∃u,vs = [u]∧RelP w F p u:=by
 simp only[RelL,RelA]at h
 obtain⟨u,us,rfl,h1,rfl⟩:=h
 exact⟨u,rfl,h1⟩
end Go.Proofs.YtbapdgmcndgieaaGreat
namespace Go.Proofs.YtbapdgmcndgieaaGreat
set_option linter.all false
open Go.RowKit
set_option maxRecDepth 100000
set_option maxHeartbeats 1000000
theorem yff (s:ByteArray) (hs:s.size≤140737488351232):Spec Tryz.prog 134 [S s] [] (.c (.v (.int .u64 (zpu s:Nat)))) [] :=
 zcy (zfu Tryz.func134 rfl rfl) [.string s] _ rfl fun w=>(z6a s w hs).mono fun e w' ⟨h1,h2⟩=>⟨h1,h2▸Below.refl _ _⟩
theorem z6b (s:ByteArray) (hs:s.size≤140737488351232):Spec Tryz.prog 146 [S s] [] (.c (.v (.int .u64 (zpu s:Nat)))) [] :=
 zcy (zfu Tryz.func146 rfl rfl) [.string s] _ rfl fun w=>zys s w hs
theorem znx {s:ByteArray} {n:Int} {U:Nat→Prop} {w:World} {F:Nat→Prop} {β : Nat→Option Bind} : RelA U w F β (.tup [S s,I .i64 n]) (.tuple #[.string s,.int .i64 n]):=by
 simp only[RelA]
 refine⟨_,rfl,?_⟩
 simp[RelL,RelA,RelP,Value.oneCell']
theorem zv8 (xs:List Int) (hx:∀x∈xs,I64 x) (hl:xs.length≤140737488351232):Spec Tryz.prog 79 [.c (.sl 1 (xs.map zac))] [] (.tup [S (paR xs).1,I .i64 (paR xs).2]) [] :=
 zo1 (zfu Tryz.func79 rfl rfl) _ _ (.tuple #[.string (paR xs).1,.int .i64 (paR xs).2]) (fun _ _ _ _=>znx) fun w F β vs hF hv=>by
  obtain⟨u,rfl,hu⟩:=zpa hv
  obtain⟨a,c,rfl,_,_,hE⟩:=zt2 (fun n:Int=>Value.int .i64 n) xs hF hu
  exact zyf a c w.heap.size xs w hE hx hl (Nat.le_refl _)
theorem zt9 (xs:List Int) (hx:∀x∈xs,I64 x) (hl:xs.length≤140737488351232):Spec Tryz.prog 145 [.c (.sl 1 (xs.map zac))] [] (.tup [S (paR xs).1,I .i64 (paR xs).2]) [] :=
 zo1 (zfu Tryz.func145 rfl rfl) _ _ (.tuple #[.string (paR xs).1,.int .i64 (paR xs).2]) (fun _ _ _ _=>znx) fun w F β vs hF hv=>by
  obtain⟨u,rfl,hu⟩:=zpa hv
  obtain⟨a,c,rfl,_,_,hE⟩:=zt2 (fun n:Int=>Value.int .i64 n) xs hF hu
  exact zpd a c w.heap.size xs w hE hx hl (Nat.le_refl _)
theorem z52 (xs:List Nat) (hl:xs.length≤1000000):Spec Tryz.prog 120 [.c (.sl 1 (xs.map zgl))] [] (.c (.v (.int .u64 (mk 0 xs:Nat)))) [] :=
 zo1 (zfu Tryz.func120 rfl rfl) _ _ (.int .u64 (mk 0 xs:Nat)) (fun _ _ _ _=>relC.2 ⟨rfl,rfl⟩) fun w F β vs hF hv=>by
  obtain⟨u,rfl,hu⟩:=zpa hv
  obtain⟨a,c,rfl,_,_,hE⟩:=zt2 (fun n:Nat=>Value.int .u64 n) xs hF hu
  exact(zyn a c w.heap.size xs w hl hE).mono fun e w' h=>⟨h.1,h.2▸Below.refl _ _⟩
theorem ya9 (m n:Nat) (hm:m<18446744073709551616):Spec Tryz.prog 172 [.c (.v (.int .u64 m)),.c (.v (.int .u64 n))] [] (.c (.v (.int .u64 (m ^^^ mx n:Nat)))) [] :=
 zcy (zfu Tryz.func172 rfl rfl) [.int .u64 m,.int .u64 n] _ rfl fun w=>(z4g m n hm w).mono fun e w' h=>⟨h.1,h.2▸Below.refl _ _⟩
theorem ye6 (m:Nat):mk m []=m:=rfl
theorem mkl (l:List Nat) (m:Nat) (k:Nat) (h:k<l.length):mk m (l.take (k+1))=mk m (l.take k) ^^^ mx (l.getD k default):=by rw[zav l k h,ybf]
theorem ye8 (l:List Nat) (hl:l.length≤1000000):Spec Tryz.prog 135 [.c (.sl 1 [[.sl 1 (l.map zgl)]])] [] (.c (.v (.int .u64 (mk 0 l:Nat)))) []:=by
 refine spB Tryz.func135 26 [.tmp 2] Tryz.results135 ?_
 try refine xst ?_
 refine zas (fun k:Nat=>⟨[(10,I .i64 k),(9,I .i64 1),(8,.c (.sl 1 [[.sl 1 (l.map zgl)]])),(3,.c (.v (.int .u64 ((if k=0 then 0 else mk 0 l:Nat):Int))))],[],0⟩) (fun k:Nat=>k≤1) (fun k:Nat=>1-k) (0) (Nat.zero_le _) (To.mk [] rfl rfl List.nodup_nil trivial ?_) ?_
 ·simp(etaStruct := .none)only[push_cast,zab,seval,if_pos trivial]
 rintro k hk
 try refine xst ?_
 refine cI (fun h1 => ?_) fun h1 => ?_
 ·obtain rfl:k=0:=by omega
  try refine xst ?_
  refine zas (fun k:Nat=>⟨[(16,I .i64 k),(15,I .i64 l.length),(14,.c (.sl 1 (l.map zgl))),(10,I .i64 0),(9,I .i64 1),(8,.c (.sl 1 [[.sl 1 (l.map zgl)]])),(3,.c (.v (.int .u64 (mk 0 (l.take k):Nat))))],[],0⟩) (fun k:Nat=>k≤l.length) (fun k:Nat=>l.length-k) (0) (Nat.zero_le _) (To.mk [] rfl rfl List.nodup_nil trivial ?_) ?_
  ·simp(etaStruct := .none)only[push_cast,zab,seval,List.take_zero,ye6]
  rintro k hk
  try refine xst ?_
  refine cI (fun h2 => ?_) fun h2 => ?_
  ·have hlt:k<l.length:=by omega
   have ml:=mkl l 0 k hlt
   try refine xz2 (gd hlt) z7t ?_
   refine caP (ya9 (mk 0 (l.take k)) (l.getD k default) (yiq _ 0 (by decide))) ?_
   try refine xz2 (gd hlt) z7t ?_
   refine⟨k+1,by omega,by omega,To.mk [] rfl rfl List.nodup_nil trivial ?_⟩
   ·(try(refine xz1 ml ?_;try exact xtI))
  ·obtain rfl:k=l.length:=by omega
   iterate 2(try simp(etaStruct := .none)only[push_cast,zab,seval,List.take_length];try refine xsu ?_)
   refine⟨1,by omega,by omega,To.mk [] rfl rfl List.nodup_nil trivial ?_⟩
   ·(iterate 2((try simp(etaStruct := .none)only[push_cast,zab,seval,if_neg (show ¬(1:Nat)=0 by decide),Int.zero_add]);(try(refine xsu ?_;try exact xtI))))
 ·obtain rfl:k=1:=by omega
  try refine xst ?_
  exact xrz rfl
theorem yip (l:List Nat) (hl:l.length≤1000000):Spec Tryz.prog 98 [.c (.sl 1 (l.map zgl))] [] (.c (.v (.int .u64 (mk 0 l:Nat)))) []:=by
 refine spB Tryz.func98 6 [.tmp 2] Tryz.results98 ?_
 try refine xst ?_
 refine zbv (ye8 l hl) (WkL.refl _) rfl ?_
 try refine xst ?_
 exact xrz rfl
def zht (l:List Int):Nat:=zpu (paR l).1
theorem zwg (l:List Int):(paR l).1.size≤20000:=by
 unfold paR
 split
 ·show 0≤20000;omega
 ·show ByteArray.size ⟨(paK l l.length).toArray⟩≤20000
  rw[zm3];have:=zjz l l.length;omega
theorem zou (l:List Int) (hx:∀x∈l,I64 x) (hl:l.length≤1000000):Spec Tryz.prog 97 [.c (.sl 1 (l.map zac))] [] (.c (.v (.int .u64 (zht l:Nat)))) []:=by
 have:=zwg l
 refine spB Tryz.func97 12 [.tmp 2] Tryz.results97 ?_
 try refine xst ?_
 refine caP (zv8 l hx (by omega)) ?_
 try refine xst ?_
 refine caP (yff (paR l).1 (by omega)) ?_
 try refine xst ?_
 (first|(refine zar rfl (Wk.of ?_);(try simp(etaStruct := .none)only[push_cast,zab,seval]);first|done|(simp[zht, *];done)|(simp_all[zht];done))|(refine zar rfl ?_;(try simp(etaStruct := .none)only[push_cast,zab,seval]);(try simp[zht, *]);(try exact wkc)))
theorem zo7 (l:List Int) (hx:∀x∈l,I64 x) (hl:l.length≤1000000):Spec Tryz.prog 119 [.c (.sl 1 (l.map zac))] [] (.c (.v (.int .u64 (zht l:Nat)))) []:=by
 have:=zwg l
 refine spB Tryz.func119 12 [.tmp 2] Tryz.results119 ?_
 try refine xst ?_
 refine caP (zt9 l hx (by omega)) ?_
 try refine xst ?_
 refine caP (z6b (paR l).1 (by omega)) ?_
 try refine xst ?_
 (first|(refine zar rfl (Wk.of ?_);(try simp(etaStruct := .none)only[push_cast,zab,seval]);first|done|(simp[zht, *];done)|(simp_all[zht];done))|(refine zar rfl ?_;(try simp(etaStruct := .none)only[push_cast,zab,seval]);(try simp[zht, *]);(try exact wkc)))
def hdI (w:Wld):List Int := [1,w.f.w,w.f.h,w.next,w.now]++w.f.p
def z89 (w:Wld) (i:Nat):List Int := [2,(i:Int),(w.bases.getD i default).x,(w.bases.getD i default).y,w.stocks.getD i default]
def z8k (w:Wld) (i:Nat):List Int := [3,(i:Int),w.mines.getD i default]
def z7u (w:Wld) (i:Nat):List Int := [4,(w.troops.getD i default).id,(w.troops.getD i default).owner,(w.troops.getD i default).kind,(w.troops.getD i default).c.x,(w.troops.getD i default).c.y,(w.troops.getD i default).life,(w.troops.getD i default).load]
def wl1 (w:Wld) (k:Nat):List Nat:=zht (hdI w)::(List.range k).map fun i=>zht (z89 w i)
def wl2 (w:Wld) (k:Nat):List Nat:=wl1 w w.bases.length++(List.range k).flatMap fun i=>if w.mines.getD i default=0 then []else [zht (z8k w i)]
def wl3 (w:Wld) (k:Nat):List Nat:=wl2 w w.mines.length++(List.range k).map fun i=>zht (z7u w i)
theorem ydk (w:Wld):wl1 w 0 = [zht (hdI w)]:=rfl
theorem z9f (w:Wld):wl2 w 0=wl1 w w.bases.length:=by simp[wl2]
theorem ydi (w:Wld):wl3 w 0=wl2 w w.mines.length:=by simp[wl3]
theorem ydj (w:Wld) (k:Nat):wl1 w (k+1)=wl1 w k ++ [zht (z89 w k)]:=by simp[wl1,List.range_succ]
theorem z9e (w:Wld) (k:Nat):wl2 w (k+1)=wl2 w k++(if w.mines.getD k default=0 then []else [zht (z8k w k)]):=by
 unfold wl2;rw[List.range_succ,List.flatMap_append,←List.append_assoc];congr 1;exact List.flatMap_singleton ..
theorem ydh (w:Wld) (k:Nat):wl3 w (k+1)=wl3 w k ++ [zht (z7u w k)]:=by simp[wl3,List.range_succ]
theorem zti (w:Wld):∀k,(wl1 w k).length=k+1:=by intro k;simp[wl1]
theorem zoq (w:Wld):∀k,(wl2 w k).length≤w.bases.length+1+k
 | 0=>by rw[z9f,zti];omega
 | k+1=>by
  have:=zoq w k
  rw[z9e,List.length_append];split<;>simp<;>omega
theorem zop (w:Wld) (k:Nat):(wl3 w k).length≤w.bases.length+1+w.mines.length+k:=by
 have:=zoq w w.mines.length
 unfold wl3;rw[List.length_append,List.length_map,List.length_range];omega
def zfj (w:Wld):Nat:=mk 0 (wl3 w w.troops.length)
theorem zjq {w:Wld} (h:zah w=0):(1≤w.f.w∧w.f.w≤40)∧(1≤w.f.h∧w.f.h≤40)∧(w.f.p.length≤1600∧∀p∈w.f.p,0≤p∧p<4)∧w.bases.length≤8∧w.troops.length≤100∧w.stocks.length=w.bases.length∧w.mines.length=w.f.p.length∧(1≤w.next∧w.next≤1000000)∧(0≤w.now∧w.now≤1000000) ∧
 (∀k,k<w.bases.length→(0≤(w.bases.getD k default).x∧(w.bases.getD k default).x≤39)∧(0≤(w.bases.getD k default).y∧(w.bases.getD k default).y≤39)∧0≤w.stocks.getD k default∧w.stocks.getD k default≤1000000) ∧
 (∀k,k<w.mines.length→0≤w.mines.getD k default∧w.mines.getD k default≤1000000):=by
 obtain⟨h1,h2,h3,h4,h5⟩:=zcb h
 obtain⟨g1,g2,g3,g4⟩:=zba h1
 obtain⟨f1,f2,f3,f4⟩:=zla h4
 have hm2:w.f.w*w.f.h≤40*40:=Int.mul_le_mul g1.2 g2.2 (by omega) (by omega)
 unfold ze7 at h5
 simp only[Bool.and_eq_true]at h5
 refine⟨g1,g2,⟨by omega,g4⟩,h2,h3,f1,f2,f3,f4,fun k hk => ?_,fun k hk => ?_⟩
 ·have:=(zbo _ _).1 h5.1.1 k hk
  unfold zhv at this
  simp only[Bool.and_eq_true,within_iff]at this
  have hi:=inF_iff.1 (ground_iff.1 this.1.1).1
  omega
 ·have:=(zbo _ _).1 h5.1.2 k hk
  unfold zi4 at this
  simp only[Bool.and_eq_true,within_iff]at this
  omega
theorem z8s {w:Wld} (h:zah w=0):(∀x∈hdI w,I64 x)∧(hdI w).length≤1000000:=by
 obtain⟨b1,b2,b3,b4,b5,b6,b7,b8,b9,b10,b11⟩:=zjq h
 refine⟨fun x hx => ?_,by simp[hdI];omega⟩
 simp only[hdI,List.mem_append,List.mem_cons,List.not_mem_nil,or_false]at hx
 unfold I64
 rcases hx with (rfl|rfl|rfl|rfl|rfl)|hx
 ·omega
 ·omega
 ·omega
 ·omega
 ·omega
 ·have:=b3.2 x hx;omega
theorem z3z {w:Wld} (h:zah w=0) {k:Nat} (hk:k<w.bases.length):(∀x∈z89 w k,I64 x)∧(z89 w k).length≤1000000:=by
 obtain⟨b1,b2,b3,b4,b5,b6,b7,b8,b9,b10,b11⟩:=zjq h
 have:=b10 k hk
 refine⟨fun x hx => ?_,by simp[z89]⟩
 simp only[z89,List.mem_cons,List.not_mem_nil,or_false]at hx
 unfold I64
 rcases hx with rfl|rfl|rfl|rfl|rfl<;>omega
theorem z12 {w:Wld} (h:zah w=0) {k:Nat} (hk:k<w.mines.length):(∀x∈z8k w k,I64 x)∧(z8k w k).length≤1000000:=by
 obtain⟨b1,b2,b3,b4,b5,b6,b7,b8,b9,b10,b11⟩:=zjq h
 have:=b11 k hk
 refine⟨fun x hx => ?_,by simp[z8k]⟩
 simp only[z8k,List.mem_cons,List.not_mem_nil,or_false]at hx
 unfold I64
 rcases hx with rfl|rfl|rfl<;>omega
theorem z6c {k:Int} : (zbh k).life≤20:=by unfold zbh;split;decide;split<;>decide
theorem zz3 {w:Wld} (h:zah w=0) {k:Nat} (hk:k<w.troops.length):(∀x∈z7u w k,I64 x)∧(z7u w k).length≤1000000:=by
 obtain⟨b1,b2,b3,b4,b5,b6,b7,b8,b9,b10,b11⟩:=zjq h
 obtain⟨t1,t2,t3,t4,t5,t6,t7,t8⟩:=(ze8 h hk).1
 have kl := @z6c (w.troops.getD k default).kind
 refine⟨fun x hx => ?_,by simp[z7u]⟩
 simp only[z7u,List.mem_cons,List.not_mem_nil,or_false]at hx
 unfold I64
 rcases hx with rfl|rfl|rfl|rfl|rfl|rfl|rfl|rfl<;>omega
theorem zk9 (w:Wld) (hw:zah w=0):Spec Tryz.prog 83 [zbk w] [] (.c (.v (.int .u64 (zfj w:Nat)))) []:=by
 obtain⟨b1,b2,b3,b4,b5,b6,b7,b8,b9,b10,b11⟩:=zjq hw
 have h0:=z8s hw
 refine spB Tryz.func83 102 [.tmp 2] Tryz.results83 ?_
 try refine xst ?_
 refine zbv (zo7 (hdI w) h0.1 h0.2) (WkL.refl _) rfl ?_
 try refine xst ?_
 refine zas (fun k:Nat=>⟨[(32,I .i64 k),(31,I .i64 w.bases.length),(30,.c (.sl 2 (w.bases.map zaz))),(4,.own 1),(1,.ptr 0 0 0)],[(0,.blk 28 (zhq w)),(1,.row 109 1 ((wl1 w k).map zgl))],2⟩) (fun k:Nat=>k≤w.bases.length) (fun k:Nat=>w.bases.length-k) (0) (Nat.zero_le _) (To.mk [0,3] rfl rfl (by decide) ?_ ?_) ?_
 ·simp(etaStruct := .none)only[push_cast,zab,seval,ydk,zgl]
 ·simp(etaStruct := .none)only[push_cast,zab,seval]
 rintro k hk
 try refine xst ?_
 refine cI (fun h1 => ?_) fun h1 => ?_
 ·have hlt:k<w.bases.length:=by omega
  have hlt2:k<w.stocks.length:=by omega
  have ok:=z3z hw hlt
  have ln:=zti w k
  try refine xz4 (gd hlt) (gd hlt2) zao zak ?_
  refine zbv (zo7 (z89 w k) ok.1 ok.2) (WkL.refl _) rfl ?_
  try refine xz4 (gd hlt) (gd hlt2) zao zak ?_
  (try(refine⟨by kernel_rfl,?_⟩))
  try refine xz4 (gd hlt) (gd hlt2) zao zak ?_
  refine⟨k+1,by omega,by omega,To.mk [0,59] rfl rfl (by decide) ?_ ?_⟩
  ·(iterate 2((try simp(etaStruct := .none)only[push_cast,zab,seval,ydj,List.map_append,zgl]);(try(refine xsu ?_;try exact xtI))))
  ·(try(refine xz4 (gd hlt) (gd hlt2) zao zak ?_;try exact xtI))
 ·obtain rfl:k=w.bases.length:=by omega
  try refine xst ?_
  refine zas (fun k:Nat=>⟨[(56,I .i64 k),(55,I .i64 w.mines.length),(54,.c (.sl 1 (w.mines.map zac))),(4,.own 1),(1,.ptr 0 0 0)],[(0,.blk 28 (zhq w)),(1,.row 109 1 ((wl2 w k).map zgl))],2⟩) (fun k:Nat=>k≤w.mines.length) (fun k:Nat=>w.mines.length-k) (0) (Nat.zero_le _) (To.mk [0,1] rfl rfl (by decide) ?_ ?_) ?_
  ·simp(etaStruct := .none)only[push_cast,zab,seval,z9f]
  ·simp(etaStruct := .none)only[push_cast,zab,seval]
  rintro k hk
  try refine xst ?_
  refine cI (fun h2 => ?_) fun h2 => ?_
  ·have hlt:k<w.mines.length:=by omega
   have ok:=z12 hw hlt
   have ln:=zoq w k
   have bm:=b11 k hlt
   have st:=z9e w k
   try refine xz2 (gd hlt) zak ?_
   refine cI (fun h3 => ?_) fun h3 => ?_
   ·rw[if_neg (by omega)]at st
    try refine xz2 (gd hlt) zak ?_
    refine zbv (zo7 (z8k w k) ok.1 ok.2) (WkL.refl _) rfl ?_
    try refine xz2 (gd hlt) zak ?_
    refine⟨k+1,by omega,by omega,To.mk [0,4] rfl rfl (by decide) ?_ ?_⟩
    ·(iterate 2((try simp(etaStruct := .none)only[push_cast,zab,seval,st,List.map_append,zgl]);(try(refine xsu ?_;try exact xtI))))
    ·(try(refine xz2 (gd hlt) zak ?_;try exact xtI))
   ·rw[if_pos (by omega),List.append_nil]at st
    try refine xz2 (gd hlt) zak ?_
    refine⟨k+1,by omega,by omega,To.mk [0,1] rfl rfl (by decide) ?_ ?_⟩
    ·(try(refine xz1 st ?_;try exact xtI))
    ·(try(refine xz2 (gd hlt) zak ?_;try exact xtI))
  ·obtain rfl:k=w.mines.length:=by omega
   try refine xst ?_
   refine zas (fun k:Nat=>⟨[(74,I .i64 k),(73,I .i64 w.troops.length),(72,.c (.sl 7 (w.troops.map zaw))),(4,.own 0)],[(0,.row 109 1 ((wl3 w k).map zgl))],1⟩) (fun k:Nat=>k≤w.troops.length) (fun k:Nat=>w.troops.length-k) (0) (Nat.zero_le _) (To.mk [1] rfl rfl (by decide) ?_ ?_) ?_
   ·simp(etaStruct := .none)only[push_cast,zab,seval,ydi]
   ·simp(etaStruct := .none)only[push_cast,zab,seval]
   rintro k hk
   try refine xst ?_
   refine cI (fun h4 => ?_) fun h4 => ?_
   ·have hlt:k<w.troops.length:=by omega
    have ok:=zz3 hw hlt
    have ln:=zop w k
    try refine xz2 (gd hlt) zae ?_
    refine zbv (zo7 (z7u w k) ok.1 ok.2) (WkL.refl _) rfl ?_
    try refine xz2 (gd hlt) zae ?_
    refine⟨k+1,by omega,by omega,To.mk [4] rfl rfl (by decide) ?_ ?_⟩
    ·(iterate 2((try simp(etaStruct := .none)only[push_cast,zab,seval,ydh,List.map_append,zgl]);(try(refine xsu ?_;try exact xtI))))
    ·(try(refine xz2 (gd hlt) zae ?_;try exact xtI))
   ·obtain rfl:k=w.troops.length:=by omega
    have ln:=zop w w.troops.length
    try refine xst ?_
    refine zbv (z52 (wl3 w w.troops.length) (by omega)) (WkL.refl _) rfl ?_
    try refine xst ?_
    (first|(refine zar rfl (Wk.of ?_);(try simp(etaStruct := .none)only[push_cast,zab,seval]);first|done|(simp[zfj, *];done)|(simp_all[zfj];done))|(refine zar rfl ?_;(try simp(etaStruct := .none)only[push_cast,zab,seval]);(try simp[zfj, *]);(try exact wkc)))
theorem zz5 (w:Wld) (hl:zdf w) (hw:zah w=0):Spec Tryz.prog 60 [zbk w] [] (.tup [.c (.v (.int .u64 (zfj w:Nat))),I .i64 0]) []:=by
 obtain⟨b1,b2,b3,b4,b5,b6,b7,b8,b9,b10,b11⟩:=zjq hw
 have h0:=z8s hw
 refine spB Tryz.func60 107 [.tmp 2,.tmp 3] Tryz.results60 ?_
 try refine xst ?_
 refine caP (ze9 w hl) ?_
 try refine xst ?_
 refine cI (fun h1 => ?_) fun h1 => ?_
 ·exact absurd hw h1
 ·try refine xst ?_
  refine zbv (zou (hdI w) h0.1 h0.2) (WkL.refl _) rfl ?_
  try refine xst ?_
  refine zas (fun k:Nat=>⟨[(37,I .i64 k),(36,I .i64 w.bases.length),(35,.c (.sl 2 (w.bases.map zaz))),(5,.own 1),(1,.ptr 0 0 0)],[(0,.blk 28 (zhq w)),(1,.row 109 1 ((wl1 w k).map zgl))],2⟩) (fun k:Nat=>k≤w.bases.length) (fun k:Nat=>w.bases.length-k) (0) (Nat.zero_le _) (To.mk [0,3] rfl rfl (by decide) ?_ ?_) ?_
  ·simp(etaStruct := .none)only[push_cast,zab,seval,ydk,zgl]
  ·simp(etaStruct := .none)only[push_cast,zab,seval]
  rintro k hk
  try refine xst ?_
  refine cI (fun h2 => ?_) fun h2 => ?_
  ·have hlt:k<w.bases.length:=by omega
   have hlt2:k<w.stocks.length:=by omega
   have ok:=z3z hw hlt
   have ln:=zti w k
   try refine xz4 (gd hlt) (gd hlt2) zao zak ?_
   refine zbv (zou (z89 w k) ok.1 ok.2) (WkL.refl _) rfl ?_
   try refine xz4 (gd hlt) (gd hlt2) zao zak ?_
   (try(refine⟨by kernel_rfl,?_⟩))
   try refine xz4 (gd hlt) (gd hlt2) zao zak ?_
   refine⟨k+1,by omega,by omega,To.mk [0,59] rfl rfl (by decide) ?_ ?_⟩
   ·(iterate 2((try simp(etaStruct := .none)only[push_cast,zab,seval,ydj,List.map_append,zgl]);(try(refine xsu ?_;try exact xtI))))
   ·(try(refine xz4 (gd hlt) (gd hlt2) zao zak ?_;try exact xtI))
  ·obtain rfl:k=w.bases.length:=by omega
   try refine xst ?_
   refine zas (fun k:Nat=>⟨[(61,I .i64 k),(60,I .i64 w.mines.length),(59,.c (.sl 1 (w.mines.map zac))),(5,.own 1),(1,.ptr 0 0 0)],[(0,.blk 28 (zhq w)),(1,.row 109 1 ((wl2 w k).map zgl))],2⟩) (fun k:Nat=>k≤w.mines.length) (fun k:Nat=>w.mines.length-k) (0) (Nat.zero_le _) (To.mk [0,1] rfl rfl (by decide) ?_ ?_) ?_
   ·simp(etaStruct := .none)only[push_cast,zab,seval,z9f]
   ·simp(etaStruct := .none)only[push_cast,zab,seval]
   rintro k hk
   try refine xst ?_
   refine cI (fun h3 => ?_) fun h3 => ?_
   ·have hlt:k<w.mines.length:=by omega
    have ok:=z12 hw hlt
    have ln:=zoq w k
    have bm:=b11 k hlt
    have st:=z9e w k
    try refine xz2 (gd hlt) zak ?_
    refine cI (fun h4 => ?_) fun h4 => ?_
    ·rw[if_neg (by omega)]at st
     try refine xz2 (gd hlt) zak ?_
     refine zbv (zou (z8k w k) ok.1 ok.2) (WkL.refl _) rfl ?_
     try refine xz2 (gd hlt) zak ?_
     refine⟨k+1,by omega,by omega,To.mk [0,4] rfl rfl (by decide) ?_ ?_⟩
     ·(iterate 2((try simp(etaStruct := .none)only[push_cast,zab,seval,st,List.map_append,zgl]);(try(refine xsu ?_;try exact xtI))))
     ·(try(refine xz2 (gd hlt) zak ?_;try exact xtI))
    ·rw[if_pos (by omega),List.append_nil]at st
     try refine xz2 (gd hlt) zak ?_
     refine⟨k+1,by omega,by omega,To.mk [0,1] rfl rfl (by decide) ?_ ?_⟩
     ·(try(refine xz1 st ?_;try exact xtI))
     ·(try(refine xz2 (gd hlt) zak ?_;try exact xtI))
   ·obtain rfl:k=w.mines.length:=by omega
    try refine xst ?_
    refine zas (fun k:Nat=>⟨[(79,I .i64 k),(78,I .i64 w.troops.length),(77,.c (.sl 7 (w.troops.map zaw))),(5,.own 0)],[(0,.row 109 1 ((wl3 w k).map zgl))],1⟩) (fun k:Nat=>k≤w.troops.length) (fun k:Nat=>w.troops.length-k) (0) (Nat.zero_le _) (To.mk [1] rfl rfl (by decide) ?_ ?_) ?_
    ·simp(etaStruct := .none)only[push_cast,zab,seval,ydi]
    ·simp(etaStruct := .none)only[push_cast,zab,seval]
    rintro k hk
    try refine xst ?_
    refine cI (fun h5 => ?_) fun h5 => ?_
    ·have hlt:k<w.troops.length:=by omega
     have ok:=zz3 hw hlt
     have ln:=zop w k
     try refine xz2 (gd hlt) zae ?_
     refine zbv (zou (z7u w k) ok.1 ok.2) (WkL.refl _) rfl ?_
     try refine xz2 (gd hlt) zae ?_
     refine⟨k+1,by omega,by omega,To.mk [4] rfl rfl (by decide) ?_ ?_⟩
     ·(iterate 2((try simp(etaStruct := .none)only[push_cast,zab,seval,ydh,List.map_append,zgl]);(try(refine xsu ?_;try exact xtI))))
     ·(try(refine xz2 (gd hlt) zae ?_;try exact xtI))
    ·obtain rfl:k=w.troops.length:=by omega
     have ln:=zop w w.troops.length
     try refine xst ?_
     refine zbv (yip (wl3 w w.troops.length) (by omega)) (WkL.refl _) rfl ?_
     try refine xst ?_
     (first|(refine zar rfl (Wk.of ?_);(try simp(etaStruct := .none)only[push_cast,zab,seval]);first|done|(simp[zfj, *];done)|(simp_all[zfj];done))|(refine zar rfl ?_;(try simp(etaStruct := .none)only[push_cast,zab,seval]);(try simp[zfj, *]);(try exact wkc)))
def zca (l:List Ord):List PV := [.sl 6 (l.map zch)]
theorem zb4 (l:List Ord):zca l = [.sl 6 (l.map zch)]:=rfl
def zfm (WR:Cel→List Int):List (List Ord)→Wld→Wld
 | [],w=>w
 | o::r,w=>zfm WR r (zgn WR w o)
def zrk (WR:Cel→List Int):List (List Ord)→Wld→List Nat
 | [],w => [zfj w]
 | o::r,w=>zfj w::zrk WR r (zgn WR w o)
def zh6 (WR:Cel→List Int):List (List Ord)→Wld→Int
 | [],_=>0
 | o::r,w=>if zb3 o w≠0 then zb3 o w else zh6 WR r (zgn WR w o)
theorem yco (w:Wld) (d:Ded):(ze1 w d).1.f=w.f:=by
 unfold ze1
 repeat' split
 all_goals rfl
theorem z61 (l:List Ded):∀w,(za6 w l).1.f=w.f:=by
 induction l with
 | nil=>intro w;rfl
 | cons a r ih=>intro w;rw[za6,ih,yco]
theorem zzx (WR:Cel→List Int) (w:Wld) (o:List Ord):(zgn WR w o).f=w.f:=by
 unfold zgn z1s tkC;rw[show ({ (za6 (tkB WR w o) (zbq o w)).1 with now:=(za6 (tkB WR w o) (zbq o w)).1.now+1 } : Wld).f=(za6 (tkB WR w o) (zbq o w)).1.f from rfl,z61];rfl
theorem zv0 (WR:Cel→List Int):∀(l:List (List Ord)) (w:Wld),(zfm WR l w).f=w.f
 | [],_=>rfl
 | o::r,w=>by rw[zfm,zv0 WR r,zzx]
theorem zlv (WR:Cel→List Int) (o:List Ord):∀(l:List (List Ord)) (w:Wld),zfm WR (l ++ [o]) w=zgn WR (zfm WR l w) o
 | [],_=>rfl
 | a::r,w=>by rw[List.cons_append,zfm,zlv WR o r];rfl
theorem zlw (WR:Cel→List Int) (o:List Ord):∀(l:List (List Ord)) (w:Wld),zrk WR (l ++ [o]) w=zrk WR l w ++ [zfj (zgn WR (zfm WR l w) o)]
 | [],_=>rfl
 | a::r,w=>by rw[List.cons_append,zrk,zlw WR o r];rfl
theorem zo6 (WR:Cel→List Int) (b:List (List Ord)):∀(a:List (List Ord)) (w:Wld),zh6 WR (a++b) w=if zh6 WR a w≠0 then zh6 WR a w else zh6 WR b (zfm WR a w)
 | [],w=>by simp[zh6,zfm]
 | o::r,w=>by
  rw[List.cons_append,zh6,zh6,zo6 WR b r,zfm]
  by_cases h:zb3 o w≠0
  ·rw[if_pos h,if_pos h,if_pos h]
  ·rw[if_neg h,if_neg h]
theorem zo5 (WR:Cel→List Int):∀(l:List (List Ord)) (w:Wld),(zrk WR l w).length=l.length+1
 | [],_=>rfl
 | o::r,w=>by rw[zrk,List.length_cons,zo5 WR r,List.length_cons]
theorem zos {w:Wld} {l:List Ord} (h:zb3 l w=0):Right w∧w.now<1000000:=by
 have hs:zb7 l w=0:=by unfold zb3 at h;split at h;rename_i h1;exact absurd h h1;rename_i h1;simpa using h1
 have hn:w.now<1000000:=by unfold zb3 at h;rw[if_neg (by simp[hs])]at h;split at h;exact absurd h (by decide);omega
 exact⟨zds (zdx hs).2,hn⟩
theorem zix {WR:Cel→List Int} : ∀(l:List (List Ord)) {w:Wld},Right w→(∀a,zai w.f [a] (WR a))→zh6 WR l w=0→Right (zfm WR l w)
 | [],_,h,_,_=>h
 | o::r,w,h,hWR,he=>by
  rw[zh6]at he
  split at he
  ·rename_i h1;exact absurd he h1
  ·rename_i h1
   have h1:zb3 o w=0:=by simpa using h1
   exact zix r (zjv h hWR o (zos h1).2) (by intro a;rw[zzx];exact hWR a) he
theorem zvw {WR:Cel→List Int} {ts:List (List Ord)} {w:Wld} {k:Nat} (hk:k<ts.length) (h:zh6 WR (ts.take k) w=0):(zb3 (ts.getD k default) (zfm WR (ts.take k) w)≠0→zh6 WR ts w=zb3 (ts.getD k default) (zfm WR (ts.take k) w))∧(zb3 (ts.getD k default) (zfm WR (ts.take k) w)=0→zh6 WR (ts.take (k+1)) w=0):=by
 have e1:=zav ts k hk
 constructor
 ·intro hn
  have e2:ts=ts.take k++ts.drop k:=(List.take_append_drop k ts).symm
  have e3:ts.drop k=ts.getD k default::ts.drop (k+1):=by rw[zad _ _ hk];exact List.drop_eq_getElem_cons hk
  rw[show zh6 WR ts w=zh6 WR (ts.take k++ts.drop k) w from by rw[←e2],zo6,if_neg (by simp[h]),e3,zh6,if_pos hn]
 ·intro h0
  rw[e1,zo6,if_neg (fun hn=>hn h),zh6,if_neg (fun hn=>hn h0)];rfl
theorem zx2 {w:Wld} (h:Right w):zc3 w []=w:=by
 have e:zdi w []=id:=by funext t;unfold zdi;rw[zp5];simp
 unfold zc3 zi8
 rw[e,List.map_id,List.filter_eq_self.2]
 intro t ht
 obtain⟨i,hi,rfl⟩:=List.mem_iff_getElem.1 ht
 have:=(h.trp i hi).life
 rw[zad _ _ hi]at this
 simp;omega
abbrev ydf:List AV := [I .i64 0,I .i64 0,.c (.v (.slice none 0 0)),.c (.v (.slice none 0 0)),.c (.v (.slice none 0 0)),.c (.v (.slice none 0 0)),.c (.v (.slice none 0 0)),I .i64 0,I .i64 0]
theorem yds (w:Wld) (ts:List (List Ord)) (WR:Cel→List Int) (hWR:∀a,zai w.f [a] (WR a)) (hts:ts.length≤200) (hin:∀l∈ts,l.length≤9223372036854775807) (hw:Right w):Spec Tryz.prog 26 [zbk w,.c (.sl 1 (ts.map zca))] [] (.tup [zbk (if zh6 WR ts w=0 then zfm WR ts w else default),.c (.sl 1 ((if zh6 WR ts w=0 then zrk WR ts w else []).map zgl)),I .i64 (zh6 WR ts w)]) []:=by
 have e1:zby w []=0:=by unfold zby;rw[if_neg (by simp[hw.e]),if_neg (by simp)]
 have HK:=zsl w [] hw.l (by simp) e1
 rw[e1,show zfe w []=w from by unfold zfe;rw[if_pos e1,zx2 hw]]at HK
 obtain⟨E,hE⟩:∃E,E=zh6 WR ts w:=⟨_,rfl⟩
 rw[←hE]
 refine spB Tryz.func26 64 [.cell 4 28,.tmp 5,.tmp 6] Tryz.results26 ?_
 try refine xst ?_
 refine cI (fun h1 => ?_) fun h1 => ?_
 ·omega
 ·try refine xst ?_
  refine zct (HK) (by exact⟨Wk.refl _,Wk.nil _,trivial⟩) ?_
  try refine xst ?_
  refine cI (fun h2 => ?_) fun h2 => ?_
  ·simp at h2
  ·try refine xst ?_
   refine caP (zz5 w hw.l hw.e) ?_
   try refine xst ?_
   refine zas (fun k:Nat=>⟨[(37,I .i64 k),(36,I .i64 ts.length),(35,.c (.sl 1 (ts.map zca))),(11,.own 2),(4,.ptr 1 0 0),(2,.ptr 0 0 0)],[(0,.blk 28 (zhq (zfm WR (ts.take k) w))),(1,.blk 28 ydf),(2,.row 109 1 ((zrk WR (ts.take k) w).map zgl))],3⟩) (fun k:Nat=>k≤ts.length∧zh6 WR (ts.take k) w=0) (fun k:Nat=>ts.length-k) (0) (⟨Nat.zero_le _,rfl⟩) (To.mk [0,1,2] rfl rfl (by decide) ?_ ?_) ?_
   ·simp(etaStruct := .none)only[push_cast,zab,seval,List.take_zero,zfm,zrk,List.map_cons,List.map_nil,zgl]
   ·simp(etaStruct := .none)only[push_cast,zab,seval]
   rintro k ⟨hk,hn⟩
   try refine xst ?_
   refine cI (fun h3 => ?_) fun h3 => ?_
   ·have hlt:k<ts.length:=by omega
    have RK:=zix (ts.take k) hw hWR hn
    have hWk:∀a,zai (zfm WR (ts.take k) w).f [a] (WR a):=by intro a;rw[zv0];exact hWR a
    obtain⟨st1,st2⟩:=zvw hlt hn
    have T:=zz1 (zfm WR (ts.take k) w) (ts.getD k default) WR hWk RK.l (hin _ (za9 _ _ hlt))
    try refine xz2 (gd hlt) zb4 ?_
    refine caP (T) ?_
    try refine xz2 (gd hlt) zb4 ?_
    refine cI (fun h4 => ?_) fun h4 => ?_
    ·have hE2:=hE.trans (st1 h4)
     rw[if_neg (by rw[hE2];exact h4),if_neg (by rw[hE2];exact h4),hE2]
     try refine xz2 (gd hlt) zb4 ?_
     exact xrz rfl
    ·have e0:zb3 (ts.getD k default) (zfm WR (ts.take k) w)=0:=by simpa using h4
     have hWv:zkn WR (zfm WR (ts.take k) w) (ts.getD k default)=zgn WR (zfm WR (ts.take k) w) (ts.getD k default):=if_pos e0
     have RV:Right (zkn WR (zfm WR (ts.take k) w) (ts.getD k default)):=by rw[hWv];exact zjv RK hWk _ (zos e0).2
     have hW1:zfm WR (ts.take (k+1)) w=zkn WR (zfm WR (ts.take k) w) (ts.getD k default):=by rw[zav ts k hlt,zlv,hWv]
     have hM1:zrk WR (ts.take (k+1)) w=zrk WR (ts.take k) w ++ [zfj (zkn WR (zfm WR (ts.take k) w) (ts.getD k default))]:=by rw[zav ts k hlt,zlw,hWv]
     have hml:=zo5 WR (ts.take k) w
     rw[List.length_take]at hml
     try refine xz2 (gd hlt) zb4 ?_
     refine caP (zz5 _ RV.l RV.e) ?_
     try refine xz2 (gd hlt) zb4 ?_
     refine⟨k+1,⟨by omega,st2 e0⟩,by omega,To.mk [0,1,4] rfl rfl (by decide) ?_ ?_⟩
     ·(iterate 2((try simp(etaStruct := .none)only[push_cast,zab,seval,hW1,hM1,List.map_append,List.map_cons,List.map_nil,zgl]);(try(refine xsu ?_;try exact xtI))))
     ·(try(refine xz2 (gd hlt) zb4 ?_;try exact xtI))
   ·obtain rfl:k=ts.length:=by omega
    rw[List.take_length]at hn
    have hE0:E=0:=hE.trans hn
    rw[if_pos hE0,if_pos hE0,hE0]
    iterate 2(try simp(etaStruct := .none)only[push_cast,zab,seval,List.take_length];try refine xsu ?_)
    exact xrz rfl
theorem yd9 (w:Wld) (ts:List (List Ord)) (WR:Cel→List Int) (hWR:∀a,zai w.f [a] (WR a)) (hts:ts.length≤200) (hin:∀l∈ts,l.length≤9223372036854775807) (hw:Right w):Spec Tryz.prog 48 [zbk w,.c (.sl 1 (ts.map zca))] [] (.tup [zbk (if zh6 WR ts w=0 then zfm WR ts w else default),.c (.sl 1 ((if zh6 WR ts w=0 then zrk WR ts w else []).map zgl)),I .i64 (zh6 WR ts w)]) []:=by
 have HW:=ze6 w hw.l
 rw[hw.e]at HW
 obtain⟨E,hE⟩:∃E,E=zh6 WR ts w:=⟨_,rfl⟩
 rw[←hE]
 refine spB Tryz.func48 50 [.cell 4 28,.tmp 5,.tmp 6] Tryz.results48 ?_
 try refine xst ?_
 refine cI (fun h1 => ?_) fun h1 => ?_
 ·omega
 ·try refine xst ?_
  refine caP (HW) ?_
  try refine xst ?_
  refine cI (fun h2 => ?_) fun h2 => ?_
  ·simp at h2
  ·try refine xst ?_
   refine caP (zk9 w hw.e) ?_
   try refine xst ?_
   refine zas (fun k:Nat=>⟨[(27,I .i64 k),(26,I .i64 ts.length),(25,.c (.sl 1 (ts.map zca))),(8,.own 2),(4,.ptr 1 0 0),(2,.ptr 0 0 0)],[(0,.blk 28 (zhq (zfm WR (ts.take k) w))),(1,.blk 28 ydf),(2,.row 109 1 ((zrk WR (ts.take k) w).map zgl))],3⟩) (fun k:Nat=>k≤ts.length∧zh6 WR (ts.take k) w=0) (fun k:Nat=>ts.length-k) (0) (⟨Nat.zero_le _,rfl⟩) (To.mk [0,1,2] rfl rfl (by decide) ?_ ?_) ?_
   ·simp(etaStruct := .none)only[push_cast,zab,seval,List.take_zero,zfm,zrk,List.map_cons,List.map_nil,zgl]
   ·simp(etaStruct := .none)only[push_cast,zab,seval]
   rintro k ⟨hk,hn⟩
   try refine xst ?_
   refine cI (fun h3 => ?_) fun h3 => ?_
   ·have hlt:k<ts.length:=by omega
    have RK:=zix (ts.take k) hw hWR hn
    have hWk:∀a,zai (zfm WR (ts.take k) w).f [a] (WR a):=by intro a;rw[zv0];exact hWR a
    obtain⟨st1,st2⟩:=zvw hlt hn
    have T:=z0z (zfm WR (ts.take k) w) (ts.getD k default) WR hWk RK.l (hin _ (za9 _ _ hlt))
    try refine xz2 (gd hlt) zb4 ?_
    refine caP (T) ?_
    try refine xz2 (gd hlt) zb4 ?_
    refine cI (fun h4 => ?_) fun h4 => ?_
    ·have hE2:=hE.trans (st1 h4)
     rw[if_neg (by rw[hE2];exact h4),if_neg (by rw[hE2];exact h4),hE2]
     try refine xz2 (gd hlt) zb4 ?_
     exact xrz rfl
    ·have e0:zb3 (ts.getD k default) (zfm WR (ts.take k) w)=0:=by simpa using h4
     have hWv:zkn WR (zfm WR (ts.take k) w) (ts.getD k default)=zgn WR (zfm WR (ts.take k) w) (ts.getD k default):=if_pos e0
     have RV:Right (zkn WR (zfm WR (ts.take k) w) (ts.getD k default)):=by rw[hWv];exact zjv RK hWk _ (zos e0).2
     have hW1:zfm WR (ts.take (k+1)) w=zkn WR (zfm WR (ts.take k) w) (ts.getD k default):=by rw[zav ts k hlt,zlv,hWv]
     have hM1:zrk WR (ts.take (k+1)) w=zrk WR (ts.take k) w ++ [zfj (zkn WR (zfm WR (ts.take k) w) (ts.getD k default))]:=by rw[zav ts k hlt,zlw,hWv]
     have hml:=zo5 WR (ts.take k) w
     rw[List.length_take]at hml
     try refine xz2 (gd hlt) zb4 ?_
     refine caP (zk9 _ RV.e) ?_
     try refine xz2 (gd hlt) zb4 ?_
     refine⟨k+1,⟨by omega,st2 e0⟩,by omega,To.mk [0,1,4] rfl rfl (by decide) ?_ ?_⟩
     ·(iterate 2((try simp(etaStruct := .none)only[push_cast,zab,seval,hW1,hM1,List.map_append,List.map_cons,List.map_nil,zgl]);(try(refine xsu ?_;try exact xtI))))
     ·(try(refine xz2 (gd hlt) zb4 ?_;try exact xtI))
   ·obtain rfl:k=ts.length:=by omega
    rw[List.take_length]at hn
    have hE0:E=0:=hE.trans hn
    rw[if_pos hE0,if_pos hE0,hE0]
    iterate 2(try simp(etaStruct := .none)only[push_cast,zab,seval,List.take_length];try refine xsu ?_)
    exact xrz rfl
def ze3 (WR:Cel→List Int) (ts:List (List Ord)) (w:Wld):Int:=if 200<ts.length then 2 else if zah w≠0 then zah w else zh6 WR ts w
def zgq (WR:Cel→List Int) (ts:List (List Ord)) (w:Wld):Wld:=if ze3 WR ts w=0 then zfm WR ts w else default
def z5a (WR:Cel→List Int) (ts:List (List Ord)) (w:Wld):List Nat:=if ze3 WR ts w=0 then zrk WR ts w else []
theorem ydr (w:Wld) (ts:List (List Ord)) (h:200<ts.length):Spec Tryz.prog 26 [zbk w,.c (.sl 1 (ts.map zca))] [] (.tup [zbk default,.c (.sl 1 (([]:List Nat).map zgl)),I .i64 2]) []:=by
 refine spB Tryz.func26 64 [.cell 4 28,.tmp 5,.tmp 6] Tryz.results26 ?_
 try refine xst ?_
 refine cI (fun h1 => ?_) fun h1 => ?_
 ·try refine xst ?_
  exact xrz rfl
 ·omega
theorem yd8 (w:Wld) (ts:List (List Ord)) (h:200<ts.length):Spec Tryz.prog 48 [zbk w,.c (.sl 1 (ts.map zca))] [] (.tup [zbk default,.c (.sl 1 (([]:List Nat).map zgl)),I .i64 2]) []:=by
 refine spB Tryz.func48 50 [.cell 4 28,.tmp 5,.tmp 6] Tryz.results48 ?_
 try refine xst ?_
 refine cI (fun h1 => ?_) fun h1 => ?_
 ·try refine xst ?_
  exact xrz rfl
 ·omega
theorem ydq (w:Wld) (ts:List (List Ord)) (hl:zdf w) (h:ts.length≤200) (hw:zah w≠0):Spec Tryz.prog 26 [zbk w,.c (.sl 1 (ts.map zca))] [] (.tup [zbk default,.c (.sl 1 (([]:List Nat).map zgl)),I .i64 (zah w)]) []:=by
 have e1:zby w []=zah w:=by unfold zby;rw[if_pos hw]
 have HK:=z2o w [] hl (by simp) (by rw[e1];exact hw)
 rw[e1]at HK
 refine spB Tryz.func26 64 [.cell 4 28,.tmp 5,.tmp 6] Tryz.results26 ?_
 try refine xst ?_
 refine cI (fun h1 => ?_) fun h1 => ?_
 ·omega
 ·try refine xst ?_
  refine zct (HK) (by exact⟨Wk.refl _,Wk.nil _,trivial⟩) ?_
  try refine xst ?_
  refine cI (fun h2 => ?_) fun h2 => ?_
  ·try refine xst ?_
   exact xrz rfl
  ·exact absurd h2 hw
theorem yd7 (w:Wld) (ts:List (List Ord)) (hl:zdf w) (h:ts.length≤200) (hw:zah w≠0):Spec Tryz.prog 48 [zbk w,.c (.sl 1 (ts.map zca))] [] (.tup [zbk default,.c (.sl 1 (([]:List Nat).map zgl)),I .i64 (zah w)]) []:=by
 refine spB Tryz.func48 50 [.cell 4 28,.tmp 5,.tmp 6] Tryz.results48 ?_
 try refine xst ?_
 refine cI (fun h1 => ?_) fun h1 => ?_
 ·omega
 ·try refine xst ?_
  refine caP (ze6 w hl) ?_
  try refine xst ?_
  refine cI (fun h2 => ?_) fun h2 => ?_
  ·try refine xst ?_
   exact xrz rfl
  ·exact absurd h2 hw
theorem znq (w:Wld) (ts:List (List Ord)) (WR:Cel→List Int) (hWR:∀a,zai w.f [a] (WR a)) (hl:zdf w) (hin:∀l∈ts,l.length≤9223372036854775807):Spec Tryz.prog 26 [zbk w,.c (.sl 1 (ts.map zca))] [] (.tup [zbk (zgq WR ts w),.c (.sl 1 ((z5a WR ts w).map zgl)),I .i64 (ze3 WR ts w)]) []:=by
 unfold zgq z5a
 obtain⟨E,hE⟩:∃E,E=ze3 WR ts w:=⟨_,rfl⟩
 rw[←hE]
 unfold ze3 at hE
 by_cases h:200<ts.length
 ·rw[if_pos h]at hE;subst hE;exact ydr w ts h
 ·rw[if_neg h]at hE
  by_cases hw:zah w=0
  ·rw[if_neg (fun hn=>hn hw)]at hE;subst hE;exact yds w ts WR hWR (by omega) hin (zds hw)
  ·rw[if_pos hw]at hE;subst hE;rw[if_neg hw,if_neg hw];exact ydq w ts hl (by omega) hw
theorem zv1 (w:Wld) (ts:List (List Ord)) (WR:Cel→List Int) (hWR:∀a,zai w.f [a] (WR a)) (hl:zdf w) (hin:∀l∈ts,l.length≤9223372036854775807):Spec Tryz.prog 48 [zbk w,.c (.sl 1 (ts.map zca))] [] (.tup [zbk (zgq WR ts w),.c (.sl 1 ((z5a WR ts w).map zgl)),I .i64 (ze3 WR ts w)]) []:=by
 unfold zgq z5a
 obtain⟨E,hE⟩:∃E,E=ze3 WR ts w:=⟨_,rfl⟩
 rw[←hE]
 unfold ze3 at hE
 by_cases h:200<ts.length
 ·rw[if_pos h]at hE;subst hE;exact yd8 w ts h
 ·rw[if_neg h]at hE
  by_cases hw:zah w=0
  ·rw[if_neg (fun hn=>hn hw)]at hE;subst hE;exact yd9 w ts WR hWR (by omega) hin (zds hw)
  ·rw[if_pos hw]at hE;subst hE;rw[if_neg hw,if_neg hw];exact yd7 w ts hl (by omega) hw
theorem zo4 {WR:Cel→List Int} {ts:List (List Ord)} {w:Wld} (h:ze3 WR ts w=0):ts.length≤200∧Right w∧zh6 WR ts w=0:=by
 unfold ze3 at h
 split at h
 ·exact absurd h (by decide)
 ·split at h
  ·rename_i h1;exact absurd h h1
  ·rename_i h1;exact⟨by omega,zds (Decidable.not_not.1 h1),h⟩
theorem yde:zdf (default:Wld):=⟨Nat.zero_le _,Nat.zero_le _,Nat.zero_le _,Nat.zero_le _,Nat.zero_le _⟩
structure Sty where
 start:Wld
 turns:List (List Ord)
 deriving DecidableEq, Inhabited
abbrev yki (s:Sty):List AV := [I .i64 s.start.f.w,I .i64 s.start.f.h,.c (.sl 1 (s.start.f.p.map zac)),.c (.sl 2 (s.start.bases.map zaz)),.c (.sl 1 (s.start.stocks.map zac)),.c (.sl 1 (s.start.mines.map zac)),.c (.sl 7 (s.start.troops.map zaw)),I .i64 s.start.next,I .i64 s.start.now,.c (.sl 1 (s.turns.map zca))]
abbrev yh5:List AV := [I .i64 0,I .i64 0,.c (.v (.slice none 0 0)),.c (.v (.slice none 0 0)),.c (.v (.slice none 0 0)),.c (.v (.slice none 0 0)),.c (.v (.slice none 0 0)),I .i64 0,I .i64 0,.c (.v (.slice none 0 0))]
abbrev zvs (s:Sty):AV := .agg (yki s)
structure StyL (s : Sty) : Prop where
 w:zdf s.start
 t:∀l∈s.turns,l.length≤9223372036854775807
 n:s.turns.length≤9223372036854775807
abbrev z5m (l:List Ord):AV := .c (.sl 6 (l.map zch))
abbrev zkw (WR:Cel→List Int) (s:Sty):Int:=ze3 WR s.turns s.start
theorem z5k (F:FuncId) (p:(List Ord)→(List Ord)→Bool) (l m:List (List Ord)) (hl:l.length≤9223372036854775807) (hm:m.length≤9223372036854775807) (hp:∀x∈l,∀y∈m,Spec Tryz.prog F ([] ++ [z5m x,z5m y] ++ []) [] (B (p x y)) []) :
 Spec Tryz.prog 70 [.c (.sl 1 (l.map zca)),.c (.sl 1 (m.map zca)),.clo (.func F) [] []] [] (B (decide (l.length=m.length)&&(List.range l.length).all fun i=>p (l.getD i default) (m.getD i default))) []:=by
 refine spB Tryz.func70 32 [.tmp 6] Tryz.results70 ?_
 try refine xst ?_
 refine cI (fun h1 => ?_) fun h1 => ?_
 ·have e:(decide (l.length=m.length)&&(List.range l.length).all fun i=>p (l.getD i default) (m.getD i default))=false:=by rw[decide_eq_false (by omega)];rfl
  try refine xst ?_
  exact zbe rfl trivial (Wk.of (by rw[e];rfl))
 ·have h1':l.length=m.length:=by omega
  try refine xst ?_
  refine zas (fun k:Nat=>⟨[(17,I .i64 k),(16,I .i64 l.length),(15,.c (.sl 1 (l.map zca))),(2,.clo (.func F) [] []),(1,.c (.sl 1 (m.map zca)))],[],0⟩) (fun k:Nat=>k≤l.length∧∀j,j<k→p (l.getD j default) (m.getD j default)=true) (fun k:Nat=>l.length-k) (0) (⟨Nat.zero_le _,fun j h=>by omega⟩) (To.mk [] rfl rfl List.nodup_nil trivial ?_) ?_
  ·simp(etaStruct := .none)only[push_cast,zab,seval]
  rintro k ⟨hk,hn⟩
  try refine xst ?_
  refine cI (fun h2 => ?_) fun h2 => ?_
  ·have hlt:k<l.length:=by omega
   have hlt2:k<m.length:=by omega
   try refine xz3 (gd hlt) (gd hlt2) zb4 ?_
   refine caP (hp (l.getD k default) (by rw[zad _ _ hlt];exact List.getElem_mem hlt) (m.getD k default) (by rw[zad _ _ hlt2];exact List.getElem_mem hlt2)) ?_
   try refine xz3 (gd hlt) (gd hlt2) zb4 ?_
   refine cI (fun h3 => ?_) fun h3 => ?_
   ·have e:(decide (l.length=m.length)&&(List.range l.length).all fun i=>p (l.getD i default) (m.getD i default))=false:=by
     rw[Bool.and_eq_false_iff];right
     rw[List.all_eq_false]
     exact⟨k,by simp;omega,by rw[h3];simp⟩
    try refine xz3 (gd hlt) (gd hlt2) zb4 ?_
    exact zbe rfl trivial (Wk.of (by rw[e];rfl))
   ·try refine xz3 (gd hlt) (gd hlt2) zb4 ?_
    refine⟨k+1,⟨by omega,fun j hj=>by rcases Nat.lt_or_ge j k with h|h;exact hn j h;rw[show j=k by omega];exact h3⟩,by omega,To.mk [] rfl rfl List.nodup_nil trivial ?_⟩
    ·(try(refine xz3 (gd hlt) (gd hlt2) zb4 ?_;try exact xtI))
  ·have e:(decide (l.length=m.length)&&(List.range l.length).all fun i=>p (l.getD i default) (m.getD i default))=true:=by
    rw[decide_eq_true h1',Bool.true_and,List.all_eq_true]
    intro i hi
    exact hn i (by simp at hi;omega)
   try refine xst ?_
   exact zbe rfl trivial (Wk.of (by rw[e];rfl))
theorem zzs {WR:Cel→List Int} {ts:List (List Ord)} {w:Wld} (hWR:∀a,zai w.f [a] (WR a)) (h:ze3 WR ts w=0):zgq WR ts w=zfm WR ts w∧Right (zgq WR ts w)∧∀a,zai (zgq WR ts w).f [a] (WR a):=by
 have e:zgq WR ts w=zfm WR ts w:=if_pos h
 obtain⟨_,h2,h3⟩:=zo4 h
 rw[e]
 exact⟨rfl,zix ts h2 hWR h3,fun a=>by rw[zv0];exact hWR a⟩
theorem z0u (s:Sty) (WR:Cel→List Int) (hWR:∀a,zai s.start.f [a] (WR a)) (hl:StyL s):Spec Tryz.prog 30 [zvs s] [] (I .i64 (zkw WR s)) []:=by
 have T:=znq s.start s.turns WR hWR hl.w hl.t
 refine spB Tryz.func30 16 [.tmp 2] Tryz.results30 ?_
 try refine xst ?_
 refine caP (T) ?_
 try refine xst ?_
 exact xrz rfl
theorem zis (s:Sty) (WR:Cel→List Int) (hWR:∀a,zai s.start.f [a] (WR a)) (hl:StyL s):Spec Tryz.prog 15 [zvs s] [] (I .i64 (zkw WR s)) []:=by
 have T:=zv1 s.start s.turns WR hWR hl.w hl.t
 refine spB Tryz.func15 16 [.tmp 2] Tryz.results15 ?_
 try refine xst ?_
 refine caP (T) ?_
 try refine xst ?_
 exact xrz rfl
def zd1 (WR:Cel→List Int) (s:Sty) (l:List Ord):Int:=if zkw WR s≠0 then zkw WR s else if 199<s.turns.length then 6 else zb3 l (zgq WR s.turns s.start)
def zf1 (WR:Cel→List Int) (s:Sty) (l:List Ord):Sty:=if zd1 WR s l=0 then ⟨s.start,s.turns ++ [l]⟩else default
theorem zrl {WR:Cel→List Int} : ∀(ts:List (List Ord)) {w:Wld},zh6 WR ts w=0→∀l∈ts,l.length≤100
 | [],_,_,l,hl=>by simp at hl
 | o::r,w,h,l,hl=>by
  rw[zh6]at h
  split at h
  ·rename_i h1;exact absurd h h1
  ·rename_i h1
   have h1:zb3 o w=0:=Decidable.not_not.1 h1
   rcases List.mem_cons.1 hl with rfl|hl
   ·have hs:zb7 l w=0:=by unfold zb3 at h1;split at h1;rename_i h2;exact absurd h1 h2;rename_i h2;simpa using h2
    exact(zfy (zdx hs).1).1
   ·exact zrl r h l hl
theorem z93 (s:Sty) (l:List Ord) (WR:Cel→List Int) (hWR:∀a,zai s.start.f [a] (WR a)) (hl:StyL s) (hll:l.length≤9223372036854775807):Spec Tryz.prog 44 [zvs s,.c (.sl 6 (l.map zch))] [] (.tup [zvs (zf1 WR s l),I .i64 (zd1 WR s l)]) []:=by
 have T:=znq s.start s.turns WR hWR hl.w hl.t
 have hn:=hl.n
 refine spB Tryz.func44 79 [.cell 4 31,.tmp 5] Tryz.results44 ?_
 try refine xst ?_
 refine caP (T) ?_
 try refine xst ?_
 refine cI (fun h1 => ?_) fun h1 => ?_
 ·have e:zd1 WR s l=zkw WR s:=if_pos h1
  have e2:zf1 WR s l=default:=if_neg (by rw[e];exact h1)
  rw[e,e2]
  try refine xst ?_
  exact xrz rfl
 ·obtain⟨r1,r2,r3⟩:=zzs hWR h1
  obtain⟨k1,k2,k3⟩:=zo4 h1
  try refine xst ?_
  refine cI (fun h2 => ?_) fun h2 => ?_
  ·have e:zd1 WR s l=6:=by unfold zd1;rw[if_neg (fun hn=>hn h1),if_pos (by omega)]
   have e2:zf1 WR s l=default:=if_neg (by rw[e];decide)
   rw[e,e2]
   try refine xst ?_
   exact xrz rfl
  ·have e:zd1 WR s l=zb3 l (zgq WR s.turns s.start):=by unfold zd1;rw[if_neg (fun hn=>hn h1),if_neg (by omega)]
   have U:=zz1 (zgq WR s.turns s.start) l WR r3 r2.l hll
   try refine xst ?_
   refine caP (U) ?_
   try refine xst ?_
   refine cI (fun h3 => ?_) fun h3 => ?_
   ·have e2:zf1 WR s l=default:=if_neg (by rw[e];exact h3)
    rw[e,e2]
    try refine xst ?_
    exact xrz rfl
   ·have e2:zf1 WR s l=⟨s.start,s.turns ++ [l]⟩:=if_pos (by rw[e];exact h3)
    rw[e,e2,h3]
    have V:=znq s.start [] WR hWR hl.w (fun _ h=>by simp at h)
    have hl1:l.length≤100:=by
     have hs:zb7 l (zgq WR s.turns s.start)=0:=by unfold zb3 at h3;split at h3;rename_i h1;exact absurd h3 h1;rename_i h1;simpa using h1
     exact(zfy (zdx hs).1).1
    have v0:ze3 WR [] s.start=0:=by unfold ze3;rw[if_neg (by simp),if_neg (fun hn=>hn k2.e)];rfl
    rw[v0,show zgq WR [] s.start=s.start from if_pos v0]at V
    try refine xst ?_
    refine zct (V) (by exact⟨Wk.refl _,Wk.nil _,trivial⟩) ?_
    try refine xst ?_
    refine zas (fun k:Nat=>⟨[(59,I .i64 k),(58,I .i64 s.turns.length),(57,.c (.sl 1 (s.turns.map zca))),(15,.ptr 1 0 0),(4,.ptr 0 0 0),(1,.c (.sl 6 (l.map zch)))],[(0,.blk 31 yh5),(1,.blk 31 [I .i64 s.start.f.w,I .i64 s.start.f.h,.c (.sl 1 (s.start.f.p.map zac)),.c (.sl 2 (s.start.bases.map zaz)),.c (.sl 1 (s.start.stocks.map zac)),.c (.sl 1 (s.start.mines.map zac)),.c (.sl 7 (s.start.troops.map zaw)),I .i64 s.start.next,I .i64 s.start.now,.own 2]),(2,.row 66 1 ((s.turns.take k).map zca))],3⟩) (fun k:Nat=>k≤s.turns.length) (fun k:Nat=>s.turns.length-k) (0) (Nat.zero_le _) ((To.nilC 6 9 66 1 31 _ rfl rfl).trans (To.mk [1,6,7] rfl rfl (by decide) ?_ ?_)) ?_
    ·simp(etaStruct := .none)only[push_cast,zab,seval,List.set_cons_zero,List.set_cons_succ,List.take_zero,List.map_nil]
    ·simp(etaStruct := .none)only[push_cast,zab,seval]
    rintro k hk
    try refine xst ?_
    refine cI (fun h4 => ?_) fun h4 => ?_
    ·have hlt:k<s.turns.length:=by omega
     have hk1:=zrl s.turns k3 (s.turns.getD k default) (za9 _ _ hlt)
     have htk:=zav s.turns k hlt
     try refine xz2 (gd hlt) zb4 ?_
     refine caP (zi0 (s.turns.getD k default) (by omega)) ?_
     try refine xz2 (gd hlt) zb4 ?_
     (try(refine⟨by kernel_rfl,?_⟩))
     try refine xz2 (gd hlt) zb4 ?_
     refine⟨k+1,by omega,by omega,To.mk [0,1,23] rfl rfl (by decide) ?_ ?_⟩
     ·(iterate 2((try simp(etaStruct := .none)only[push_cast,zab,seval,htk,List.map_append,List.map_cons,List.map_nil,zca]);(try(refine xsu ?_;try exact xtI))))
     ·(try(refine xz2 (gd hlt) zb4 ?_;try exact xtI))
    ·obtain rfl:k=s.turns.length:=by omega
     iterate 2(try simp(etaStruct := .none)only[push_cast,zab,seval,List.take_length,List.map_append,List.map_cons,List.map_nil,zca];try refine xsu ?_)
     refine caP (zi0 l (by omega)) ?_
     iterate 2(try simp(etaStruct := .none)only[push_cast,zab,seval,List.take_length,List.map_append,List.map_cons,List.map_nil,zca];try refine xsu ?_)
     (try(refine⟨by kernel_rfl,?_⟩))
     iterate 2(try simp(etaStruct := .none)only[push_cast,zab,seval,List.take_length,List.map_append,List.map_cons,List.map_nil,zca];try refine xsu ?_)
     have hq:(s.turns ++ [l]).map zca=s.turns.map zca ++ [[.sl 6 (l.map zch)]]:=by rw[List.map_append];rfl
     refine zbe rfl (by repeat' (first|exact trivial|exact rfl|refine⟨?_,?_⟩)) (Wk.of ?_)
     show _=AV.tup [.agg [I .i64 s.start.f.w,I .i64 s.start.f.h,.c (.sl 1 (s.start.f.p.map zac)),.c (.sl 2 (s.start.bases.map zaz)),.c (.sl 1 (s.start.stocks.map zac)),.c (.sl 1 (s.start.mines.map zac)),.c (.sl 7 (s.start.troops.map zaw)),I .i64 s.start.next,I .i64 s.start.now,.c (.sl 1 ((s.turns ++ [l]).map zca))],I .i64 0]
     rw[hq]
     first|rfl|kernel_rfl
end Go.Proofs.YtbapdgmcndgieaaGreat
namespace Go.Proofs.YtbapdgmcndgieaaGreat
set_option linter.all false
open Go.RowKit
set_option maxRecDepth 100000
theorem z8c (l m:List Ord) (hl:l.length≤9223372036854775807) (hm:m.length≤9223372036854775807):Spec Tryz.prog 72 [.c (.sl 6 (l.map zch)),.c (.sl 6 (m.map zch))] [] (B (decide (l=m))) []:=by
 refine spB Tryz.func72 26 [.tmp 4] Tryz.results72 ?_
 try refine xst ?_
 refine cI (fun h1 => ?_) fun h1 => ?_
 ·have e:l≠m:=by intro e;subst e;simp at h1
  try refine xst ?_
  exact zbe rfl trivial (Wk.of (by rw[decide_eq_false e];rfl))
 ·try refine xst ?_
  refine zas (fun k:Nat=>⟨[(13,I .i64 k),(12,I .i64 l.length),(1,.c (.sl 6 (m.map zch))),(0,.c (.sl 6 (l.map zch)))],[],0⟩) (fun k:Nat=>k≤l.length∧∀j,j<k→l.getD j default=m.getD j default) (fun k:Nat=>l.length-k) (0) (⟨Nat.zero_le _,fun j h=>by omega⟩) (To.mk [] rfl rfl List.nodup_nil trivial ?_) ?_
  ·simp(etaStruct := .none)only[push_cast,zab,seval]
  rintro k ⟨hk,hn⟩
  try refine xst ?_
  refine cI (fun h2 => ?_) fun h2 => ?_
  ·have hlt:k<l.length:=by omega
   have hlt2:k<m.length:=by omega
   try refine xz4 (gd hlt) (gd hlt2) za0 zcm ?_
   (try(refine⟨by kernel_rfl,?_⟩))
   try refine xz4 (gd hlt) (gd hlt2) za0 zcm ?_
   refine cI (fun h3 => ?_) fun h3 => ?_
   ·have e:l≠m:=by intro e;subst e;simp at h3
    try refine xz4 (gd hlt) (gd hlt2) za0 zcm ?_
    exact zbe rfl trivial (Wk.of (by rw[decide_eq_false e];rfl))
   ·try refine xz4 (gd hlt) (gd hlt2) za0 zcm ?_
    refine⟨k+1,⟨by omega,fun j hj=>by rcases Nat.lt_or_ge j k with h|h;exact hn j h;rw[show j=k by omega];simpa using h3⟩,by omega,To.mk [] rfl rfl List.nodup_nil trivial ?_⟩
    ·(try(refine xz4 (gd hlt) (gd hlt2) za0 zcm ?_;try exact xtI))
  ·have e:l=m:=by
    refine List.ext_getElem (by omega) fun i i1 i2 => ?_
    have:=hn i (by omega)
    rwa [zad _ _ i1,zad _ _ i2]at this
   try refine xst ?_
   exact zbe rfl trivial (Wk.of (by rw[decide_eq_true e];rfl))
end Go.Proofs.YtbapdgmcndgieaaGreat
namespace Go.Proofs.YtbapdgmcndgieaaGreat
set_option linter.all false
open Go.RowKit
set_option maxRecDepth 100000
set_option maxHeartbeats 1000000
theorem zua (l:List (List Ord)) (hl:l.length≤5864062014805):Spec Tryz.prog 53 [.c (.sl 1 (l.map zca))] [] (.own 0) [.row 66 1 (l.map zca)]:=by
 refine spB Tryz.func53 8 [.tmp 2] Tryz.results53 ?_
 try refine xst ?_
 intro b hb
 try refine xst ?_
 refine zal (fun h => ?_) (fun h => ?_)
 ·try refine xst ?_
  have e:=hb h
  refine znc (To.nil 2 66 1 rfl) (zco [0] rfl rfl (by decide) ⟨?_,trivial⟩ trivial ?_)
  ·simp(etaStruct := .none)only[push_cast,zab,seval,e]
  ·simp(etaStruct := .none)only[push_cast,zab,seval]
 ·try refine xst ?_
  refine zco [1] rfl rfl (by decide) ⟨?_,trivial⟩ trivial ?_
  ·simp(etaStruct := .none)only[push_cast,zab,seval]
  ·simp(etaStruct := .none)only[push_cast,zab,seval]
theorem yal (s:Sty) (l:List Ord) (WR:Cel→List Int) (hWR:∀a,zai s.start.f [a] (WR a)) (hl:StyL s) (hll:l.length≤9223372036854775807) (hE:zkw WR s≠0):Spec Tryz.prog 22 [zvs s,.c (.sl 6 (l.map zch))] [] (.tup [zvs (zf1 WR s l),I .i64 (zd1 WR s l)]) []:=by
 have T:=zv1 s.start s.turns WR hWR hl.w hl.t
 have e:zd1 WR s l=zkw WR s:=if_pos hE
 have e2:zf1 WR s l=default:=if_neg (by rw[e];exact hE)
 rw[e,e2]
 refine spB Tryz.func22 47 [.cell 4 31,.tmp 5] Tryz.results22 ?_
 try refine xst ?_
 refine caP (T) ?_
 try refine xst ?_
 refine cI (fun h1 => ?_) fun h1 => ?_
 ·exact absurd h1.1 hE
 ·try refine xst ?_
  refine cI (fun h2 => ?_) fun h2 => ?_
  ·exact absurd h2 hE
  ·try refine xst ?_
   refine cI (fun h3 => ?_) fun h3 => ?_
   ·try refine xst ?_
    exact xrz rfl
   ·exact absurd h3 hE
theorem yak (s:Sty) (l:List Ord) (WR:Cel→List Int) (hWR:∀a,zai s.start.f [a] (WR a)) (hl:StyL s) (hll:l.length≤9223372036854775807) (hE:zkw WR s=0) (hn:199<s.turns.length):Spec Tryz.prog 22 [zvs s,.c (.sl 6 (l.map zch))] [] (.tup [zvs (zf1 WR s l),I .i64 (zd1 WR s l)]) []:=by
 have T:=zv1 s.start s.turns WR hWR hl.w hl.t
 rw[show ze3 WR s.turns s.start=0 from hE]at T
 have e:zd1 WR s l=6:=by unfold zd1;rw[if_neg (fun hn=>hn hE),if_pos hn]
 have e2:zf1 WR s l=default:=if_neg (by rw[e];decide)
 rw[e,e2]
 refine spB Tryz.func22 47 [.cell 4 31,.tmp 5] Tryz.results22 ?_
 try refine xst ?_
 refine caP (T) ?_
 try refine xst ?_
 refine cI (fun h1 => ?_) fun h1 => ?_
 ·try refine xst ?_
  refine cI (fun h2 => ?_) fun h2 => ?_
  ·simp at h2
  ·try refine xst ?_
   refine cI (fun h3 => ?_) fun h3 => ?_
   ·try refine xst ?_
    exact xrz rfl
   ·simp at h3
 ·omega
theorem yaj (s:Sty) (l:List Ord) (WR:Cel→List Int) (hWR:∀a,zai s.start.f [a] (WR a)) (hl:StyL s) (hll:l.length≤9223372036854775807) (hE:zkw WR s=0) (hn:s.turns.length≤199):Spec Tryz.prog 22 [zvs s,.c (.sl 6 (l.map zch))] [] (.tup [zvs (zf1 WR s l),I .i64 (zd1 WR s l)]) []:=by
 have T:=zv1 s.start s.turns WR hWR hl.w hl.t
 rw[show ze3 WR s.turns s.start=0 from hE]at T
 obtain⟨r1,r2,r3⟩:=zzs hWR hE
 have e:zd1 WR s l=zb3 l (zgq WR s.turns s.start):=by unfold zd1;rw[if_neg (fun hn=>hn hE),if_neg (by omega)]
 have U:=z0z (zgq WR s.turns s.start) l WR r3 r2.l hll
 refine spB Tryz.func22 47 [.cell 4 31,.tmp 5] Tryz.results22 ?_
 try refine xst ?_
 refine caP (T) ?_
 try refine xst ?_
 refine cI (fun h1 => ?_) fun h1 => ?_
 ·omega
 ·try refine xst ?_
  refine cI (fun h2 => ?_) fun h2 => ?_
  ·try refine xst ?_
   refine caP (U) ?_
   try refine xst ?_
   refine cI (fun h3 => ?_) fun h3 => ?_
   ·have e2:zf1 WR s l=default:=if_neg (by rw[e];exact h3)
    rw[e,e2]
    try refine xst ?_
    exact xrz rfl
   ·have e2:zf1 WR s l=⟨s.start,s.turns ++ [l]⟩:=if_pos (by rw[e];exact h3)
    rw[e,e2,h3]
    try refine xst ?_
    refine caM [] (zua s.turns (by omega)) ?_
    try refine xst ?_
    have hq:(s.turns ++ [l]).map zca=s.turns.map zca ++ [[.sl 6 (l.map zch)]]:=by rw[List.map_append];rfl
    refine zbe rfl (by repeat' (first|exact trivial|exact rfl|refine⟨?_,?_⟩)) (Wk.of ?_)
    show _=AV.tup [.agg [I .i64 s.start.f.w,I .i64 s.start.f.h,.c (.sl 1 (s.start.f.p.map zac)),.c (.sl 2 (s.start.bases.map zaz)),.c (.sl 1 (s.start.stocks.map zac)),.c (.sl 1 (s.start.mines.map zac)),.c (.sl 7 (s.start.troops.map zaw)),I .i64 s.start.next,I .i64 s.start.now,.c (.sl 1 ((s.turns ++ [l]).map zca))],I .i64 0]
    rw[hq]
    first|rfl|kernel_rfl
  ·simp at h2
theorem yai (s:Sty) (l:List Ord) (WR:Cel→List Int) (hWR:∀a,zai s.start.f [a] (WR a)) (hl:StyL s) (hll:l.length≤9223372036854775807):Spec Tryz.prog 22 [zvs s,.c (.sl 6 (l.map zch))] [] (.tup [zvs (zf1 WR s l),I .i64 (zd1 WR s l)]) []:=by
 by_cases hE:zkw WR s=0
 ·by_cases hn:199<s.turns.length
  ·exact yak s l WR hWR hl hll hE hn
  ·exact yaj s l WR hWR hl hll hE (by omega)
 ·exact yal s l WR hWR hl hll hE
theorem z98 (a b:List Ord) (ha:a.length≤9223372036854775807) (hb:b.length≤9223372036854775807):Spec Tryz.prog 71 [z5m a,z5m b] [] (B (decide (a=b))) []:=by
 refine spB Tryz.func71 8 [.tmp 4] Tryz.results71 ?_
 try refine xst ?_
 refine caP (z8c a b ha hb) ?_
 try refine xst ?_
 exact xrz rfl
theorem z0v (s:Sty) (hl:StyL s):Spec Tryz.prog 33 [zvs s,zvs s] [] (B true) []:=by
 have EQ:=z5k 71 (fun a b=>decide (a=b)) s.turns s.turns hl.n hl.n (fun x hx y hy=>z98 x y (hl.t x hx) (hl.t y hy))
 rw[show (decide (s.turns.length=s.turns.length)&&(List.range s.turns.length).all fun i=>decide (s.turns.getD i default=s.turns.getD i default))=true from by simp]at EQ
 have SW:=ztv s.start s.start hl.w hl.w
 rw[decide_eq_true rfl]at SW
 refine spB Tryz.func33 17 [.tmp 4] Tryz.results33 ?_
 try refine xst ?_
 refine caP (SW) ?_
 try refine xst ?_
 refine gcP (fun hcc=>EQ) ?_
 try refine xst ?_
 exact xrz rfl
theorem z7x:StyL default:=⟨yde,fun l (h:l∈([]:List (List Ord)))=>by simp at h,Nat.zero_le _⟩
theorem ybb (s:Sty) (l:List Ord) (WR:Cel→List Int) (hl:StyL s) (hll:l.length≤9223372036854775807):StyL (zf1 WR s l):=by
 unfold zf1
 split
 ·rename_i h
  have hE:zkw WR s=0:=Decidable.byContradiction fun hn=>by
   unfold zd1 at h;rw[if_pos hn]at h;exact hn h
  have hn:=(zo4 hE).1
  refine⟨hl.w,fun x hx => ?_,by simp;omega⟩
  rcases List.mem_append.1 hx with hx|hx
  ·exact hl.t x hx
  ·rw[List.mem_singleton]at hx;rw[hx];exact hll
 ·exact z7x
end Go.Proofs.YtbapdgmcndgieaaGreat
namespace Go.Proofs.YtbapdgmcndgieaaGreat
set_option linter.all false
open Go.RowKit
set_option maxRecDepth 100000
theorem yjc (n:Nat) (hn:n<4294967296):Spec Tryz.prog 142 [I .u32 n] [] (I .i64 (pcK n 32:Nat)) [] :=
 zcy (zfu Tryz.func142 rfl rfl) [.int .u32 n] _ rfl fun w=>(ycr n w hn).mono fun e w' ⟨h1,h2⟩=>⟨h1,h2▸(Below.refl _ _).drew⟩
theorem z3j (n:Nat) (hn:n<4294967296):Spec Tryz.prog 107 [I .u32 n] [] (I .i64 (pcK n 32:Nat)) []:=by
 refine spB Tryz.func107 5 [.tmp 2] Tryz.results107 ?_
 simp(etaStruct := .none)only[push_cast,zab,seval]
 refine zct (yjc n hn) (WkL.refl _) ?_
 simp(etaStruct := .none)only[push_cast,zab,seval]
 exact zbe rfl trivial (Wk.refl _)
def zc9 (n:Nat):List PV := [.v (.int .u32 n)]
theorem yjq (n:Nat):zc9 n = [.v (.int .u32 n)]:=rfl
theorem ybz (F:FuncId) (a b:List AV) (l:List Nat) (p:Nat→Bool) (hl:l.length≤9223372036854775807) (hp:∀n∈l,Spec Tryz.prog F (a ++ [I .u32 n]++b) [] (B (p n)) []) (ha:∀h,cvL [] h a=a) (hb:∀h,cvL [] h b=b) :
 Spec Tryz.prog 108 [.c (.sl 1 (l.map zc9)),.clo (.func F) a b] [] (I .i64 (ze4 p l)) []:=by
 refine spB Tryz.func108 19 [.tmp 4] Tryz.results108 ?_
 simp(etaStruct := .none)only[push_cast,zab,seval]
 refine zas (fun k:Nat=>⟨[(8,I .i64 k),(7,I .i64 l.length),(0,.c (.sl 1 (l.map zc9))),(1,.clo (.func F) a b)],[],0⟩) (fun k=>k≤l.length∧∀j (hj:j<l.length),j<k→p l[j]=false) (fun k=>l.length-k) 0 ⟨Nat.zero_le _,fun j _ h=>by omega⟩ (To.mk [] rfl rfl List.nodup_nil trivial ?_) ?_
 ·simp(etaStruct := .none)only[push_cast,zab,seval,ha,hb]
 ·rintro k ⟨hk,hn⟩
  simp(etaStruct := .none)only[push_cast,zab,seval]
  refine zal (fun h => ?_) (fun h => ?_)
  ·have hlt:k<l.length:=by simpa using h
   simp(etaStruct := .none)only[push_cast,zab,seval,zbn _ _ _ hlt,zc9]
   repeat with_reducible refine obA ?_
   refine zct (hp _ (List.getElem_mem hlt)) (by simp only[zdr,ha,hb,cvL,cv];exact WkL.refl _) ?_
   simp(etaStruct := .none)only[push_cast,zab,seval]
   refine zal (fun h => ?_) (fun h => ?_)
   ·simp(etaStruct := .none)only[push_cast,zab,seval]
    exact zbe rfl trivial (Wk.of (by rw[zdc p l k hlt h hn];rfl))
   ·simp(etaStruct := .none)only[push_cast,zab,seval]
    refine⟨k+1,⟨by omega,fun j hj hjk => ?_⟩,by omega,To.mk [] rfl rfl List.nodup_nil trivial ?_⟩
    ·by_cases e:j=k
     ·subst e;exact h
     ·exact hn j hj (by omega)
    ·simp(etaStruct := .none)only[push_cast,zab,seval,ha,hb]
     simp(disch:=omega)only[zaq,zbl,tdv,tmd]
  ·have hge:k=l.length:=by simp at h;omega
   subst hge
   simp(etaStruct := .none)only[push_cast,zab,seval]
   exact zbe rfl trivial (Wk.of (by rw[zcs p l (fun j hj=>hn j hj hj)];rfl))
end Go.Proofs.YtbapdgmcndgieaaGreat
namespace Go.Proofs.YtbapdgmcndgieaaGreat
set_option linter.all false
open Go.RowKit
theorem zg6 (n:Int) (h1:0≤n) (h2:n<4294967296):IntKind.u32.wrap n=n:=by
 unfold IntKind.wrap
 simp only[IntKind.bits,IntKind.signed,Bool.false_and,Bool.false_eq_true,if_false]
 show n % (2 ^ 32:Int)=n
 omega
theorem z9n (a b:Nat) (ha:a<4294967296) (hb:b<4294967296):bits .and .u32 (a:Int) (b:Int)=((a &&& b:Nat):Int):=by
 show IntKind.u32.wrap ((BitVec.ofInt 32 (a:Int) &&& BitVec.ofInt 32 (b:Int)).toNat:Nat)=_
 rw[BitVec.toNat_and,BitVec.ofInt_natCast,BitVec.ofInt_natCast,BitVec.toNat_ofNat,BitVec.toNat_ofNat,Nat.mod_eq_of_lt (show a<2 ^ 32 by omega),Nat.mod_eq_of_lt (show b<2 ^ 32 by omega)]
 have:a &&& b≤a:=Nat.and_le_left
 exact zg6 _ (by omega) (by omega)
theorem yjt (a b:Nat) (ha:a<4294967296) (hb:b<4294967296):bits .or .u32 (a:Int) (b:Int)=((a ||| b:Nat):Int):=by
 show IntKind.u32.wrap ((BitVec.ofInt 32 (a:Int) ||| BitVec.ofInt 32 (b:Int)).toNat:Nat)=_
 rw[BitVec.toNat_or,BitVec.ofInt_natCast,BitVec.ofInt_natCast,BitVec.toNat_ofNat,BitVec.toNat_ofNat,Nat.mod_eq_of_lt (show a<2 ^ 32 by omega),Nat.mod_eq_of_lt (show b<2 ^ 32 by omega)]
 have:a ||| b<2 ^ 32:=Nat.or_lt_two_pow (by omega) (by omega)
 exact zg6 _ (by omega) (by omega)
theorem zor (a b:Nat) (ha:a<4294967296) (hb:b<4294967296):bits .andNot .u32 (a:Int) (b:Int)=((a &&& (4294967295-b):Nat):Int):=by
 show IntKind.u32.wrap ((BitVec.ofInt 32 (a:Int) &&& ~~~(BitVec.ofInt 32 (b:Int))).toNat:Nat)=_
 rw[BitVec.toNat_and,BitVec.toNat_not,BitVec.ofInt_natCast,BitVec.ofInt_natCast,BitVec.toNat_ofNat,BitVec.toNat_ofNat,Nat.mod_eq_of_lt (show a<2 ^ 32 by omega),Nat.mod_eq_of_lt (show b<2 ^ 32 by omega)]
 have:a &&& (2 ^ 32-1-b)≤a:=Nat.and_le_left
 exact zg6 _ (by omega) (by omega)
theorem z6w (m k B:Nat) (hk:k≤B):(m:Int).fdiv (2 ^ min k B)=((m/2 ^ k:Nat):Int):=by
 rw[Nat.min_eq_left hk,Int.fdiv_eq_ediv_of_nonneg _ (Int.le_of_lt (Int.pow_pos (by decide)))]
 simp
theorem zvg (k:Nat) (hk:k<32):IntKind.u32.wrap (1*2 ^ min k IntKind.u32.bits)=((2 ^ k:Nat):Int):=by
 obtain⟨h1,h2⟩:=zt6 k hk
 rw[show IntKind.u32.bits=32 from rfl,Nat.min_eq_left (by omega),Int.one_mul]
 have:((2:Int) ^ k)=((2 ^ k:Nat):Int):=by simp
 rw[this,zg6 _ (by omega) (by omega)]
theorem zzw (m k:Nat) (hk:k<32):(m:Int).fdiv (2 ^ min k IntKind.u32.bits)=((m/2 ^ k:Nat):Int):=z6w m k _ (by show k≤32;omega)
theorem z4e (m k:Nat) (hm:m<4294967296) (hk:k<32):decide (bits .and .u32 ((m:Int).fdiv (2 ^ min k IntKind.u32.bits)) 1=1)=zen m k:=by
 rw[zzw m k hk]
 have h1:m/2 ^ k≤m:=Nat.div_le_self _ _
 have:=z9n (m/2 ^ k) 1 (by omega) (by omega)
 rw[show ((1:Nat):Int)=1 from rfl]at this
 rw[this,Nat.and_one_is_mod]
 unfold zen
 rw[Bool.eq_iff_iff]
 simp only[decide_eq_true_eq,beq_iff_eq]
 omega
end Go.Proofs.YtbapdgmcndgieaaGreat
namespace Go.Proofs.YtbapdgmcndgieaaGreat
set_option linter.all false
open Go.RowKit
set_option maxRecDepth 100000
abbrev eV (m:Nat) (l:List Nat):AV := .agg [I .u32 m,.c (.sl 1 (l.map zc9))]
theorem yjd (n:Nat) (k:Int) (hn:n<4294967296):Spec Tryz.prog 109 ([] ++ [I .u32 n] ++ [.fel 1 [[.v (.int .i64 k)]] 0 0]) [] (B (decide (k≤(pcK n 32:Nat)))) []:=by
 refine spB Tryz.func109 8 [.tmp 3] Tryz.results109 ?_
 try refine xst ?_
 refine caP (z3j n hn) ?_
 try refine xst ?_
 (try(refine⟨by kernel_rfl,?_⟩))
 try refine xst ?_
 exact xrz rfl
def z1g (m:Nat) (l:List Nat):Int:=ze4 (fun s=>decide (((pcK m 32:Nat):Int)/2+1≤(pcK s 32:Nat))) l
theorem zj0 (m:Nat) (l:List Nat) (hm:m<4294967296) (hl:l.length≤9223372036854775807) (hs:∀s∈l,s<4294967296):Spec Tryz.prog 68 [eV m l] [] (I .i64 (z1g m l)) []:=by
 have hp:=zn0 m 32
 refine spB Tryz.func68 13 [.tmp 2] Tryz.results68 ?_
 try refine xst ?_
 refine zct (z3j m hm) (WkL.refl _) ?_
 try refine xst ?_
 refine zbv (ybz _ [] [.fel 1 [[.v (.int .i64 ((pcK m 32:Nat)/2+1))]] 0 0] l (fun s=>decide (((pcK m 32:Nat):Int)/2+1≤(pcK s 32:Nat))) hl (fun s hss=>yjd s _ (hs s hss)) (fun _=>rfl) (fun _=>rfl)) (WkL.refl _) rfl ?_
 try refine xst ?_
 exact zbe rfl trivial (Wk.refl _)
theorem zpn (m:Nat) (l:List Nat) (k:Int) (hm:m<4294967296):Spec Tryz.prog 81 [eV m l,I .i64 k] [] (B (decide (0≤k∧k<16)&&zen m k.toNat)) []:=by
 refine spB Tryz.func81 19 [.tmp 4] Tryz.results81 ?_
 try refine xst ?_
 refine zbe rfl trivial (Wk.of (congrArg B ?_))
 by_cases h:0≤k∧k<16
 ·obtain⟨K,rfl⟩:=Int.eq_ofNat_of_zero_le h.1
  have:=z4e m K hm (by omega)
  simp only[Int.toNat_natCast,this,h,decide_true,Bool.true_and,decide_eq_true h.1,decide_eq_true h.2,and_self]
 ·rw[decide_eq_false h]
  rcases Int.lt_or_le k 0 with h1|h1
  ·simp;omega
  ·simp;omega
theorem ykk (m:Nat) (hm:m<4294967296):(m:Int).fdiv (2 ^ min 16 IntKind.u32.bits)=((m/65536:Nat):Int):=by
 have:=zzw m 16 (by omega)
 simpa using this
theorem z7i (m k s:Nat) (hm:m<4294967296) (hs:s<4294967296) (hk:k<32) :
 (!decide (bits .andNot .u32 (s:Int) (m:Int)=0)||decide (bits .and .u32 ((s:Int).fdiv (2 ^ min k IntKind.u32.bits)) 1=1)||(!decide ((s:Int)=0)&&decide (bits .and .u32 ((m:Int).fdiv (2 ^ min k IntKind.u32.bits)) 1=0)))=z7j m k s:=by
 have e:decide (bits .and .u32 ((m:Int).fdiv (2 ^ min k IntKind.u32.bits)) 1=0) = !zen m k:=by
  rw[zzw m k hk]
  have h1:m/2 ^ k≤m:=Nat.div_le_self _ _
  have:=z9n (m/2 ^ k) 1 (by omega) (by omega)
  rw[show ((1:Nat):Int)=1 from rfl]at this
  rw[this,Nat.and_one_is_mod]
  unfold zen
  rw[Bool.eq_iff_iff]
  simp only[decide_eq_true_eq,Bool.not_eq_true',beq_eq_false_iff_ne]
  omega
 rw[z4e s k hs hk,e,zor s m hs hm]
 unfold z7j
 rw[Bool.eq_iff_iff]
 simp
theorem zpf (m:Nat) (l:List Nat):decide (0≤z1g m l)=(zto m l).isSome:=by
 unfold z1g ze4 zto
 have e:(fun s=>decide (((pcK m 32:Nat):Int)/2+1≤(pcK s 32:Nat)))=ztc m:=by
  funext s;unfold ztc;rw[Bool.eq_iff_iff];simp only[decide_eq_true_eq];omega
 rw[e]
 cases l.findIdx? (ztc m)<;>simp
theorem z3n (m:Nat) (l:List Nat) (hm:m<4294967296) (hl:l.length≤9223372036854775807) (hs:∀s∈l,s<4294967296):Spec Tryz.prog 32 [eV m l] [] (I .i64 (zbb m l)) []:=by
 have e16:=ykk m hm
 refine spB Tryz.func32 54 [.tmp 2] Tryz.results32 ?_
 try refine xst ?_
 refine cI (fun h1 => ?_) fun h1 => ?_
 ·have h':m=0∨65535<m:=by omega
  have e:zbb m l=1:=by unfold zbb;rw[if_pos h']
  try refine xst ?_
  exact zbe rfl trivial (Wk.of (by rw[e];rfl))
 ·have h':¬(m=0∨65535<m):=by omega
  try refine xst ?_
  refine cI (fun h2 => ?_) fun h2 => ?_
  ·have e:zbb m l=4:=by unfold zbb;rw[if_neg h',if_pos (by omega)]
   try refine xst ?_
   exact zbe rfl trivial (Wk.of (by rw[e];rfl))
  ·have h2':l.length=16:=by omega
   try refine xst ?_
   refine zas (fun k:Nat=>⟨[(21,I .i64 k),(20,I .i64 l.length),(19,.c (.sl 1 (l.map zc9))),(1,.ptr 0 0 0)],[(0,.blk 37 [I .u32 m,.c (.sl 1 (l.map zc9))])],1⟩) (fun k:Nat=>k≤16∧∀j,j<k→z7j m j (l.getD j 0)=false) (fun k:Nat=>16-k) (0) (⟨by omega,fun j h=>by omega⟩) (To.mk [0] rfl rfl (by decide) ?_ ?_) ?_
   ·simp(etaStruct := .none)only[push_cast,zab,seval]
   ·simp(etaStruct := .none)only[push_cast,zab,seval]
   rintro k ⟨hk,hn⟩
   try refine xst ?_
   refine zal (fun h3 => ?_) (fun h3 => ?_)
   ·(try replace h3:=xhh h3)
    have hlt:k<l.length:=by omega
    have hsk:l[k]<4294967296:=hs _ (List.getElem_mem hlt)
    have hbt:=z7i m k l[k] hm hsk (by omega)
    iterate 2(try simp(etaStruct := .none)only[push_cast,zab,seval,zbn _ _ _ hlt,zc9];try refine xsu ?_)
    rw[hbt]
    refine cI (fun h4 => ?_) fun h4 => ?_
    ·have hany:(List.range 16).any (fun k=>z7j m k (l.getD k 0))=true:=List.any_eq_true.2 ⟨k,by simp;omega,by rw[zii _ _ _ hlt];exact h4⟩
     have e:zbb m l=4:=by unfold zbb;rw[if_neg h',if_neg (by omega),if_pos hany]
     iterate 2(try simp(etaStruct := .none)only[push_cast,zab,seval,zbn _ _ _ hlt,zc9];try refine xsu ?_)
     exact zbe rfl trivial (Wk.of (by rw[e];rfl))
    ·iterate 2(try simp(etaStruct := .none)only[push_cast,zab,seval,zbn _ _ _ hlt,zc9];try refine xsu ?_)
     refine⟨k+1,⟨by omega,fun j hj=>by
 by_cases e:j=k
 ·subst e;rw[zii _ _ _ hlt];exact h4
 ·exact hn j (by omega)⟩, by omega, To.mk [0] rfl rfl (by decide) ?_ ?_⟩
     ·(iterate 2((try simp(etaStruct := .none)only[push_cast,zab,seval,zbn _ _ _ hlt,zc9]);(try(refine xsu ?_;try exact xtI))))
     ·(iterate 2((try simp(etaStruct := .none)only[push_cast,zab,seval,zbn _ _ _ hlt,zc9]);(try(refine xsu ?_;try exact xtI))))
   ·(try replace h3:=xhh h3)
    have hge:k=16:=by omega
    subst hge
    have hbad:¬((List.range 16).any (fun k=>z7j m k (l.getD k 0))=true):=by
     simp only[Bool.not_eq_true,List.any_eq_false]
     intro j hj
     rw[hn j (by simpa using hj)]
    have hon:=zpf m l
    try refine xst ?_
    refine caP (zj0 m l hm hl hs) ?_
    try refine xst ?_
    rw[hon]
    refine cI (fun h5 => ?_) fun h5 => ?_
    ·have e:zbb m l=4:=by unfold zbb;rw[if_neg h',if_neg (by omega),if_neg hbad,if_pos h5]
     try refine xst ?_
     exact zbe rfl trivial (Wk.of (by rw[e];rfl))
    ·have e:zbb m l=0:=by unfold zbb;rw[if_neg h',if_neg (by omega),if_neg hbad,if_neg (by rw[h5];decide)]
     try refine xst ?_
     exact zbe rfl trivial (Wk.of (by rw[e];rfl))
def zh9 (f:Nat→Nat) (i:Nat) (g:List Nat):List Nat:=(g.take i).map f++g.drop i
theorem zeu (f:Nat→Nat) (i:Nat) (g:List Nat):(zh9 f i g).length=g.length:=by simp[zh9];omega
theorem z1c (f:Nat→Nat) (g:List Nat):zh9 f 0 g=g:=by simp[zh9]
theorem zrt (f:Nat→Nat) (i:Nat) (g:List Nat) (h:g.length≤i):zh9 f i g=g.map f:=by simp[zh9,List.take_of_length_le h,List.drop_of_length_le h]
theorem zwe (f:Nat→Nat) (i:Nat) (g:List Nat) (h:i<g.length):(zh9 f i g)[i]'(by rw[zeu];exact h)=g[i]:=by
 unfold zh9
 rw[List.getElem_append_right (by simp;omega)]
 simp[Nat.min_eq_left (Nat.le_of_lt h)]
theorem zrs (f:Nat→Nat) (i:Nat) (g:List Nat) (h:i<g.length):(zh9 f i g).set i (f g[i])=zh9 f (i+1) g:=by
 unfold zh9
 rw[List.set_append_right _ _ (by simp;omega)]
 rw[List.length_map,List.length_take,Nat.min_eq_left (Nat.le_of_lt h),Nat.sub_self,List.drop_eq_getElem_cons h,List.set_cons_zero,List.take_succ_eq_append_getElem h,List.map_append,List.append_assoc]
 rfl
theorem zjs (l:List Nat) (i:Nat) (x:Int) (n:Nat) (h:x=n):(l.map zc9).set i [.v (.int .u32 x)]=(l.set i n).map zc9:=by rw[h,List.map_set];rfl
theorem z3l (n k:Nat) (hn:n<4294967296) (hk:k<32):bits .andNot .u32 (n:Int) (IntKind.u32.wrap (1*2 ^ min k IntKind.u32.bits))=(clr n k:Nat):=by
 have:=zt6 k hk
 rw[zvg k hk,zor n (2 ^ k) hn (by omega),yc2 n k hn hk]
theorem z3k (l:List Nat) (hl:l.length≤1000000000) (h0:l ≠ []):Spec Tryz.prog 40 [.c (.sl 1 (l.map zc9))] [] (.own 0) [.row 34 1 (l.map zc9)]:=by
 refine spB Tryz.func40 8 [.tmp 2] Tryz.results40 ?_
 try refine xst ?_
 intro b hb
 try refine xst ?_
 refine zal (fun h => ?_) (fun h => ?_)
 ·exact absurd (List.map_eq_nil_iff.1 (hb h)) h0
 ·try refine xst ?_
  refine zco [1] rfl rfl (by decide) ⟨?_,trivial⟩ trivial ?_
  ·simp(etaStruct := .none)only[push_cast,zab,seval]
  ·simp(etaStruct := .none)only[push_cast,zab,seval]
theorem ybo (m k:Nat) (l:List Nat) (hm:m<4294967296) (hk:k<16) (hkl:k<l.length) (hl:l.length≤1000000000) (hs:∀s∈l,s<4294967296) :
 Spec Tryz.prog 82 [.ptr 0 0 0,I .i64 k] [.blk 37 [I .u32 m,.own 1],.row 34 1 (l.map zc9)] .undef [.blk 37 [I .u32 (clr m k:Nat),.own 1],.row 34 1 ((lv l k).map zc9)]:=by
 refine spB Tryz.func82 40 [] Tryz.results82 ?_
 try refine xz1 (z3l m k hm (by omega)) ?_
 have hlen:(l.set k 0).length=l.length:=by simp
 refine zas (fun i:Nat=>⟨[(25,I .i64 i),(24,I .i64 l.length),(1,I .i64 k),(0,.ptr 0 0 0)],[(0,.blk 37 [I .u32 (clr m k:Nat),.own 1]),(1,.row 34 1 ((zh9 (clr · k) i (l.set k 0)).map zc9))],2⟩) (fun i=>i≤l.length) (fun i=>l.length-i) 0 (Nat.zero_le _) (To.mk [0,1] rfl rfl (by decide) ?_ ?_) ?_
 ·simp(etaStruct := .none)only[push_cast,zab,seval,z1c]
  exact zjs l k 0 0 rfl
 ·(iterate 2((try simp(etaStruct := .none)only[push_cast,zab,seval,List.length_set]);(try(refine xsu ?_;try exact xtI))))
 ·rintro i hi
  have hg:∀s∈l.set k 0,s<4294967296:=fun s hh=>by rcases List.mem_or_eq_of_mem_set hh with h|h;exact hs s h;omega
  try refine xst ?_
  refine zal (fun h => ?_) (fun h => ?_)
  ·have hlt:i<(l.set k 0).length:=by simpa using h
   have hlp:i<(zh9 (clr · k) i (l.set k 0)).length:=by rw[zeu];exact hlt
   have hu:=z3l (l.set k 0)[i] k (hg _ (List.getElem_mem hlt)) (by omega)
   iterate 2(try simp(etaStruct := .none)only[push_cast,zab,seval,zbn _ _ _ hlp,zc9,zeu,zwe _ i _ hlt,hu];try refine xsu ?_)
   refine⟨i+1,by omega,by omega,To.mk [0,1] rfl rfl (by decide) ?_ ?_⟩
   ·try refine xst ?_
    rw[zjs _ _ _ _ rfl,zrs _ i _ hlt]
   ·(try(refine xst ?_;try exact xtI))
  ·have hge:i=l.length:=by simp at h;omega
   try refine xst ?_
   refine zco [0,1] rfl rfl (by decide) ⟨?_,?_,trivial⟩ trivial ?_
   ·(try(refine xst ?_;try exact xtI))
   ·iterate 2(try simp(etaStruct := .none)only[push_cast,zab,seval,zrt _ _ _ (show (l.set k 0).length≤i by omega)];try refine xsu ?_)
    unfold lv
    rfl
   ·try refine xst ?_
    exact Wk.undef _
theorem zuf (m:Nat) (b:Int) (hm:m<65536):(decide (0≤b∧b<16)&&zen m b.toNat)=zfh m b:=by
 by_cases h:0≤b∧b<16
 ·obtain⟨k,rfl⟩:=Int.eq_ofNat_of_zero_le h.1
  rw[zey m k (by omega),decide_eq_true h];rfl
 ·rw[z2t m b hm h,decide_eq_false h];rfl
theorem zwh (m:Nat) (l:List Nat) (k:Nat) (h:zto m l=some k):z1g m l=k:=by
 have e:(fun s=>decide (((pcK m 32:Nat):Int)/2+1≤(pcK s 32:Nat)))=ztc m:=by
  funext s;unfold ztc;rw[Bool.eq_iff_iff];simp only[decide_eq_true_eq];omega
 unfold z1g ze4
 unfold zto at h
 rw[e,h]
theorem z1e (m:Nat) (l:List Nat) (h:zto m l=none):z1g m l<0:=by
 have:=zpf m l
 rw[h]at this
 simpa using this
theorem zp4 (m:Nat) (b:Int) (hm:m<65536) (h:zfh m b=true):∃k:Nat,b=k∧k<16∧zen m k=true:=by
 by_cases hb:0≤b∧b<16
 ·obtain⟨k,rfl⟩:=Int.eq_ofNat_of_zero_le hb.1
  exact⟨k,rfl,by omega,by rw[←zey m k (by omega)];exact h⟩
 ·rw[z2t m b hm hb]at h;simp at h
theorem z87 {m:Nat} {g:List Nat} {b a:Int} (h:zbb m g≠0):zdh m g b a=((0,[]),false,zbb m g):=by unfold zdh;rw[if_pos h]
theorem z86 {m:Nat} {g:List Nat} {b a:Int} (h:zbb m g=0) (h2:(zfh m b&&zfh m a)=false):zdh m g b a=((0,[]),false,7):=by unfold zdh;rw[if_neg (fun x=>x h),if_pos h2]
theorem z84 {m:Nat} {g:List Nat} {b a:Int} (h:zbb m g=0) (h2:¬(zfh m b&&zfh m a)=false) (h3:b=a):zdh m g b a=((0,[]),false,1):=by unfold zdh;rw[if_neg (fun x=>x h),if_neg h2,if_pos h3]
theorem z85 {m:Nat} {g:List Nat} {b a:Int} (h:zbb m g=0) (h2:¬(zfh m b&&zfh m a)=false) (h3:b≠a) (h4:zen (g.getD a.toNat 0) b.toNat=true):zdh m g b a=((0,[]),false,8):=by unfold zdh;rw[if_neg (fun x=>x h),if_neg h2,if_neg h3,if_pos h4]
theorem z83 {m:Nat} {g:List Nat} {b a:Int} (h:zbb m g=0) (h2:¬(zfh m b&&zfh m a)=false) (h3:b≠a) (h4:¬zen (g.getD a.toNat 0) b.toNat=true):zdh m g b a=(zqz 16 m (g.set a.toNat (g.getD a.toNat 0+2 ^ b.toNat)),!zen (zqz 16 m (g.set a.toNat (g.getD a.toNat 0+2 ^ b.toNat))).1 a.toNat,0):=by unfold zdh;rw[if_neg (fun x=>x h),if_neg h2,if_neg h3,if_neg h4]
theorem yf6 (m:Nat) (l:List Nat) (b a:Int) (hm:m<4294967296) (hl:l.length≤9223372036854775807) (hs:∀s∈l,s<4294967296) :
 Spec Tryz.prog 46 [eV m l,I .i64 b,I .i64 a] [] (.tup [eV (zdh m l b a).1.1 (zdh m l b a).1.2,B (zdh m l b a).2.1,I .i64 (zdh m l b a).2.2]) []:=by
 refine spB Tryz.func46 71 [.cell 6 37,.tmp 7,.tmp 8] Tryz.results46 ?_
 try refine xst ?_
 refine zct (z3n m l hm hl hs) (WkL.refl _) ?_
 try refine xst ?_
 refine zal (fun h => ?_) (fun h => ?_)
 ·have h1:zbb m l≠0:=by simpa using h
  try refine xst ?_
  refine zal (fun _ => ?_) (fun h'=>absurd (h.symm.trans h') (by decide))
  try refine xst ?_
  rw[z87 h1]
  exact zbe rfl ⟨rfl,trivial⟩ (Wk.tup ⟨Wk.agg ⟨Wk.refl _,Wk.nil 1,trivial⟩,Wk.refl _,Wk.refl _,trivial⟩)
 have h1:zbb m l=0:=by simpa using h
 obtain⟨⟨r1,r2⟩,r3,r4,r5⟩:=zju m l h1
 try refine xst ?_
 refine zct (zpn m l b hm) (WkL.refl _) ?_
 try refine xst ?_
 rw[zuf m b (by omega)]
 refine zw9 (fun _=>zpn m l a hm) (WkL.refl _) (fun hc => ?_) ?_
 ·have hx:zfh m b=true:=by simpa using hc
  rw[←zuf m b (by omega)]at hx
  (try simp(etaStruct := .none)only[push_cast,zab,seval])
  simpa using hx
 rw[zuf m a (by omega)]
 try refine xst ?_
 have fin:∀(v:Int) (_:v≠0),True:=fun _ _=>trivial
 refine zal (fun h => ?_) (fun h => ?_)
 ·have h2:(zfh m b&&zfh m a)=false:=by revert h;cases zfh m b<;>cases zfh m a<;>decide
  try refine xst ?_
  refine zal (fun _ => ?_) (fun h'=>absurd h' (by decide))
  try refine xst ?_
  rw[z86 h1 h2]
  exact zbe rfl ⟨rfl,trivial⟩ (Wk.tup ⟨Wk.agg ⟨Wk.refl _,Wk.nil 1,trivial⟩,Wk.refl _,Wk.refl _,trivial⟩)
 have h2:zfh m b=true∧zfh m a=true:=by revert h;cases zfh m b<;>cases zfh m a<;>decide
 have h2':¬(zfh m b&&zfh m a)=false:=by rw[h2.1,h2.2];decide
 obtain⟨B',rfl,hB,bB⟩:=zp4 m b (by omega) h2.1
 obtain⟨A',rfl,hA,bA⟩:=zp4 m a (by omega) h2.2
 try refine xst ?_
 refine zal (fun h => ?_) (fun h => ?_)
 ·have h3:(B':Int)=(A':Int):=by simpa using h
  try refine xst ?_
  refine zal (fun _ => ?_) (fun h'=>absurd h' (by decide))
  try refine xst ?_
  rw[z84 h1 h2' h3]
  exact zbe rfl ⟨rfl,trivial⟩ (Wk.tup ⟨Wk.agg ⟨Wk.refl _,Wk.nil 1,trivial⟩,Wk.refl _,Wk.refl _,trivial⟩)
 have h3:(B':Int)≠(A':Int):=by simpa using h
 have hlt:A'<l.length:=by omega
 have hg:l[A']<4294967296:=hs _ (List.getElem_mem hlt)
 have hgd:l.getD A' 0=l[A']:=zii _ _ _ hlt
 iterate 2(try simp(etaStruct := .none)only[push_cast,zab,seval,zbn _ _ _ hlt,zc9,z4e l[A'] B' hg (by omega)];try refine xsu ?_)
 refine zal (fun h => ?_) (fun h => ?_)
 ·try refine xst ?_
  refine zal (fun _ => ?_) (fun h'=>absurd h' (by decide))
  try refine xst ?_
  rw[z85 h1 h2' h3 (by rw[Int.toNat_natCast,Int.toNat_natCast,hgd];exact h)]
  exact zbe rfl ⟨rfl,trivial⟩ (Wk.tup ⟨Wk.agg ⟨Wk.refl _,Wk.nil 1,trivial⟩,Wk.refl _,Wk.refl _,trivial⟩)
 obtain⟨o1,o2⟩:=z8d l[A'] B' hg (by omega) h
 have hp:=zt6 B' (by omega)
 rw[z83 h1 h2' h3 (by rw[Int.toNat_natCast,Int.toNat_natCast,hgd,h];decide)]
 rw[Int.toNat_natCast,Int.toNat_natCast,hgd]
 try refine xst ?_
 refine zal (fun h'=>absurd h' (by simp[h1])) (fun _ => ?_)
 try refine xst ?_
 refine zgd [] (z3k l (by omega) (by intro e;rw[e]at r3;simp at r3)) (WkL.refl _) rfl List.nodup_nil (by simp[zcd]) ?_
 have hor:bits .or .u32 (l[A']:Int) ((2:Int) ^ B')=(l[A']:Int)+2 ^ B':=by
  have:=yjt l[A'] (2 ^ B') hg (show 2 ^ B'<4294967296 by omega)
  rw[o1]at this
  push_cast at this
  exact this
 iterate 2(try simp(etaStruct := .none)only[push_cast,zab,seval,zbn _ _ _ hlt,zc9,zvg B' (show B'<32 by omega),hor];try refine xsu ?_)
 rw[zjs l A' _ (l[A']+2 ^ B') (by push_cast;rfl)]
 have hgl:(l.set A' (l[A']+2 ^ B')).length=16:=by rw[List.length_set];exact r3
 have hgs:∀s∈l.set A' (l[A']+2 ^ B'),s<4294967296:=fun s hh=>by
  rcases List.mem_or_eq_of_mem_set hh with h|h
  ·exact hs s h
  ·rw[h];exact o2
 generalize l.set A' (l[A']+2 ^ B')=g0 at hgl hgs ⊢
 refine zbv (zj0 m g0 hm (by omega) hgs) (WkL.refl _) rfl ?_
 try refine xst ?_
 refine zas (fun p:Nat × List Nat=>⟨[(10,I .i64 (z1g p.1 p.2)),(3,.ptr 0 0 0),(6,.ptr 1 0 0),(2,I .i64 A')],[(0,.blk 37 [I .u32 p.1,.own 2]),(1,.blk 37 [I .u32 0,.c (.v (.slice none 0 0))]),(2,.row 34 1 (p.2.map zc9))],3⟩) (fun p=>(p.1≤m∧p.2.length=16∧∀s∈p.2,s<4294967296)∧∃n,nz p.2≤n∧zqz 16 m g0=zqz n p.1 p.2) (fun p=>nz p.2) (m,g0) ⟨⟨Nat.le_refl _,hgl,hgs⟩,16,by rw[←hgl];exact yev g0,rfl⟩ (To.mk [0,1,2] rfl rfl (by decide) ?_ ?_) ?_
 ·simp(etaStruct := .none)only[push_cast,zab,seval]
 ·simp(etaStruct := .none)only[push_cast,zab,seval]
 rintro⟨m',g⟩ ⟨⟨q1,q2,q3⟩,n,q4,q5⟩
 simp only at q1 q2 q3 q4
 try refine xst ?_
 cases hT:zto m' g with
 | none =>
  have hn:=z1e m' g hT
  refine zal (fun h=>absurd h (by simp;omega)) (fun _ => ?_)
  rw[zvy _ _ _ hT]at q5
  rw[q5]
  try refine xst ?_
  refine zbv (zpn m' g A' (by omega)) (WkL.refl _) rfl ?_
  have mm:(decide (0≤(A':Int)∧(A':Int)<16)&&zen m' (A':Int).toNat)=zen m' A':=by rw[Int.toNat_natCast,decide_eq_true (by omega)];rfl
  rw[mm]
  try refine xst ?_
  (try refine⟨by kernel_rfl,?_⟩)
  exact zbe rfl ⟨rfl,trivial⟩ (Wk.refl _)
 | some k =>
  have hk:=zwh m' g k hT
  obtain⟨k1,k2,k3⟩:=zot m' g k hT
  obtain⟨n',j1,j2⟩:=zvx n m' g k hT q4
  rw[hk]
  refine zal (fun _ => ?_) (fun h=>absurd h (by simp))
  try refine xst ?_
  refine zgd [0,2] (ybo m' k g (by omega) (by omega) k1 (by omega) q3) (WkL.refl _) rfl (by decide) (by simp[zcd]) ?_
  try refine xst ?_
  have hc:=zoi m' k
  have hls:∀s∈lv g k,s<4294967296:=fun s hh=>by
   unfold lv at hh
   obtain⟨u,hu,rfl⟩:=List.mem_map.1 hh
   have hu2:u<4294967296:=by
    rcases List.mem_or_eq_of_mem_set hu with h|h
    ·exact q3 u h
    ·omega
   exact Nat.lt_of_le_of_lt (zoi u k) hu2
  refine zbv (zj0 (clr m' k) (lv g k) (by omega) (by rw[zsc];omega) hls) (WkL.refl _) rfl ?_
  try refine xst ?_
  refine⟨(clr m' k,lv g k),⟨⟨by simp only;omega,by simp only;rw[zsc];omega,hls⟩,n',j1,by rw[q5,j2]⟩,ya7 g k k1 k3,To.mk [0,1,2] rfl rfl (by decide) ?_ ?_⟩
  ·simp(etaStruct := .none)only[push_cast,zab,seval]
  ·simp(etaStruct := .none)only[push_cast,zab,seval]
end Go.Proofs.YtbapdgmcndgieaaGreat
namespace Go.Proofs.YtbapdgmcndgieaaGreat
set_option linter.all false
open Go.RowKit
set_option maxRecDepth 100000
set_option maxHeartbeats 1000000
structure Hst where
 sty:Sty
 seats:List Sea
 m:Nat
 ag:List Nat
 most:Int
deriving Inhabited
abbrev zzf (h:Hst):List AV := [I .i64 h.sty.start.f.w,I .i64 h.sty.start.f.h,.c (.sl 1 (h.sty.start.f.p.map zac)),.c (.sl 2 (h.sty.start.bases.map zaz)),.c (.sl 1 (h.sty.start.stocks.map zac)),.c (.sl 1 (h.sty.start.mines.map zac)),.c (.sl 7 (h.sty.start.troops.map zaw)),I .i64 h.sty.start.next,I .i64 h.sty.start.now,.c (.sl 1 (h.sty.turns.map zca)),.c (.sl 3 (h.seats.map za7)),I .u32 h.m,.c (.sl 1 (h.ag.map zc9)),I .i64 h.most]
abbrev zhu (h:Hst):AV := .agg (zzf h)
structure HstL (h : Hst) : Prop where
 s:StyL h.sty
 l:h.seats.length≤9223372036854775807
 a:∀s∈h.seats,zdg s
 m:h.m<4294967296
 g:h.ag.length≤9223372036854775807
 e:∀s∈h.ag,s<4294967296
def zit (h:Hst) (i:Nat):Bool:=decide ((h.seats.getD i default).gone = !zen h.m i)
def zhz (WR:Cel→List Int) (h:Hst):Int:=if zkw WR h.sty≠0 then zkw WR h.sty else if za4 h.seats≠0 then za4 h.seats else if zbb h.m h.ag≠0 then zbb h.m h.ag else if ¬(1≤h.most∧h.most≤100)then 1 else
 if h.seats.length≠h.sty.start.bases.length∨h.m/2 ^ h.seats.length≠0 then 4 else if (List.range h.seats.length).all (zit h)then 0 else 4
theorem zul (n:Int):Spec Tryz.prog 27 [I .i64 n] [] (B (decide (1≤n)&&decide (n≤100))) []:=by
 refine spB Tryz.func27 9 [.tmp 2] Tryz.results27 ?_
 try refine xst ?_
 exact xrz rfl
theorem ydp (m k:Nat) (hm:m<4294967296) (hk:k<32):decide (bits .and .u32 ((m:Int).fdiv (2 ^ min k IntKind.u32.bits)) 1=0) = !zen m k:=by
 rw[zzw m k hk]
 have h1:m/2 ^ k≤m:=Nat.div_le_self _ _
 have:=z9n (m/2 ^ k) 1 (by omega) (by omega)
 rw[show ((1:Nat):Int)=1 from rfl]at this
 rw[this,Nat.and_one_is_mod]
 unfold zen
 rw[Bool.eq_iff_iff]
 simp only[decide_eq_true_eq,Bool.not_eq_true',beq_eq_false_iff_ne]
 omega
theorem ydo (m k:Nat) (hm:m<4294967296) (hk:k<32):(m:Int).fdiv (2 ^ min k IntKind.u32.bits)=((m/2 ^ k:Nat):Int):=zzw m k hk
theorem zf8 (h:Hst) (WR:Cel→List Int) (hWR:∀a,zai h.sty.start.f [a] (WR a)) (hl:HstL h):Spec Tryz.prog 9 [zhu h] [] (I .i64 (zhz WR h)) []:=by
 have S1:=z0u h.sty WR hWR hl.s
 have S2:=zeh h.seats hl.l hl.a
 have S3:=z3n h.m h.ag hl.m hl.g hl.e
 have eH:zhz WR h=if zkw WR h.sty≠0 then zkw WR h.sty else if za4 h.seats≠0 then za4 h.seats else if zbb h.m h.ag≠0 then zbb h.m h.ag else if ¬(1≤h.most∧h.most≤100)then 1 else if h.seats.length≠h.sty.start.bases.length∨h.m/2 ^ h.seats.length≠0 then 4 else if (List.range h.seats.length).all (zit h)then 0 else 4:=rfl
 have h8:za4 h.seats=0→h.seats.length≤8:=fun h0=>(zcn h0).2.1
 have hm:=hl.m
 generalize zhz WR h=E at *
 generalize zkw WR h.sty=e1 at *
 generalize za4 h.seats=e2 at *
 generalize zbb h.m h.ag=e3 at *
 refine spB Tryz.func9 66 [.tmp 2] Tryz.results9 ?_
 (iterate 2((try simp(etaStruct := .none)only[push_cast,seval]);(try(refine xsu ?_;try exact xtI))))
 refine zbi [some 7,some 8,some 9,some 10,some 11,some 12,some 13,some 14,some 15,some 16,some 17] rfl ?_
 intro Oq lq Rq hlq hdq hRq
 subst hlq
 iterate 2(refine za2 fun rq hrq => ?_;(iterate 2((try simp(etaStruct := .none)only[push_cast,seval,hdq,id]);(try(refine xsu ?_;try exact xtI))));subst hrq)
 refine za2 fun rq hrq => ?_
 (iterate 2((try simp(etaStruct := .none)only[push_cast,seval,hdq,id]);(try(refine xsu ?_;try exact xtI))))
 refine caP (S1) ?_
 (iterate 2((try simp(etaStruct := .none)only[push_cast,seval,hdq,id]);(try(refine xsu ?_;try exact xtI))))
 subst hrq
 iterate 2(refine za2 fun rq hrq => ?_;(iterate 2((try simp(etaStruct := .none)only[push_cast,seval,hdq,id]);(try(refine xsu ?_;try exact xtI))));subst hrq)
 refine za2 fun rq hrq => ?_
 (iterate 2((try simp(etaStruct := .none)only[push_cast,seval,hdq,id]);(try(refine xsu ?_;try exact xtI))))
 refine caP (S2) ?_
 (iterate 2((try simp(etaStruct := .none)only[push_cast,seval,hdq,id]);(try(refine xsu ?_;try exact xtI))))
 subst hrq
 iterate 2(refine za2 fun rq hrq => ?_;(iterate 2((try simp(etaStruct := .none)only[push_cast,seval,hdq,id]);(try(refine xsu ?_;try exact xtI))));subst hrq)
 refine za2 fun rq hrq => ?_
 (iterate 2((try simp(etaStruct := .none)only[push_cast,seval,hdq,id]);(try(refine xsu ?_;try exact xtI))))
 refine caP (S3) ?_
 (iterate 2((try simp(etaStruct := .none)only[push_cast,seval,hdq,id]);(try(refine xsu ?_;try exact xtI))))
 subst hrq
 iterate 2(refine za2 fun rq hrq => ?_;(iterate 2((try simp(etaStruct := .none)only[push_cast,seval,hdq,id]);(try(refine xsu ?_;try exact xtI))));subst hrq)
 refine zjo ?_
 subst hRq
 clear hdq Oq
 refine zjn (by kernel_rfl) ?_
 (iterate 2((try simp(etaStruct := .none)only[push_cast,seval]);(try(refine xsu ?_;try exact xtI))))
 refine zas (fun k:Nat=>⟨[(17,I .i64 k),(16,.agg [I .i64 e1,I .i64 e2,I .i64 e3]),(1,.ptr 0 0 0)],[(0,.blk 39 (zzf h))],1⟩) (fun k:Nat=>k≤3∧(1≤k→e1=0)∧(2≤k→e2=0)∧(3≤k→e3=0)) (fun k:Nat=>3-k) (0) (⟨by omega,by omega,by omega,by omega⟩) (To.mk [0] rfl rfl (by decide) ?_ ?_) ?_
 ·simp(etaStruct := .none)only[push_cast,zab,seval]
 ·simp(etaStruct := .none)only[push_cast,zab,seval]
 rintro k ⟨hk,k1,k2,k3⟩
 (iterate 2((try simp(etaStruct := .none)only[push_cast,seval]);(try(refine xsu ?_;try exact xtI))))
 refine cI (fun h1 => ?_) fun h1 => ?_
 ·obtain⟨e,hx,he⟩:∃e:Int,([I .i64 e1,I .i64 e2,I .i64 e3]:List AV)[k]? = some (I .i64 e)∧(k=0∧e=e1∨k=1∧e=e2∨k=2∧e=e3):=by
   have:k=0∨k=1∨k=2:=by omega
   rcases this with rfl|rfl|rfl
   ·exact⟨e1,rfl,by omega⟩
   ·exact⟨e2,rfl,by omega⟩
   ·exact⟨e3,rfl,by omega⟩
  (iterate 2((try simp(etaStruct := .none)only[push_cast,seval,hx,Int.toNat_natCast,Nat.mul_one]);(try(refine xsu ?_;try exact xtI))))
  refine cI (fun h2 => ?_) fun h2 => ?_
  ·have eE:E=e:=by
    rw[eH]
    rcases he with ⟨a,rfl⟩|⟨a,rfl⟩|⟨a,rfl⟩
    ·rw[if_pos h2]
    ·rw[if_neg (fun x=>x (k1 (by omega))),if_pos h2]
    ·rw[if_neg (fun x=>x (k1 (by omega))),if_neg (fun x=>x (k2 (by omega))),if_pos h2]
   (iterate 2((try simp(etaStruct := .none)only[push_cast,seval,hx,Int.toNat_natCast,Nat.mul_one]);(try(refine xsu ?_;try exact xtI))))
   exact zbe rfl trivial (Wk.of (by rw[eE];rfl))
  ·(iterate 2((try simp(etaStruct := .none)only[push_cast,seval,hx,Int.toNat_natCast,Nat.mul_one]);(try(refine xsu ?_;try exact xtI))))
   refine⟨k+1,⟨by omega,fun _=>by omega,fun _=>by omega,fun _=>by omega⟩,by omega,To.mk [0] rfl rfl (by decide) ?_ ?_⟩
   ·(iterate 2((try simp(etaStruct := .none)only[push_cast,seval,hx,Int.toNat_natCast,Nat.mul_one]);(try(refine xsu ?_;try exact xtI))))
   ·(iterate 2((try simp(etaStruct := .none)only[push_cast,seval,hx,Int.toNat_natCast,Nat.mul_one]);(try(refine xsu ?_;try exact xtI))))
 ·have z1:=k1 (by omega)
  have z2:=k2 (by omega)
  have z3:=k3 (by omega)
  have h8:=h8 z2
  rw[if_neg (fun x=>x z1),if_neg (fun x=>x z2),if_neg (fun x=>x z3)]at eH
  have hsh:=ydo h.m h.seats.length hm (by omega)
  (iterate 2((try simp(etaStruct := .none)only[push_cast,seval]);(try(refine xsu ?_;try exact xtI))))
  refine caP (zul h.most) ?_
  (iterate 2((try simp(etaStruct := .none)only[push_cast,seval]);(try(refine xsu ?_;try exact xtI))))
  refine cI (fun h3 => ?_) fun h3 => ?_
  ·have eE:E=1:=by rw[eH,if_pos (by omega)]
   (iterate 2((try simp(etaStruct := .none)only[push_cast,seval]);(try(refine xsu ?_;try exact xtI))))
   exact zbe rfl trivial (Wk.of (by rw[eE];rfl))
  ·rw[if_neg (by omega)]at eH
   (iterate 2((try simp(etaStruct := .none)only[push_cast,seval]);(try(refine xsu ?_;try exact xtI))))
   refine cI (fun h4 => ?_) fun h4 => ?_
   ·have eE:E=4:=by
     rw[eH,if_pos]
     have:=Int.natCast_eq_zero (n:=h.m/2 ^ h.seats.length)
     generalize h.m/2 ^ h.seats.length=z at *
     omega
    (iterate 2((try simp(etaStruct := .none)only[push_cast,seval]);(try(refine xsu ?_;try exact xtI))))
    exact zbe rfl trivial (Wk.of (by rw[eE];rfl))
   ·rw[if_neg (by generalize h.m/2 ^ h.seats.length=z at *;omega)]at eH
    (iterate 2((try simp(etaStruct := .none)only[push_cast,seval]);(try(refine xsu ?_;try exact xtI))))
    refine zas (fun k:Nat=>⟨[(50,I .i64 k),(49,I .i64 h.seats.length),(48,.c (.sl 3 (h.seats.map za7))),(1,.ptr 0 0 0)],[(0,.blk 39 (zzf h))],1⟩) (fun k:Nat=>k≤h.seats.length∧∀j,j<k→zit h j=true) (fun k:Nat=>h.seats.length-k) (0) (⟨Nat.zero_le _,fun j hj=>by omega⟩) (To.mk [0] rfl rfl (by decide) ?_ ?_) ?_
    ·simp(etaStruct := .none)only[push_cast,zab,seval]
    ·simp(etaStruct := .none)only[push_cast,zab,seval]
    rintro k ⟨hk2,hn⟩
    (iterate 2((try simp(etaStruct := .none)only[push_cast,seval]);(try(refine xsu ?_;try exact xtI))))
    refine cI (fun h5 => ?_) fun h5 => ?_
    ·have hlt:k<h.seats.length:=by omega
     have hub:=ydp h.m k hm (by omega)
     (iterate 2((try simp(etaStruct := .none)only[push_cast,seval,zaa _ _ _ hlt,za7,hub]);(try(refine xsu ?_;try exact xtI))))
     refine zbi [some 55,some 56,some 57,some 58,some 59,some 60,some 61,some 62,some 63,some 64] rfl ?_
     intro Oq lq Rq hlq hdq hRq
     subst hlq
     iterate 10(refine za2 fun rq hrq => ?_;(iterate 2((try simp(etaStruct := .none)only[push_cast,seval,hdq,id,zaa _ _ _ hlt,za7,hub]);(try(refine xsu ?_;try exact xtI))));subst hrq)
     refine zjo ?_
     subst hRq
     clear hdq Oq
     refine zjn (by kernel_rfl) ?_
     (iterate 2((try simp(etaStruct := .none)only[push_cast,seval,zaa _ _ _ hlt,za7,hub]);(try(refine xsu ?_;try exact xtI))))
     refine cI (fun h6 => ?_) fun h6 => ?_
     ·have eE:E=4:=by
       rw[eH,if_neg]
       intro ha
       have hx:=List.all_eq_true.1 ha k (List.mem_range.2 hlt)
       unfold zit at hx
       exact h6 (of_decide_eq_true hx)
      (iterate 2((try simp(etaStruct := .none)only[push_cast,seval,zaa _ _ _ hlt,za7,hub]);(try(refine xsu ?_;try exact xtI))))
      exact zbe rfl trivial (Wk.of (by rw[eE];rfl))
     ·have hnn:∀j,j<k+1→zit h j=true:=fun j hj=>by
       rcases Nat.lt_or_ge j k with hx|hx
       ·exact hn j hx
       ·rw[show j=k by omega];unfold zit;rw[decide_eq_true h6]
      (iterate 2((try simp(etaStruct := .none)only[push_cast,seval,zaa _ _ _ hlt,za7,hub]);(try(refine xsu ?_;try exact xtI))))
      refine⟨k+1,⟨by omega,hnn⟩,by omega,To.mk [0] rfl rfl (by decide) ?_ ?_⟩
      ·(iterate 2((try simp(etaStruct := .none)only[push_cast,seval,zaa _ _ _ hlt,za7,hub]);(try(refine xsu ?_;try exact xtI))))
      ·simp(etaStruct := .none)only[push_cast,zab,seval]
    ·have eE:E=0:=by
      rw[eH,if_pos]
      rw[List.all_eq_true]
      intro j hj
      exact hn j (by have:=List.mem_range.1 hj;omega)
     (iterate 2((try simp(etaStruct := .none)only[push_cast,seval]);(try(refine xsu ?_;try exact xtI))))
     exact zbe rfl trivial (Wk.of (by rw[eE];rfl))
theorem zrh (l:List Sea) (hl:l.length≤100000000000):Spec Tryz.prog 51 [.c (.sl 3 (l.map za7))] [] (.own 0) [.row 68 3 (l.map za7)]:=by
 refine spB Tryz.func51 8 [.tmp 2] Tryz.results51 ?_
 try refine xst ?_
 intro b hb
 try refine xst ?_
 refine zal (fun h => ?_) (fun h => ?_)
 ·try refine xst ?_
  have e:=hb h
  refine znc (To.nil 2 68 3 rfl) (zco [0] rfl rfl (by decide) ⟨?_,trivial⟩ trivial ?_)
  ·simp(etaStruct := .none)only[push_cast,zab,seval,e]
  ·simp(etaStruct := .none)only[push_cast,zab,seval]
 ·try refine xst ?_
  refine zco [1] rfl rfl (by decide) ⟨?_,trivial⟩ trivial ?_
  ·simp(etaStruct := .none)only[push_cast,zab,seval]
  ·simp(etaStruct := .none)only[push_cast,zab,seval]
theorem z0t (l:List Sea) (most:Int) (hs:∀s∈l,zdg s) (h0:za4 l=0) (hm:1≤most∧most≤100) :
 Spec Tryz.prog 21 [.c (.sl 3 (l.map za7)),I .i64 most] [] (.tup [.c (.sl 3 ((zdn most l).2.map za7)),.c (.sl 6 ((zdn most l).1.map zch))]) []:=by
 obtain⟨h1,h8,hw50,hr⟩:=zcn h0
 refine spB Tryz.func21 96 [.tmp 4,.tmp 5] Tryz.results21 ?_
 try refine xst ?_
 refine zas (fun x:Nat × List Ord × List Nat=>⟨[(17,I .i64 x.1),(7,.own 0),(6,.own 1),(1,I .i64 most),(0,.c (.sl 3 (l.map za7)))],[(0,.row 3 1 (x.2.2.map ztd)),(1,.row 43 6 (x.2.1.map zch))],2⟩) (fun x:Nat × List Ord × List Nat=>x.1≤50∧(x.2.1,zd9 l x.2.2)=itS most x.1 ([],l.map zb5)∧TkQ most l x.1 0 x.2.1 x.2.2) (fun x:Nat × List Ord × List Nat=>50-x.1) ((0,[],List.replicate l.length 0)) (⟨by omega,by rw[ycl];rfl,TkQ.zero most l⟩) ((To.nil 6 43 6 rfl).trans (To.mk [0,1] rfl rfl (by decide) ?_ ?_)) ?_
 ·simp(etaStruct := .none)only[push_cast,zab,seval,List.map_replicate]
  try rfl
 ·simp(etaStruct := .none)only[push_cast,zab,seval]
 rintro⟨k,out,T⟩ ⟨hk,hit,hq⟩
 simp only at hk hit hq
 have hqT:=hq.1
 try refine xst ?_
 refine zal (fun h1 => ?_) (fun h1 => ?_)
 ·(try replace h1:=xhh h1)
  have hk50:k<50:=by omega
  try refine xst ?_
  refine zas (fun y:Nat × List Ord × List Nat=>⟨[(22,I .i64 y.1),(21,I .i64 l.length),(20,.c (.sl 3 (l.map za7))),(17,I .i64 k),(8,I .i64 k),(7,.own 0),(6,.own 1),(1,I .i64 most),(0,.c (.sl 3 (l.map za7)))],[(0,.row 3 1 (y.2.2.map ztd)),(1,.row 43 6 (y.2.1.map zch))],2⟩) (fun y:Nat × List Ord × List Nat=>y.1≤l.length∧TkQ most l k y.1 y.2.1 y.2.2∧tkS most out (zd9 l T)=((tkS most y.2.1 ((zd9 l y.2.2).drop y.1)).1,(zd9 l y.2.2).take y.1++(tkS most y.2.1 ((zd9 l y.2.2).drop y.1)).2)) (fun y:Nat × List Ord × List Nat=>l.length-y.1) ((0,out,T)) (⟨Nat.zero_le _,hq,by simp⟩) (To.mk [0,1] rfl rfl (by decide) ?_ ?_) ?_
  ·simp(etaStruct := .none)only[push_cast,zab,seval]
  ·simp(etaStruct := .none)only[push_cast,zab,seval]
  rintro⟨i,o,U⟩ ⟨p1,p2,p3⟩
  simp only at p1 p2 p3
  try refine xst ?_
  refine zal (fun h2 => ?_) (fun h2 => ?_)
  ·(try replace h2:=xhh h2)
   have hlt:i<l.length:=by omega
   have hltU:i<U.length:=by rw[p2.1];exact hlt
   have hlD:i<(zd9 l U).length:=by rw[zbj];exact hlt
   have dr:=zuu (zd9 l U) i hlD
   have ho:=p2.2.1
   try refine xz2 (gd hlt) zam ?_
   refine zal (fun h3 => ?_) (fun h3 => ?_)
   ·(try replace h3:=xhh h3)
    have hkw:k<(l.getD i default).waits.length:=by omega
    obtain⟨eU,q2⟩:=TkQ.t p2 hlt hkw (by omega) hm.2 ((l.getD i default).waits.getD k default)
    try refine xz7 (gd hlt) zam (gd hkw) za0 (gd hltU) z8i eU ?_
    refine⟨(i+1,o ++ [(l.getD i default).waits.getD k default],U.set i (k+1)),⟨by simp only;omega,q2,by
 simp only
 have e1:=zho l U i hlt
 rw[p3,dr,z3f l U i (k+1) p2.1 hlt,List.drop_set_of_lt (by omega),List.take_set,zav _ i hlD]
 simp only[tkS]
 rw[if_pos ⟨by rw[e1,eU];simp only[List.length_drop];omega,by omega⟩,List.set_append_right _ _ (by simp[zbj];omega)]
 rw[e1,eU]
 have e2:(List.drop k (l.getD i default).waits).getD 0 default=(l.getD i default).waits.getD k default:=by simp[List.getD_eq_getElem?_getD]
 simp only[e2]
 simp [Nat.min_eq_left (Nat.le_of_lt hlt), zbj]⟩, by simp only; omega, To.mk [0, 4] rfl rfl (by decide) ?_ ?_⟩
    ·(iterate 2((try simp(etaStruct := .none)only[push_cast,zab,seval,List.map_append,List.map_set,ztd,zch]);(try(refine xsu ?_;try exact xtI))))
    ·(try(refine xz7 (gd hlt) zam (gd hkw) za0 (gd hltU) z8i eU ?_;try exact xtI))
   ·(try replace h3:=xhh h3)
    obtain⟨q2,q3⟩:=TkQ.f p2 hlt (by omega)
    try refine xz2 (gd hlt) zam ?_
    refine⟨(i+1,o,U),⟨by simp only;omega,q2,by
 simp only
 rw[p3,dr,zav _ i hlD]
 simp only[tkS]
 rw[if_neg q3]
 simp⟩, by simp only; omega, To.mk [0, 1] rfl rfl (by decide) ?_ ?_⟩
    ·(try(refine xz2 (gd hlt) zam ?_;try exact xtI))
    ·(try(refine xz2 (gd hlt) zam ?_;try exact xtI))
  ·(try replace h2:=xhh h2)
   obtain rfl:i=l.length:=by omega
   try refine xst ?_
   refine⟨(k+1,o,U),⟨by simp only;omega,by
 simp only
 rw[zjb,←hit]
 simp only
 rw[p3,List.drop_eq_nil_of_le (by rw[zbj];omega),List.take_of_length_le (by rw[zbj];omega)];simp[tkS],p2.next⟩,by simp only;omega,To.mk [0,1] rfl rfl (by decide) ?_ ?_⟩
   ·(try(refine xst ?_;try exact xtI))
   ·(try(refine xst ?_;try exact xtI))
 ·(try replace h1:=xhh h1)
  obtain rfl:k=50:=by omega
  have ec:zdn most l=(out,zd9 l T):=by unfold zdn;rw[hit]
  try refine xst ?_
  refine caM [] (zrh l (by omega)) ?_
  try refine xst ?_
  have fl:∀j,((zd9 l T).take j++l.drop j).length=l.length:=fun j=>by simp[zbj];omega
  refine zas (fun k:Nat=>⟨[(58,I .i64 k),(57,I .i64 l.length),(56,.c (.sl 3 (l.map za7))),(11,.own 2),(7,.own 0),(6,.own 1)],[(0,.row 3 1 (T.map ztd)),(1,.row 43 6 (out.map zch)),(2,.row 68 3 (((zd9 l T).take k++l.drop k).map za7))],3⟩) (fun k:Nat=>k≤l.length) (fun k:Nat=>l.length-k) (0) (Nat.zero_le _) (To.mk [0,1,2] rfl rfl (by decide) ?_ ?_) ?_
  ·simp(etaStruct := .none)only[push_cast,zab,seval]
  ·simp(etaStruct := .none)only[push_cast,zab,seval]
  rintro k hk
  try refine xst ?_
  refine cI (fun h4 => ?_) fun h4 => ?_
  ·have hlt:k<l.length:=by omega
   have hltT:k<T.length:=by omega
   have hltF:k<((zd9 l T).take k++l.drop k).length:=by rw[fl];exact hlt
   have eF:((zd9 l T).take k++l.drop k).getD k default=l.getD k default:=by
    rw[zad _ _ hltF,zad _ _ hlt,List.getElem_append_right (by simp[zbj];omega)];simp[zbj,Nat.min_eq_left (Nat.le_of_lt hlt)]
   have hT3:=hq.2.2.1 k hlt
   have fl':=fl k
   have ed:List.drop (T.getD k default) (List.map zch (l.getD k default).waits)=((l.getD k default).waits.drop (T.getD k default)).map zch:=by rw[List.map_drop]
   have gs:∀v:List PV,((List.map za7 ((zd9 l T).take k++l.drop k)).set k v).getD k []=v:=fun v=>by rw[List.getD_eq_getElem?_getD,List.getElem?_set_self (by rw[List.length_map];exact hltF)];rfl
   obtain⟨ra,rb,rc⟩:=z0s (hr k hlt)
   have fs:(zd9 l T).take (k+1)++l.drop (k+1)=((zd9 l T).take k++l.drop k).set k ⟨(l.getD k default).waits.drop (T.getD k default),(zb5 (l.getD k default)).late,(l.getD k default).gone⟩:=by
    rw[zav _ _ (by rw[zbj];exact hlt),zho _ _ _ hlt,List.set_append_right _ _ (by simp[zbj];omega),zuu l k hlt]
    simp[zbj,Nat.min_eq_left (Nat.le_of_lt hlt)]
   iterate 2(try simp(etaStruct := .none)only[push_cast,zab,seval,zaa _ _ _ hlt,zaa _ _ _ hltT,ztd,zaa _ _ _ hltF,eF,za7,fl',ed,gs,List.length_set,List.set_set];try refine xsu ?_)
   refine cI (fun h5 => ?_) fun h5 => ?_
   ·iterate 2(try simp(etaStruct := .none)only[push_cast,zab,seval,zaa _ _ _ hlt,zaa _ _ _ hltT,ztd,zaa _ _ _ hltF,eF,za7,fl',ed,gs,List.length_set,List.set_set];try refine xsu ?_)
    refine cI (fun h6 => ?_) fun h6 => ?_
    ·have el:(zb5 (l.getD k default)).late=min ((l.getD k default).late+1) 1000000:=by unfold zb5;rw[if_neg (by omega),if_neg (by rw[h5];simp)]
     have em:(if (l.getD k default).late+1<1000000 then (l.getD k default).late+1 else 1000000)=min ((l.getD k default).late+1) 1000000:=by split<;>omega
     iterate 2(try simp(etaStruct := .none)only[push_cast,zab,seval,zaa _ _ _ hlt,zaa _ _ _ hltT,ztd,zaa _ _ _ hltF,eF,za7,fl',ed,gs,List.length_set,List.set_set,em];try refine xsu ?_)
     (try(refine⟨by kernel_rfl,?_⟩))
     iterate 2(try simp(etaStruct := .none)only[push_cast,zab,seval,zaa _ _ _ hlt,zaa _ _ _ hltT,ztd,zaa _ _ _ hltF,eF,za7,fl',ed,gs,List.length_set,List.set_set,em];try refine xsu ?_)
     refine⟨k+1,by omega,by omega,To.mk [0,1,2] rfl rfl (by decide) ?_ ?_⟩
     ·try refine xst ?_
      rw[fs,List.map_set,el];rfl
     ·(iterate 2((try simp(etaStruct := .none)only[push_cast,zab,seval,zaa _ _ _ hlt,zaa _ _ _ hltT,ztd,zaa _ _ _ hltF,eF,za7,fl',ed,gs,List.length_set,List.set_set,em]);(try(refine xsu ?_;try exact xtI))))
    ·have el:(zb5 (l.getD k default)).late=0:=by unfold zb5;rw[if_pos (by omega)]
     iterate 2(try simp(etaStruct := .none)only[push_cast,zab,seval,zaa _ _ _ hlt,zaa _ _ _ hltT,ztd,zaa _ _ _ hltF,eF,za7,fl',ed,gs,List.length_set,List.set_set];try refine xsu ?_)
     (try(refine⟨by kernel_rfl,?_⟩))
     iterate 2(try simp(etaStruct := .none)only[push_cast,zab,seval,zaa _ _ _ hlt,zaa _ _ _ hltT,ztd,zaa _ _ _ hltF,eF,za7,fl',ed,gs,List.length_set,List.set_set];try refine xsu ?_)
     refine⟨k+1,by omega,by omega,To.mk [0,1,2] rfl rfl (by decide) ?_ ?_⟩
     ·try refine xst ?_
      rw[fs,List.map_set,el];rfl
     ·(iterate 2((try simp(etaStruct := .none)only[push_cast,zab,seval,zaa _ _ _ hlt,zaa _ _ _ hltT,ztd,zaa _ _ _ hltF,eF,za7,fl',ed,gs,List.length_set,List.set_set]);(try(refine xsu ?_;try exact xtI))))
   ·have el:(zb5 (l.getD k default)).late=(l.getD k default).late:=by unfold zb5;have:=rb h5;rw[if_neg (by omega),if_pos h5]
    iterate 2(try simp(etaStruct := .none)only[push_cast,zab,seval,zaa _ _ _ hlt,zaa _ _ _ hltT,ztd,zaa _ _ _ hltF,eF,za7,fl',ed,gs,List.length_set,List.set_set];try refine xsu ?_)
    (try(refine⟨by kernel_rfl,?_⟩))
    iterate 2(try simp(etaStruct := .none)only[push_cast,zab,seval,zaa _ _ _ hlt,zaa _ _ _ hltT,ztd,zaa _ _ _ hltF,eF,za7,fl',ed,gs,List.length_set,List.set_set];try refine xsu ?_)
    refine⟨k+1,by omega,by omega,To.mk [0,1,2] rfl rfl (by decide) ?_ ?_⟩
    ·try refine xst ?_
     rw[fs,List.map_set,el];rfl
    ·(iterate 2((try simp(etaStruct := .none)only[push_cast,zab,seval,zaa _ _ _ hlt,zaa _ _ _ hltT,ztd,zaa _ _ _ hltF,eF,za7,fl',ed,gs,List.length_set,List.set_set]);(try(refine xsu ?_;try exact xtI))))
  ·obtain rfl:k=l.length:=by omega
   have fe:(zd9 l T).take l.length++l.drop l.length=zd9 l T:=by rw[List.take_of_length_le (by rw[zbj];omega)];simp
   try refine xz1 fe ?_
   exact zbe rfl trivial (by rw[ec];exact Wk.refl _)
end Go.Proofs.YtbapdgmcndgieaaGreat
namespace Go.Proofs.YtbapdgmcndgieaaGreat
set_option linter.all false
open Go.RowKit
set_option maxRecDepth 100000
set_option maxHeartbeats 2000000
structure HstB (h : Hst) : Prop where
 p:h.sty.start.f.p.length≤17592186044415
 b:h.sty.start.bases.length≤8796093022207
 s:h.sty.start.stocks.length≤17592186044415
 m:h.sty.start.mines.length≤17592186044415
 t:h.sty.start.troops.length≤2513169434916
 u:∀l∈h.sty.turns,l.length≤2932031007402
 n:h.sty.turns.length≤5864062014800
 w:∀s∈h.seats,s.waits.length≤2932031007402
 l:h.seats.length≤3518437208780
 g:h.ag.length≤35184372088831
theorem z4f (l:List Nat) (hl:l.length≤35184372088831):Spec Tryz.prog 40 [.c (.sl 1 (l.map zc9))] [] (.c (.sl 1 (l.map zc9))) []:=by
 refine spB Tryz.func40 8 [.tmp 2] Tryz.results40 ?_
 try refine xst ?_
 intro b hb
 try refine xst ?_
 refine zal (fun h => ?_) (fun h => ?_)
 ·try refine xst ?_
  exact zbe rfl trivial (by rw[hb h];exact Wk.nil _)
 ·try refine xst ?_
  exact zbe rfl trivial (Wk.refl _)
abbrev z6i:List AV := [I .i64 0,I .i64 0,.c (.v (.slice none 0 0)),.c (.v (.slice none 0 0)),.c (.v (.slice none 0 0)),.c (.v (.slice none 0 0)),.c (.v (.slice none 0 0)),I .i64 0,I .i64 0,.c (.v (.slice none 0 0)),.c (.v (.slice none 0 0)),I .u32 0,.c (.v (.slice none 0 0)),I .i64 0]
theorem zg1 (h:Hst) (hb:HstB h):Spec Tryz.prog 11 [zhu h] [] (zhu h) []:=by
 refine spB Tryz.func11 105 [.cell 2 39] Tryz.results11 ?_
 have hbn:=hb.n
 have hbl:=hb.l
 (iterate 2((try simp(etaStruct := .none)only[push_cast,seval]);(try(refine xsu ?_;try exact xtI))))
 refine zbi [some 12,some 13,some 14,some 15,some 16,some 17,some 18,some 19,some 20,some 21,some 22,some 23,some 24,some 25,some 26,some 27,some 28,some 29,some 30,some 31,some 32,some 33,none,some 34,some 35,none,some 36,some 37,none] rfl ?_
 intro Oq lq Rq hlq hdq hRq
 subst hlq
 iterate 8(refine za2 fun rq hrq => ?_;(iterate 2((try simp(etaStruct := .none)only[push_cast,seval,hdq,id]);(try(refine xsu ?_;try exact xtI))));subst hrq)
 refine za2 fun rq hrq => ?_
 (iterate 2((try simp(etaStruct := .none)only[push_cast,seval,hdq,id]);(try(refine xsu ?_;try exact xtI))))
 refine caP (zf5 h.sty.start.f.p hb.p) ?_
 (iterate 2((try simp(etaStruct := .none)only[push_cast,seval,hdq,id]);(try(refine xsu ?_;try exact xtI))))
 subst hrq
 iterate 4(refine za2 fun rq hrq => ?_;(iterate 2((try simp(etaStruct := .none)only[push_cast,seval,hdq,id]);(try(refine xsu ?_;try exact xtI))));subst hrq)
 refine za2 fun rq hrq => ?_
 (iterate 2((try simp(etaStruct := .none)only[push_cast,seval,hdq,id]);(try(refine xsu ?_;try exact xtI))))
 refine caP (zqn h.sty.start.bases hb.b) ?_
 (iterate 2((try simp(etaStruct := .none)only[push_cast,seval,hdq,id]);(try(refine xsu ?_;try exact xtI))))
 subst hrq
 iterate 4(refine za2 fun rq hrq => ?_;(iterate 2((try simp(etaStruct := .none)only[push_cast,seval,hdq,id]);(try(refine xsu ?_;try exact xtI))));subst hrq)
 refine za2 fun rq hrq => ?_
 (iterate 2((try simp(etaStruct := .none)only[push_cast,seval,hdq,id]);(try(refine xsu ?_;try exact xtI))))
 refine caP (zf5 h.sty.start.stocks hb.s) ?_
 (iterate 2((try simp(etaStruct := .none)only[push_cast,seval,hdq,id]);(try(refine xsu ?_;try exact xtI))))
 subst hrq
 iterate 10(refine za2 fun rq hrq => ?_;(iterate 2((try simp(etaStruct := .none)only[push_cast,seval,hdq,id]);(try(refine xsu ?_;try exact xtI))));subst hrq)
 refine zjo ?_
 subst hRq
 clear hdq Oq
 refine zjn (by kernel_rfl) ?_
 (iterate 2((try simp(etaStruct := .none)only[push_cast,seval]);(try(refine xsu ?_;try exact xtI))))
 refine zbi [some 38,some 39,some 40,some 41,some 42,some 43,some 44,some 45,some 46,some 47,some 48,some 49,some 50,some 51,none,some 52,some 53,none] rfl ?_
 intro Oq lq Rq hlq hdq hRq
 subst hlq
 iterate 6(refine za2 fun rq hrq => ?_;(iterate 2((try simp(etaStruct := .none)only[push_cast,seval,hdq,id]);(try(refine xsu ?_;try exact xtI))));subst hrq)
 refine za2 fun rq hrq => ?_
 (iterate 2((try simp(etaStruct := .none)only[push_cast,seval,hdq,id]);(try(refine xsu ?_;try exact xtI))))
 refine caP (zf5 h.sty.start.mines hb.m) ?_
 (iterate 2((try simp(etaStruct := .none)only[push_cast,seval,hdq,id]);(try(refine xsu ?_;try exact xtI))))
 subst hrq
 iterate 4(refine za2 fun rq hrq => ?_;(iterate 2((try simp(etaStruct := .none)only[push_cast,seval,hdq,id]);(try(refine xsu ?_;try exact xtI))));subst hrq)
 refine za2 fun rq hrq => ?_
 (iterate 2((try simp(etaStruct := .none)only[push_cast,seval,hdq,id]);(try(refine xsu ?_;try exact xtI))))
 refine caP (zvk h.sty.start.troops hb.t) ?_
 (iterate 2((try simp(etaStruct := .none)only[push_cast,seval,hdq,id]);(try(refine xsu ?_;try exact xtI))))
 subst hrq
 iterate 6(refine za2 fun rq hrq => ?_;(iterate 2((try simp(etaStruct := .none)only[push_cast,seval,hdq,id]);(try(refine xsu ?_;try exact xtI))));subst hrq)
 refine zjo ?_
 subst hRq
 clear hdq Oq
 refine zjn (by kernel_rfl) ?_
 (iterate 2((try simp(etaStruct := .none)only[push_cast,seval]);(try(refine xsu ?_;try exact xtI))))
 refine zas (fun k:Nat=>⟨[(63,I .i64 k),(62,I .i64 h.sty.turns.length),(61,.c (.sl 1 (h.sty.turns.map zca))),(4,.own 2),(2,.ptr 1 0 0),(1,.ptr 0 0 0)],[(0,.blk 39 (zzf h)),(1,.blk 39 z6i),(2,.row 66 1 ((h.sty.turns.take k).map zca))],3⟩) (fun k:Nat=>k≤h.sty.turns.length) (fun k:Nat=>h.sty.turns.length-k) (0) (Nat.zero_le _) (To.mk [0,1,190] rfl rfl (by decide) ?_ ?_) ?_
 ·simp(etaStruct := .none)only[push_cast,zab,seval,List.take_zero,List.map_nil]
 ·simp(etaStruct := .none)only[push_cast,zab,seval]
 rintro k hk
 (iterate 2((try simp(etaStruct := .none)only[push_cast,seval]);(try(refine xsu ?_;try exact xtI))))
 refine cI (fun h1 => ?_) fun h1 => ?_
 ·have hlt:k<h.sty.turns.length:=by omega
  have ts:=zav h.sty.turns k hlt
  have hlk:(h.sty.turns.take k).length=k:=by rw[List.length_take];omega
  have hln:=hb.u (h.sty.turns.getD k default) (za9 _ _ hlt)
  (iterate 2((try simp(etaStruct := .none)only[push_cast,seval,zaa _ _ _ hlt,zca]);(try(refine xsu ?_;try exact xtI))))
  refine caP (zi0 (h.sty.turns.getD k default) hln) ?_
  (iterate 2((try simp(etaStruct := .none)only[push_cast,seval,zaa _ _ _ hlt,zca]);(try(refine xsu ?_;try exact xtI))))
  refine⟨k+1,by omega,by omega,To.mk [0,1,4] rfl rfl (by decide) ?_ ?_⟩
  ·(iterate 2((try simp(etaStruct := .none)only[push_cast,seval,ts,List.map_append,zca]);(try(refine xsu ?_;try exact xtI))))
  ·(iterate 2((try simp(etaStruct := .none)only[push_cast,seval,zaa _ _ _ hlt,zca]);(try(refine xsu ?_;try exact xtI))))
 ·obtain rfl:k=h.sty.turns.length:=by omega
  (iterate 2((try simp(etaStruct := .none)only[push_cast,seval,List.take_length]);(try(refine xsu ?_;try exact xtI))))
  refine zas (fun k:Nat=>⟨[(80,I .i64 k),(79,I .i64 h.seats.length),(78,.c (.sl 3 (h.seats.map za7))),(7,.own 3),(4,.own 2),(2,.ptr 1 0 0),(1,.ptr 0 0 0)],[(0,.blk 39 (zzf h)),(1,.blk 39 z6i),(2,.row 66 1 (h.sty.turns.map zca)),(3,.row 68 3 ((h.seats.take k).map za7))],4⟩) (fun k:Nat=>k≤h.seats.length) (fun k:Nat=>h.seats.length-k) (0) (Nat.zero_le _) (To.mk [0,1,2,3] rfl rfl (by decide) ?_ ?_) ?_
  ·simp(etaStruct := .none)only[push_cast,zab,seval,List.take_length,List.take_zero,List.map_nil]
  ·simp(etaStruct := .none)only[push_cast,zab,seval]
  rintro k hk2
  (iterate 2((try simp(etaStruct := .none)only[push_cast,seval,List.take_length]);(try(refine xsu ?_;try exact xtI))))
  refine cI (fun h2 => ?_) fun h2 => ?_
  ·have hlt:k<h.seats.length:=by omega
   have ts:=zav h.seats k hlt
   have hlk:(h.seats.take k).length=k:=by rw[List.length_take];omega
   have hln:=hb.w (h.seats.getD k default) (za9 _ _ hlt)
   (iterate 2((try simp(etaStruct := .none)only[push_cast,seval,List.take_length,zaa _ _ _ hlt,za7]);(try(refine xsu ?_;try exact xtI))))
   refine caP (zi0 (h.seats.getD k default).waits hln) ?_
   (iterate 2((try simp(etaStruct := .none)only[push_cast,seval,List.take_length,zaa _ _ _ hlt,za7]);(try(refine xsu ?_;try exact xtI))))
   refine⟨k+1,by omega,by omega,To.mk [0,1,2,6] rfl rfl (by decide) ?_ ?_⟩
   ·(iterate 2((try simp(etaStruct := .none)only[push_cast,seval,ts,List.map_append,za7]);(try(refine xsu ?_;try exact xtI))))
   ·(iterate 2((try simp(etaStruct := .none)only[push_cast,seval,List.take_length,zaa _ _ _ hlt,za7]);(try(refine xsu ?_;try exact xtI))))
  ·obtain rfl:k=h.seats.length:=by omega
   (iterate 2((try simp(etaStruct := .none)only[push_cast,seval,List.take_length,List.take_length]);(try(refine xsu ?_;try exact xtI))))
   refine caP (z4f h.ag hb.g) ?_
   (iterate 2((try simp(etaStruct := .none)only[push_cast,seval,List.take_length,List.take_length]);(try(refine xsu ?_;try exact xtI))))
   exact xrz rfl
end Go.Proofs.YtbapdgmcndgieaaGreat
namespace Go.Proofs.YtbapdgmcndgieaaGreat
set_option linter.all false
open Go.RowKit
set_option maxRecDepth 100000
set_option maxHeartbeats 1000000
def z97 (s:Sea):List PV := [.undef,pI s.late,pB s.gone]
theorem yjl (s:Sea):z97 s = [.undef,pI s.late,pB s.gone]:=rfl
def waP (s:Sea):List (List PV):=s.waits.map zch
theorem ydl (l:List Sea) (i:Nat) (hi:i<l.length):(l.map waP).getD i []=(l.getD i default).waits.map zch:=by simp[waP,hi]
theorem z9m (l:List Sea) (i:Nat) (w:List Ord) (hi:i<l.length):unN 0 6 (l.map z97) ((l.map waP).set i (w.map zch))=(l.set i ⟨w,(l.getD i default).late,(l.getD i default).gone⟩).map za7:=by
 apply List.ext_getElem?
 intro j
 unfold unN
 rw[List.getElem?_zipWith,List.getElem?_map,List.getElem?_map,List.getElem?_set,List.getElem?_set]
 by_cases hij:i=j
 ·subst hij
  simp[hi,z97,za7]
 ·rw[if_neg hij,if_neg hij,List.getElem?_map]
  cases l[j]? <;> simp[z97,za7,waP]
def znb (l:List Sea) (o:Ord):Int :=
 if za4 l≠0 then za4 l else if zc7 o≠0 then zc7 o else if (l.length:Int)≤o.by_ then 7 else if (l.getD o.by_.toNat default).gone=true then 9 else if (l.getD o.by_.toNat default).waits.length=50 then 6 else 0
def z47 (l:List Sea) (o:Ord):List Sea:=l.set o.by_.toNat ⟨(l.getD o.by_.toNat default).waits ++ [o],(l.getD o.by_.toNat default).late,(l.getD o.by_.toNat default).gone⟩
def zgy (l:List Sea) (p:Int):List Sea:=l.set p.toNat ⟨[],0,true⟩
def PvLe (p q:PV):Prop:=p=q∨(p = .v (.slice none 0 0)∧∃s,q = .sl s [])
inductive RowLe : List PV → List PV → Prop where
 | nil:RowLe [] []
 | cons {p q:PV} {r s:List PV} : PvLe p q→RowLe r s→RowLe (p::r) (q::s)
inductive RowsLe : List (List PV) → List (List PV) → Prop where
 | nil:RowsLe [] []
 | cons {p q:List PV} {r s:List (List PV)} : RowLe p q→RowsLe r s→RowsLe (p::r) (q::s)
theorem RowLe.len {a b:List PV} (h:RowLe a b):a.length=b.length:=by
 induction h with
 | nil=>rfl
 | cons _ _ ih=>simp[ih]
theorem RowsLe.len {a b:List (List PV)} (h:RowsLe a b):a.length=b.length:=by
 induction h with
 | nil=>rfl
 | cons _ _ ih=>simp[ih]
theorem PvLe.run {w:World} {F:Nat→Prop} {p q:PV} {u:Value} (h:PvLe p q) (hr:RelP w F p u):RelP w F q u:=by
 rcases h with rfl|⟨rfl,s,rfl⟩
 ·exact hr
 ·simp only[RelP]at hr ⊢
  exact⟨none,0,hr.1,Nat.le_refl _,Nat.zero_le _,.inl trivial⟩
theorem RowLe.run {w:World} {F:Nat→Prop} {b:Nat} {xs ys:List PV} (h:RowLe xs ys):∀ {o:Nat},RelC w F b o xs→RelC w F b o ys:=by
 induction h with
 | nil=>intro o hr;exact hr
 | cons hp _ ih =>
  intro o hr
  simp only[RelC]at hr ⊢
  obtain⟨⟨u,h1,h2⟩,h3⟩:=hr
  exact⟨⟨u,h1,hp.run h2⟩,ih h3⟩
theorem RowsLe.run {w:World} {F:Nat→Prop} {b sz:Nat} {xs ys:List (List PV)} (h:RowsLe xs ys):∀ {o:Nat},RelE w F b sz o xs→RelE w F b sz o ys:=by
 induction h with
 | nil=>intro o hr;exact hr
 | cons hp _ ih =>
  intro o hr
  simp only[RelE]at hr ⊢
  exact⟨by rw[←hp.len];exact hr.1,hp.run hr.2.1,ih hr.2.2⟩
theorem Wk.rows {sz:Nat} {xs ys:List (List PV)} (h:RowsLe xs ys):Wk (.c (.sl sz xs)) (.c (.sl sz ys)):=fun _ _ _ _ v hv=>by
 simp only[RelA,RelP]at hv ⊢
 obtain⟨a,c,rfl,h1,h2,h3⟩:=hv
 rw[h.len]at h1 ⊢
 refine⟨a,c,rfl,h1,h2,?_⟩
 rcases h3 with rfl|⟨b,o,rfl,hb,hE⟩
 ·exact .inl (List.eq_nil_of_length_eq_zero h.len.symm)
 ·exact .inr ⟨b,o,rfl,hb,h.run hE⟩
theorem RowsLe.rep {x y:List PV} (h:RowLe x y):∀n,RowsLe (List.replicate n x) (List.replicate n y)
 | 0 => .nil
 | n+1=>by rw[List.replicate_succ,List.replicate_succ];exact .cons h (RowsLe.rep h n)
theorem zvv:RowLe [.v (.slice none 0 0),.v (.int .i64 0),.v (.bool false)] (za7 ⟨[],0,false⟩) := .cons (.inr ⟨rfl,6,rfl⟩) (.cons (.inl rfl) (.cons (.inl rfl) .nil))
theorem RowLe.refl:∀a:List PV,RowLe a a
 | [] => .nil
 | _::r => .cons (.inl rfl) (RowLe.refl r)
theorem RowsLe.refl:∀a:List (List PV),RowsLe a a
 | [] => .nil
 | _::r => .cons (RowLe.refl _) (RowsLe.refl r)
theorem RowsLe.set {x y:List PV} (h:RowLe x y):∀(l:List (List PV)) (i:Nat),RowsLe (l.set i x) (l.set i y)
 | [],_ => .nil
 | _::r,0 => .cons h (RowsLe.refl r)
 | _::r,i+1 => .cons (RowLe.refl _) (RowsLe.set h r i)
theorem z42:RowLe [.v (.slice none 0 0),.v (.int .i64 0),.v (.bool true)] (za7 ⟨[],0,true⟩) := .cons (.inr ⟨rfl,6,rfl⟩) (.cons (.inl rfl) (.cons (.inl rfl) .nil))
theorem zyr (l:List Sea) (p:Int):(zgy l p).map za7=(l.map za7).set p.toNat (za7 ⟨[],0,true⟩):=by unfold zgy;rw[List.map_set]
theorem ydw (n:Int) (h:1≤n∧n≤8):Spec Tryz.prog 28 [I .i64 n] [] (.tup [.c (.sl 3 ((List.replicate n.toNat (⟨[],0,false⟩:Sea)).map za7)),I .i64 0]) []:=by
 refine spB Tryz.func28 12 [.tmp 2,.tmp 3] Tryz.results28 ?_
 try refine xst ?_
 refine cI (fun h1 => ?_) fun h1 => ?_
 ·omega
 ·try refine xst ?_
  refine zbe rfl (by repeat' (first|exact trivial|exact rfl|omega|refine⟨?_,?_⟩)) (Wk.tup ⟨?_,?_,trivial⟩)
  ·refine Wk.rows ?_
   simp only[List.map_replicate]
   exact RowsLe.rep zvv _
  ·exact Wk.refl _
theorem ydv (l:List Sea) (hl:l.length≤100000) (hs:∀s∈l,zdg s) (i:Nat) (hi:i<l.length):Spec Tryz.prog 42 [.c (.sl 3 (l.map za7))] [] (.own 0) [.nst 68 3 0 43 6 (l.map z97) (l.map waP) (some (i,1)),.row 43 6 ((l.getD i default).waits.map zch)]:=by
 refine spB Tryz.func42 25 [.tmp 2] Tryz.results42 ?_
 iterate 2(try simp(etaStruct := .none)only[push_cast,zab,seval,List.length_take,List.length_map];try refine xsu ?_)
 refine zas (fun k:Nat=>⟨[(11,I .i64 k),(10,I .i64 l.length),(9,.c (.sl 3 (l.map za7))),(3,.own 0)],[(0,.nst 68 3 0 43 6 ((l.take k).map z97) ((l.take k).map waP) none)],1⟩) (fun k:Nat=>k≤l.length) (fun k:Nat=>l.length-k) (0) (Nat.zero_le _) ((To.nst 0 68 3 0 43 6 [] rfl (by decide) (by simp)).trans (To.mk [0] rfl rfl (by decide) ?_ ?_)) ?_
 ·simp(etaStruct := .none)only[push_cast,zab,seval]
 ·simp(etaStruct := .none)only[push_cast,zab,seval]
 rintro k hk
 iterate 2(try simp(etaStruct := .none)only[push_cast,zab,seval,List.length_take,List.length_map];try refine xsu ?_)
 refine cI (fun h1 => ?_) fun h1 => ?_
 ·have hlt:k<l.length:=by omega
  iterate 2(try simp(etaStruct := .none)only[push_cast,zab,seval,List.length_take,List.length_map,zaa _ _ _ hlt,za7];try refine xsu ?_)
  have ts:=zav l k hlt
  refine caM [] ((zrx (l.getD k default).waits (hs _ (by rw[zad _ _ hlt];exact List.getElem_mem hlt))).keep) ?_
  iterate 2(try simp(etaStruct := .none)only[push_cast,zab,seval,List.length_take,List.length_map,zaa _ _ _ hlt,za7];try refine xsu ?_)
  refine⟨k+1,by omega,by omega,To.mk [4] rfl rfl (by decide) ?_ ?_⟩
  ·(iterate 2((try simp(etaStruct := .none)only[push_cast,zab,seval,ts,List.map_append,z97,waP]);(try(refine xsu ?_;try exact xtI))))
  ·(iterate 2((try simp(etaStruct := .none)only[push_cast,zab,seval,List.length_take,List.length_map,zaa _ _ _ hlt,za7]);(try(refine xsu ?_;try exact xtI))))
 ·obtain rfl:k=l.length:=by omega
  iterate 2(try simp(etaStruct := .none)only[push_cast,zab,seval,List.length_take,List.length_map];try refine xsu ?_)
  refine znc (To.open 0 i 68 3 0 43 6 _ _ rfl (by simpa using hi)) (zco [0,1] rfl rfl (by decide) ⟨?_,?_,trivial⟩ trivial ?_)
  ·simp(etaStruct := .none)only[push_cast,zab,seval,List.take_length]
  ·simp(etaStruct := .none)only[push_cast,zab,seval,List.take_length,ydl l i hi]
  ·simp(etaStruct := .none)only[push_cast,zab,seval]
theorem z9u (l:List Sea) (o:Ord) (hl:l.length≤9223372036854775807) (hs:∀s∈l,zdg s) (h:znb l o=0):Spec Tryz.prog 12 [.c (.sl 3 (l.map za7)),zic o] [] (.tup [.c (.sl 3 ((z47 l o).map za7)),I .i64 0]) []:=by
 have SC:=zeh l hl hs
 have OC:=zf0 o
 unfold znb at h
 split at h
 ·rename_i h';exact absurd h h'
 rename_i hE
 have hE:za4 l=0:=by simpa using hE
 split at h
 ·rename_i h';exact absurd h h'
 rename_i hO
 have hO:zc7 o=0:=by simpa using hO
 split at h
 ·simp at h
 rename_i hby
 split at h
 ·simp at h
 rename_i hg
 split at h
 ·simp at h
 rename_i hw
 have hb0:=(zec hO).1.1
 have hlt:o.by_.toNat<l.length:=by omega
 have hl8:=(zcn hE).2.1
 have hwl:(l.getD o.by_.toNat default).waits.length≤50:=(zcn hE).2.2.1 _ (by rw[zad _ _ hlt];exact List.getElem_mem hlt)
 rw[hE]at SC
 rw[hO]at OC
 refine spB Tryz.func12 58 [.tmp 4,.tmp 5] Tryz.results12 ?_
 try refine xst ?_
 refine caP (SC) ?_
 try refine xst ?_
 refine cI (fun h1 => ?_) fun h1 => ?_
 ·try refine xst ?_
  refine caP (OC) ?_
  try refine xst ?_
  refine cI (fun h2 => ?_) fun h2 => ?_
  ·simp at h2
  ·try refine xst ?_
   refine cI (fun h3 => ?_) fun h3 => ?_
   ·omega
   ·try refine xz2 (gd hlt) zam ?_
    refine cI (fun h4 => ?_) fun h4 => ?_
    ·exact absurd h4 hg
    ·try refine xz2 (gd hlt) zam ?_
     refine cI (fun h5 => ?_) fun h5 => ?_
     ·omega
     ·try refine xz2 (gd hlt) zam ?_
      refine cI (fun h6 => ?_) fun h6 => ?_
      ·simp at h6
      ·try refine xz2 (gd hlt) zam ?_
       refine caM [] (ydv l (by omega) hs o.by_.toNat hlt) ?_
       try refine xz2 (gd hlt) zam ?_
       (try(refine⟨by kernel_rfl,?_⟩))
       try refine xz2 (gd hlt) zam ?_
       refine znc (To.close 1 _ _ _ _ _ _ _ _ _ _ rfl rfl) (znc (To.frzN 1 _ _ _ _ _ _ _ rfl) (zbe rfl (by repeat' (first|exact trivial|exact rfl|omega|refine⟨?_,?_⟩)) (Wk.tup ⟨Wk.of ?_,Wk.refl _,trivial⟩)))
       have ha:∀x,x=zch o→(l.getD o.by_.toNat default).waits.map zch ++ [x]=((l.getD o.by_.toNat default).waits ++ [o]).map zch:=by rintro _ rfl;simp
       show AV.c (.sl 3 _)=_
       rw[ha]
       ·rw[z9m l _ _ hlt];rfl
       ·rfl
 ·simp at h1
theorem znv (l:List Sea) (o:Ord):znb l o=0∨(za4 l≠0∧znb l o=za4 l)∨(za4 l=0∧zc7 o≠0∧znb l o=zc7 o)∨(za4 l=0∧zc7 o=0∧(l.length:Int)≤o.by_∧znb l o=7) ∨
 (za4 l=0∧zc7 o=0∧¬(l.length:Int)≤o.by_∧(l.getD o.by_.toNat default).gone=true∧znb l o=9) ∨
 (za4 l=0∧zc7 o=0∧¬(l.length:Int)≤o.by_∧(l.getD o.by_.toNat default).gone=false∧(l.getD o.by_.toNat default).waits.length=50∧znb l o=6):=by
 unfold znb
 split
 ·rename_i h;exact .inr (.inl ⟨h,rfl⟩)
 rename_i h1
 split
 ·rename_i h;exact .inr (.inr (.inl ⟨by simpa using h1,h,rfl⟩))
 rename_i h2
 split
 ·rename_i h;exact .inr (.inr (.inr (.inl ⟨by simpa using h1,by simpa using h2,h,rfl⟩)))
 rename_i h3
 split
 ·rename_i h;exact .inr (.inr (.inr (.inr (.inl ⟨by simpa using h1,by simpa using h2,h3,h,rfl⟩))))
 rename_i h4
 split
 ·rename_i h;exact .inr (.inr (.inr (.inr (.inr ⟨by simpa using h1,by simpa using h2,h3,by simpa using h4,h,rfl⟩))))
 ·exact .inl rfl
theorem z9z (l:List Sea) (o:Ord) (hl:l.length≤9223372036854775807) (hs:∀s∈l,zdg s) (h:za4 l≠0):Spec Tryz.prog 12 [.c (.sl 3 (l.map za7)),zic o] [] (.tup [.c (.sl 3 (([]:List Sea).map za7)),I .i64 (za4 l)]) []:=by
 have SC:=zeh l hl hs
 refine spB Tryz.func12 58 [.tmp 4,.tmp 5] Tryz.results12 ?_
 try refine xst ?_
 refine caP (SC) ?_
 try refine xst ?_
 refine cI (fun h1 => ?_) fun h1 => ?_
 ·exact absurd h1 h
 ·try refine xst ?_
  refine cI (fun h2 => ?_) fun h2 => ?_
  ·try refine xst ?_
   refine cI (fun h3 => ?_) fun h3 => ?_
   ·try refine xst ?_
    exact xrz rfl
   ·exact absurd h3 h
  ·exact absurd h2 h
theorem z9y (l:List Sea) (o:Ord) (hl:l.length≤9223372036854775807) (hs:∀s∈l,zdg s) (hE:za4 l=0) (h:zc7 o≠0):Spec Tryz.prog 12 [.c (.sl 3 (l.map za7)),zic o] [] (.tup [.c (.sl 3 (([]:List Sea).map za7)),I .i64 (zc7 o)]) []:=by
 have SC:=zeh l hl hs
 have OC:=zf0 o
 rw[hE]at SC
 refine spB Tryz.func12 58 [.tmp 4,.tmp 5] Tryz.results12 ?_
 try refine xst ?_
 refine caP (SC) ?_
 try refine xst ?_
 refine cI (fun h1 => ?_) fun h1 => ?_
 ·try refine xst ?_
  refine caP (OC) ?_
  try refine xst ?_
  refine cI (fun h2 => ?_) fun h2 => ?_
  ·try refine xst ?_
   refine cI (fun h3 => ?_) fun h3 => ?_
   ·try refine xst ?_
    exact xrz rfl
   ·exact absurd h3 h
  ·exact absurd h2 h
 ·simp at h1
theorem z9x (l:List Sea) (o:Ord) (hl:l.length≤9223372036854775807) (hs:∀s∈l,zdg s) (hE:za4 l=0) (hO:zc7 o=0) (h:(l.length:Int)≤o.by_):Spec Tryz.prog 12 [.c (.sl 3 (l.map za7)),zic o] [] (.tup [.c (.sl 3 (([]:List Sea).map za7)),I .i64 7]) []:=by
 have SC:=zeh l hl hs
 have OC:=zf0 o
 rw[hE]at SC
 rw[hO]at OC
 refine spB Tryz.func12 58 [.tmp 4,.tmp 5] Tryz.results12 ?_
 try refine xst ?_
 refine caP (SC) ?_
 try refine xst ?_
 refine cI (fun h1 => ?_) fun h1 => ?_
 ·try refine xst ?_
  refine caP (OC) ?_
  try refine xst ?_
  refine cI (fun h2 => ?_) fun h2 => ?_
  ·simp at h2
  ·try refine xst ?_
   refine cI (fun h3 => ?_) fun h3 => ?_
   ·try refine xst ?_
    refine cI (fun h4 => ?_) fun h4 => ?_
    ·try refine xst ?_
     exact xrz rfl
    ·simp at h4
   ·omega
 ·simp at h1
theorem z9w (l:List Sea) (o:Ord) (hl:l.length≤9223372036854775807) (hs:∀s∈l,zdg s) (hE:za4 l=0) (hO:zc7 o=0) (h:¬(l.length:Int)≤o.by_) (hg:(l.getD o.by_.toNat default).gone=true):Spec Tryz.prog 12 [.c (.sl 3 (l.map za7)),zic o] [] (.tup [.c (.sl 3 (([]:List Sea).map za7)),I .i64 9]) []:=by
 have SC:=zeh l hl hs
 have OC:=zf0 o
 rw[hE]at SC
 rw[hO]at OC
 have hb0:=(zec hO).1.1
 have hlt:o.by_.toNat<l.length:=by omega
 refine spB Tryz.func12 58 [.tmp 4,.tmp 5] Tryz.results12 ?_
 try refine xst ?_
 refine caP (SC) ?_
 try refine xst ?_
 refine cI (fun h1 => ?_) fun h1 => ?_
 ·try refine xst ?_
  refine caP (OC) ?_
  try refine xst ?_
  refine cI (fun h2 => ?_) fun h2 => ?_
  ·simp at h2
  ·try refine xst ?_
   refine cI (fun h3 => ?_) fun h3 => ?_
   ·omega
   ·try refine xz2 (gd hlt) zam ?_
    refine cI (fun h4 => ?_) fun h4 => ?_
    ·try refine xz2 (gd hlt) zam ?_
     refine cI (fun h5 => ?_) fun h5 => ?_
     ·try refine xz2 (gd hlt) zam ?_
      exact xrz rfl
     ·simp at h5
    ·rw[hg]at h4;simp at h4
 ·simp at h1
theorem z9v (l:List Sea) (o:Ord) (hl:l.length≤9223372036854775807) (hs:∀s∈l,zdg s) (hE:za4 l=0) (hO:zc7 o=0) (h:¬(l.length:Int)≤o.by_) (hg:(l.getD o.by_.toNat default).gone=false) (hw:(l.getD o.by_.toNat default).waits.length=50):Spec Tryz.prog 12 [.c (.sl 3 (l.map za7)),zic o] [] (.tup [.c (.sl 3 (([]:List Sea).map za7)),I .i64 6]) []:=by
 have SC:=zeh l hl hs
 have OC:=zf0 o
 rw[hE]at SC
 rw[hO]at OC
 have hb0:=(zec hO).1.1
 have hlt:o.by_.toNat<l.length:=by omega
 refine spB Tryz.func12 58 [.tmp 4,.tmp 5] Tryz.results12 ?_
 try refine xst ?_
 refine caP (SC) ?_
 try refine xst ?_
 refine cI (fun h1 => ?_) fun h1 => ?_
 ·try refine xst ?_
  refine caP (OC) ?_
  try refine xst ?_
  refine cI (fun h2 => ?_) fun h2 => ?_
  ·simp at h2
  ·try refine xst ?_
   refine cI (fun h3 => ?_) fun h3 => ?_
   ·omega
   ·try refine xz2 (gd hlt) zam ?_
    refine cI (fun h4 => ?_) fun h4 => ?_
    ·rw[hg]at h4;simp at h4
    ·try refine xz2 (gd hlt) zam ?_
     refine cI (fun h5 => ?_) fun h5 => ?_
     ·try refine xz2 (gd hlt) zam ?_
      refine cI (fun h6 => ?_) fun h6 => ?_
      ·try refine xz2 (gd hlt) zam ?_
       exact xrz rfl
      ·simp at h6
     ·omega
 ·simp at h1
theorem ydu (l:List Sea) (o:Ord) (hl:l.length≤9223372036854775807) (hs:∀s∈l,zdg s):Spec Tryz.prog 12 [.c (.sl 3 (l.map za7)),zic o] [] (.tup [.c (.sl 3 ((if znb l o=0 then z47 l o else []).map za7)),I .i64 (znb l o)]) []:=by
 rcases znv l o with h|⟨h1,h⟩|⟨h1,h2,h⟩|⟨h1,h2,h3,h⟩|⟨h1,h2,h3,h4,h⟩|⟨h1,h2,h3,h4,h5,h⟩
 ·rw[if_pos h];rw[h];exact z9u l o hl hs h
 ·rw[if_neg (by omega),h];exact z9z l o hl hs h1
 ·rw[if_neg (by omega),h];exact z9y l o hl hs h1 h2
 ·rw[if_neg (by omega),h];exact z9x l o hl hs h1 h2 h3
 ·rw[if_neg (by omega),h];exact z9w l o hl hs h1 h2 h3 h4
 ·rw[if_neg (by omega),h];exact z9v l o hl hs h1 h2 h3 h4 h5
theorem z0q (l:List Sea) (p:Int) (hl:l.length≤9223372036854775807) (hs:∀s∈l,zdg s) (hE:za4 l=0) (hp:¬(p<0∨(l.length:Int)≤p)) (hg:(l.getD p.toNat default).gone=false):Spec Tryz.prog 47 [.c (.sl 3 (l.map za7)),I .i64 p] [] (.tup [.c (.sl 3 ((zgy l p).map za7)),I .i64 0]) []:=by
 have SC:=zeh l hl hs
 rw[hE]at SC
 have hl8:=(zcn hE).2.1
 have hlt:p.toNat<l.length:=by omega
 refine spB Tryz.func47 37 [.tmp 4,.tmp 5] Tryz.results47 ?_
 try refine xst ?_
 refine caP (SC) ?_
 try refine xst ?_
 refine cI (fun h1 => ?_) fun h1 => ?_
 ·simp at h1
 ·try refine xst ?_
  refine cI (fun h2 => ?_) fun h2 => ?_
  ·omega
  ·try refine xz2 (gd hlt) zam ?_
   refine cI (fun h3 => ?_) fun h3 => ?_
   ·rw[hg]at h3;simp at h3
   ·try refine xz2 (gd hlt) zam ?_
    refine cI (fun h4 => ?_) fun h4 => ?_
    ·simp at h4
    ·try refine xz2 (gd hlt) zam ?_
     refine caM [] (z7y l (by omega) hs) ?_
     try refine xz2 (gd hlt) zam ?_
     refine zbe rfl (by repeat' (first|exact trivial|exact rfl|omega|refine⟨?_,?_⟩)) (Wk.tup ⟨?_,Wk.refl _,trivial⟩)
     show Wk (AV.c (.sl 3 _)) _
     rw[zyr]
     exact Wk.rows (RowsLe.set z42 _ _)
def zn3 (o:Ord):List Int := [o.by_,o.kind,o.who,o.c.x,o.c.y,o.what]
def zeb (l:List Ord):List Int:=l.flatMap zn3
theorem zfo:∀l:List Ord,(zeb l).length=6*l.length
 | []=>rfl
 | o::r=>by
  have:=zfo r
  unfold zeb at this ⊢
  rw[List.flatMap_cons,List.length_append,this,List.length_cons]
  simp only[zn3,List.length_cons,List.length_nil];omega
theorem zyi (l:List Ord) (k:Nat) (h:k<l.length):zeb (l.take (k+1))=zeb (l.take k)++zn3 (l.getD k default):=by
 unfold zeb
 rw[zav l k h,List.flatMap_append];simp
theorem zwi:∀(l:List Ord) (k j:Nat),k<l.length→j<6→(zeb l)[6*k+j]? = (zn3 (l.getD k default))[j]?
 | [],k,j,h,_=>by simp at h
 | o::r,0,j,_,hj=>by
  unfold zeb
  rw[List.flatMap_cons,Nat.mul_zero,Nat.zero_add,List.getElem?_append_left (by simp[zn3];omega)];rfl
 | o::r,k+1,j,h,hj=>by
  have ih:=zwi r k j (by simpa using h) hj
  unfold zeb at ih ⊢
  rw[List.flatMap_cons,List.getElem?_append_right (by simp[zn3];omega)]
  rw[show 6*(k+1)+j-(zn3 o).length=6*k+j from by simp[zn3];omega,ih]
  simp
theorem z1h {o:Ord} (h:zc7 o=0):∀x∈zn3 o,I64 x:=by
 obtain⟨h1,h2,h3,h4,h5,_⟩:=zec h
 intro x hx
 simp only[zn3,List.mem_cons,List.not_mem_nil,or_false]at hx
 unfold I64
 rcases hx with rfl|rfl|rfl|rfl|rfl|rfl<;>omega
theorem z5l {l:List Ord} (h:∀o∈l,zc7 o=0):∀x∈zeb l,I64 x:=by
 intro x hx
 unfold zeb at hx
 obtain⟨o,ho,hx⟩:=List.mem_flatMap.1 hx
 exact z1h (h o ho) x hx
def zq2 (l:List Ord):ByteArray:=zlt ⟨(paK (zeb l) (6*l.length)).toArray⟩
def zee (l:List Ord):ByteArray × Int:=if zcc l≠0 then (⟨#[]⟩,zcc l)else (zq2 l,0)
theorem z5i {l:List Ord} (h:l.length≤100):paR (zeb l)=(⟨(paK (zeb l) (6*l.length)).toArray⟩,0):=by
 unfold paR
 rw[zfo,if_neg (by omega)]
theorem ycp (s:ByteArray) (hs:s.size≤140737488351232):Spec Tryz.prog 80 [S s] [] (S (zlt s)) [] :=
 zcy (zfu Tryz.func80 (by kernel_rfl) rfl) [.string s] (.string (zlt s)) rfl fun w=>z41 s w hs
theorem z00 (s:ByteArray) (hs:s.size≤140737488351232):Spec Tryz.prog 57 [S s] [] (S (zlt s)) [] :=
 zcy (zfu Tryz.func57 (by kernel_rfl) rfl) [.string s] (.string (zlt s)) rfl fun w=>zx5 s w hs
theorem zrm (n:Nat) (h:n<18446744073709551616):Spec Tryz.prog 55 [.c (.v (.int .u64 n))] [] (S (zfx n)) [] :=
 zcy (zfu Tryz.func55 (by kernel_rfl) rfl) [.int .u64 n] (.string (zfx n)) rfl fun w=>zia n w h
theorem z05 (n:Int) (h:I64 n):Spec Tryz.prog 56 [I .i64 n] [] (.c (.v (.int .u64 (zek n:Nat)))) [] :=
 zcy (zfu Tryz.func56 (by kernel_rfl) rfl) [.int .i64 n] (.int .u64 (zek n:Nat)) rfl fun w=>(zod n h w).mono fun e w' h=>⟨h.1,h.2▸Below.refl _ _⟩
theorem z5j (l:List Ord) (hl:l.length≤9223372036854775807):Spec Tryz.prog 45 [.c (.sl 6 (l.map zch))] [] (.tup [S (zee l).1,I .i64 (zee l).2]) []:=by
 have OA:=z1o l hl
 by_cases h0:zcc l=0
 ·obtain⟨hl100,hok⟩:=zfy h0
  have hV:zee l=(zq2 l,0):=if_neg (by simp[h0])
  have PA:=zv8 (zeb l) (z5l hok) (by rw[zfo];omega)
  rw[z5i hl100]at PA
  have hsz:=zjz (zeb l) (6*l.length)
  have CS:=ycp ⟨(paK (zeb l) (6*l.length)).toArray⟩ (by rw[zm3];omega)
  have hw:zlt ⟨(paK (zeb l) (6*l.length)).toArray⟩=zq2 l:=rfl
  rw[hw]at CS
  rw[hV]
  rw[h0]at OA
  clear hV hsz hw
  simp only at PA
  generalize (⟨(paK (zeb l) (6*l.length)).toArray⟩:ByteArray)=T at *
  refine spB Tryz.func45 49 [.tmp 2,.tmp 3] Tryz.results45 ?_
  try refine xst ?_
  refine caP (OA) ?_
  try refine xst ?_
  refine cI (fun h1 => ?_) fun h1 => ?_
  ·simp at h1
  ·try refine xst ?_
   refine zas (fun k:Nat=>⟨[(17,I .i64 k),(16,I .i64 l.length),(15,.c (.sl 6 (l.map zch))),(5,.own 0)],[(0,.row 3 1 ((zeb (l.take k)).map zac))],1⟩) (fun k:Nat=>k≤l.length) (fun k:Nat=>l.length-k) (0) (Nat.zero_le _) ((To.nil 5 3 1 rfl).trans (To.mk [0] rfl rfl (by decide) ?_ ?_)) ?_
   ·simp(etaStruct := .none)only[push_cast,zab,seval,zeb,List.take_zero,List.flatMap_nil,List.map_nil]
   ·simp(etaStruct := .none)only[push_cast,zab,seval]
   rintro k hk
   try refine xst ?_
   refine cI (fun h2 => ?_) fun h2 => ?_
   ·have hlt:k<l.length:=by omega
    have hS:=zyi l k hlt
    have hSl:=zfo (l.take k)
    have hSk:(l.take k).length≤k:=List.length_take_le _ _
    try refine xz2 (gd hlt) za0 ?_
    refine⟨k+1,by omega,by omega,To.mk [3] rfl rfl (by decide) ?_ ?_⟩
    ·(iterate 2((try simp(etaStruct := .none)only[push_cast,zab,seval,hS,List.map_append,zn3,List.map_cons,List.map_nil,zac]);(try(refine xsu ?_;try exact xtI))))
    ·(try(refine xz2 (gd hlt) za0 ?_;try exact xtI))
   ·obtain rfl:k=l.length:=by omega
    iterate 2(try simp(etaStruct := .none)only[push_cast,zab,seval,List.take_length];try refine xsu ?_)
    refine zbv (PA) (WkL.refl _) rfl ?_
    iterate 2(try simp(etaStruct := .none)only[push_cast,zab,seval,List.take_length];try refine xsu ?_)
    refine cI (fun h3 => ?_) fun h3 => ?_
    ·simp at h3
    ·iterate 2(try simp(etaStruct := .none)only[push_cast,zab,seval,List.take_length];try refine xsu ?_)
     refine caP (CS) ?_
     iterate 2(try simp(etaStruct := .none)only[push_cast,zab,seval,List.take_length];try refine xsu ?_)
     exact xrz rfl
 ·have hV:zee l=(⟨#[]⟩,zcc l):=if_pos h0
  rw[hV]
  generalize zcc l=e at *
  refine spB Tryz.func45 49 [.tmp 2,.tmp 3] Tryz.results45 ?_
  try refine xst ?_
  refine caP (OA) ?_
  try refine xst ?_
  refine cI (fun h1 => ?_) fun h1 => ?_
  ·try refine xst ?_
   exact xrz rfl
  ·exact absurd h1 h0
end Go.Proofs.YtbapdgmcndgieaaGreat
namespace Go.Proofs.YtbapdgmcndgieaaGreat
set_option linter.all false
open Go.RowKit
set_option maxRecDepth 100000
set_option maxHeartbeats 800000
theorem z45 (l:List Sea) (most:Int) (hl:l.length≤9223372036854775807) (hs:∀s∈l,zdg s) (h0:za4 l=0) (hm:1≤most∧most≤100) :
 Spec Tryz.prog 43 [.c (.sl 3 (l.map za7)),I .i64 most] [] (.tup [.c (.sl 3 ((zdn most l).2.map za7)),.c (.sl 6 ((zdn most l).1.map zch)),I .i64 0]) []:=by
 obtain⟨h1,h8,hw50,hr⟩:=zcn h0
 have hlate:∀k,k<l.length→0≤(l.getD k default).late∧(l.getD k default).late≤1000000:=fun k hk=>(z0s (hr k hk)).1
 have CS:=zeh l hl hs
 rw[h0]at CS
 refine spB Tryz.func43 102 [.tmp 4,.tmp 5,.tmp 6] Tryz.results43 ?_
 try refine xst ?_
 refine caP (CS) ?_
 try refine xst ?_
 refine cI (fun h1 => ?_) fun h1 => ?_
 ·simp at h1
 ·try refine xst ?_
  refine cI (fun h2 => ?_) fun h2 => ?_
  ·omega
  ·try refine xst ?_
   refine caM [] (z7y l (by omega) hs) ?_
   try refine xst ?_
   refine zas (fun k:Nat=>⟨[(29,I .i64 k),(28,I .i64 l.length),(1,I .i64 most),(0,.own 0)],[(0,.row 68 3 ((zgs zb5 k l).map za7))],1⟩) (fun k:Nat=>k≤l.length) (fun k:Nat=>l.length-k) (0) (Nat.zero_le _) (To.mk [0] rfl rfl (by decide) ?_ ?_) ?_
   ·simp(etaStruct := .none)only[push_cast,zab,seval,z1d]
   ·simp(etaStruct := .none)only[push_cast,zab,seval]
   rintro k hk
   try refine xst ?_
   refine cI (fun h3 => ?_) fun h3 => ?_
   ·have hlt:k<l.length:=by omega
    have hltp:k<(zgs zb5 k l).length:=by rw[zcp];exact hlt
    have pg:=zyg zb5 k l hlt
    have hla:=hlate k hlt
    iterate 2(try simp(etaStruct := .none)only[push_cast,zab,seval,zaa _ _ _ hltp,zcp,pg,za7];try refine xsu ?_)
    refine cI (fun h4 => ?_) fun h4 => ?_
    ·have e:zb5 (l.getD k default)=⟨(l.getD k default).waits,0,(l.getD k default).gone⟩:=by unfold zb5;rw[if_pos (by omega)]
     iterate 2(try simp(etaStruct := .none)only[push_cast,zab,seval,zaa _ _ _ hltp,zcp,pg,za7];try refine xsu ?_)
     refine⟨k+1,by omega,by omega,To.mk [0] rfl rfl (by decide) ?_ ?_⟩
     ·try refine xst ?_
      first
      | (rw[zhd _ _ _ hlt,List.map_set,e];rfl)
      | rw[zjx _ _ _ hlt e]
     ·(iterate 2((try simp(etaStruct := .none)only[push_cast,zab,seval,zaa _ _ _ hltp,zcp,pg,za7]);(try(refine xsu ?_;try exact xtI))))
    ·iterate 2(try simp(etaStruct := .none)only[push_cast,zab,seval,zaa _ _ _ hltp,zcp,pg,za7];try refine xsu ?_)
     refine cI (fun h5 => ?_) fun h5 => ?_
     ·have e:zb5 (l.getD k default)=⟨(l.getD k default).waits,min ((l.getD k default).late+1) 1000000,(l.getD k default).gone⟩:=by unfold zb5;rw[if_neg (by omega),if_neg (by rw[h5];simp)]
      have em:(if 1000000<(l.getD k default).late+1 then 1000000 else (l.getD k default).late+1)=min ((l.getD k default).late+1) 1000000:=by split<;>omega
      iterate 2(try simp(etaStruct := .none)only[push_cast,zab,seval,zaa _ _ _ hltp,zcp,pg,za7,em];try refine xsu ?_)
      refine⟨k+1,by omega,by omega,To.mk [0] rfl rfl (by decide) ?_ ?_⟩
      ·try refine xst ?_
       first
       | (rw[zhd _ _ _ hlt,List.map_set,e];rfl)
       | rw[zjx _ _ _ hlt e]
      ·(iterate 2((try simp(etaStruct := .none)only[push_cast,zab,seval,zaa _ _ _ hltp,zcp,pg,za7,em]);(try(refine xsu ?_;try exact xtI))))
     ·have e:zb5 (l.getD k default)=l.getD k default:=by unfold zb5;rw[if_neg (by omega),if_pos h5]
      iterate 2(try simp(etaStruct := .none)only[push_cast,zab,seval,zaa _ _ _ hltp,zcp,pg,za7];try refine xsu ?_)
      refine⟨k+1,by omega,by omega,To.mk [0] rfl rfl (by decide) ?_ ?_⟩
      ·try refine xst ?_
       first
       | (rw[zhd _ _ _ hlt,List.map_set,e];rfl)
       | rw[zjx _ _ _ hlt e]
      ·(iterate 2((try simp(etaStruct := .none)only[push_cast,zab,seval,zaa _ _ _ hltp,zcp,pg,za7]);(try(refine xsu ?_;try exact xtI))))
   ·obtain rfl:k=l.length:=by omega
    have S0L:(l.map zb5).length=l.length:=by simp
    have S0s:∀s∈l.map zb5,zdg s:=fun s hh=>by obtain⟨t,ht,rfl⟩:=List.mem_map.1 hh;exact hs t ht
    iterate 2(try simp(etaStruct := .none)only[push_cast,zab,seval,zbs];try refine xsu ?_)
    refine zas (fun x:(List Ord × List Sea) × Bool=>⟨[(11,B x.2),(10,.own 1),(1,I .i64 most),(0,.own 0)],[(0,.row 68 3 (x.1.2.map za7)),(1,.row 43 6 (x.1.1.map zch))],2⟩) (fun x:(List Ord × List Sea) × Bool=>(∃n,x.1=itS most n ([],l.map zb5))∧x.1.1.length≤100∧x.1.2.length=l.length∧(∀s∈x.1.2,zdg s)∧(x.2=false→tkS most x.1.1 x.1.2=x.1)) (fun x:(List Ord × List Sea) × Bool=>yc4 x.1.2+(if x.2 then 1 else 0)) ((([],l.map zb5),true)) (⟨⟨0,rfl⟩,by simp,by simp,S0s,fun h=>by simp at h⟩) ((To.nil 10 43 6 rfl).trans (To.mk [0,1] rfl rfl (by decide) ?_ ?_)) ?_
    ·simp(etaStruct := .none)only[push_cast,zab,seval]
    ·simp(etaStruct := .none)only[push_cast,zab,seval]
    rintro⟨⟨out,S⟩,again⟩ ⟨⟨n,hit⟩,q1,q2,q3,q4⟩
    simp only at hit q1 q2 q3 q4
    iterate 2(try simp(etaStruct := .none)only[push_cast,zab,seval,zbs];try refine xsu ?_)
    refine zal (fun h6 => ?_) (fun h6 => ?_)
    ·(try replace h6:=xhh h6)
     obtain rfl:again=true:=h6
     iterate 2(try simp(etaStruct := .none)only[push_cast,zab,seval,zbs,q2];try refine xsu ?_)
     refine zas (fun y:Nat × (List Ord × List Sea) × Bool=>⟨[(64,I .i64 y.1),(63,I .i64 l.length),(11,B y.2.2),(10,.own 1),(1,I .i64 most),(0,.own 0)],[(0,.row 68 3 (y.2.1.2.map za7)),(1,.row 43 6 (y.2.1.1.map zch))],2⟩) (fun y:Nat × (List Ord × List Sea) × Bool=>y.1≤l.length∧y.2.1.2.length=l.length∧tkS most out S=((tkS most y.2.1.1 (y.2.1.2.drop y.1)).1,y.2.1.2.take y.1++(tkS most y.2.1.1 (y.2.1.2.drop y.1)).2)∧y.2.2=decide (out.length<y.2.1.1.length)∧out.length≤y.2.1.1.length∧y.2.1.1.length≤100∧∀s∈y.2.1.2,zdg s) (fun y:Nat × (List Ord × List Sea) × Bool=>l.length-y.1) ((0,(out,S),false)) (⟨Nat.zero_le _,q2,by simp,by simp,Nat.le_refl _,q1,q3⟩) (To.mk [0,1] rfl rfl (by decide) ?_ ?_) ?_
     ·simp(etaStruct := .none)only[push_cast,zab,seval]
     ·simp(etaStruct := .none)only[push_cast,zab,seval]
     rintro⟨i,⟨o,R⟩,ag⟩ ⟨p1,p2,p3,p4,p5,p6,p7⟩
     simp only at p1 p2 p3 p4 p5 p6 p7
     iterate 2(try simp(etaStruct := .none)only[push_cast,zab,seval,zbs,q2];try refine xsu ?_)
     refine zal (fun h7 => ?_) (fun h7 => ?_)
     ·(try replace h7:=xhh h7)
      have hlt:i<R.length:=by omega
      have hw:=p7 _ (za9 R i hlt)
      have dr:=zuu R i hlt
      iterate 2(try simp(etaStruct := .none)only[push_cast,zab,seval,zbs,q2,zaa _ _ _ hlt,za7];try refine xsu ?_)
      refine zal (fun h8 => ?_) (fun h8 => ?_)
      ·(try replace h8:=xhh h8)
       have hw0:0<(R.getD i default).waits.length:=by omega
       have ed:List.drop 1 (List.map zch (R.getD i default).waits)=((R.getD i default).waits.drop 1).map zch:=by rw[List.map_drop]
       iterate 2(try simp(etaStruct := .none)only[push_cast,zab,seval,zbs,q2,zaa _ _ _ hlt,za7,zaa _ _ _ hw0,zch,ed];try refine xsu ?_)
       (try(refine⟨by kernel_rfl,?_⟩))
       iterate 2(try simp(etaStruct := .none)only[push_cast,zab,seval,zbs,q2,zaa _ _ _ hlt,za7,zaa _ _ _ hw0,zch,ed];try refine xsu ?_)
       refine⟨(i+1,(o ++ [(R.getD i default).waits.getD 0 default],R.set i ⟨(R.getD i default).waits.drop 1,(R.getD i default).late,(R.getD i default).gone⟩),true),⟨by simp only;omega,by simp only[List.length_set];exact p2,by
 simp only
 rw[p3,dr,List.drop_set_of_lt (by omega),List.take_set,zav R i hlt]
 simp only[tkS]
 rw[if_pos ⟨hw0,by omega⟩,List.set_append_right _ _ (by simp;omega)]
 simp [Nat.min_eq_left (Nat.le_of_lt hlt)], by simp; omega, by simp; omega, by simp; omega, z44 p7 (by unfold zdg at hw ⊢; simp only [List.length_drop]; omega)⟩, by simp only; omega, To.mk [0, 38] rfl rfl (by decide) ?_ ?_⟩
       ·iterate 2(try simp(etaStruct := .none)only[push_cast,zab,seval,List.map_set,List.map_append];try refine xsu ?_)
        exact⟨rfl,rfl⟩
       ·(iterate 2((try simp(etaStruct := .none)only[push_cast,zab,seval,zbs,q2,zaa _ _ _ hlt,za7,zaa _ _ _ hw0,zch,ed]);(try(refine xsu ?_;try exact xtI))))
      ·(try replace h8:=xhh h8)
       iterate 2(try simp(etaStruct := .none)only[push_cast,zab,seval,zbs,q2,zaa _ _ _ hlt,za7];try refine xsu ?_)
       refine⟨(i+1,(o,R),ag),⟨by simp only;omega,p2,by
 simp only
 have hc:¬(0<(R.getD i default).waits.length∧(o.length:Int)<most):=by omega
 rw[p3,dr,zav R i hlt]
 simp only[tkS]
 rw[if_neg hc]
 simp, p4, p5, p6, p7⟩, by simp only; omega, To.mk [0, 1] rfl rfl (by decide) ?_ ?_⟩
       ·(iterate 2((try simp(etaStruct := .none)only[push_cast,zab,seval,zbs,q2,zaa _ _ _ hlt,za7]);(try(refine xsu ?_;try exact xtI))))
       ·(iterate 2((try simp(etaStruct := .none)only[push_cast,zab,seval,zbs,q2,zaa _ _ _ hlt,za7]);(try(refine xsu ?_;try exact xtI))))
     ·(try replace h7:=xhh h7)
      obtain rfl:i=l.length:=by omega
      have pe:tkS most out S=(o,R):=by
       rw[p3,List.drop_eq_nil_of_le (by omega),List.take_of_length_le (by omega)];simp[tkS]
      iterate 2(try simp(etaStruct := .none)only[push_cast,zab,seval,zbs,q2];try refine xsu ?_)
      refine⟨((o,R),ag),⟨⟨n+1,by rw[zjb,←hit];exact pe.symm⟩,p6,p2,p7,fun ha=>by
 have hlen:o.length=out.length:=by
  simp only at ha
  rw[p4]at ha
  have:=of_decide_eq_false ha
  omega
 have:=zvm most S out (by rw[pe];exact hlen)
 rw[pe]at this
 obtain⟨rfl,rfl⟩:=Prod.mk.inj this
 exact pe⟩,by
 have hsum:=ztr most S out
 rw[pe]at hsum
 simp only at hsum ⊢
 rw[p4]
 by_cases hh:out.length<o.length
 ·rw[decide_eq_true hh];simp;omega
 ·rw [decide_eq_false hh]; simp; omega, To.mk [0, 1] rfl rfl (by decide) ?_ ?_⟩
      ·(iterate 2((try simp(etaStruct := .none)only[push_cast,zab,seval,zbs,q2]);(try(refine xsu ?_;try exact xtI))))
      ·(iterate 2((try simp(etaStruct := .none)only[push_cast,zab,seval,zbs,q2]);(try(refine xsu ?_;try exact xtI))))
    ·(try replace h6:=xhh h6)
     have hz:=q4 h6
     have ec:zdn most l=(out,S):=by
      have h9:tkS most (itS most n ([],l.map zb5)).1 (itS most n ([],l.map zb5)).2=itS most n ([],l.map zb5):=by rw[←hit];exact hz
      rw[z68 hw50 h9,←hit]
     iterate 2(try simp(etaStruct := .none)only[push_cast,zab,seval,zbs];try refine xsu ?_)
     exact zbe rfl trivial (by rw[ec];exact Wk.refl _)
end Go.Proofs.YtbapdgmcndgieaaGreat
namespace Go.Proofs.YtbapdgmcndgieaaGreat
set_option linter.all false
open Go.RowKit
set_option maxRecDepth 100000
def zpi (w:Wld) (n:Int):Int:=if zah w≠0 then zah w else if w.bases.length=0∨¬(1≤n∧n≤100)then 1 else 0
def zq0 (w:Wld) (n:Int):Hst:=if zpi w n=0 then ⟨⟨w,[]⟩,List.replicate w.bases.length ⟨[],0,false⟩,2 ^ w.bases.length-1,List.replicate 16 0,n⟩else default
def zdb (h:Hst):List Ord:=(zdn h.most h.seats).1
def zh5 (WR:Cel→List Int) (h:Hst):Int:=if zd1 WR h.sty (zdb h)≠0 then zd1 WR h.sty (zdb h)else (zee (zdb h)).2
def zna (WR:Cel→List Int) (h:Hst):ByteArray:=if zd1 WR h.sty (zdb h)≠0 then ⟨#[]⟩else (zee (zdb h)).1
def zlp (WR:Cel→List Int) (h:Hst):Hst:=if zd1 WR h.sty (zdb h)≠0 then h else { h with seats:=(zdn h.most h.seats).2,sty:=zf1 WR h.sty (zdb h) }
def zsr (m m':Nat) (k:Nat):Bool:=zen m k && !zen m' k
def zce (m m':Nat) (l:List Sea):Nat→List Sea
 | 0=>l
 | k+1=>if zsr m m' k then zgy (zce m m' l k) k else zce m m' l k
def znk (h:Hst) (b a:Int):Int:=(zdh h.m h.ag b a).2.2
def zu1 (h:Hst) (b a:Int):Hst:=if znk h b a≠0 then h else { h with seats:=zce h.m (zdh h.m h.ag b a).1.1 h.seats h.seats.length,m:=(zdh h.m h.ag b a).1.1,ag:=(zdh h.m h.ag b a).1.2 }
theorem zeq (m m':Nat) (l:List Sea):∀k,(zce m m' l k).length=l.length
 | 0=>rfl
 | k+1=>by
  unfold zce
  split
  ·unfold zgy;rw[List.length_set,zeq m m' l k]
  ·exact zeq m m' l k
theorem zsh (m m':Nat) (l:List Sea) (j:Nat):∀k,k≤j→(zce m m' l k).getD j default=l.getD j default
 | 0,_=>rfl
 | k+1,h=>by
  have ih:=zsh m m' l j k (by omega)
  unfold zce
  split
  ·unfold zgy
   rw[List.getD_eq_getElem?_getD,List.getElem?_set_ne (by omega),←List.getD_eq_getElem?_getD];exact ih
  ·exact ih
theorem z43 (i:Int):znu ⟨[],0,true⟩ i=true:=by simp[znu,ziw,zap]
theorem zx4 {l:List Sea} (h:za4 l=0) (p:Nat) (hp:p<l.length):za4 (zgy l p)=0:=by
 obtain⟨h1,h2,h3,h4⟩:True∧(1≤l.length∧l.length≤8)∧(∀s∈l,s.waits.length≤50)∧∀i,i<l.length→znu (l.getD i default) i=true:=by
  unfold za4 at h
  split at h
  ·omega
  split at h
  ·omega
  split at h
  ·rename_i a1 a2 a3
   refine⟨trivial,by omega,fun s hs => ?_,fun i hi=>List.all_eq_true.1 a3 i (List.mem_range.2 hi)⟩
   exact Nat.not_lt.1 fun hx=>a2 (List.any_eq_true.2 ⟨s,hs,decide_eq_true hx⟩)
  ·omega
 unfold za4 zgy
 rw[List.length_set,if_neg (by omega),if_neg,if_pos]
 ·rw[List.all_eq_true]
  intro i hi
  have hi:=List.mem_range.1 hi
  rw[List.getD_eq_getElem?_getD,List.getElem?_set]
  by_cases hpi:(p:Int).toNat=i
  ·rw[if_pos hpi,if_pos (by rw[hpi];exact hi)];exact z43 _
  ·rw[if_neg hpi,←List.getD_eq_getElem?_getD];exact h4 i hi
 ·rw[List.any_eq_true]
  rintro⟨s,hs,hx⟩
  rw[decide_eq_true_iff]at hx
  rcases List.mem_or_eq_of_mem_set hs with e|e
  ·have:=h3 s e;omega
  ·subst e;simp at hx
theorem zgz {m m':Nat} {l:List Sea} (h:za4 l=0):∀k,k≤l.length→za4 (zce m m' l k)=0
 | 0,_=>h
 | k+1,hk=>by
  have ih:=zgz (m:=m) (m':=m') h k (by omega)
  unfold zce
  split
  ·exact zx4 ih k (by rw[zeq];omega)
  ·exact ih
theorem yd1 {l:List Sea} (h:za4 l=0):∀s∈l,zdg s:=fun s hs=>by
 unfold zdg
 have:=(zcn h).2.2.1 s hs;omega
end Go.Proofs.YtbapdgmcndgieaaGreat
namespace Go.Proofs.YtbapdgmcndgieaaGreat
set_option linter.all false
open Go.RowKit
set_option maxRecDepth 100000
set_option maxHeartbeats 2000000
theorem yim (b:Nat) (h8:b≤8):IntKind.u32.wrap (IntKind.u32.wrap (2 ^ min b IntKind.u32.bits)-1)=((2 ^ b-1:Nat):Int):=by
 have:b=0∨b=1∨b=2∨b=3∨b=4∨b=5∨b=6∨b=7∨b=8:=by omega
 rcases this with rfl|rfl|rfl|rfl|rfl|rfl|rfl|rfl|rfl<;>decide
theorem yb4 (w:Wld) (n:Int) (WR:Cel→List Int) (hWR:∀a,zai w.f [a] (WR a)) (hl:zdf w) (hE:zpi w n=0) (hw:Right w) (h0:0<w.bases.length) (h8:w.bases.length≤8) (hn:1≤n∧n≤100):Spec Tryz.prog 7 [zbk w,I .i64 n] [] (.tup [zhu (zq0 w n),I .i64 0]) []:=by
 have V:=znq w [] WR hWR hl (fun _ h=>by simp at h)
 have v0:ze3 WR [] w=0:=by unfold ze3;rw[if_neg (by simp),if_neg (fun hn=>hn hw.e)];rfl
 rw[v0,show zgq WR [] w=w from if_pos v0]at V
 have eH:zq0 w n=⟨⟨w,[]⟩,List.replicate w.bases.length ⟨[],0,false⟩,2 ^ w.bases.length-1,List.replicate 16 0,n⟩:=if_pos hE
 rw[eH]
 refine spB Tryz.func7 49 [.cell 4 39,.tmp 5] Tryz.results7 ?_
 (iterate 2((try simp(etaStruct := .none)only[push_cast,seval]);(try(refine xsu ?_;try exact xtI))))
 refine zct (V) (by exact⟨Wk.refl _,Wk.nil _,trivial⟩) ?_
 (iterate 2((try simp(etaStruct := .none)only[push_cast,seval]);(try(refine xsu ?_;try exact xtI))))
 refine cI (fun h1 => ?_) fun h1 => ?_
 ·simp at h1
 ·(iterate 2((try simp(etaStruct := .none)only[push_cast,seval]);(try(refine xsu ?_;try exact xtI))))
  refine gcP (fun hcc=>zul n) ?_
  (iterate 2((try simp(etaStruct := .none)only[push_cast,seval]);(try(refine xsu ?_;try exact xtI))))
  refine cI (fun h2 => ?_) fun h2 => ?_
  ·omega
  ·(iterate 2((try simp(etaStruct := .none)only[push_cast,seval]);(try(refine xsu ?_;try exact xtI))))
   refine caP (ydw w.bases.length (by omega)) ?_
   (iterate 2((try simp(etaStruct := .none)only[push_cast,seval]);(try(refine xsu ?_;try exact xtI))))
   refine zbi [some 38,some 39,some 40,some 41,some 42,some 11,none] rfl ?_
   intro Oq lq Rq hlq hdq hRq
   subst hlq
   iterate 7(refine za2 fun rq hrq => ?_;(iterate 2((try simp(etaStruct := .none)only[push_cast,seval,hdq,id]);(try(refine xsu ?_;try exact xtI))));subst hrq)
   refine zjo ?_
   subst hRq
   clear hdq Oq
   refine zjn (by kernel_rfl) ?_
   (iterate 2((try simp(etaStruct := .none)only[push_cast,seval]);(try(refine xsu ?_;try exact xtI))))
   refine zbe rfl (by repeat' (first|exact trivial|exact rfl|refine⟨?_,?_⟩)) (Wk.tup ⟨Wk.agg ⟨Wk.refl _,Wk.refl _,Wk.refl _,Wk.refl _,Wk.refl _,Wk.refl _,Wk.refl _,Wk.refl _,Wk.refl _,Wk.nil _,Wk.of ?_,Wk.of ?_,Wk.of ?_,Wk.refl _,trivial⟩,Wk.refl _,trivial⟩)
   ·rfl
   ·show AV.c (.v (.int .u32 (IntKind.u32.wrap (IntKind.u32.wrap (1*2 ^ min w.bases.length IntKind.u32.bits)-1))))=_
    rw[Int.one_mul,yim w.bases.length h8]
   ·rfl
theorem ydy (h:Hst) (WR:Cel→List Int) (hWR:∀a,zai h.sty.start.f [a] (WR a)) (hl:HstL h) (h0:za4 h.seats=0) (hm:1≤h.most∧h.most≤100) (hlen:(zdb h).length≤9223372036854775807):Spec Tryz.prog 13 [.ptr 0 0 0] [.blk 39 (zzf h)] (.tup [S (zna WR h),I .i64 (zh5 WR h)]) [.blk 39 (zzf (zlp WR h))]:=by
 have C1:=z45 h.seats h.most hl.l hl.a h0 hm
 have C2:=z93 h.sty (zdb h) WR hWR hl.s hlen
 have C3:=z5j (zdb h) hlen
 refine spB Tryz.func13 48 [.tmp 2,.tmp 3] Tryz.results13 ?_
 (iterate 2((try simp(etaStruct := .none)only[push_cast,seval]);(try(refine xsu ?_;try exact xtI))))
 refine zbi [some 9,some 10,some 11,some 12,some 13,some 14,some 15,some 16,some 17,some 8,some 18,some 19,some 20,some 4,some 5,some 6] rfl ?_
 intro Oq lq Rq hlq hdq hRq
 subst hlq
 iterate 8(refine za2 fun rq hrq => ?_;(iterate 2((try simp(etaStruct := .none)only[push_cast,seval,hdq,id]);(try(refine xsu ?_;try exact xtI))));subst hrq)
 refine za2 fun rq hrq => ?_
 (iterate 2((try simp(etaStruct := .none)only[push_cast,seval,hdq,id]);(try(refine xsu ?_;try exact xtI))))
 refine caP (C1) ?_
 (iterate 2((try simp(etaStruct := .none)only[push_cast,seval,hdq,id]);(try(refine xsu ?_;try exact xtI))))
 subst hrq
 iterate 7(refine za2 fun rq hrq => ?_;(iterate 2((try simp(etaStruct := .none)only[push_cast,seval,hdq,id]);(try(refine xsu ?_;try exact xtI))));subst hrq)
 refine zjo ?_
 subst hRq
 clear hdq Oq
 refine zjn (by kernel_rfl) ?_
 (iterate 2((try simp(etaStruct := .none)only[push_cast,seval]);(try(refine xsu ?_;try exact xtI))))
 refine cI (fun h1 => ?_) fun h1 => ?_
 ·simp at h1
 ·(iterate 2((try simp(etaStruct := .none)only[push_cast,seval]);(try(refine xsu ?_;try exact xtI))))
  refine caP (C2) ?_
  (iterate 2((try simp(etaStruct := .none)only[push_cast,seval]);(try(refine xsu ?_;try exact xtI))))
  refine cI (fun h2 => ?_) fun h2 => ?_
  ·have eT:zna WR h=⟨#[]⟩:=by unfold zna;rw[if_pos h2]
   have eE:zh5 WR h=zd1 WR h.sty (zdb h):=by unfold zh5;rw[if_pos h2]
   have eH:zlp WR h=h:=by unfold zlp;rw[if_pos h2]
   rw[eT,eE,eH]
   (iterate 2((try simp(etaStruct := .none)only[push_cast,seval]);(try(refine xsu ?_;try exact xtI))))
   refine zco [0] rfl rfl (by decide) ⟨?_,trivial⟩ (by repeat' (first|exact trivial|exact rfl|refine⟨?_,?_⟩)) ?_<;>first|exact Wk.refl _|exact wkc|(try simp(etaStruct := .none)only[push_cast,zab,seval])
  ·have eT:zna WR h=(zee (zdb h)).1:=by unfold zna;rw[if_neg (by simpa using h2)]
   have eE:zh5 WR h=(zee (zdb h)).2:=by unfold zh5;rw[if_neg (by simpa using h2)]
   have eH:zlp WR h = { h with seats:=(zdn h.most h.seats).2,sty:=zf1 WR h.sty (zdb h) }:=by unfold zlp;rw[if_neg (by simpa using h2)]
   rw[eT,eE,eH]
   (iterate 2((try simp(etaStruct := .none)only[push_cast,seval]);(try(refine xsu ?_;try exact xtI))))
   refine zbi [some 36,some 37,some 38,some 39,some 40,some 41,none,some 42,some 43,none] rfl ?_
   intro Oq lq Rq hlq hdq hRq
   subst hlq
   iterate 10(refine za2 fun rq hrq => ?_;(iterate 2((try simp(etaStruct := .none)only[push_cast,seval,hdq,id]);(try(refine xsu ?_;try exact xtI))));subst hrq)
   refine zjo ?_
   subst hRq
   clear hdq Oq
   refine zjn (by kernel_rfl) ?_
   (iterate 2((try simp(etaStruct := .none)only[push_cast,seval]);(try(refine xsu ?_;try exact xtI))))
   refine caP (C3) ?_
   (iterate 2((try simp(etaStruct := .none)only[push_cast,seval]);(try(refine xsu ?_;try exact xtI))))
   refine zco [0] rfl rfl (by decide) ⟨?_,trivial⟩ (by repeat' (first|exact trivial|exact rfl|refine⟨?_,?_⟩)) ?_<;>first|exact Wk.refl _|exact wkc|(try simp(etaStruct := .none)only[push_cast,zab,seval])
theorem yfo (w:Wld) (n:Int) (WR:Cel→List Int) (hWR:∀a,zai w.f [a] (WR a)) (hl:zdf w) (h:zah w≠0):Spec Tryz.prog 7 [zbk w,I .i64 n] [] (.tup [zhu default,I .i64 (zah w)]) []:=by
 have V:=znq w [] WR hWR hl (fun _ h=>by simp at h)
 have v0:ze3 WR [] w=zah w:=by unfold ze3;rw[if_neg (by simp),if_pos h]
 rw[v0]at V
 refine spB Tryz.func7 49 [.cell 4 39,.tmp 5] Tryz.results7 ?_
 (iterate 2((try simp(etaStruct := .none)only[push_cast,seval]);(try(refine xsu ?_;try exact xtI))))
 refine zct (V) (by exact⟨Wk.refl _,Wk.nil _,trivial⟩) ?_
 (iterate 2((try simp(etaStruct := .none)only[push_cast,seval]);(try(refine xsu ?_;try exact xtI))))
 refine cI (fun h1 => ?_) fun h1 => ?_
 ·(iterate 2((try simp(etaStruct := .none)only[push_cast,seval]);(try(refine xsu ?_;try exact xtI))))
  exact xrz rfl
 ·exact absurd h1 h
theorem yfp (w:Wld) (n:Int) (WR:Cel→List Int) (hWR:∀a,zai w.f [a] (WR a)) (hl:zdf w) (hw:Right w) (h:w.bases.length=0∨¬(1≤n∧n≤100)):Spec Tryz.prog 7 [zbk w,I .i64 n] [] (.tup [zhu default,I .i64 1]) []:=by
 have V:=znq w [] WR hWR hl (fun _ h=>by simp at h)
 have v0:ze3 WR [] w=0:=by unfold ze3;rw[if_neg (by simp),if_neg (fun hn=>hn hw.e)];rfl
 rw[v0,show zgq WR [] w=w from if_pos v0]at V
 refine spB Tryz.func7 49 [.cell 4 39,.tmp 5] Tryz.results7 ?_
 (iterate 2((try simp(etaStruct := .none)only[push_cast,seval]);(try(refine xsu ?_;try exact xtI))))
 refine zct (V) (by exact⟨Wk.refl _,Wk.nil _,trivial⟩) ?_
 (iterate 2((try simp(etaStruct := .none)only[push_cast,seval]);(try(refine xsu ?_;try exact xtI))))
 refine cI (fun h1 => ?_) fun h1 => ?_
 ·simp at h1
 ·(iterate 2((try simp(etaStruct := .none)only[push_cast,seval]);(try(refine xsu ?_;try exact xtI))))
  refine gcP (fun hcc=>zul n) ?_
  (iterate 2((try simp(etaStruct := .none)only[push_cast,seval]);(try(refine xsu ?_;try exact xtI))))
  refine cI (fun h2 => ?_) fun h2 => ?_
  ·(iterate 2((try simp(etaStruct := .none)only[push_cast,seval]);(try(refine xsu ?_;try exact xtI))))
   exact xrz rfl
  ·omega
theorem z8r (w:Wld) (n:Int) (WR:Cel→List Int) (hWR:∀a,zai w.f [a] (WR a)) (hl:zdf w):Spec Tryz.prog 7 [zbk w,I .i64 n] [] (.tup [zhu (zq0 w n),I .i64 (zpi w n)]) []:=by
 by_cases h:zah w=0
 ·have hw:=zds h
  by_cases h2:w.bases.length=0∨¬(1≤n∧n≤100)
  ·have e:zpi w n=1:=by unfold zpi;rw[if_neg (fun x=>x h),if_pos h2]
   have e2:zq0 w n=default:=by unfold zq0;rw[e];rfl
   rw[e,e2]
   exact yfp w n WR hWR hl hw h2
  ·have e:zpi w n=0:=by unfold zpi;rw[if_neg (fun x=>x h),if_neg h2]
   have:=yb4 w n WR hWR hl e hw (by omega) hw.nb (by omega)
   rwa [e]
 ·have e:zpi w n=zah w:=by unfold zpi;rw[if_pos h]
  have e2:zq0 w n=default:=by unfold zq0;rw[e,if_neg h]
  rw[e,e2]
  exact yfo w n WR hWR hl h
theorem zjm (n k:Nat):zen n k=n.testBit k:=by
 unfold zen
 rw[Nat.testBit_eq_decide_div_mod_eq,Bool.eq_iff_iff]
 simp
theorem z20 (m n k:Nat) (hm:m<4294967296) (hn:n<4294967296) (hk:k<32):decide (bits .and .u32 ((bits .andNot .u32 (m:Int) (n:Int)).fdiv (2 ^ min k IntKind.u32.bits)) 1=1)=zsr m n k:=by
 rw[zor m n hm hn]
 have hle:m &&& (4294967295-n)≤m:=Nat.and_le_left
 rw[z4e _ k (by omega) hk]
 unfold zsr
 rw[zjm,zjm,zjm,Nat.testBit_and]
 have h2:=Nat.testBit_two_pow_sub_succ (n:=32) (x:=n) (by omega) k
 rw[show (2 ^ 32-(n+1):Nat)=4294967295-n by omega]at h2
 rw[h2,decide_eq_true (by omega),Bool.true_and]
theorem z75:∀(n m:Nat) (g:List Nat),(zqz n m g).1≤m
 | 0,_,_=>Nat.le_refl _
 | n+1,m,g=>by
  unfold zqz
  split
  ·exact Nat.le_refl _
  ·exact Nat.le_trans (z75 n _ _) (zoi _ _)
theorem zxr (m:Nat) (g:List Nat) (b a:Int):(zdh m g b a).1.1≤m:=by
 unfold zdh
 repeat' split
 all_goals first|exact Nat.zero_le _|exact z75 _ _ _
theorem yb8 (h:Hst) (b a:Int) (hl:HstL h) (h0:za4 h.seats=0) (hg:∀i,i<h.seats.length→zit h i=true):Spec Tryz.prog 14 [.ptr 0 0 0,I .i64 b,I .i64 a] [.blk 39 (zzf h)] (I .i64 (znk h b a)) [.blk 39 (zzf (zu1 h b a))]:=by
 have C:=yf6 h.m h.ag b a hl.m hl.g hl.e
 have hv:=zxr h.m h.ag b a
 have hm:=hl.m
 have h8:=(zcn h0).2.1
 unfold zu1 znk
 generalize zdh h.m h.ag b a=V at *
 obtain⟨⟨m',g'⟩,x,e⟩:=V
 simp only at hv C ⊢
 refine spB Tryz.func14 62 [.tmp 6] Tryz.results14 ?_
 (iterate 2((try simp(etaStruct := .none)only[push_cast,seval]);(try(refine xsu ?_;try exact xtI))))
 refine caP (C) ?_
 (iterate 2((try simp(etaStruct := .none)only[push_cast,seval]);(try(refine xsu ?_;try exact xtI))))
 refine cI (fun h1 => ?_) fun h1 => ?_
 ·rw[if_pos h1]
  (iterate 2((try simp(etaStruct := .none)only[push_cast,seval]);(try(refine xsu ?_;try exact xtI))))
  refine zco [0] rfl rfl (by decide) ⟨?_,trivial⟩ (by repeat' (first|exact trivial|exact rfl|refine⟨?_,?_⟩)) ?_<;>first|exact Wk.refl _|exact wkc|(try simp(etaStruct := .none)only[push_cast,zab,seval])
 ·have h1':e=0:=by simpa using h1
  subst h1'
  rw[if_neg (fun x=>x rfl)]
  have l0:zce h.m m' h.seats 0=h.seats:=rfl
  (iterate 2((try simp(etaStruct := .none)only[push_cast,seval]);(try(refine xsu ?_;try exact xtI))))
  refine zas (fun k:Nat=>⟨[(30,I .i64 k),(29,I .i64 h.seats.length),(7,.ptr 1 0 0),(0,.ptr 0 0 0)],[(0,.blk 39 (zzf { h with seats:=zce h.m m' h.seats k })),(1,.blk 37 [I .u32 m',.c (.sl 1 (g'.map zc9))])],2⟩) (fun k:Nat=>k≤h.seats.length) (fun k:Nat=>h.seats.length-k) (0) (Nat.zero_le _) (To.mk [0,1] rfl rfl (by decide) ?_ ?_) ?_
  ·simp(etaStruct := .none)only[push_cast,zab,seval,l0]
  ·simp(etaStruct := .none)only[push_cast,zab,seval]
  rintro k hk
  (iterate 2((try simp(etaStruct := .none)only[push_cast,seval]);(try(refine xsu ?_;try exact xtI))))
  refine cI (fun h2 => ?_) fun h2 => ?_
  ·have hlt:k<h.seats.length:=by omega
   have hgt:=z20 h.m m' k hm (by omega) (by omega)
   have hlk:=zeq h.m m' h.seats k
   have hr:=zgz (m:=h.m) (m':=m') h0 k (by omega)
   (iterate 2((try simp(etaStruct := .none)only[push_cast,seval,hgt]);(try(refine xsu ?_;try exact xtI))))
   refine zbi [some 33,some 34,some 35,some 36,some 37,some 38,some 39,some 40,some 41,some 42,some 43,some 44] rfl ?_
   intro Oq lq Rq hlq hdq hRq
   subst hlq
   iterate 12(refine za2 fun rq hrq => ?_;(iterate 2((try simp(etaStruct := .none)only[push_cast,seval,hdq,id,hgt]);(try(refine xsu ?_;try exact xtI))));subst hrq)
   refine zjo ?_
   subst hRq
   clear hdq Oq
   refine zjn (by kernel_rfl) ?_
   (iterate 2((try simp(etaStruct := .none)only[push_cast,seval,hgt]);(try(refine xsu ?_;try exact xtI))))
   refine cI (fun h3 => ?_) fun h3 => ?_
   ·have hbk:zen h.m k=true:=by
     have h3':=h3
     unfold zsr at h3'
     rw[Bool.and_eq_true]at h3'
     exact h3'.1
    have hgn:((zce h.m m' h.seats k).getD k default).gone=false:=by
     rw[zsh _ _ _ _ _ (Nat.le_refl _)]
     have hx:=hg k hlt
     unfold zit at hx
     rw[of_decide_eq_true hx,hbk];rfl
    have hs:zce h.m m' h.seats (k+1)=zgy (zce h.m m' h.seats k) k:=if_pos h3
    (iterate 2((try simp(etaStruct := .none)only[push_cast,seval,hgt]);(try(refine xsu ?_;try exact xtI))))
    refine caP (z0q (zce h.m m' h.seats k) k (by omega) (yd1 hr) hr (by omega) (by rw[Int.toNat_natCast];exact hgn)) ?_
    (iterate 2((try simp(etaStruct := .none)only[push_cast,seval,hgt]);(try(refine xsu ?_;try exact xtI))))
    refine⟨k+1,by omega,by omega,To.mk [0,1] rfl rfl (by decide) ?_ ?_⟩
    ·(iterate 2((try simp(etaStruct := .none)only[push_cast,seval,hs]);(try(refine xsu ?_;try exact xtI))))
    ·(iterate 2((try simp(etaStruct := .none)only[push_cast,seval,hgt]);(try(refine xsu ?_;try exact xtI))))
   ·have hs:zce h.m m' h.seats (k+1)=zce h.m m' h.seats k:=if_neg (by rw[h3];decide)
    (iterate 2((try simp(etaStruct := .none)only[push_cast,seval,hgt]);(try(refine xsu ?_;try exact xtI))))
    refine⟨k+1,by omega,by omega,To.mk [0,1] rfl rfl (by decide) ?_ ?_⟩
    ·(iterate 2((try simp(etaStruct := .none)only[push_cast,seval,hs]);(try(refine xsu ?_;try exact xtI))))
    ·(iterate 2((try simp(etaStruct := .none)only[push_cast,seval,hgt]);(try(refine xsu ?_;try exact xtI))))
  ·obtain rfl:k=h.seats.length:=by omega
   (iterate 2((try simp(etaStruct := .none)only[push_cast,seval]);(try(refine xsu ?_;try exact xtI))))
   refine zco [0] rfl rfl (by decide) ⟨?_,trivial⟩ (by repeat' (first|exact trivial|exact rfl|refine⟨?_,?_⟩)) ?_<;>first|exact Wk.refl _|exact wkc|(try simp(etaStruct := .none)only[push_cast,zab,seval])
structure Clq where
 kind:Int
 o:Ord
 by_:Int
 at_:Int
deriving Inhabited
abbrev zxp (c:Clq):AV := .agg [I .i64 c.kind,I .i64 c.o.by_,I .i64 c.o.kind,I .i64 c.o.who,I .i64 c.o.c.x,I .i64 c.o.c.y,I .i64 c.o.what,I .i64 c.by_,I .i64 c.at_]
def doV (WR:Cel→List Int) (h:Hst) (c:Clq):Hst × ByteArray × Int :=
 if c.kind=1 then (if znb h.seats c.o=0 then ({ h with seats:=z47 h.seats c.o },⟨#[]⟩,0)else (h,⟨#[]⟩,znb h.seats c.o))
 else if c.kind=2 then (if zh5 WR h=0 then (zlp WR h,zna WR h,0)else (h,⟨#[]⟩,zh5 WR h))
 else if c.kind=3 then (if znk h c.by_ c.at_=0 then (zu1 h c.by_ c.at_,⟨#[]⟩,0)else (h,⟨#[]⟩,znk h c.by_ c.at_))
 else (h,⟨#[]⟩,1)
abbrev doA (r:Hst × ByteArray × Int):AV := .tup [zhu r.1,S r.2.1,I .i64 r.2.2]
theorem yi2 (h:Hst) (c:Clq) (WR:Cel→List Int) (hWR:∀a,zai h.sty.start.f [a] (WR a)) (hl:HstL h) (hb:HstB h) (hE:zhz WR h≠0):Spec Tryz.prog 4 [zhu h,zxp c] [] (doA (h,⟨#[]⟩,zhz WR h)) []:=by
 refine spB Tryz.func4 51 [.cell 4 39,.tmp 5,.tmp 6] Tryz.results4 ?_
 try refine xst ?_
 refine caP (zg1 h hb) ?_
 try refine xst ?_
 refine caP (zf8 h WR hWR hl) ?_
 try refine xst ?_
 refine cI (fun h1 => ?_) fun h1 => ?_
 ·try refine xst ?_
  exact xrz rfl
 ·exact absurd h1 hE
theorem yi6 (h:Hst) (c:Clq) (WR:Cel→List Int) (hWR:∀a,zai h.sty.start.f [a] (WR a)) (hl:HstL h) (hb:HstB h) (hE:zhz WR h=0) (hk:c.kind=1):Spec Tryz.prog 4 [zhu h,zxp c] [] (doA (doV WR h c)) []:=by
 have C:=zf8 h WR hWR hl
 have D:=ydu h.seats c.o hl.l hl.a
 have eV:doV WR h c=if znb h.seats c.o=0 then ({ h with seats:=z47 h.seats c.o },⟨#[]⟩,0)else (h,⟨#[]⟩,znb h.seats c.o):=by unfold doV;rw[if_pos hk]
 rw[hE]at C
 rw[eV]
 refine spB Tryz.func4 51 [.cell 4 39,.tmp 5,.tmp 6] Tryz.results4 ?_
 try refine xst ?_
 refine caP (zg1 h hb) ?_
 try refine xst ?_
 refine caP (C) ?_
 try refine xst ?_
 refine cI (fun h1 => ?_) fun h1 => ?_
 ·simp at h1
 ·try refine xst ?_
  refine cI (fun h2 => ?_) fun h2 => ?_
  ·try refine xst ?_
   refine caP (D) ?_
   try refine xst ?_
   refine cI (fun h3 => ?_) fun h3 => ?_
   ·rw[if_neg h3]
    try refine xst ?_
    exact xrz rfl
   ·rw[if_pos h3,if_pos h3]
    try refine xst ?_
    exact xrz rfl
  ·exact absurd hk h2
theorem yi5 (h:Hst) (c:Clq) (WR:Cel→List Int) (hWR:∀a,zai h.sty.start.f [a] (WR a)) (hl:HstL h) (hb:HstB h) (hE:zhz WR h=0) (h0:za4 h.seats=0) (hm:1≤h.most∧h.most≤100) (hlen:(zdb h).length≤9223372036854775807) (hk:c.kind=2):Spec Tryz.prog 4 [zhu h,zxp c] [] (doA (doV WR h c)) []:=by
 have C:=zf8 h WR hWR hl
 have D:=ydy h WR hWR hl h0 hm hlen
 have eV:doV WR h c=if zh5 WR h=0 then (zlp WR h,zna WR h,0)else (h,⟨#[]⟩,zh5 WR h):=by unfold doV;rw[if_neg (by omega),if_pos hk]
 rw[hE]at C
 rw[eV]
 refine spB Tryz.func4 51 [.cell 4 39,.tmp 5,.tmp 6] Tryz.results4 ?_
 try refine xst ?_
 refine caP (zg1 h hb) ?_
 try refine xst ?_
 refine caP (C) ?_
 try refine xst ?_
 refine cI (fun h1 => ?_) fun h1 => ?_
 ·simp at h1
 ·try refine xst ?_
  refine cI (fun h2 => ?_) fun h2 => ?_
  ·omega
  ·try refine xst ?_
   refine cI (fun h3 => ?_) fun h3 => ?_
   ·try refine xst ?_
    refine caM [3] (D) ?_
    try refine xst ?_
    refine cI (fun h4 => ?_) fun h4 => ?_
    ·rw[if_neg h4]
     try refine xst ?_
     exact xrz rfl
    ·rw[if_pos h4]
     try refine xst ?_
     exact xrz rfl
   ·exact absurd hk h3
theorem yi4 (h:Hst) (c:Clq) (WR:Cel→List Int) (hWR:∀a,zai h.sty.start.f [a] (WR a)) (hl:HstL h) (hb:HstB h) (hE:zhz WR h=0) (h0:za4 h.seats=0) (hg:∀i,i<h.seats.length→zit h i=true) (hk:c.kind=3):Spec Tryz.prog 4 [zhu h,zxp c] [] (doA (doV WR h c)) []:=by
 have C:=zf8 h WR hWR hl
 have D:=yb8 h c.by_ c.at_ hl h0 hg
 have eV:doV WR h c=if znk h c.by_ c.at_=0 then (zu1 h c.by_ c.at_,⟨#[]⟩,0)else (h,⟨#[]⟩,znk h c.by_ c.at_):=by unfold doV;rw[if_neg (by omega),if_neg (by omega),if_pos hk]
 rw[hE]at C
 rw[eV]
 refine spB Tryz.func4 51 [.cell 4 39,.tmp 5,.tmp 6] Tryz.results4 ?_
 try refine xst ?_
 refine caP (zg1 h hb) ?_
 try refine xst ?_
 refine caP (C) ?_
 try refine xst ?_
 refine cI (fun h1 => ?_) fun h1 => ?_
 ·simp at h1
 ·try refine xst ?_
  refine cI (fun h2 => ?_) fun h2 => ?_
  ·omega
  ·try refine xst ?_
   refine cI (fun h3 => ?_) fun h3 => ?_
   ·omega
   ·try refine xst ?_
    refine cI (fun h4 => ?_) fun h4 => ?_
    ·try refine xst ?_
     refine caM [3] (D) ?_
     try refine xst ?_
     refine cI (fun h5 => ?_) fun h5 => ?_
     ·rw[if_neg h5]
      try refine xst ?_
      exact xrz rfl
     ·rw[if_pos h5]
      try refine xst ?_
      exact xrz rfl
    ·exact absurd hk h4
theorem yi3 (h:Hst) (c:Clq) (WR:Cel→List Int) (hWR:∀a,zai h.sty.start.f [a] (WR a)) (hl:HstL h) (hb:HstB h) (hE:zhz WR h=0) (hk:¬(1≤c.kind∧c.kind≤3)):Spec Tryz.prog 4 [zhu h,zxp c] [] (doA (doV WR h c)) []:=by
 have C:=zf8 h WR hWR hl
 have eV:doV WR h c=(h,⟨#[]⟩,1):=by unfold doV;rw[if_neg (by omega),if_neg (by omega),if_neg (by omega)]
 rw[hE]at C
 rw[eV]
 refine spB Tryz.func4 51 [.cell 4 39,.tmp 5,.tmp 6] Tryz.results4 ?_
 try refine xst ?_
 refine caP (zg1 h hb) ?_
 try refine xst ?_
 refine caP (C) ?_
 try refine xst ?_
 refine cI (fun h1 => ?_) fun h1 => ?_
 ·simp at h1
 ·try refine xst ?_
  refine cI (fun h2 => ?_) fun h2 => ?_
  ·omega
  ·try refine xst ?_
   refine cI (fun h3 => ?_) fun h3 => ?_
   ·omega
   ·try refine xst ?_
    refine cI (fun h4 => ?_) fun h4 => ?_
    ·omega
    ·try refine xst ?_
     refine cI (fun h5 => ?_) fun h5 => ?_
     ·try refine xst ?_
      exact xrz rfl
     ·simp at h5
end Go.Proofs.YtbapdgmcndgieaaGreat
