/- Lemmas for the proof of topCouncil.proved. -/
import Derived.Test.YtmjbgbmegbkmhaaGreatTCo7
namespace Go.Proofs.YtmjbgbmegbkmhaaGreat
set_option linter.all false
open Go.RowKit
set_option maxRecDepth 100000
set_option maxHeartbeats 2000000
theorem zlz (k:Int):zf2 k=0↔k=1∨k=2:=by unfold zf2;split<;>(try split)<;>omega
theorem zxc {w:Wld} (hw:Right w) {i:Nat} (hi:i<w.bases.length) : -1000≤(w.bases.getD i default).x∧(w.bases.getD i default).x≤1000 ∧ -1000≤(w.bases.getD i default).y∧(w.bases.getD i default).y≤1000:=by
 have:=inF_iff.1 (ground_iff.1 (hw.base i hi).1).1
 have:=zbi hw.f
 omega
theorem z20 (w:Wld) (d:Ded) (hw:Right w) (h:w.stocks.length≤d.who.toNat):Spec Tryz.prog 137 [.ptr 0 0 0,zpl d] (zfx w) (B false) (zfx w):=by
 have hsl:=hw.sl
 have hg:(w.stocks.map zac).getD d.who.toNat [] = []:=by
  simp only[List.getD_eq_getElem?_getD];rw[List.getElem?_eq_none (by rw[List.length_map];exact h)];rfl
 have hge:d.who<0∨(w.bases.length:Int)≤d.who:=by omega
 refine spB Tryz.func137 126 [.tmp 4] Tryz.results137 ?_
 (iterate 2((try simp(etaStruct := .none) (maxSteps:=1000000)only[push_cast,zab,seval,hg]);(try(refine xsu ?_;try exact xtI))))
 refine caP (zhe d.what) ?_
 (iterate 2((try simp(etaStruct := .none) (maxSteps:=1000000)only[push_cast,zab,seval,hg]);(try(refine xsu ?_;try exact xtI))))
 (try(refine⟨by kernel_rfl,?_⟩))
 (iterate 2((try simp(etaStruct := .none) (maxSteps:=1000000)only[push_cast,zab,seval,hg]);(try(refine xsu ?_;try exact xtI))))
 refine cI (fun h1 => ?_) fun h1 => ?_
 ·(iterate 2((try simp(etaStruct := .none) (maxSteps:=1000000)only[push_cast,zab,seval,hg]);(try(refine xsu ?_;try exact xtI))))
  refine zby [0,1,2,3] rfl rfl (by decide) ⟨?_,?_,?_,?_,trivial⟩ trivial ?_<;>first|exact Wk.refl _|simp(etaStruct := .none)only[push_cast,zab,seval]
 ·exact absurd h1 (by decide)
theorem zwk (w:Wld) (d:Ded) (hw:Right w) (h:d.who.toNat<w.stocks.length) (hno:zl4 w d=false∨ztx w (w.bases.getD d.who.toNat default)=none):Spec Tryz.prog 137 [.ptr 0 0 0,zpl d] (zfx w) (B false) (zfx w):=by
 have hsl:=hw.sl
 have hb:d.who.toNat<w.bases.length:=by omega
 have hbb:=zxc hw hb
 have hnt:=hw.nt
 refine spB Tryz.func137 126 [.tmp 4] Tryz.results137 ?_
 (iterate 2((try simp(etaStruct := .none) (maxSteps:=1000000)only[push_cast,zab,seval,zaa _ _ _ h,zaa _ _ _ hb,zac,za3]);(try(refine xsu ?_;try exact xtI))))
 refine caP (zhe d.what) ?_
 (iterate 2((try simp(etaStruct := .none) (maxSteps:=1000000)only[push_cast,zab,seval,zaa _ _ _ h,zaa _ _ _ hb,zac,za3]);(try(refine xsu ?_;try exact xtI))))
 (try(refine⟨by kernel_rfl,?_⟩))
 (iterate 2((try simp(etaStruct := .none) (maxSteps:=1000000)only[push_cast,zab,seval,zaa _ _ _ h,zaa _ _ _ hb,zac,za3]);(try(refine xsu ?_;try exact xtI))))
 refine cI (fun h1 => ?_) fun h1 => ?_
 ·(iterate 2((try simp(etaStruct := .none) (maxSteps:=1000000)only[push_cast,zab,seval,zaa _ _ _ h,zaa _ _ _ hb,zac,za3]);(try(refine xsu ?_;try exact xtI))))
  refine zby [0,1,2,3] rfl rfl (by decide) ⟨?_,?_,?_,?_,trivial⟩ trivial ?_<;>first|exact Wk.refl _|simp(etaStruct := .none)only[push_cast,zab,seval]
 ·have hy:zl4 w d=true:=by rw[hireOk_iff,←zlz];exact⟨⟨⟨⟨⟨by omega,by omega⟩,by omega⟩,by omega⟩,by omega⟩,by omega⟩
  have hf:ztx w (w.bases.getD d.who.toNat default)=none:=by rcases hno with h2|h2;rw[hy]at h2;simp at h2;exact h2
  (iterate 2((try simp(etaStruct := .none) (maxSteps:=1000000)only[push_cast,zab,seval,zaa _ _ _ h,zaa _ _ _ hb,zac,za3]);(try(refine xsu ?_;try exact xtI))))
  refine zfv [0,1,2,3] (z21 w (w.bases.getD d.who.toNat default) hw hbb ⟨0,0⟩ false ⟨fun c' hc=>by rw[hf]at hc;simp at hc,fun _=>⟨rfl,rfl⟩⟩) (WkL.refl _) rfl (by decide) (by simp[zbn,zfh,zsb]) ?_
  (iterate 2((try simp(etaStruct := .none) (maxSteps:=1000000)only[push_cast,zab,seval,zaa _ _ _ h,zaa _ _ _ hb,zac,za3]);(try(refine xsu ?_;try exact xtI))))
  (try(refine⟨by kernel_rfl,?_⟩))
  (iterate 2((try simp(etaStruct := .none) (maxSteps:=1000000)only[push_cast,zab,seval,zaa _ _ _ h,zaa _ _ _ hb,zac,za3]);(try(refine xsu ?_;try exact xtI))))
  refine cI (fun h2 => ?_) fun h2 => ?_
  ·(iterate 2((try simp(etaStruct := .none) (maxSteps:=1000000)only[push_cast,zab,seval,zaa _ _ _ h,zaa _ _ _ hb,zac,za3]);(try(refine xsu ?_;try exact xtI))))
   refine zby [0,1,2,3] rfl rfl (by decide) ⟨?_,?_,?_,?_,trivial⟩ trivial ?_<;>first|exact Wk.refl _|simp(etaStruct := .none)only[push_cast,zab,seval]
  ·exact absurd h2 (by decide)
abbrev z48 (w:Wld):List Chunk := [.blk 200 (yd5 w 1 2 4),stR w,miR w,.dead,trR w]
theorem z2z (w:Wld) (d:Ded) (hw:Right w) (ho:zl4 w d=true) (c:Cel) (hc:ztx w (w.bases.getD d.who.toNat default)=some c):Spec Tryz.prog 137 [.ptr 0 0 0,zpl d] (zfx w) (B true) (z48 (zdw w d c)):=by
 have hsl:=hw.sl
 have hoi:=hireOk_iff.1 ho
 rw[←zlz]at hoi
 have h:d.who.toNat<w.stocks.length:=by omega
 have hb:d.who.toNat<w.bases.length:=by omega
 have hbb:=zxc hw hb
 have hnt:=hw.nt
 have hnx:=hw.nx
 have hst:=(hw.base _ hb).2.1
 have hpr:0≤(zbc d.what).price∧(zbc d.what).price≤12:=by rcases (zlz _).1 hoi.1.1.1.2 with e|e<;>rw[e]<;>decide
 have ew:IntKind.i64.wrap (w.stocks.getD d.who.toNat default-(zbc d.what).price)=w.stocks.getD d.who.toNat default-(zbc d.what).price:=zak _ (by omega) (by omega)
 have ew2:IntKind.i64.wrap (w.next+1)=w.next+1:=zak _ (by omega) (by omega)
 refine spB Tryz.func137 126 [.tmp 4] Tryz.results137 ?_
 (iterate 2((try simp(etaStruct := .none) (maxSteps:=1000000)only[push_cast,zab,seval,zaa _ _ _ h,zaa _ _ _ hb,zac,za3,ew,ew2]);(try(refine xsu ?_;try exact xtI))))
 refine caP (zhe d.what) ?_
 (iterate 2((try simp(etaStruct := .none) (maxSteps:=1000000)only[push_cast,zab,seval,zaa _ _ _ h,zaa _ _ _ hb,zac,za3,ew,ew2]);(try(refine xsu ?_;try exact xtI))))
 (try(refine⟨by kernel_rfl,?_⟩))
 (iterate 2((try simp(etaStruct := .none) (maxSteps:=1000000)only[push_cast,zab,seval,zaa _ _ _ h,zaa _ _ _ hb,zac,za3,ew,ew2]);(try(refine xsu ?_;try exact xtI))))
 refine cI (fun h1 => ?_) fun h1 => ?_
 ·exfalso;omega
 ·(iterate 2((try simp(etaStruct := .none) (maxSteps:=1000000)only[push_cast,zab,seval,zaa _ _ _ h,zaa _ _ _ hb,zac,za3,ew,ew2]);(try(refine xsu ?_;try exact xtI))))
  refine zfv [0,1,2,3] (z21 w (w.bases.getD d.who.toNat default) hw hbb c true ⟨fun c' hc'=>by rw[hc]at hc';exact⟨(Option.some.inj hc'),rfl⟩,fun hn=>by rw[hc]at hn;simp at hn⟩) (WkL.refl _) rfl (by decide) (by simp[zbn,zfh,zsb]) ?_
  (iterate 2((try simp(etaStruct := .none) (maxSteps:=1000000)only[push_cast,zab,seval,zaa _ _ _ h,zaa _ _ _ hb,zac,za3,ew,ew2]);(try(refine xsu ?_;try exact xtI))))
  (try(refine⟨by kernel_rfl,?_⟩))
  (iterate 2((try simp(etaStruct := .none) (maxSteps:=1000000)only[push_cast,zab,seval,zaa _ _ _ h,zaa _ _ _ hb,zac,za3,ew,ew2]);(try(refine xsu ?_;try exact xtI))))
  refine cI (fun h2 => ?_) fun h2 => ?_
  ·exact absurd h2 (by decide)
  ·(iterate 2((try simp(etaStruct := .none) (maxSteps:=1000000)only[push_cast,zab,seval,zaa _ _ _ h,zaa _ _ _ hb,zac,za3,ew,ew2]);(try(refine xsu ?_;try exact xtI))))
   (try(refine⟨by kernel_rfl,?_⟩))
   (iterate 2((try simp(etaStruct := .none) (maxSteps:=1000000)only[push_cast,zab,seval,zaa _ _ _ h,zaa _ _ _ hb,zac,za3,ew,ew2]);(try(refine xsu ?_;try exact xtI))))
   (try(refine⟨by kernel_rfl,?_⟩))
   (iterate 2((try simp(etaStruct := .none) (maxSteps:=1000000)only[push_cast,zab,seval,zaa _ _ _ h,zaa _ _ _ hb,zac,za3,ew,ew2]);(try(refine xsu ?_;try exact xtI))))
   refine zby [0,1,2,3,350] rfl rfl (by decide) ⟨?_,?_,?_,?_,?_,trivial⟩ trivial ?_
   ·simp(etaStruct := .none) (maxSteps:=1000000)only[push_cast,zab,seval,zdw]
   ·simp(etaStruct := .none) (maxSteps:=1000000)only[push_cast,zab,seval,zdw,List.map_set,zac]
   ·simp(etaStruct := .none) (maxSteps:=1000000)only[push_cast,zab,seval,zdw]
   ·simp(etaStruct := .none) (maxSteps:=1000000)only[push_cast,zab,seval,zdw]
   ·simp(etaStruct := .none) (maxSteps:=1000000)only[push_cast,zab,seval,zdw,List.map_append,zaw]
   ·exact Wk.refl _
theorem ztv (w W:Wld) (d:Ded) (b:Bool) (h:d.kind=1) (M:Spec Tryz.prog 135 [.ptr 0 0 0,zpl d] (zfx w) (B b) (zfx W)):Spec Tryz.prog 93 [.ptr 0 0 0,zpl d] (zfx w) (B b) (zfx W):=by
 refine spB Tryz.func93 22 [.tmp 4] Tryz.results93 ?_
 try refine xst ?_
 refine cI (fun h1 => ?_) fun h1 => ?_
 ·try refine xst ?_
  refine caM [0,1,2,3] (M) ?_
  try refine xst ?_
  refine zby [0,1,2,3] rfl rfl (by decide) ⟨?_,?_,?_,?_,trivial⟩ trivial ?_<;>first|exact Wk.refl _|simp(etaStruct := .none)only[push_cast,zab,seval]
 ·exact absurd h h1
theorem ztu (w W:Wld) (d:Ded) (b:Bool) (h:d.kind=2) (M:Spec Tryz.prog 136 [.ptr 0 0 0,zpl d] (zfx w) (B b) (zfx W)):Spec Tryz.prog 93 [.ptr 0 0 0,zpl d] (zfx w) (B b) (zfx W):=by
 refine spB Tryz.func93 22 [.tmp 4] Tryz.results93 ?_
 try refine xst ?_
 refine cI (fun h1 => ?_) fun h1 => ?_
 ·exfalso;omega
 ·try refine xst ?_
  refine cI (fun h2 => ?_) fun h2 => ?_
  ·try refine xst ?_
   refine caM [0,1,2,3] (M) ?_
   try refine xst ?_
   refine zby [0,1,2,3] rfl rfl (by decide) ⟨?_,?_,?_,?_,trivial⟩ trivial ?_<;>first|exact Wk.refl _|simp(etaStruct := .none)only[push_cast,zab,seval]
  ·exact absurd h h2
theorem ztt (w:Wld) (d:Ded) (h:d.kind=3) (M:Spec Tryz.prog 137 [.ptr 0 0 0,zpl d] (zfx w) (B false) (zfx w)):Spec Tryz.prog 93 [.ptr 0 0 0,zpl d] (zfx w) (B false) (zfx w):=by
 refine spB Tryz.func93 22 [.tmp 4] Tryz.results93 ?_
 try refine xst ?_
 refine cI (fun h1 => ?_) fun h1 => ?_
 ·exfalso;omega
 ·try refine xst ?_
  refine cI (fun h2 => ?_) fun h2 => ?_
  ·exfalso;omega
  ·try refine xst ?_
   refine cI (fun h3 => ?_) fun h3 => ?_
   ·try refine xst ?_
    refine caM [0,1,2,3] (M) ?_
    try refine xst ?_
    refine zby [0,1,2,3] rfl rfl (by decide) ⟨?_,?_,?_,?_,trivial⟩ trivial ?_<;>first|exact Wk.refl _|simp(etaStruct := .none)only[push_cast,zab,seval]
   ·exact absurd h h3
theorem yc0 (w:Wld) (d:Ded) (h:d.kind≠1∧d.kind≠2∧d.kind≠3):Spec Tryz.prog 93 [.ptr 0 0 0,zpl d] (zfx w) (B false) (zfx w):=by
 refine spB Tryz.func93 22 [.tmp 4] Tryz.results93 ?_
 try refine xst ?_
 refine cI (fun h1 => ?_) fun h1 => ?_
 ·exfalso;omega
 ·try refine xst ?_
  refine cI (fun h2 => ?_) fun h2 => ?_
  ·exfalso;omega
  ·try refine xst ?_
   refine cI (fun h3 => ?_) fun h3 => ?_
   ·exfalso;omega
   ·try refine xst ?_
    refine zby [0,1,2,3] rfl rfl (by decide) ⟨?_,?_,?_,?_,trivial⟩ trivial ?_<;>first|exact Wk.refl _|simp(etaStruct := .none)only[push_cast,zab,seval]
theorem ycz (w W:Wld) (d:Ded) (h:d.kind=3) (M:Spec Tryz.prog 137 [.ptr 0 0 0,zpl d] (zfx w) (B true) (z48 W)):Spec Tryz.prog 93 [.ptr 0 0 0,zpl d] (zfx w) (B true) (z48 W):=by
 refine spB Tryz.func93 22 [.tmp 4] Tryz.results93 ?_
 try refine xst ?_
 refine cI (fun h1 => ?_) fun h1 => ?_
 ·exfalso;omega
 ·try refine xst ?_
  refine cI (fun h2 => ?_) fun h2 => ?_
  ·exfalso;omega
  ·try refine xst ?_
   refine cI (fun h3 => ?_) fun h3 => ?_
   ·try refine xst ?_
    refine caM [0,1,2,3] (M) ?_
    try refine xst ?_
    refine zby [0,1,2,3,5] rfl rfl (by decide) ⟨?_,?_,?_,?_,?_,trivial⟩ trivial ?_<;>first|exact Wk.refl _|simp(etaStruct := .none)only[push_cast,zab,seval]
   ·exact absurd h h3
theorem ycy (w:Wld) (d:Ded) (hw:Right w):Spec Tryz.prog 93 [.ptr 0 0 0,zpl d] (zfx w) (B (zf4 w d).2) (zfx (zf4 w d).1)∨Spec Tryz.prog 93 [.ptr 0 0 0,zpl d] (zfx w) (B (zf4 w d).2) (z48 (zf4 w d).1):=by
 unfold zf4
 split
 ·rename_i h
  split
  ·rename_i i hi
   split
   ·rename_i ho;exact .inl (ztv w _ d true h (z2y w d i hw hi true _ ⟨fun _=>⟨rfl,rfl⟩,fun h2=>by rw[ho]at h2;simp at h2⟩))
   ·rename_i ho;exact .inl (ztv w _ d false h (z2y w d i hw hi false _ ⟨fun h2=>absurd h2 ho,fun _=>⟨rfl,rfl⟩⟩))
  ·rename_i hi;exact .inl (ztv w _ d false h (zyt w d hw hi))
 ·split
  ·rename_i h
   split
   ·rename_i i hi
    split
    ·rename_i ho;exact .inl (ztu w _ d _ h (z26 w d i hw hi _ _ ⟨fun _=>⟨rfl,rfl⟩,fun h2=>by rw[ho]at h2;simp at h2⟩))
    ·rename_i ho;exact .inl (ztu w _ d false h (z26 w d i hw hi false _ ⟨fun h2=>absurd h2 ho,fun _=>⟨rfl,rfl⟩⟩))
   ·rename_i hi;exact .inl (ztu w _ d false h (zyv w d hw hi))
  ·split
   ·rename_i h
    split
    ·rename_i ho
     split
     ·rename_i c hc;exact .inr (ycz w _ d h (z2z w d hw ho c hc))
     ·rename_i hc
      have hoi:=hireOk_iff.1 ho
      exact .inl (ztt w d h (zwk w d hw (by have:=hw.sl;omega) (.inr hc)))
    ·rename_i ho
     rcases Nat.lt_or_ge d.who.toNat w.stocks.length with h2|h2
     ·exact .inl (ztt w d h (zwk w d hw h2 (.inl (by simpa using ho))))
     ·exact .inl (ztt w d h (z20 w d hw h2))
   ·exact .inl (yc0 w d ⟨by assumption,by assumption,by assumption⟩)
theorem ygy (w:Wld) (hw:Right w):Spec Tryz.prog 92 [zcy w] [] (.agg [I .i64 w.f.w,I .i64 w.f.h,.c (.sl 1 (w.f.p.map zac)),.c (.sl 2 (w.bases.map za3)),.own 0,.own 1,.own 2,I .i64 w.next,I .i64 w.now]) [stR w,miR w,trR w]:=by
 have h1:=hw.places
 have h2:=hw.nb
 have h3:=hw.sl
 have h4:=hw.ml
 have h5:=hw.nt
 refine spB Tryz.func92 26 [.cell 2 28] Tryz.results92 ?_
 try refine xst ?_
 refine caP (zfn w.f.p (by omega)) ?_
 try refine xst ?_
 refine caP (zpd w.bases (by omega)) ?_
 try refine xst ?_
 refine caM [] (zgd w.stocks (by omega)) ?_
 try refine xst ?_
 (try(refine⟨by kernel_rfl,?_⟩))
 try refine xst ?_
 refine caM [] (zgd w.mines (by omega)) ?_
 try refine xst ?_
 refine caM [] (zpr w.troops (by omega)) ?_
 try refine xst ?_
 (try(refine⟨by kernel_rfl,?_⟩))
 try refine xst ?_
 refine zby [22,50,62] rfl rfl (by decide) ⟨?_,?_,?_,trivial⟩ ?_ ?_<;>first|exact Wk.refl _|(try simp(etaStruct := .none)only[push_cast,zab,seval])
theorem ymm (w:Wld) (l:List Ded) (hw:Right w) (hll:l.length≤200):Spec Tryz.prog 49 [zcy w,.c (.sl 5 (l.map zmk))] [] (.tup [zcy (zba w l).1,.c (.sl 1 ((zba w l).2.map zfb)),I .i64 0]) []:=by
 have he:=hw.e
 refine spB Tryz.func49 40 [.cell 4 28,.tmp 5,.tmp 6] Tryz.results49 ?_
 try refine xst ?_
 refine caP (zdf w hw.l) ?_
 try refine xst ?_
 refine cI (fun h1 => ?_) fun h1 => ?_
 ·exact absurd he h1
 ·try refine xst ?_
  refine cI (fun h2 => ?_) fun h2 => ?_
  ·omega
  ·try refine xst ?_
   refine caM [] (ygy w hw) ?_
   try refine xst ?_
   refine zax (fun k:Nat=>⟨[(27,I .i64 k),(26,I .i64 l.length),(25,.c (.sl 5 (l.map zmk))),(9,.own 5),(8,.ptr 1 0 0),(4,.ptr 0 0 0)],[(0,.blk 28 [I .i64 0,I .i64 0,.c (.v (.slice none 0 0)),.c (.v (.slice none 0 0)),.c (.v (.slice none 0 0)),.c (.v (.slice none 0 0)),.c (.v (.slice none 0 0)),I .i64 0,I .i64 0]),(1,.blk 200 (yd5 (zba w (l.take k)).1 2 3 4)),(2,stR (zba w (l.take k)).1),(3,miR (zba w (l.take k)).1),(4,trR (zba w (l.take k)).1),(5,.row 4 1 ((zba w (l.take k)).2.map zfb))],6⟩) (fun k:Nat=>k≤l.length) (fun k:Nat=>l.length-k) (0) (Nat.zero_le _) ((To.nil 9 4 1 rfl).trans (To.mk [1,5,2,3,4,6] rfl rfl (by decide) ?_ ?_)) ?_
   ·simp(etaStruct := .none)only[push_cast,zab,seval,List.take_zero,zba]
   ·simp(etaStruct := .none)only[push_cast,zab,seval]
   rintro k hk
   try refine xst ?_
   refine cI (fun h3 => ?_) fun h3 => ?_
   ·have hlt:k<l.length:=by omega
    obtain⟨d,hd⟩:∃d,d=l.getD k default:=⟨_,rfl⟩
    have hst:zba w (l.take (k+1))=((zf4 (zba w (l.take k)).1 d).1,(zba w (l.take k)).2 ++ [(zf4 (zba w (l.take k)).1 d).2]):=by rw[zao _ _ hlt,←hd,zt4]
    have hR:=zlb (l.take k) hw
    have hbl:=zy2 (l.take k) w
    rw[List.length_take]at hbl
    generalize (zba w (l.take k)).1=W at *
    generalize (zba w (l.take k)).2=bs at *
    try refine xz3 (gd hlt) hd.symm yg5 ?_
    rcases ycy W d hR with M|M
    ·refine zfv [1,2,3,4] M (WkL.refl _) rfl (by decide) (by simp[zbn]) ?_
     try refine xz1 z3x ?_
     refine⟨k+1,by omega,by omega,To.mk [0,1,2,3,4,8] rfl rfl (by decide) ?_ ?_⟩
     ·(iterate 2((try simp(etaStruct := .none)only[push_cast,zab,seval,hst,List.map_append,zfb]);(try(refine xsu ?_;try exact xtI))))
     ·(try(refine xst ?_;try exact xtI))
    ·refine zfv [1,2,3,4] M (WkL.refl _) rfl (by decide) (by simp[zbn]) ?_
     try refine xz1 z3x ?_
     refine⟨k+1,by omega,by omega,To.mk [0,1,2,3,7,9] rfl rfl (by decide) ?_ ?_⟩
     ·(iterate 2((try simp(etaStruct := .none)only[push_cast,zab,seval,hst,List.map_append,zfb]);(try(refine xsu ?_;try exact xtI))))
     ·(try(refine xst ?_;try exact xtI))
   ·obtain rfl:k=l.length:=by omega
    iterate 2(try simp(etaStruct := .none)only[push_cast,zab,seval,List.take_length];try refine xsu ?_)
    exact xrz rfl
end Go.Proofs.YtmjbgbmegbkmhaaGreat
namespace Go.Proofs.YtmjbgbmegbkmhaaGreat
set_option linter.all false
open Go.RowKit
set_option maxRecDepth 100000
set_option maxHeartbeats 1000000
theorem z8a (o:Ord) (b:List Blw) (g:List Gop) (d:List Ded) (h:o.kind=1) (hb:b.length≤1000) :
 Spec Tryz.prog 87 [.ptr 0 0 0,zpk o] [.blk 193 [.own 1,.own 2,.own 3],.row 261 2 (b.map ze1),.row 263 3 (g.map zex),.row 202 5 (d.map zmk)] (.tup [])
  [.blk 193 [.own 4,.own 2,.own 3],.dead,.row 263 3 (g.map zex),.row 202 5 (d.map zmk),.row 261 2 ((b ++ [(⟨o.who,o.what⟩:Blw)]).map ze1)]:=by
 refine spB Tryz.func87 84 [] Tryz.results87 ?_
 try refine xst ?_
 refine cI (fun h1 => ?_) fun h1 => ?_
 ·try refine xst ?_
  (try(refine⟨by kernel_rfl,?_⟩))
  try refine xst ?_
  refine zby [0,1,2,3,49] rfl rfl (by decide) ⟨?_,?_,?_,?_,?_,trivial⟩ trivial ?_
  ·simp(etaStruct := .none)only[push_cast,zab,seval]
  ·simp(etaStruct := .none)only[push_cast,zab,seval]
  ·simp(etaStruct := .none)only[push_cast,zab,seval]
  ·simp(etaStruct := .none)only[push_cast,zab,seval]
  ·simp(etaStruct := .none)only[push_cast,zab,seval,List.map_append,ze1]
  ·simp(etaStruct := .none)only[push_cast,zab,seval]
 ·omega
theorem yhm (o:Ord) (b:List Blw) (g:List Gop) (d:List Ded) (h:o.kind=2) (hb:g.length≤1000) :
 Spec Tryz.prog 87 [.ptr 0 0 0,zpk o] [.blk 193 [.own 1,.own 2,.own 3],.row 261 2 (b.map ze1),.row 263 3 (g.map zex),.row 202 5 (d.map zmk)] (.tup [])
  [.blk 193 [.own 1,.own 4,.own 3],.row 261 2 (b.map ze1),.dead,.row 202 5 (d.map zmk),.row 263 3 ((g ++ [(⟨o.who,o.c⟩:Gop)]).map zex)]:=by
 refine spB Tryz.func87 84 [] Tryz.results87 ?_
 try refine xst ?_
 refine cI (fun h1 => ?_) fun h1 => ?_
 ·omega
 ·try refine xst ?_
  refine cI (fun h2 => ?_) fun h2 => ?_
  ·try refine xst ?_
   (try(refine⟨by kernel_rfl,?_⟩))
   try refine xst ?_
   refine zby [0,1,2,3,49] rfl rfl (by decide) ⟨?_,?_,?_,?_,?_,trivial⟩ trivial ?_
   ·simp(etaStruct := .none)only[push_cast,zab,seval]
   ·simp(etaStruct := .none)only[push_cast,zab,seval]
   ·simp(etaStruct := .none)only[push_cast,zab,seval]
   ·simp(etaStruct := .none)only[push_cast,zab,seval]
   ·simp(etaStruct := .none)only[push_cast,zab,seval,List.map_append,zex]
   ·simp(etaStruct := .none)only[push_cast,zab,seval]
  ·omega
theorem z77 (o:Ord) (b:List Blw) (g:List Gop) (d:List Ded) (h:o.kind=3) (hb:d.length≤1000) :
 Spec Tryz.prog 87 [.ptr 0 0 0,zpk o] [.blk 193 [.own 1,.own 2,.own 3],.row 261 2 (b.map ze1),.row 263 3 (g.map zex),.row 202 5 (d.map zmk)] (.tup [])
  [.blk 193 [.own 1,.own 2,.own 4],.row 261 2 (b.map ze1),.row 263 3 (g.map zex),.dead,.row 202 5 ((d ++ [(⟨1,o.who,o.c,0⟩:Ded)]).map zmk)]:=by
 refine spB Tryz.func87 84 [] Tryz.results87 ?_
 try refine xst ?_
 refine cI (fun h1 => ?_) fun h1 => ?_
 ·omega
 ·try refine xst ?_
  refine cI (fun h2 => ?_) fun h2 => ?_
  ·omega
  ·try refine xst ?_
   refine cI (fun h3 => ?_) fun h3 => ?_
   ·try refine xst ?_
    (try(refine⟨by kernel_rfl,?_⟩))
    try refine xst ?_
    refine zby [0,1,2,3,49] rfl rfl (by decide) ⟨?_,?_,?_,?_,?_,trivial⟩ trivial ?_
    ·simp(etaStruct := .none)only[push_cast,zab,seval]
    ·simp(etaStruct := .none)only[push_cast,zab,seval]
    ·simp(etaStruct := .none)only[push_cast,zab,seval]
    ·simp(etaStruct := .none)only[push_cast,zab,seval]
    ·simp(etaStruct := .none)only[push_cast,zab,seval,List.map_append,zmk]
    ·simp(etaStruct := .none)only[push_cast,zab,seval]
   ·omega
theorem z79 (o:Ord) (b:List Blw) (g:List Gop) (d:List Ded) (h:o.kind=4) (hb:d.length≤1000) :
 Spec Tryz.prog 87 [.ptr 0 0 0,zpk o] [.blk 193 [.own 1,.own 2,.own 3],.row 261 2 (b.map ze1),.row 263 3 (g.map zex),.row 202 5 (d.map zmk)] (.tup [])
  [.blk 193 [.own 1,.own 2,.own 4],.row 261 2 (b.map ze1),.row 263 3 (g.map zex),.dead,.row 202 5 ((d ++ [(⟨2,o.who,⟨0,0⟩,0⟩:Ded)]).map zmk)]:=by
 refine spB Tryz.func87 84 [] Tryz.results87 ?_
 try refine xst ?_
 refine cI (fun h1 => ?_) fun h1 => ?_
 ·omega
 ·try refine xst ?_
  refine cI (fun h2 => ?_) fun h2 => ?_
  ·omega
  ·try refine xst ?_
   refine cI (fun h3 => ?_) fun h3 => ?_
   ·omega
   ·try refine xst ?_
    refine cI (fun h4 => ?_) fun h4 => ?_
    ·try refine xst ?_
     (try(refine⟨by kernel_rfl,?_⟩))
     try refine xst ?_
     refine zby [0,1,2,3,41] rfl rfl (by decide) ⟨?_,?_,?_,?_,?_,trivial⟩ trivial ?_
     ·simp(etaStruct := .none)only[push_cast,zab,seval]
     ·simp(etaStruct := .none)only[push_cast,zab,seval]
     ·simp(etaStruct := .none)only[push_cast,zab,seval]
     ·simp(etaStruct := .none)only[push_cast,zab,seval]
     ·simp(etaStruct := .none)only[push_cast,zab,seval,List.map_append,zmk]
     ·simp(etaStruct := .none)only[push_cast,zab,seval]
    ·omega
theorem z78 (o:Ord) (b:List Blw) (g:List Gop) (d:List Ded) (h:o.kind=5) (hb:d.length≤1000) :
 Spec Tryz.prog 87 [.ptr 0 0 0,zpk o] [.blk 193 [.own 1,.own 2,.own 3],.row 261 2 (b.map ze1),.row 263 3 (g.map zex),.row 202 5 (d.map zmk)] (.tup [])
  [.blk 193 [.own 1,.own 2,.own 4],.row 261 2 (b.map ze1),.row 263 3 (g.map zex),.dead,.row 202 5 ((d ++ [(⟨3,o.by_,⟨0,0⟩,o.what⟩:Ded)]).map zmk)]:=by
 refine spB Tryz.func87 84 [] Tryz.results87 ?_
 try refine xst ?_
 refine cI (fun h1 => ?_) fun h1 => ?_
 ·omega
 ·try refine xst ?_
  refine cI (fun h2 => ?_) fun h2 => ?_
  ·omega
  ·try refine xst ?_
   refine cI (fun h3 => ?_) fun h3 => ?_
   ·omega
   ·try refine xst ?_
    refine cI (fun h4 => ?_) fun h4 => ?_
    ·omega
    ·try refine xst ?_
     refine cI (fun h5 => ?_) fun h5 => ?_
     ·try refine xst ?_
      (try(refine⟨by kernel_rfl,?_⟩))
      try refine xst ?_
      refine zby [0,1,2,3,49] rfl rfl (by decide) ⟨?_,?_,?_,?_,?_,trivial⟩ trivial ?_
      ·simp(etaStruct := .none)only[push_cast,zab,seval]
      ·simp(etaStruct := .none)only[push_cast,zab,seval]
      ·simp(etaStruct := .none)only[push_cast,zab,seval]
      ·simp(etaStruct := .none)only[push_cast,zab,seval]
      ·simp(etaStruct := .none)only[push_cast,zab,seval,List.map_append,zmk]
      ·simp(etaStruct := .none)only[push_cast,zab,seval]
     ·omega
def OwnM (w:Wld) (k:Nat) (es:List (List Int × Int)):Prop:=(∀i:Int,zlq [i] es=(w.troops.take k).any fun t=>decide (t.id=i))∧∀j,j<k→zc1 [(w.troops.getD j default).id] es=(w.troops.getD j default).owner
theorem OwnM.step {w:Wld} (hw:zal w=0) {k:Nat} {es:List (List Int × Int)} (h:OwnM w k es) (hk:k<w.troops.length):OwnM w (k+1) (zgq [(w.troops.getD k default).id] (w.troops.getD k default).owner es):=by
 refine⟨fun i => ?_,fun j hj => ?_⟩
 ·rw[zlp,zao _ _ hk,List.any_append,h.1 i]
  simp only[List.any_cons,List.any_nil,Bool.or_false,List.cons.injEq,and_true]
  by_cases hi:i=(w.troops.getD k default).id
  ·rw[if_pos hi,decide_eq_true hi.symm,Bool.or_true]
  ·rw[if_neg hi,decide_eq_false (Ne.symm hi),Bool.or_false]
 ·rw[zb6]
  by_cases hjk:j=k
  ·subst hjk;rw[if_pos rfl]
  ·have h2:=(zfe hw hk).2
   unfold z8i at h2
   rw[zph,Bool.and_eq_true]at h2
   have:=(zbb _ _).1 h2.1 j (by omega)
   rw[decide_eq_true_eq]at this
   rw[if_neg (fun h=>by have:=(List.cons.inj h).1;omega)]
   exact h.2 j (by omega)
theorem OwnM.find {w:Wld} {es:List (List Int × Int)} (h:OwnM w w.troops.length es) (i b:Int):(zlq [i] es&&decide (zc1 [i] es=b))=match zdd w i with|some t=>decide (t.owner=b)|none=>false:=by
 have h1:=h.1 i
 rw[List.take_length]at h1
 unfold zdd
 cases hf:w.troops.find? (fun t=>decide (t.id=i))with
 | none =>
  have:(w.troops.any fun t=>decide (t.id=i))=false:=by
   rw[List.any_eq_false];intro x hx;simpa using List.find?_eq_none.1 hf x hx
  rw[h1,this];rfl
 | some t =>
  have hm:=List.mem_of_find?_eq_some hf
  have hp:=List.find?_some hf
  rw[decide_eq_true_eq]at hp
  have:(w.troops.any fun t=>decide (t.id=i))=true:=by
   rw[List.any_eq_true];exact⟨t,hm,by simpa using hp⟩
  obtain⟨j,hj,rfl⟩:=List.getElem_of_mem hm
  have h2:=h.2 j hj
  rw[zae _ _ hj,hp]at h2
  rw[h1,this,h2];rfl
def zcj (l:List Ord) (w:Wld):Int:=if zc7 l≠0 then zc7 l else zal w
theorem zpj {o:Ord} (h:o.kind≠1):z4l o = []:=by unfold z4l;rw[if_neg h]
theorem zpi {o:Ord} (h:o.kind≠2):z4k o = []:=by unfold z4k;rw[if_neg h]
theorem z4a {o:Ord} (h:¬2<o.kind):zxi o = []:=by unfold zxi;rw[if_neg h]
theorem yhs {o:Ord} (h:o.kind=1):z4l o = [⟨o.who,o.what⟩]:=by unfold z4l;rw[if_pos h]
theorem yho {o:Ord} (h:o.kind=2):z4k o = [⟨o.who,o.c⟩]:=by unfold z4k;rw[if_pos h]
theorem yhr {o:Ord} (ho:zev o=0) (h:o.kind=3):zxi o = [⟨1,o.who,o.c,0⟩]:=by
 have:=zfg ho
 unfold zxi z7m;rw[if_pos (by omega),h,if_neg (by decide),this.2.2.2.2.2.2.2 (by omega) (by omega)];rfl
theorem yhq {o:Ord} (ho:zev o=0) (h:o.kind=4):zxi o = [⟨2,o.who,⟨0,0⟩,0⟩]:=by
 have:=zfg ho
 unfold zxi z7m;rw[if_pos (by omega),h,if_neg (by decide),this.2.2.2.2.2.2.2 (by omega) (by omega),this.2.2.2.2.2.2.1 (by omega) (by omega)];rfl
theorem yhp {o:Ord} (ho:zev o=0) (h:o.kind=5):zxi o = [⟨3,o.by_,⟨0,0⟩,o.what⟩]:=by
 have:=zfg ho
 unfold zxi z7m;rw[if_pos (by omega),h,if_pos rfl,this.2.2.2.2.2.2.1 (by omega) (by omega)];rfl
theorem zz9 (l:List Ord) (w:Wld) (hll:l.length≤9223372036854775807) (hl:zfw w) (h:zcj l w≠0):Spec Tryz.prog 46 [.c (.sl 6 (l.map zdv)),zcy w] [] (.tup [.c (.v (.slice none 0 0)),.c (.v (.slice none 0 0)),.c (.v (.slice none 0 0)),I .i64 (zcj l w)]) []:=by
 refine spB Tryz.func46 82 [.tmp 4,.tmp 5,.tmp 6,.tmp 7] Tryz.results46 ?_
 try refine xst ?_
 refine caP (zvr l hll) ?_
 try refine xst ?_
 refine cI (fun h1 => ?_) fun h1 => ?_
 ·have e:zcj l w=zc7 l:=by unfold zcj;rw[if_pos h1]
  try refine xst ?_
  (first|(refine zau rfl (Wk.of ?_);(try simp(etaStruct := .none)only[push_cast,zab,seval]);first|done|(simp[e, *];done)|(simp_all[e];done))|(refine zau rfl ?_;(try simp(etaStruct := .none)only[push_cast,zab,seval]);(try simp[e, *]);(try exact wkc)))
 ·try refine xst ?_
  refine caP (zdf w hl) ?_
  try refine xst ?_
  refine cI (fun h2 => ?_) fun h2 => ?_
  ·have e:zcj l w=zal w:=by unfold zcj;rw[if_neg (by simpa using h1)]
   try refine xst ?_
   (first|(refine zau rfl (Wk.of ?_);(try simp(etaStruct := .none)only[push_cast,zab,seval]);first|done|(simp[e, *];done)|(simp_all[e];done))|(refine zau rfl ?_;(try simp(etaStruct := .none)only[push_cast,zab,seval]);(try simp[e, *]);(try exact wkc)))
  ·exact absurd (by unfold zcj;rw[if_neg (by simpa using h1)];exact h2) h
theorem zz8 (l:List Ord) (w:Wld) (hll:l.length≤9223372036854775807) (hl:zfw w) (ho:zc7 l=0) (hw:zal w=0):Spec Tryz.prog 46 [.c (.sl 6 (l.map zdv)),zcy w] [] (.tup [.c (.sl 2 ((zcr l w).map ze1)),.c (.sl 3 ((ze9 l w).map zex)),.c (.sl 5 ((zcg l w).map zmk)),I .i64 0]) []:=by
 obtain⟨ho1,ho2⟩:=zff ho
 obtain⟨w1,w2,w3,w4,w5⟩:=zdi hw
 refine spB Tryz.func46 82 [.tmp 4,.tmp 5,.tmp 6,.tmp 7] Tryz.results46 ?_
 try refine xst ?_
 refine caP (zvr l hll) ?_
 try refine xst ?_
 refine cI (fun h1 => ?_) fun h1 => ?_
 ·exact absurd ho h1
 ·try refine xst ?_
  refine caP (zdf w hl) ?_
  try refine xst ?_
  refine cI (fun h2 => ?_) fun h2 => ?_
  ·exact absurd hw h2
  ·try refine xst ?_
   refine zax (fun x:Nat × List (List Int × Int)=>⟨[(32,I .i64 x.1),(31,I .i64 w.troops.length),(30,.c (.sl 7 (w.troops.map zaw))),(10,.map 1),(3,.ptr 0 0 0),(0,.c (.sl 6 (l.map zdv)))],[(0,.blk 28 (znt w)),(1,.mp false 1 x.2)],2⟩) (fun x:Nat × List (List Int × Int)=>x.1≤w.troops.length∧OwnM w x.1 x.2) (fun x:Nat × List (List Int × Int)=>w.troops.length-x.1) ((0,[])) (⟨Nat.zero_le _,fun i=>rfl,fun j h=>absurd h (Nat.not_lt_zero _)⟩) (To.mk [0,1] rfl rfl (by decide) ?_ ?_) ?_
   ·simp(etaStruct := .none)only[push_cast,zab,seval]
   ·simp(etaStruct := .none)only[push_cast,zab,seval]
   rintro⟨k,es⟩ ⟨hk,hn⟩
   simp only at hk hn
   try refine xst ?_
   refine cI (fun h3 => ?_) fun h3 => ?_
   ·have hlt:k<w.troops.length:=by omega
    try refine xz2 (gd hlt) za9 ?_
    refine⟨(k+1,zgq [(w.troops.getD k default).id] (w.troops.getD k default).owner es),⟨by simp only;omega,hn.step hw hlt⟩,by simp only;omega,To.mk [0,1] rfl rfl (by decide) ?_ ?_⟩
    ·(try(refine xz2 (gd hlt) za9 ?_;try exact xtI))
    ·(try(refine xz2 (gd hlt) za9 ?_;try exact xtI))
   ·obtain rfl:k=w.troops.length:=by omega
    have of:=hn.find
    try refine xst ?_
    refine zax (fun k:Nat=>⟨[(44,I .i64 k),(43,I .i64 l.length),(42,.c (.sl 6 (l.map zdv))),(13,.ptr 2 0 0),(10,.map 1),(3,.ptr 0 0 0)],[(0,.blk 28 (znt w)),(1,.mp false 1 es),(2,.blk 193 [.own 3,.own 4,.own 5]),(3,.row 261 2 ((zcr (l.take k) w).map ze1)),(4,.row 263 3 ((ze9 (l.take k) w).map zex)),(5,.row 202 5 ((zcg (l.take k) w).map zmk))],6⟩) (fun k:Nat=>k≤l.length) (fun k:Nat=>l.length-k) (0) (Nat.zero_le _) (((To.nilC 2 0 261 2 193 _ rfl rfl).trans ((To.nilC 2 1 263 3 193 _ rfl rfl).trans (To.nilC 2 2 202 5 193 _ rfl rfl))).trans (To.mk [0,1,2,3,4,5] rfl rfl (by decide) ?_ ?_)) ?_
    ·simp(etaStruct := .none)only[push_cast,zab,seval,List.set_cons_zero,List.set_cons_succ,zcr,ze9,zcg,List.filter_nil,List.flatMap_nil]
    ·simp(etaStruct := .none)only[push_cast,zab,seval]
    rintro k hk
    try refine xst ?_
    refine cI (fun h4 => ?_) fun h4 => ?_
    ·have hlt:k<l.length:=by omega
     have hor:=ho2 _ (za0 l k hlt)
     have hok:=zfg hor
     have st1:=zl8 (fun o=>zdq o w) z4l l k hlt
     have st2:=zl8 (fun o=>zdq o w) z4k l k hlt
     have st3:=zl8 (fun o=>zdq o w) zxi l k hlt
     have fl1:=zfq (fun o=>zdq o w) z4l zxj (l.take k)
     have fl2:=zfq (fun o=>zdq o w) z4k zxg (l.take k)
     have fl3:=zfq (fun o=>zdq o w) zxi zxh (l.take k)
     rw[List.length_take]at fl1 fl2 fl3
     change zcr (l.take (k+1)) w=zcr (l.take k) w++_ at st1
     change ze9 (l.take (k+1)) w=ze9 (l.take k) w++_ at st2
     change zcg (l.take (k+1)) w=zcg (l.take k) w++_ at st3
     change (zcr (l.take k) w).length≤_ at fl1
     change (ze9 (l.take k) w).length≤_ at fl2
     change (zcg (l.take k) w).length≤_ at fl3
     try refine xz2 (gd hlt) zb3 ?_
     refine znk (fun x:Int × Bool=>⟨[(44,I .i64 k),(43,I .i64 l.length),(42,.c (.sl 6 (l.map zdv))),(17,B x.2),(16,I .i64 x.1),(15,.ptr 6 0 0),(13,.ptr 2 0 0),(10,.map 1),(3,.ptr 0 0 0)],[(0,.blk 28 (znt w)),(1,.mp false 1 es),(2,.blk 193 [.own 3,.own 4,.own 5]),(3,.row 261 2 ((zcr (l.take k) w).map ze1)),(4,.row 263 3 ((ze9 (l.take k) w).map zex)),(5,.row 202 5 ((zcg (l.take k) w).map zmk)),(6,.blk 48 [I .i64 (l.getD k default).by_,I .i64 (l.getD k default).kind,I .i64 (l.getD k default).who,I .i64 (l.getD k default).c.x,I .i64 (l.getD k default).c.y,I .i64 (l.getD k default).what])],7⟩) (fun x:Int × Bool=>(x.2&&decide (x.1=(l.getD k default).by_))=zdq (l.getD k default) w) (fun h5 => ?_) (fun h5 => ?_) ?_
     ·(try replace h5:=xhh h5)
      try refine xz2 (gd hlt) zb3 ?_
      (try(refine⟨by kernel_rfl,?_⟩))
      try refine xz2 (gd hlt) zb3 ?_
      refine⟨((l.getD k default).by_,decide ((l.getD k default).by_<w.bases.length)),by unfold zdq;rw[if_pos h5];simp,To.mk [0,1,2,3,4,5,6] rfl rfl (by decide) ?_ ?_⟩
      ·(try(refine xz2 (gd hlt) zb3 ?_;try exact xtI))
      ·(try(refine xz2 (gd hlt) zb3 ?_;try exact xtI))
     ·(try replace h5:=xhh h5)
      try refine xz2 (gd hlt) zb3 ?_
      refine⟨(zc1 [(l.getD k default).who] es,zlq [(l.getD k default).who] es),by rw[of];unfold zdq;rw[if_neg h5];cases zdd w (l.getD k default).who<;>rfl,To.mk [0,1,2,3,4,5,6] rfl rfl (by decide) ?_ ?_⟩
      ·(try(refine xz2 (gd hlt) zb3 ?_;try exact xtI))
      ·(try(refine xz2 (gd hlt) zb3 ?_;try exact xtI))
     ·rintro⟨by1,ok1⟩ hx
      simp only at hx
      try refine xz2 (gd hlt) zb3 ?_
      refine cI (fun h6 => ?_) fun h6 => ?_
      ·have ha:zdq (l.getD k default) w=true:=by rw[←hx];simp only[h6.1,h6.2,decide_true,Bool.and_self]
       rw[if_pos ha]at st1 st2 st3
       try refine xz2 (gd hlt) zb3 ?_
       have hkind:(l.getD k default).kind=1∨(l.getD k default).kind=2∨(l.getD k default).kind=3∨(l.getD k default).kind=4∨(l.getD k default).kind=5:=by omega
       rcases hkind with h|h|h|h|h
       ·rw[yhs h]at st1;rw[zpi (by omega)]at st2;rw[z4a (by omega)]at st3
        refine zfv [2,3,4,5] (z8a (l.getD k default) (zcr (l.take k) w) (ze9 (l.take k) w) (zcg (l.take k) w) h (by omega)) (WkL.refl _) rfl (by decide) (by simp[zbn]) ?_
        try refine xz2 (gd hlt) zb3 ?_
        refine⟨k+1,by omega,by omega,To.mk [0,1,2,7,4,5] rfl rfl (by decide) ?_ ?_⟩
        ·(iterate 2((try simp(etaStruct := .none)only[push_cast,zab,seval,st1,st2,st3,List.append_nil,List.map_append,ze1]);(try(refine xsu ?_;try exact xtI))))
        ·(try(refine xst ?_;try exact xtI))
       ·rw[zpj (by omega)]at st1;rw[yho h]at st2;rw[z4a (by omega)]at st3
        refine zfv [2,3,4,5] (yhm (l.getD k default) (zcr (l.take k) w) (ze9 (l.take k) w) (zcg (l.take k) w) h (by omega)) (WkL.refl _) rfl (by decide) (by simp[zbn]) ?_
        try refine xz2 (gd hlt) zb3 ?_
        refine⟨k+1,by omega,by omega,To.mk [0,1,2,3,7,5] rfl rfl (by decide) ?_ ?_⟩
        ·(iterate 2((try simp(etaStruct := .none)only[push_cast,zab,seval,st1,st2,st3,List.append_nil,List.map_append,zex]);(try(refine xsu ?_;try exact xtI))))
        ·(try(refine xst ?_;try exact xtI))
       ·rw[zpj (by omega)]at st1;rw[zpi (by omega)]at st2;rw[yhr hor h]at st3
        refine zfv [2,3,4,5] (z77 (l.getD k default) (zcr (l.take k) w) (ze9 (l.take k) w) (zcg (l.take k) w) h (by omega)) (WkL.refl _) rfl (by decide) (by simp[zbn]) ?_
        try refine xz2 (gd hlt) zb3 ?_
        refine⟨k+1,by omega,by omega,To.mk [0,1,2,3,4,7] rfl rfl (by decide) ?_ ?_⟩
        ·(iterate 2((try simp(etaStruct := .none)only[push_cast,zab,seval,st1,st2,st3,List.append_nil,List.map_append,zmk]);(try(refine xsu ?_;try exact xtI))))
        ·(try(refine xst ?_;try exact xtI))
       ·rw[zpj (by omega)]at st1;rw[zpi (by omega)]at st2;rw[yhq hor h]at st3
        refine zfv [2,3,4,5] (z79 (l.getD k default) (zcr (l.take k) w) (ze9 (l.take k) w) (zcg (l.take k) w) h (by omega)) (WkL.refl _) rfl (by decide) (by simp[zbn]) ?_
        try refine xz2 (gd hlt) zb3 ?_
        refine⟨k+1,by omega,by omega,To.mk [0,1,2,3,4,7] rfl rfl (by decide) ?_ ?_⟩
        ·(iterate 2((try simp(etaStruct := .none)only[push_cast,zab,seval,st1,st2,st3,List.append_nil,List.map_append,zmk]);(try(refine xsu ?_;try exact xtI))))
        ·(try(refine xst ?_;try exact xtI))
       ·rw[zpj (by omega)]at st1;rw[zpi (by omega)]at st2;rw[yhp hor h]at st3
        refine zfv [2,3,4,5] (z78 (l.getD k default) (zcr (l.take k) w) (ze9 (l.take k) w) (zcg (l.take k) w) h (by omega)) (WkL.refl _) rfl (by decide) (by simp[zbn]) ?_
        try refine xz2 (gd hlt) zb3 ?_
        refine⟨k+1,by omega,by omega,To.mk [0,1,2,3,4,7] rfl rfl (by decide) ?_ ?_⟩
        ·(iterate 2((try simp(etaStruct := .none)only[push_cast,zab,seval,st1,st2,st3,List.append_nil,List.map_append,zmk]);(try(refine xsu ?_;try exact xtI))))
        ·(try(refine xst ?_;try exact xtI))
      ·have ha:zdq (l.getD k default) w=false:=by
        rw[←hx]
        rcases h6 with h|h
        ·rw[h];rfl
        ·rw[decide_eq_false h,Bool.and_false]
       rw[ha]at st1 st2 st3
       simp only[Bool.false_eq_true,if_false,List.append_nil]at st1 st2 st3
       try refine xz2 (gd hlt) zb3 ?_
       refine⟨k+1,by omega,by omega,To.mk [0,1,2,3,4,5] rfl rfl (by decide) ?_ ?_⟩
       ·(try(refine xz3 st1 st2 st3 ?_;try exact xtI))
       ·(try(refine xz2 (gd hlt) zb3 ?_;try exact xtI))
    ·obtain rfl:k=l.length:=by omega
     iterate 2(try simp(etaStruct := .none)only[push_cast,zab,seval,List.take_length];try refine xsu ?_)
     (try(refine⟨by kernel_rfl,?_⟩))
     iterate 2(try simp(etaStruct := .none)only[push_cast,zab,seval,List.take_length];try refine xsu ?_)
     exact xrz rfl
end Go.Proofs.YtmjbgbmegbkmhaaGreat
namespace Go.Proofs.YtmjbgbmegbkmhaaGreat
set_option linter.all false
open Go.RowKit
set_option maxRecDepth 100000
theorem z3i (w:Wld) (d:Ded):(zf4 w d).1.now=w.now:=by
 unfold zf4
 repeat' split
 all_goals rfl
theorem zy1 (l:List Ded):∀w,(zba w l).1.now=w.now:=by
 induction l with
 | nil=>intro w;rfl
 | cons a r ih=>intro w;rw[zba,ih,z3i]
def tkA (w:Wld) (l:List Ord):Wld:=zer w (zcr l w)
def tkB (WR:Cel→List Int) (w:Wld) (l:List Ord):Wld:=z4g (tkA w l) (zg6 w.f WR (ze9 l w) (tkA w l).troops).1
def tkC (WR:Cel→List Int) (w:Wld) (l:List Ord):Wld:=(zba (tkB WR w l) (zcg l w)).1
def z6a (w:Wld):Wld:={ w with now:=w.now+1 }
def ze2 (WR:Cel→List Int) (w:Wld) (l:List Ord):Wld:=z6a (tkC WR w l)
def z92 (w:Wld) (l:List Ord):List Int:=z65 w (zcr l w)
def z91 (WR:Cel→List Int) (w:Wld) (l:List Ord):List Int:=(zg6 w.f WR (ze9 l w) (tkA w l).troops).2
def z93 (WR:Cel→List Int) (w:Wld) (l:List Ord):List Bool:=(zba (tkB WR w l) (zcg l w)).2
def zbs (l:List Ord) (w:Wld):Int:=if zcj l w≠0 then zcj l w else if 1000000≤w.now then 6 else 0
theorem ze4 {l:List Ord} {w:Wld} (h:zcj l w=0):zc7 l=0∧zal w=0:=by
 have ho:zc7 l=0:=by
  unfold zcj at h
  split at h
  ·rename_i h1;exact absurd h h1
  ·rename_i h1;simpa using h1
 exact⟨ho,by unfold zcj at h;rwa [if_neg (by simp[ho])]at h⟩
theorem zxs {l:List Ord} {w:Wld} (h:zc7 l=0):(zcr l w).length≤100∧(ze9 l w).length≤100∧(zcg l w).length≤100:=by
 obtain⟨o1,o2⟩:=zff h
 have f1:=zfq (fun o=>zdq o w) z4l zxj l
 have f2:=zfq (fun o=>zdq o w) z4k zxg l
 have f3:=zfq (fun o=>zdq o w) zxi zxh l
 change (zcr l w).length≤_ at f1
 change (ze9 l w).length≤_ at f2
 change (zcg l w).length≤_ at f3
 omega
theorem zqi {w:Wld} (h:Right w) (l:List Ord):Right (tkA w l):=zqj h _ fun id=>(z2s w _ id).1
theorem zqh {w:Wld} (h:Right w) {WR:Cel→List Int} (hWR:∀a,zas w.f [a] (WR a)) (l:List Ord):Right (tkB WR w l):=zn6 (w:=tkA w l) (zqi h l) hWR _
theorem zqg {w:Wld} (h:Right w) {WR:Cel→List Int} (hWR:∀a,zas w.f [a] (WR a)) (l:List Ord):Right (tkC WR w l):=zlb _ (zqh h hWR l)
theorem zz2 (WR:Cel→List Int) (w:Wld) (l:List Ord):(tkC WR w l).now=w.now:=by unfold tkC;rw[zy1];rfl
theorem zsz {w:Wld} (h:Right w) (hn:w.now<1000000):Right (z6a w):=by
 have:=h.nw
 refine⟨h.f,h.nb,h.nt,h.sl,h.ml,h.nx,?_,h.base,h.mine,fun k hk => ?_,h.ord⟩
 ·change 0≤w.now+1∧w.now+1≤1000000;omega
 ·have t:=h.trp k hk
  exact⟨t.kind,t.id,t.owner,t.at_,t.x,t.y,t.life,t.load⟩
theorem zgo {w:Wld} (h:Right w) {WR:Cel→List Int} (hWR:∀a,zas w.f [a] (WR a)) (l:List Ord) (hn:w.now<1000000):Right (ze2 WR w l):=zsz (zqg h hWR l) (by rw[zz2];exact hn)
end Go.Proofs.YtmjbgbmegbkmhaaGreat
namespace Go.Proofs.YtmjbgbmegbkmhaaGreat
set_option linter.all false
open Go.RowKit
set_option maxRecDepth 100000
set_option maxHeartbeats 1000000
abbrev yh2 (g m:List Int) (d:List Bool):AV := .agg [.c (.sl 1 (g.map zac)),.c (.sl 1 (m.map zac)),.c (.sl 1 (d.map zfb))]
theorem z94 (w:Wld) (l:List Ord) (WR:Cel→List Int) (hWR:∀a,zas w.f [a] (WR a)) (hll:l.length≤9223372036854775807) (h:zbs l w=0):Spec Tryz.prog 14 [zcy w,.c (.sl 6 (l.map zdv))] [] (.tup [zcy (ze2 WR w l),yh2 (z92 w l) (z91 WR w l) (z93 WR w l),I .i64 0]) []:=by
 have hs:zcj l w=0:=by unfold zbs at h;split at h;rename_i h1;exact absurd h h1;rename_i h1;simpa using h1
 have hn:w.now<1000000:=by unfold zbs at h;rw[if_neg (by simp[hs])]at h;split at h;exact absurd h (by decide);omega
 obtain⟨ho,hw⟩:=ze4 hs
 have R0:=zdg hw
 have RA:=zqi R0 l
 have RB:=zqh R0 hWR l
 have RC:=zqg R0 hWR l
 obtain⟨n1,n2,n3⟩:=zxs (w:=w) ho
 have hnow:(tkC WR w l).now=w.now:=zz2 WR w l
 have hnw:=R0.nw
 have e1:zbh w (zcr l w)=0:=by unfold zbh;rw[if_neg (by simp[hw]),if_neg (by omega)]
 have HK:=zrk w (zcr l w) R0.l (by omega) e1
 rw[e1,show zes w (zcr l w)=tkA w l from by unfold zes;rw[if_pos e1];rfl,show zrn w (zcr l w)=z92 w l from by unfold zrn;rw[if_pos e1];rfl]at HK
 have e2:zk3 (tkA w l) (ze9 l w)=0:=by unfold zk3;rw[if_neg (by simp[RA.e]),if_neg (by omega)]
 have MK:=z6g (tkA w l) (ze9 l w) WR hWR RA.l (by omega)
 rw[e2,if_pos rfl,if_pos rfl,show z4g (tkA w l) (zg6 (tkA w l).f WR (ze9 l w) (tkA w l).troops).1=tkB WR w l from rfl,show (zg6 (tkA w l).f WR (ze9 l w) (tkA w l).troops).2=z91 WR w l from rfl]at MK
 have DK:=ymm (tkB WR w l) (zcg l w) RB (by omega)
 rw[show (zba (tkB WR w l) (zcg l w)).1=tkC WR w l from rfl,show (zba (tkB WR w l) (zcg l w)).2=z93 WR w l from rfl]at DK
 have hup:IntKind.i64.wrap ((tkC WR w l).now+1)=w.now+1:=by rw[hnow];exact zak _ (by omega) (by omega)
 have htv:ze2 WR w l = { tkC WR w l with now:=w.now+1 }:=by unfold ze2 z6a;rw[hnow]
 rw[htv]
 refine spB Tryz.func14 62 [.cell 4 28,.cell 5 63,.tmp 6] Tryz.results14 ?_
 try refine xst ?_
 refine caP (zz8 l w hll R0.l ho hw) ?_
 try refine xst ?_
 refine cI (fun h1 => ?_) fun h1 => ?_
 ·omega
 ·try refine xst ?_
  refine cI (fun h2 => ?_) fun h2 => ?_
  ·simp at h2
  ·iterate 2(try simp(etaStruct := .none)only[push_cast,zab,seval,hup];try refine xsu ?_)
   refine caP (HK) ?_
   iterate 2(try simp(etaStruct := .none)only[push_cast,zab,seval,hup];try refine xsu ?_)
   refine caP (MK) ?_
   iterate 2(try simp(etaStruct := .none)only[push_cast,zab,seval,hup];try refine xsu ?_)
   refine caP (DK) ?_
   iterate 2(try simp(etaStruct := .none)only[push_cast,zab,seval,hup];try refine xsu ?_)
   (try(refine⟨by kernel_rfl,?_⟩))
   iterate 2(try simp(etaStruct := .none)only[push_cast,zab,seval,hup];try refine xsu ?_)
   exact xrz rfl
theorem z96 (w:Wld) (l:List Ord) (hl:zfw w) (hll:l.length≤9223372036854775807) (h:zcj l w≠0):Spec Tryz.prog 14 [zcy w,.c (.sl 6 (l.map zdv))] [] (.tup [zcy default,yh2 [] [] [],I .i64 (zcj l w)]) []:=by
 refine spB Tryz.func14 62 [.cell 4 28,.cell 5 63,.tmp 6] Tryz.results14 ?_
 try refine xst ?_
 refine caP (zz9 l w hll hl h) ?_
 try refine xst ?_
 refine cI (fun h1 => ?_) fun h1 => ?_
 ·exact absurd h1.1 h
 ·try refine xst ?_
  refine cI (fun h2 => ?_) fun h2 => ?_
  ·try refine xst ?_
   exact xrz rfl
  ·exact absurd h2 h
theorem z95 (w:Wld) (l:List Ord) (hl:zfw w) (hll:l.length≤9223372036854775807) (hs:zcj l w=0) (hn:1000000≤w.now):Spec Tryz.prog 14 [zcy w,.c (.sl 6 (l.map zdv))] [] (.tup [zcy default,yh2 [] [] [],I .i64 6]) []:=by
 obtain⟨ho,hw⟩:=ze4 hs
 refine spB Tryz.func14 62 [.cell 4 28,.cell 5 63,.tmp 6] Tryz.results14 ?_
 try refine xst ?_
 refine caP (zz8 l w hll hl ho hw) ?_
 try refine xst ?_
 refine cI (fun h1 => ?_) fun h1 => ?_
 ·try refine xst ?_
  refine cI (fun h2 => ?_) fun h2 => ?_
  ·try refine xst ?_
   exact xrz rfl
  ·simp at h2
 ·omega
def zpq (WR:Cel→List Int) (w:Wld) (l:List Ord):Wld:=if zbs l w=0 then ze2 WR w l else default
def z8g (w:Wld) (l:List Ord):List Int:=if zbs l w=0 then z92 w l else []
def z8f (WR:Cel→List Int) (w:Wld) (l:List Ord):List Int:=if zbs l w=0 then z91 WR w l else []
def z8h (WR:Cel→List Int) (w:Wld) (l:List Ord):List Bool:=if zbs l w=0 then z93 WR w l else []
theorem zsk (w:Wld) (l:List Ord) (WR:Cel→List Int) (hWR:∀a,zas w.f [a] (WR a)) (hl:zfw w) (hll:l.length≤9223372036854775807):Spec Tryz.prog 14 [zcy w,.c (.sl 6 (l.map zdv))] [] (.tup [zcy (zpq WR w l),yh2 (z8g w l) (z8f WR w l) (z8h WR w l),I .i64 (zbs l w)]) []:=by
 unfold zpq z8g z8f z8h
 by_cases h:zbs l w=0
 ·rw[if_pos h,if_pos h,if_pos h,if_pos h,h];exact z94 w l WR hWR hll h
 ·rw[if_neg h,if_neg h,if_neg h,if_neg h]
  by_cases hs:zcj l w=0
  ·have hn:1000000≤w.now:=by
    unfold zbs at h;rw[if_neg (by simp[hs])]at h;split at h;assumption;exact absurd rfl h
   rw[show zbs l w=6 from by unfold zbs;rw[if_neg (by simp[hs]),if_pos hn]];exact z95 w l hl hll hs hn
  ·rw[show zbs l w=zcj l w from by unfold zbs;rw[if_pos hs]];exact z96 w l hl hll hs
end Go.Proofs.YtmjbgbmegbkmhaaGreat
namespace Go.Proofs.YtmjbgbmegbkmhaaGreat
set_option linter.all false
open Go.RowKit
theorem zuy {P:Program} {f:FuncId} (hf:zgi P f) (args:List AV) (r:AV) (v:Value) (hr:∀(U:Nat→Prop) (w:World) (F:Nat→Prop) (β : Nat→Option Bind),RelA U w F β r v)
 (h:∀(w:World) (F:Nat→Prop) (β : Nat→Option Bind) (vs:List Value),(∀b,F b→b<w.heap.size)→RelL (· < 0) w F β args vs→Calls P f vs.toArray w fun e w'=>e = .returned v∧Below w.heap.size w w'):Spec P f args [] r []:=by
 refine⟨hf,Nat.le_refl _,fun w F β vs M hv => ?_⟩
 refine(h w F β vs M.fin hv).mono ?_
 rintro e w' ⟨rfl,hb⟩
 obtain⟨S1,S2⟩:=M.step (w':=w') (h':=nth []) (β' := β) (F':=F) (U':=(· < 0)) (fun _=>False) (fun _ _=>rfl) (fun _ _=>rfl) hb.os hb.tape hb.output hb.size (fun b h _=>hb.block b h) (fun _ h=>h) (fun _ h=>h)
  (fun b h=>⟨Nat.lt_of_lt_of_le (M.fin b h) hb.size,.inl h⟩) (fun _ _ h=>h.elim) (fun _ _ h=>h.elim) (fun _ _ _ _ _ h=>h.elim) (fun _ _ h=>h.elim)
 exact⟨v,F,β,rfl,S1,hr _ _ _ _,fun _ h=>h,fun _ h => .inl h,fun _ _ _ h=>⟨_,h⟩⟩
theorem ya5 {α : Type} {w:World} {F:Nat→Prop} {u:Value} (enc : α → Value) (xs:List α) (hF:∀b,F b→b<w.heap.size) (h:RelP w F (.sl 1 (xs.map fun x => [.v (enc x)])) u) :
 ∃a c,u = .slice a xs.length c∧xs.length≤c∧c≤maxLen∧Els w w.heap.size a 1 (fun x => [enc x]) xs:=by
 simp only[RelP]at h
 obtain⟨a,c,rfl,h1,h2,h3⟩:=h
 rw[List.length_map]at h1
 refine⟨a,c,by rw[List.length_map],h1,h2,?_⟩
 rcases h3 with h3|⟨b,o,rfl,hb,hE⟩
 ·exact .inl (by simpa using h3)
 ·refine .inr ⟨b,o,rfl,hF b hb,fun i j v hv => ?_⟩
  cases hx:xs[i]? with
  | none=>rw[hx]at hv;simp at hv
  | some x =>
   rw[hx]at hv
   cases j with
   | succ j=>simp at hv
   | zero =>
    have hv':enc x=v:=by simpa using hv
    obtain⟨_,hc⟩:=RelE.at hE i [.v (enc x)] (by simp[hx])
    obtain⟨u,hu,hr⟩:=RelC.at hc 0 _ rfl
    simp only[RelP]at hr
    rw[←hv',←hr.1,←hu];rfl
theorem zvb {w:World} {U F:Nat→Prop} {β : Nat→Option Bind} {p:PV} {vs:List Value} (h:RelL U w F β [.c p] vs):∃u,vs = [u]∧RelP w F p u:=by
 simp only[RelL,RelA]at h
 obtain⟨u,us,rfl,h1,rfl⟩:=h
 exact⟨u,rfl,h1⟩
end Go.Proofs.YtmjbgbmegbkmhaaGreat
namespace Go.Proofs.YtmjbgbmegbkmhaaGreat
set_option linter.all false
open Go.RowKit
set_option maxRecDepth 100000
set_option maxHeartbeats 1000000
theorem ygh (s:ByteArray) (hs:s.size≤140737488351232):Spec Tryz.prog 119 [S s] [] (.c (.v (.int .u64 (z18 s:Nat)))) [] :=
 zh4 (zit Tryz.func119 rfl rfl) [.string s] _ rfl fun w=>(z6s s w hs).mono fun e w' ⟨h1,h2⟩=>⟨h1,h2▸Below.refl _ _⟩
theorem zx6 {s:ByteArray} {n:Int} {U:Nat→Prop} {w:World} {F:Nat→Prop} {β : Nat→Option Bind} : RelA U w F β (.tup [S s,I .i64 n]) (.tuple #[.string s,.int .i64 n]):=by
 simp only[RelA]
 refine⟨_,rfl,?_⟩
 simp[RelL,RelA,RelP,Value.oneCell']
theorem zvf (xs:List Int) (hx:∀x∈xs,I64 x) (hl:xs.length≤140737488351232):Spec Tryz.prog 62 [.c (.sl 1 (xs.map zac))] [] (.tup [S (paR xs).1,I .i64 (paR xs).2]) [] :=
 zuy (zit Tryz.func62 rfl rfl) _ _ (.tuple #[.string (paR xs).1,.int .i64 (paR xs).2]) (fun _ _ _ _=>zx6) fun w F β vs hF hv=>by
  obtain⟨u,rfl,hu⟩:=zvb hv
  obtain⟨a,c,rfl,_,_,hE⟩:=ya5 (fun n:Int=>Value.int .i64 n) xs hF hu
  exact zya a c w.heap.size xs w hE hx hl (Nat.le_refl _)
theorem yb0 (m n:Nat) (hm:m<18446744073709551616):Spec Tryz.prog 151 [.c (.v (.int .u64 m)),.c (.v (.int .u64 n))] [] (.c (.v (.int .u64 (m ^^^ mx n:Nat)))) [] :=
 zh4 (zit Tryz.func151 rfl rfl) [.int .u64 m,.int .u64 n] _ rfl fun w=>(z4w m n hm w).mono fun e w' h=>⟨h.1,h.2▸Below.refl _ _⟩
theorem yf9 (m:Nat):mk m []=m:=rfl
theorem mkl (l:List Nat) (m:Nat) (k:Nat) (h:k<l.length):mk m (l.take (k+1))=mk m (l.take k) ^^^ mx (l.getD k default):=by rw[zao l k h,yb3]
theorem ygb (l:List Nat) (hl:l.length≤1000000):Spec Tryz.prog 120 [.c (.sl 1 [[.sl 1 (l.map zmn)]])] [] (.c (.v (.int .u64 (mk 0 l:Nat)))) []:=by
 refine spB Tryz.func120 26 [.tmp 2] Tryz.results120 ?_
 try refine xst ?_
 refine zax (fun k:Nat=>⟨[(10,I .i64 k),(9,I .i64 1),(8,.c (.sl 1 [[.sl 1 (l.map zmn)]])),(3,.c (.v (.int .u64 ((if k=0 then 0 else mk 0 l:Nat):Int))))],[],0⟩) (fun k:Nat=>k≤1) (fun k:Nat=>1-k) (0) (Nat.zero_le _) (To.mk [] rfl rfl List.nodup_nil trivial ?_) ?_
 ·simp(etaStruct := .none)only[push_cast,zab,seval,if_pos trivial]
 rintro k hk
 try refine xst ?_
 refine cI (fun h1 => ?_) fun h1 => ?_
 ·obtain rfl:k=0:=by omega
  try refine xst ?_
  refine zax (fun k:Nat=>⟨[(16,I .i64 k),(15,I .i64 l.length),(14,.c (.sl 1 (l.map zmn))),(10,I .i64 0),(9,I .i64 1),(8,.c (.sl 1 [[.sl 1 (l.map zmn)]])),(3,.c (.v (.int .u64 (mk 0 (l.take k):Nat))))],[],0⟩) (fun k:Nat=>k≤l.length) (fun k:Nat=>l.length-k) (0) (Nat.zero_le _) (To.mk [] rfl rfl List.nodup_nil trivial ?_) ?_
  ·simp(etaStruct := .none)only[push_cast,zab,seval,List.take_zero,yf9]
  rintro k hk
  try refine xst ?_
  refine cI (fun h2 => ?_) fun h2 => ?_
  ·have hlt:k<l.length:=by omega
   have ml:=mkl l 0 k hlt
   try refine xz2 (gd hlt) z8e ?_
   refine caP (yb0 (mk 0 (l.take k)) (l.getD k default) (yj8 _ 0 (by decide))) ?_
   try refine xz2 (gd hlt) z8e ?_
   refine⟨k+1,by omega,by omega,To.mk [] rfl rfl List.nodup_nil trivial ?_⟩
   ·(try(refine xz1 ml ?_;try exact xtI))
  ·obtain rfl:k=l.length:=by omega
   iterate 2(try simp(etaStruct := .none)only[push_cast,zab,seval,List.take_length];try refine xsu ?_)
   refine⟨1,by omega,by omega,To.mk [] rfl rfl List.nodup_nil trivial ?_⟩
   ·(iterate 2((try simp(etaStruct := .none)only[push_cast,zab,seval,if_neg (show ¬(1:Nat)=0 by decide),Int.zero_add]);(try(refine xsu ?_;try exact xtI))))
 ·obtain rfl:k=1:=by omega
  try refine xst ?_
  exact xrz rfl
theorem yj7 (l:List Nat) (hl:l.length≤1000000):Spec Tryz.prog 70 [.c (.sl 1 (l.map zmn))] [] (.c (.v (.int .u64 (mk 0 l:Nat)))) []:=by
 refine spB Tryz.func70 6 [.tmp 2] Tryz.results70 ?_
 try refine xst ?_
 refine zcd (ygb l hl) (WkL.refl _) rfl ?_
 try refine xst ?_
 exact xrz rfl
def zj7 (l:List Int):Nat:=z18 (paR l).1
theorem z5y (l:List Int):(paR l).1.size≤20000:=by
 unfold paR
 split
 ·show 0≤20000;omega
 ·show ByteArray.size ⟨(paK l l.length).toArray⟩≤20000
  rw[zpf];have:=zlj l l.length;omega
theorem znx (l:List Int) (hx:∀x∈l,I64 x) (hl:l.length≤1000000):Spec Tryz.prog 69 [.c (.sl 1 (l.map zac))] [] (.c (.v (.int .u64 (zj7 l:Nat)))) []:=by
 have:=z5y l
 refine spB Tryz.func69 12 [.tmp 2] Tryz.results69 ?_
 try refine xst ?_
 refine caP (zvf l hx (by omega)) ?_
 try refine xst ?_
 refine caP (ygh (paR l).1 (by omega)) ?_
 try refine xst ?_
 (first|(refine zau rfl (Wk.of ?_);(try simp(etaStruct := .none)only[push_cast,zab,seval]);first|done|(simp[zj7, *];done)|(simp_all[zj7];done))|(refine zau rfl ?_;(try simp(etaStruct := .none)only[push_cast,zab,seval]);(try simp[zj7, *]);(try exact wkc)))
def hdI (w:Wld):List Int := [1,w.f.w,w.f.h,w.next,w.now]++w.f.p
def ydt (w:Wld) (i:Nat):List Int := [2,(i:Int),(w.bases.getD i default).x,(w.bases.getD i default).y,w.stocks.getD i default]
def yb5 (w:Wld) (i:Nat):List Int := [3,(i:Int),w.mines.getD i default]
def z99 (w:Wld) (i:Nat):List Int := [4,(w.troops.getD i default).id,(w.troops.getD i default).owner,(w.troops.getD i default).kind,(w.troops.getD i default).c.x,(w.troops.getD i default).c.y,(w.troops.getD i default).life,(w.troops.getD i default).load]
def wl1 (w:Wld) (k:Nat):List Nat:=zj7 (hdI w)::(List.range k).map fun i=>zj7 (ydt w i)
def wl2 (w:Wld) (k:Nat):List Nat:=wl1 w w.bases.length++(List.range k).flatMap fun i=>if w.mines.getD i default=0 then []else [zj7 (yb5 w i)]
def wl3 (w:Wld) (k:Nat):List Nat:=wl2 w w.mines.length++(List.range k).map fun i=>zj7 (z99 w i)
theorem yia (w:Wld):wl1 w 0 = [zj7 (hdI w)]:=rfl
theorem yel (w:Wld):wl2 w 0=wl1 w w.bases.length:=by simp[wl2]
theorem yh8 (w:Wld):wl3 w 0=wl2 w w.mines.length:=by simp[wl3]
theorem yh9 (w:Wld) (k:Nat):wl1 w (k+1)=wl1 w k ++ [zj7 (ydt w k)]:=by simp[wl1,List.range_succ]
theorem yek (w:Wld) (k:Nat):wl2 w (k+1)=wl2 w k++(if w.mines.getD k default=0 then []else [zj7 (yb5 w k)]):=by
 unfold wl2;rw[List.range_succ,List.flatMap_append,←List.append_assoc];congr 1;exact List.flatMap_singleton ..
theorem yh7 (w:Wld) (k:Nat):wl3 w (k+1)=wl3 w k ++ [zj7 (z99 w k)]:=by simp[wl3,List.range_succ]
theorem zzn (w:Wld):∀k,(wl1 w k).length=k+1:=by intro k;simp[wl1]
theorem zsg (w:Wld):∀k,(wl2 w k).length≤w.bases.length+1+k
 | 0=>by rw[yel,zzn];omega
 | k+1=>by
  have:=zsg w k
  rw[yek,List.length_append];split<;>simp<;>omega
theorem zzm (w:Wld) (k:Nat):(wl3 w k).length≤w.bases.length+1+w.mines.length+k:=by
 have:=zsg w w.mines.length
 unfold wl3;rw[List.length_append,List.length_map,List.length_range];omega
def zjt (w:Wld):Nat:=mk 0 (wl3 w w.troops.length)
theorem zkq {w:Wld} (h:zal w=0):(1≤w.f.w∧w.f.w≤40)∧(1≤w.f.h∧w.f.h≤40)∧(w.f.p.length≤1600∧∀p∈w.f.p,0≤p∧p<4)∧w.bases.length≤8∧w.troops.length≤100∧w.stocks.length=w.bases.length∧w.mines.length=w.f.p.length∧(1≤w.next∧w.next≤1000000)∧(0≤w.now∧w.now≤1000000) ∧
 (∀k,k<w.bases.length→(0≤(w.bases.getD k default).x∧(w.bases.getD k default).x≤39)∧(0≤(w.bases.getD k default).y∧(w.bases.getD k default).y≤39)∧0≤w.stocks.getD k default∧w.stocks.getD k default≤1000000) ∧
 (∀k,k<w.mines.length→0≤w.mines.getD k default∧w.mines.getD k default≤1000000):=by
 obtain⟨h1,h2,h3,h4,h5⟩:=zdi h
 obtain⟨g1,g2,g3,g4⟩:=zbi h1
 obtain⟨f1,f2,f3,f4⟩:=zkr h4
 have hm2:w.f.w*w.f.h≤40*40:=Int.mul_le_mul g1.2 g2.2 (by omega) (by omega)
 unfold zhy at h5
 simp only[Bool.and_eq_true]at h5
 refine⟨g1,g2,⟨by omega,g4⟩,h2,h3,f1,f2,f3,f4,fun k hk => ?_,fun k hk => ?_⟩
 ·have:=(zbb _ _).1 h5.1.1 k hk
  unfold zmv at this
  simp only[Bool.and_eq_true,within_iff]at this
  have hi:=inF_iff.1 (ground_iff.1 this.1.1).1
  omega
 ·have:=(zbb _ _).1 h5.1.2 k hk
  unfold zmp at this
  simp only[Bool.and_eq_true,within_iff]at this
  omega
theorem ygw {w:Wld} (h:zal w=0):(∀x∈hdI w,I64 x)∧(hdI w).length≤1000000:=by
 obtain⟨b1,b2,b3,b4,b5,b6,b7,b8,b9,b10,b11⟩:=zkq h
 refine⟨fun x hx => ?_,by simp[hdI];omega⟩
 simp only[hdI,List.mem_append,List.mem_cons,List.not_mem_nil,or_false]at hx
 unfold I64
 rcases hx with (rfl|rfl|rfl|rfl|rfl)|hx
 ·omega
 ·omega
 ·omega
 ·omega
 ·omega
 ·have:=b3.2 x hx;omega
theorem yds {w:Wld} (h:zal w=0) {k:Nat} (hk:k<w.bases.length):(∀x∈ydt w k,I64 x)∧(ydt w k).length≤1000000:=by
 obtain⟨b1,b2,b3,b4,b5,b6,b7,b8,b9,b10,b11⟩:=zkq h
 have:=b10 k hk
 refine⟨fun x hx => ?_,by simp[ydt]⟩
 simp only[ydt,List.mem_cons,List.not_mem_nil,or_false]at hx
 unfold I64
 rcases hx with rfl|rfl|rfl|rfl|rfl<;>omega
theorem yb4 {w:Wld} (h:zal w=0) {k:Nat} (hk:k<w.mines.length):(∀x∈yb5 w k,I64 x)∧(yb5 w k).length≤1000000:=by
 obtain⟨b1,b2,b3,b4,b5,b6,b7,b8,b9,b10,b11⟩:=zkq h
 have:=b11 k hk
 refine⟨fun x hx => ?_,by simp[yb5]⟩
 simp only[yb5,List.mem_cons,List.not_mem_nil,or_false]at hx
 unfold I64
 rcases hx with rfl|rfl|rfl<;>omega
theorem z6u {k:Int} : (zbc k).life≤20:=by unfold zbc;split;decide;split<;>decide
theorem z98 {w:Wld} (h:zal w=0) {k:Nat} (hk:k<w.troops.length):(∀x∈z99 w k,I64 x)∧(z99 w k).length≤1000000:=by
 obtain⟨b1,b2,b3,b4,b5,b6,b7,b8,b9,b10,b11⟩:=zkq h
 obtain⟨t1,t2,t3,t4,t5,t6,t7,t8⟩:=(zfe h hk).1
 have kl := @z6u (w.troops.getD k default).kind
 refine⟨fun x hx => ?_,by simp[z99]⟩
 simp only[z99,List.mem_cons,List.not_mem_nil,or_false]at hx
 unfold I64
 rcases hx with rfl|rfl|rfl|rfl|rfl|rfl|rfl|rfl<;>omega
theorem zzy (w:Wld) (hl:zfw w) (hw:zal w=0):Spec Tryz.prog 25 [zcy w] [] (.tup [.c (.v (.int .u64 (zjt w:Nat))),I .i64 0]) []:=by
 obtain⟨b1,b2,b3,b4,b5,b6,b7,b8,b9,b10,b11⟩:=zkq hw
 have h0:=ygw hw
 refine spB Tryz.func25 107 [.tmp 2,.tmp 3] Tryz.results25 ?_
 try refine xst ?_
 refine caP (zdf w hl) ?_
 try refine xst ?_
 refine cI (fun h1 => ?_) fun h1 => ?_
 ·exact absurd hw h1
 ·try refine xst ?_
  refine zcd (znx (hdI w) h0.1 h0.2) (WkL.refl _) rfl ?_
  try refine xst ?_
  refine zax (fun k:Nat=>⟨[(37,I .i64 k),(36,I .i64 w.bases.length),(35,.c (.sl 2 (w.bases.map za3))),(5,.own 1),(1,.ptr 0 0 0)],[(0,.blk 28 (znt w)),(1,.row 96 1 ((wl1 w k).map zmn))],2⟩) (fun k:Nat=>k≤w.bases.length) (fun k:Nat=>w.bases.length-k) (0) (Nat.zero_le _) (To.mk [0,3] rfl rfl (by decide) ?_ ?_) ?_
  ·simp(etaStruct := .none)only[push_cast,zab,seval,yia,zmn]
  ·simp(etaStruct := .none)only[push_cast,zab,seval]
  rintro k hk
  try refine xst ?_
  refine cI (fun h2 => ?_) fun h2 => ?_
  ·have hlt:k<w.bases.length:=by omega
   have hlt2:k<w.stocks.length:=by omega
   have ok:=yds hw hlt
   have ln:=zzn w k
   try refine xz4 (gd hlt) (gd hlt2) zb5 za7 ?_
   refine zcd (znx (ydt w k) ok.1 ok.2) (WkL.refl _) rfl ?_
   try refine xz4 (gd hlt) (gd hlt2) zb5 za7 ?_
   (try(refine⟨by kernel_rfl,?_⟩))
   try refine xz4 (gd hlt) (gd hlt2) zb5 za7 ?_
   refine⟨k+1,by omega,by omega,To.mk [0,59] rfl rfl (by decide) ?_ ?_⟩
   ·(iterate 2((try simp(etaStruct := .none)only[push_cast,zab,seval,yh9,List.map_append,zmn]);(try(refine xsu ?_;try exact xtI))))
   ·(try(refine xz4 (gd hlt) (gd hlt2) zb5 za7 ?_;try exact xtI))
  ·obtain rfl:k=w.bases.length:=by omega
   try refine xst ?_
   refine zax (fun k:Nat=>⟨[(61,I .i64 k),(60,I .i64 w.mines.length),(59,.c (.sl 1 (w.mines.map zac))),(5,.own 1),(1,.ptr 0 0 0)],[(0,.blk 28 (znt w)),(1,.row 96 1 ((wl2 w k).map zmn))],2⟩) (fun k:Nat=>k≤w.mines.length) (fun k:Nat=>w.mines.length-k) (0) (Nat.zero_le _) (To.mk [0,1] rfl rfl (by decide) ?_ ?_) ?_
   ·simp(etaStruct := .none)only[push_cast,zab,seval,yel]
   ·simp(etaStruct := .none)only[push_cast,zab,seval]
   rintro k hk
   try refine xst ?_
   refine cI (fun h3 => ?_) fun h3 => ?_
   ·have hlt:k<w.mines.length:=by omega
    have ok:=yb4 hw hlt
    have ln:=zsg w k
    have bm:=b11 k hlt
    have st:=yek w k
    try refine xz2 (gd hlt) za7 ?_
    refine cI (fun h4 => ?_) fun h4 => ?_
    ·rw[if_neg (by omega)]at st
     try refine xz2 (gd hlt) za7 ?_
     refine zcd (znx (yb5 w k) ok.1 ok.2) (WkL.refl _) rfl ?_
     try refine xz2 (gd hlt) za7 ?_
     refine⟨k+1,by omega,by omega,To.mk [0,4] rfl rfl (by decide) ?_ ?_⟩
     ·(iterate 2((try simp(etaStruct := .none)only[push_cast,zab,seval,st,List.map_append,zmn]);(try(refine xsu ?_;try exact xtI))))
     ·(try(refine xz2 (gd hlt) za7 ?_;try exact xtI))
    ·rw[if_pos (by omega),List.append_nil]at st
     try refine xz2 (gd hlt) za7 ?_
     refine⟨k+1,by omega,by omega,To.mk [0,1] rfl rfl (by decide) ?_ ?_⟩
     ·(try(refine xz1 st ?_;try exact xtI))
     ·(try(refine xz2 (gd hlt) za7 ?_;try exact xtI))
   ·obtain rfl:k=w.mines.length:=by omega
    try refine xst ?_
    refine zax (fun k:Nat=>⟨[(79,I .i64 k),(78,I .i64 w.troops.length),(77,.c (.sl 7 (w.troops.map zaw))),(5,.own 0)],[(0,.row 96 1 ((wl3 w k).map zmn))],1⟩) (fun k:Nat=>k≤w.troops.length) (fun k:Nat=>w.troops.length-k) (0) (Nat.zero_le _) (To.mk [1] rfl rfl (by decide) ?_ ?_) ?_
    ·simp(etaStruct := .none)only[push_cast,zab,seval,yh8]
    ·simp(etaStruct := .none)only[push_cast,zab,seval]
    rintro k hk
    try refine xst ?_
    refine cI (fun h5 => ?_) fun h5 => ?_
    ·have hlt:k<w.troops.length:=by omega
     have ok:=z98 hw hlt
     have ln:=zzm w k
     try refine xz2 (gd hlt) za9 ?_
     refine zcd (znx (z99 w k) ok.1 ok.2) (WkL.refl _) rfl ?_
     try refine xz2 (gd hlt) za9 ?_
     refine⟨k+1,by omega,by omega,To.mk [4] rfl rfl (by decide) ?_ ?_⟩
     ·(iterate 2((try simp(etaStruct := .none)only[push_cast,zab,seval,yh7,List.map_append,zmn]);(try(refine xsu ?_;try exact xtI))))
     ·(try(refine xz2 (gd hlt) za9 ?_;try exact xtI))
    ·obtain rfl:k=w.troops.length:=by omega
     have ln:=zzm w w.troops.length
     try refine xst ?_
     refine zcd (yj7 (wl3 w w.troops.length) (by omega)) (WkL.refl _) rfl ?_
     try refine xst ?_
     (first|(refine zau rfl (Wk.of ?_);(try simp(etaStruct := .none)only[push_cast,zab,seval]);first|done|(simp[zjt, *];done)|(simp_all[zjt];done))|(refine zau rfl ?_;(try simp(etaStruct := .none)only[push_cast,zab,seval]);(try simp[zjt, *]);(try exact wkc)))
def zcm (l:List Ord):List PV := [.sl 6 (l.map zdv)]
theorem zeu (l:List Ord):zcm l = [.sl 6 (l.map zdv)]:=rfl
def zfz (WR:Cel→List Int):List (List Ord)→Wld→Wld
 | [],w=>w
 | o::r,w=>zfz WR r (ze2 WR w o)
def zzd (WR:Cel→List Int):List (List Ord)→Wld→List Nat
 | [],w => [zjt w]
 | o::r,w=>zjt w::zzd WR r (ze2 WR w o)
def zgy (WR:Cel→List Int):List (List Ord)→Wld→Int
 | [],_=>0
 | o::r,w=>if zbs o w≠0 then zbs o w else zgy WR r (ze2 WR w o)
theorem yc9 (w:Wld) (d:Ded):(zf4 w d).1.f=w.f:=by
 unfold zf4
 repeat' split
 all_goals rfl
theorem z7l (l:List Ded):∀w,(zba w l).1.f=w.f:=by
 induction l with
 | nil=>intro w;rfl
 | cons a r ih=>intro w;rw[zba,ih,yc9]
theorem znv (WR:Cel→List Int) (w:Wld) (o:List Ord):(ze2 WR w o).f=w.f:=by
 unfold ze2 z6a tkC;rw[show ({ (zba (tkB WR w o) (zcg o w)).1 with now:=(zba (tkB WR w o) (zcg o w)).1.now+1 } : Wld).f=(zba (tkB WR w o) (zcg o w)).1.f from rfl,z7l];rfl
theorem z0o (WR:Cel→List Int):∀(l:List (List Ord)) (w:Wld),(zfz WR l w).f=w.f
 | [],_=>rfl
 | o::r,w=>by rw[zfz,z0o WR r,znv]
theorem zqd (WR:Cel→List Int) (o:List Ord):∀(l:List (List Ord)) (w:Wld),zfz WR (l ++ [o]) w=ze2 WR (zfz WR l w) o
 | [],_=>rfl
 | a::r,w=>by rw[List.cons_append,zfz,zqd WR o r];rfl
theorem zqe (WR:Cel→List Int) (o:List Ord):∀(l:List (List Ord)) (w:Wld),zzd WR (l ++ [o]) w=zzd WR l w ++ [zjt (ze2 WR (zfz WR l w) o)]
 | [],_=>rfl
 | a::r,w=>by rw[List.cons_append,zzd,zqe WR o r];rfl
theorem zh8 (WR:Cel→List Int) (b:List (List Ord)):∀(a:List (List Ord)) (w:Wld),zgy WR (a++b) w=if zgy WR a w≠0 then zgy WR a w else zgy WR b (zfz WR a w)
 | [],w=>by simp[zgy,zfz]
 | o::r,w=>by
  rw[List.cons_append,zgy,zgy,zh8 WR b r,zfz]
  by_cases h:zbs o w≠0
  ·rw[if_pos h,if_pos h,if_pos h]
  ·rw[if_neg h,if_neg h]
theorem zu6 (WR:Cel→List Int):∀(l:List (List Ord)) (w:Wld),(zzd WR l w).length=l.length+1
 | [],_=>rfl
 | o::r,w=>by rw[zzd,List.length_cons,zu6 WR r,List.length_cons]
theorem zkc {w:Wld} {l:List Ord} (h:zbs l w=0):Right w∧w.now<1000000:=by
 have hs:zcj l w=0:=by unfold zbs at h;split at h;rename_i h1;exact absurd h h1;rename_i h1;simpa using h1
 have hn:w.now<1000000:=by unfold zbs at h;rw[if_neg (by simp[hs])]at h;split at h;exact absurd h (by decide);omega
 exact⟨zdg (ze4 hs).2,hn⟩
theorem zh9 {WR:Cel→List Int} : ∀(l:List (List Ord)) {w:Wld},Right w→(∀a,zas w.f [a] (WR a))→zgy WR l w=0→Right (zfz WR l w)
 | [],_,h,_,_=>h
 | o::r,w,h,hWR,he=>by
  rw[zgy]at he
  split at he
  ·rename_i h1;exact absurd he h1
  ·rename_i h1
   have h1:zbs o w=0:=by simpa using h1
   exact zh9 r (zgo h hWR o (zkc h1).2) (by intro a;rw[znv];exact hWR a) he
theorem z5h {WR:Cel→List Int} {ts:List (List Ord)} {w:Wld} {k:Nat} (hk:k<ts.length) (h:zgy WR (ts.take k) w=0):(zbs (ts.getD k default) (zfz WR (ts.take k) w)≠0→zgy WR ts w=zbs (ts.getD k default) (zfz WR (ts.take k) w))∧(zbs (ts.getD k default) (zfz WR (ts.take k) w)=0→zgy WR (ts.take (k+1)) w=0):=by
 have e1:=zao ts k hk
 constructor
 ·intro hn
  have e2:ts=ts.take k++ts.drop k:=(List.take_append_drop k ts).symm
  have e3:ts.drop k=ts.getD k default::ts.drop (k+1):=by rw[zae _ _ hk];exact List.drop_eq_getElem_cons hk
  rw[show zgy WR ts w=zgy WR (ts.take k++ts.drop k) w from by rw[←e2],zh8,if_neg (by simp[h]),e3,zgy,if_pos hn]
 ·intro h0
  rw[e1,zh8,if_neg (fun hn=>hn h),zgy,if_neg (fun hn=>hn h0)];rfl
theorem zxq {w:Wld} (h:Right w):zer w []=w:=by
 have e:zdu w []=id:=by funext t;unfold zdu;rw[zwf];simp
 unfold zer zih
 rw[e,List.map_id,List.filter_eq_self.2]
 intro t ht
 obtain⟨i,hi,rfl⟩:=List.mem_iff_getElem.1 ht
 have:=(h.trp i hi).life
 rw[zae _ _ hi]at this
 simp;omega
abbrev yei:List AV := [I .i64 0,I .i64 0,.c (.v (.slice none 0 0)),.c (.v (.slice none 0 0)),.c (.v (.slice none 0 0)),.c (.v (.slice none 0 0)),.c (.v (.slice none 0 0)),I .i64 0,I .i64 0]
theorem yet (w:Wld) (ts:List (List Ord)) (WR:Cel→List Int) (hWR:∀a,zas w.f [a] (WR a)) (hts:ts.length≤200) (hin:∀l∈ts,l.length≤9223372036854775807) (hw:Right w):Spec Tryz.prog 26 [zcy w,.c (.sl 1 (ts.map zcm))] [] (.tup [zcy (if zgy WR ts w=0 then zfz WR ts w else default),.c (.sl 1 ((if zgy WR ts w=0 then zzd WR ts w else []).map zmn)),I .i64 (zgy WR ts w)]) []:=by
 have e1:zbh w []=0:=by unfold zbh;rw[if_neg (by simp[hw.e]),if_neg (by simp)]
 have HK:=zrk w [] hw.l (by simp) e1
 rw[e1,show zes w []=w from by unfold zes;rw[if_pos e1,zxq hw]]at HK
 obtain⟨E,hE⟩:∃E,E=zgy WR ts w:=⟨_,rfl⟩
 rw[←hE]
 refine spB Tryz.func26 64 [.cell 4 28,.tmp 5,.tmp 6] Tryz.results26 ?_
 try refine xst ?_
 refine cI (fun h1 => ?_) fun h1 => ?_
 ·omega
 ·try refine xst ?_
  refine zdt (HK) (by exact⟨Wk.refl _,Wk.nil _,trivial⟩) ?_
  try refine xst ?_
  refine cI (fun h2 => ?_) fun h2 => ?_
  ·simp at h2
  ·try refine xst ?_
   refine caP (zzy w hw.l hw.e) ?_
   try refine xst ?_
   refine zax (fun k:Nat=>⟨[(37,I .i64 k),(36,I .i64 ts.length),(35,.c (.sl 1 (ts.map zcm))),(11,.own 2),(4,.ptr 1 0 0),(2,.ptr 0 0 0)],[(0,.blk 28 (znt (zfz WR (ts.take k) w))),(1,.blk 28 yei),(2,.row 96 1 ((zzd WR (ts.take k) w).map zmn))],3⟩) (fun k:Nat=>k≤ts.length∧zgy WR (ts.take k) w=0) (fun k:Nat=>ts.length-k) (0) (⟨Nat.zero_le _,rfl⟩) (To.mk [0,1,2] rfl rfl (by decide) ?_ ?_) ?_
   ·simp(etaStruct := .none)only[push_cast,zab,seval,List.take_zero,zfz,zzd,List.map_cons,List.map_nil,zmn]
   ·simp(etaStruct := .none)only[push_cast,zab,seval]
   rintro k ⟨hk,hn⟩
   try refine xst ?_
   refine cI (fun h3 => ?_) fun h3 => ?_
   ·have hlt:k<ts.length:=by omega
    have RK:=zh9 (ts.take k) hw hWR hn
    have hWk:∀a,zas (zfz WR (ts.take k) w).f [a] (WR a):=by intro a;rw[z0o];exact hWR a
    obtain⟨st1,st2⟩:=z5h hlt hn
    have T:=zsk (zfz WR (ts.take k) w) (ts.getD k default) WR hWk RK.l (hin _ (za0 _ _ hlt))
    try refine xz2 (gd hlt) zeu ?_
    refine caP (T) ?_
    try refine xz2 (gd hlt) zeu ?_
    refine cI (fun h4 => ?_) fun h4 => ?_
    ·have hE2:=hE.trans (st1 h4)
     rw[if_neg (by rw[hE2];exact h4),if_neg (by rw[hE2];exact h4),hE2]
     try refine xz2 (gd hlt) zeu ?_
     exact xrz rfl
    ·have e0:zbs (ts.getD k default) (zfz WR (ts.take k) w)=0:=by simpa using h4
     have hWv:zpq WR (zfz WR (ts.take k) w) (ts.getD k default)=ze2 WR (zfz WR (ts.take k) w) (ts.getD k default):=if_pos e0
     have RV:Right (zpq WR (zfz WR (ts.take k) w) (ts.getD k default)):=by rw[hWv];exact zgo RK hWk _ (zkc e0).2
     have hW1:zfz WR (ts.take (k+1)) w=zpq WR (zfz WR (ts.take k) w) (ts.getD k default):=by rw[zao ts k hlt,zqd,hWv]
     have hM1:zzd WR (ts.take (k+1)) w=zzd WR (ts.take k) w ++ [zjt (zpq WR (zfz WR (ts.take k) w) (ts.getD k default))]:=by rw[zao ts k hlt,zqe,hWv]
     have hml:=zu6 WR (ts.take k) w
     rw[List.length_take]at hml
     try refine xz2 (gd hlt) zeu ?_
     refine caP (zzy _ RV.l RV.e) ?_
     try refine xz2 (gd hlt) zeu ?_
     refine⟨k+1,⟨by omega,st2 e0⟩,by omega,To.mk [0,1,4] rfl rfl (by decide) ?_ ?_⟩
     ·(iterate 2((try simp(etaStruct := .none)only[push_cast,zab,seval,hW1,hM1,List.map_append,List.map_cons,List.map_nil,zmn]);(try(refine xsu ?_;try exact xtI))))
     ·(try(refine xz2 (gd hlt) zeu ?_;try exact xtI))
   ·obtain rfl:k=ts.length:=by omega
    rw[List.take_length]at hn
    have hE0:E=0:=hE.trans hn
    rw[if_pos hE0,if_pos hE0,hE0]
    iterate 2(try simp(etaStruct := .none)only[push_cast,zab,seval,List.take_length];try refine xsu ?_)
    exact xrz rfl
def zd0 (WR:Cel→List Int) (ts:List (List Ord)) (w:Wld):Int:=if 200<ts.length then 2 else if zal w≠0 then zal w else zgy WR ts w
def zhh (WR:Cel→List Int) (ts:List (List Ord)) (w:Wld):Wld:=if zd0 WR ts w=0 then zfz WR ts w else default
def yfd (WR:Cel→List Int) (ts:List (List Ord)) (w:Wld):List Nat:=if zd0 WR ts w=0 then zzd WR ts w else []
theorem yes (w:Wld) (ts:List (List Ord)) (h:200<ts.length):Spec Tryz.prog 26 [zcy w,.c (.sl 1 (ts.map zcm))] [] (.tup [zcy default,.c (.sl 1 (([]:List Nat).map zmn)),I .i64 2]) []:=by
 refine spB Tryz.func26 64 [.cell 4 28,.tmp 5,.tmp 6] Tryz.results26 ?_
 try refine xst ?_
 refine cI (fun h1 => ?_) fun h1 => ?_
 ·try refine xst ?_
  exact xrz rfl
 ·omega
theorem yer (w:Wld) (ts:List (List Ord)) (hl:zfw w) (h:ts.length≤200) (hw:zal w≠0):Spec Tryz.prog 26 [zcy w,.c (.sl 1 (ts.map zcm))] [] (.tup [zcy default,.c (.sl 1 (([]:List Nat).map zmn)),I .i64 (zal w)]) []:=by
 have e1:zbh w []=zal w:=by unfold zbh;rw[if_pos hw]
 have HK:=z2l w [] hl (by simp) (by rw[e1];exact hw)
 rw[e1]at HK
 refine spB Tryz.func26 64 [.cell 4 28,.tmp 5,.tmp 6] Tryz.results26 ?_
 try refine xst ?_
 refine cI (fun h1 => ?_) fun h1 => ?_
 ·omega
 ·try refine xst ?_
  refine zdt (HK) (by exact⟨Wk.refl _,Wk.nil _,trivial⟩) ?_
  try refine xst ?_
  refine cI (fun h2 => ?_) fun h2 => ?_
  ·try refine xst ?_
   exact xrz rfl
  ·exact absurd h2 hw
theorem zkw (w:Wld) (ts:List (List Ord)) (WR:Cel→List Int) (hWR:∀a,zas w.f [a] (WR a)) (hl:zfw w) (hin:∀l∈ts,l.length≤9223372036854775807):Spec Tryz.prog 26 [zcy w,.c (.sl 1 (ts.map zcm))] [] (.tup [zcy (zhh WR ts w),.c (.sl 1 ((yfd WR ts w).map zmn)),I .i64 (zd0 WR ts w)]) []:=by
 unfold zhh yfd
 obtain⟨E,hE⟩:∃E,E=zd0 WR ts w:=⟨_,rfl⟩
 rw[←hE]
 unfold zd0 at hE
 by_cases h:200<ts.length
 ·rw[if_pos h]at hE;subst hE;exact yes w ts h
 ·rw[if_neg h]at hE
  by_cases hw:zal w=0
  ·rw[if_neg (fun hn=>hn hw)]at hE;subst hE;exact yet w ts WR hWR (by omega) hin (zdg hw)
  ·rw[if_pos hw]at hE;subst hE;rw[if_neg hw,if_neg hw];exact yer w ts hl (by omega) hw
theorem zgn {WR:Cel→List Int} {ts:List (List Ord)} {w:Wld} (h:zd0 WR ts w=0):ts.length≤200∧Right w∧zgy WR ts w=0:=by
 unfold zd0 at h
 split at h
 ·exact absurd h (by decide)
 ·split at h
  ·rename_i h1;exact absurd h h1
  ·rename_i h1;exact⟨by omega,zdg (Decidable.not_not.1 h1),h⟩
theorem yeh:zfw (default:Wld):=⟨Nat.zero_le _,Nat.zero_le _,Nat.zero_le _,Nat.zero_le _,Nat.zero_le _⟩
structure Sty where
 start:Wld
 turns:List (List Ord)
 deriving DecidableEq, Inhabited
abbrev yl9 (s:Sty):List AV := [I .i64 s.start.f.w,I .i64 s.start.f.h,.c (.sl 1 (s.start.f.p.map zac)),.c (.sl 2 (s.start.bases.map za3)),.c (.sl 1 (s.start.stocks.map zac)),.c (.sl 1 (s.start.mines.map zac)),.c (.sl 7 (s.start.troops.map zaw)),I .i64 s.start.next,I .i64 s.start.now,.c (.sl 1 (s.turns.map zcm))]
abbrev yjq:List AV := [I .i64 0,I .i64 0,.c (.v (.slice none 0 0)),.c (.v (.slice none 0 0)),.c (.v (.slice none 0 0)),.c (.v (.slice none 0 0)),.c (.v (.slice none 0 0)),I .i64 0,I .i64 0,.c (.v (.slice none 0 0))]
abbrev yjp (s:Sty):AV := .agg (yl9 s)
structure StyL (s : Sty) : Prop where
 w:zfw s.start
 t:∀l∈s.turns,l.length≤9223372036854775807
 n:s.turns.length≤9223372036854775807
abbrev zpx (WR:Cel→List Int) (s:Sty):Int:=zd0 WR s.turns s.start
theorem z9q {WR:Cel→List Int} {ts:List (List Ord)} {w:Wld} (hWR:∀a,zas w.f [a] (WR a)) (h:zd0 WR ts w=0):zhh WR ts w=zfz WR ts w∧Right (zhh WR ts w)∧∀a,zas (zhh WR ts w).f [a] (WR a):=by
 have e:zhh WR ts w=zfz WR ts w:=if_pos h
 obtain⟨_,h2,h3⟩:=zgn h
 rw[e]
 exact⟨rfl,zh9 ts h2 hWR h3,fun a=>by rw[z0o];exact hWR a⟩
theorem z0l (s:Sty) (WR:Cel→List Int) (hWR:∀a,zas s.start.f [a] (WR a)) (hl:StyL s):Spec Tryz.prog 68 [yjp s] [] (I .i64 (zpx WR s)) []:=by
 have T:=zkw s.start s.turns WR hWR hl.w hl.t
 refine spB Tryz.func68 16 [.tmp 2] Tryz.results68 ?_
 try refine xst ?_
 refine caP (T) ?_
 try refine xst ?_
 exact xrz rfl
theorem z0p {WR:Cel→List Int} {ts:List (List Ord)} {w:Wld} (n:Nat) (h:zgy WR ts w=0):zgy WR (ts.take n) w=0:=by
 have e:=zh8 WR (ts.drop n) (ts.take n) w
 rw[List.take_append_drop,h]at e
 by_cases h1:zgy WR (ts.take n) w=0
 ·exact h1
 ·rw[if_pos h1]at e;exact absurd e.symm h1
def atE (WR:Cel→List Int) (s:Sty) (n:Int):Int:=if zpx WR s≠0 then zpx WR s else if n<0∨(s.turns.length:Int)<n then 1 else 0
def atW (WR:Cel→List Int) (s:Sty) (n:Int):Wld:=if atE WR s n=0 then zfz WR (s.turns.take n.toNat) s.start else default
def zf1 (WR:Cel→List Int) (s:Sty) (l:List Ord):Int:=if zpx WR s≠0 then zpx WR s else if 199<s.turns.length then 6 else zbs l (zhh WR s.turns s.start)
def zg2 (WR:Cel→List Int) (s:Sty) (l:List Ord):Sty:=if zf1 WR s l=0 then ⟨s.start,s.turns ++ [l]⟩else default
theorem zh7 {WR:Cel→List Int} : ∀(ts:List (List Ord)) {w:Wld},zgy WR ts w=0→∀l∈ts,l.length≤100
 | [],_,_,l,hl=>by simp at hl
 | o::r,w,h,l,hl=>by
  rw[zgy]at h
  split at h
  ·rename_i h1;exact absurd h h1
  ·rename_i h1
   have h1:zbs o w=0:=Decidable.not_not.1 h1
   rcases List.mem_cons.1 hl with rfl|hl
   ·have hs:zcj l w=0:=by unfold zbs at h1;split at h1;rename_i h2;exact absurd h1 h2;rename_i h2;simpa using h2
    exact(zff (ze4 hs).1).1
   ·exact zh7 r h l hl
theorem yat (s:Sty) (l:List Ord) (WR:Cel→List Int) (hWR:∀a,zas s.start.f [a] (WR a)) (hl:StyL s) (hll:l.length≤9223372036854775807):Spec Tryz.prog 78 [yjp s,.c (.sl 6 (l.map zdv))] [] (.tup [yjp (zg2 WR s l),I .i64 (zf1 WR s l)]) []:=by
 have T:=zkw s.start s.turns WR hWR hl.w hl.t
 have hn:=hl.n
 refine spB Tryz.func78 79 [.cell 4 32,.tmp 5] Tryz.results78 ?_
 try refine xst ?_
 refine caP (T) ?_
 try refine xst ?_
 refine cI (fun h1 => ?_) fun h1 => ?_
 ·have e:zf1 WR s l=zpx WR s:=if_pos h1
  have e2:zg2 WR s l=default:=if_neg (by rw[e];exact h1)
  rw[e,e2]
  try refine xst ?_
  exact xrz rfl
 ·obtain⟨r1,r2,r3⟩:=z9q hWR h1
  obtain⟨k1,k2,k3⟩:=zgn h1
  try refine xst ?_
  refine cI (fun h2 => ?_) fun h2 => ?_
  ·have e:zf1 WR s l=6:=by unfold zf1;rw[if_neg (fun hn=>hn h1),if_pos (by omega)]
   have e2:zg2 WR s l=default:=if_neg (by rw[e];decide)
   rw[e,e2]
   try refine xst ?_
   exact xrz rfl
  ·have e:zf1 WR s l=zbs l (zhh WR s.turns s.start):=by unfold zf1;rw[if_neg (fun hn=>hn h1),if_neg (by omega)]
   have U:=zsk (zhh WR s.turns s.start) l WR r3 r2.l hll
   try refine xst ?_
   refine caP (U) ?_
   try refine xst ?_
   refine cI (fun h3 => ?_) fun h3 => ?_
   ·have e2:zg2 WR s l=default:=if_neg (by rw[e];exact h3)
    rw[e,e2]
    try refine xst ?_
    exact xrz rfl
   ·have e2:zg2 WR s l=⟨s.start,s.turns ++ [l]⟩:=if_pos (by rw[e];exact h3)
    rw[e,e2,h3]
    have V:=zkw s.start [] WR hWR hl.w (fun _ h=>by simp at h)
    have hl1:l.length≤100:=by
     have hs:zcj l (zhh WR s.turns s.start)=0:=by unfold zbs at h3;split at h3;rename_i h1;exact absurd h3 h1;rename_i h1;simpa using h1
     exact(zff (ze4 hs).1).1
    have v0:zd0 WR [] s.start=0:=by unfold zd0;rw[if_neg (by simp),if_neg (fun hn=>hn k2.e)];rfl
    rw[v0,show zhh WR [] s.start=s.start from if_pos v0]at V
    try refine xst ?_
    refine zdt (V) (by exact⟨Wk.refl _,Wk.nil _,trivial⟩) ?_
    try refine xst ?_
    refine zax (fun k:Nat=>⟨[(59,I .i64 k),(58,I .i64 s.turns.length),(57,.c (.sl 1 (s.turns.map zcm))),(15,.ptr 1 0 0),(4,.ptr 0 0 0),(1,.c (.sl 6 (l.map zdv)))],[(0,.blk 32 yjq),(1,.blk 32 [I .i64 s.start.f.w,I .i64 s.start.f.h,.c (.sl 1 (s.start.f.p.map zac)),.c (.sl 2 (s.start.bases.map za3)),.c (.sl 1 (s.start.stocks.map zac)),.c (.sl 1 (s.start.mines.map zac)),.c (.sl 7 (s.start.troops.map zaw)),I .i64 s.start.next,I .i64 s.start.now,.own 2]),(2,.row 53 1 ((s.turns.take k).map zcm))],3⟩) (fun k:Nat=>k≤s.turns.length) (fun k:Nat=>s.turns.length-k) (0) (Nat.zero_le _) ((To.nilC 6 9 53 1 32 _ rfl rfl).trans (To.mk [1,6,7] rfl rfl (by decide) ?_ ?_)) ?_
    ·simp(etaStruct := .none)only[push_cast,zab,seval,List.set_cons_zero,List.set_cons_succ,List.take_zero,List.map_nil]
    ·simp(etaStruct := .none)only[push_cast,zab,seval]
    rintro k hk
    try refine xst ?_
    refine cI (fun h4 => ?_) fun h4 => ?_
    ·have hlt:k<s.turns.length:=by omega
     have hk1:=zh7 s.turns k3 (s.turns.getD k default) (za0 _ _ hlt)
     have htk:=zao s.turns k hlt
     try refine xz2 (gd hlt) zeu ?_
     refine caP (zie (s.turns.getD k default) (by omega)) ?_
     try refine xz2 (gd hlt) zeu ?_
     (try(refine⟨by kernel_rfl,?_⟩))
     try refine xz2 (gd hlt) zeu ?_
     refine⟨k+1,by omega,by omega,To.mk [0,1,23] rfl rfl (by decide) ?_ ?_⟩
     ·(iterate 2((try simp(etaStruct := .none)only[push_cast,zab,seval,htk,List.map_append,List.map_cons,List.map_nil,zcm]);(try(refine xsu ?_;try exact xtI))))
     ·(try(refine xz2 (gd hlt) zeu ?_;try exact xtI))
    ·obtain rfl:k=s.turns.length:=by omega
     iterate 2(try simp(etaStruct := .none)only[push_cast,zab,seval,List.take_length,List.map_append,List.map_cons,List.map_nil,zcm];try refine xsu ?_)
     refine caP (zie l (by omega)) ?_
     iterate 2(try simp(etaStruct := .none)only[push_cast,zab,seval,List.take_length,List.map_append,List.map_cons,List.map_nil,zcm];try refine xsu ?_)
     (try(refine⟨by kernel_rfl,?_⟩))
     iterate 2(try simp(etaStruct := .none)only[push_cast,zab,seval,List.take_length,List.map_append,List.map_cons,List.map_nil,zcm];try refine xsu ?_)
     have hq:(s.turns ++ [l]).map zcm=s.turns.map zcm ++ [[.sl 6 (l.map zdv)]]:=by rw[List.map_append];rfl
     refine zb0 rfl (by repeat' (first|exact trivial|exact rfl|refine⟨?_,?_⟩)) (Wk.of ?_)
     show _=AV.tup [.agg [I .i64 s.start.f.w,I .i64 s.start.f.h,.c (.sl 1 (s.start.f.p.map zac)),.c (.sl 2 (s.start.bases.map za3)),.c (.sl 1 (s.start.stocks.map zac)),.c (.sl 1 (s.start.mines.map zac)),.c (.sl 7 (s.start.troops.map zaw)),I .i64 s.start.next,I .i64 s.start.now,.c (.sl 1 ((s.turns ++ [l]).map zcm))],I .i64 0]
     rw[hq]
     first|rfl|kernel_rfl
theorem z8m:StyL default:=⟨yeh,fun l (h:l∈([]:List (List Ord)))=>by simp at h,Nat.zero_le _⟩
theorem yb2 (s:Sty) (l:List Ord) (WR:Cel→List Int) (hl:StyL s) (hll:l.length≤9223372036854775807):StyL (zg2 WR s l):=by
 unfold zg2
 split
 ·rename_i h
  have hE:zpx WR s=0:=Decidable.byContradiction fun hn=>by
   unfold zf1 at h;rw[if_pos hn]at h;exact hn h
  have hn:=(zgn hE).1
  refine⟨hl.w,fun x hx => ?_,by simp;omega⟩
  rcases List.mem_append.1 hx with hx|hx
  ·exact hl.t x hx
  ·rw[List.mem_singleton]at hx;rw[hx];exact hll
 ·exact z8m
end Go.Proofs.YtmjbgbmegbkmhaaGreat
namespace Go.Proofs.YtmjbgbmegbkmhaaGreat
set_option linter.all false
open Go.RowKit
set_option maxRecDepth 100000
theorem ydf (n:Nat) (hn:n<4294967296):Spec Tryz.prog 61 [I .u32 n] [] (I .i64 (pcK n 32:Nat)) [] :=
 zh4 (zit Tryz.func61 rfl rfl) [.int .u32 n] _ rfl fun w=>(ydg n w hn).mono fun e w' ⟨h1,h2⟩=>⟨h1,h2▸(Below.refl _ _).drew⟩
theorem z3k (n:Nat) (hn:n<4294967296):Spec Tryz.prog 154 [I .u32 n] [] (I .i64 (pcK n 32:Nat)) []:=by
 refine spB Tryz.func154 5 [.tmp 2] Tryz.results154 ?_
 simp(etaStruct := .none)only[push_cast,zab,seval]
 refine zdt (ydf n hn) (WkL.refl _) ?_
 simp(etaStruct := .none)only[push_cast,zab,seval]
 exact zb0 rfl trivial (Wk.refl _)
def zjn (n:Nat):List PV := [.v (.int .u32 n)]
theorem yk7 (n:Nat):zjn n = [.v (.int .u32 n)]:=rfl
theorem yco (F:FuncId) (a b:List AV) (l:List Nat) (p:Nat→Bool) (hl:l.length≤9223372036854775807) (hp:∀n∈l,Spec Tryz.prog F (a ++ [I .u32 n]++b) [] (B (p n)) []) (ha:∀h,cvL [] h a=a) (hb:∀h,cvL [] h b=b) :
 Spec Tryz.prog 155 [.c (.sl 1 (l.map zjn)),.clo (.func F) a b] [] (I .i64 (zj8 p l)) []:=by
 refine spB Tryz.func155 19 [.tmp 4] Tryz.results155 ?_
 simp(etaStruct := .none)only[push_cast,zab,seval]
 refine zax (fun k:Nat=>⟨[(8,I .i64 k),(7,I .i64 l.length),(0,.c (.sl 1 (l.map zjn))),(1,.clo (.func F) a b)],[],0⟩) (fun k=>k≤l.length∧∀j (hj:j<l.length),j<k→p l[j]=false) (fun k=>l.length-k) 0 ⟨Nat.zero_le _,fun j _ h=>by omega⟩ (To.mk [] rfl rfl List.nodup_nil trivial ?_) ?_
 ·simp(etaStruct := .none)only[push_cast,zab,seval,ha,hb]
 ·rintro k ⟨hk,hn⟩
  simp(etaStruct := .none)only[push_cast,zab,seval]
  refine zay (fun h => ?_) (fun h => ?_)
  ·have hlt:k<l.length:=by simpa using h
   simp(etaStruct := .none)only[push_cast,zab,seval,zb4 _ _ _ hlt,zjn]
   repeat with_reducible refine obA ?_
   refine zdt (hp _ (List.getElem_mem hlt)) (by simp only[zde,ha,hb,cvL,cv];exact WkL.refl _) ?_
   simp(etaStruct := .none)only[push_cast,zab,seval]
   refine zay (fun h => ?_) (fun h => ?_)
   ·simp(etaStruct := .none)only[push_cast,zab,seval]
    exact zb0 rfl trivial (Wk.of (by rw[zd3 p l k hlt h hn];rfl))
   ·simp(etaStruct := .none)only[push_cast,zab,seval]
    refine⟨k+1,⟨by omega,fun j hj hjk => ?_⟩,by omega,To.mk [] rfl rfl List.nodup_nil trivial ?_⟩
    ·by_cases e:j=k
     ·subst e;exact h
     ·exact hn j hj (by omega)
    ·simp(etaStruct := .none)only[push_cast,zab,seval,ha,hb]
     simp(disch:=omega)only[zak,za6,tdv,tmd]
  ·have hge:k=l.length:=by simp at h;omega
   subst hge
   simp(etaStruct := .none)only[push_cast,zab,seval]
   exact zb0 rfl trivial (Wk.of (by rw[zcw p l (fun j hj=>hn j hj hj)];rfl))
end Go.Proofs.YtmjbgbmegbkmhaaGreat
namespace Go.Proofs.YtmjbgbmegbkmhaaGreat
set_option linter.all false
open Go.RowKit
theorem zj9 (n:Int) (h1:0≤n) (h2:n<4294967296):IntKind.u32.wrap n=n:=by
 unfold IntKind.wrap
 simp only[IntKind.bits,IntKind.signed,Bool.false_and,Bool.false_eq_true,if_false]
 show n % (2 ^ 32:Int)=n
 omega
theorem z90 (a b:Nat) (ha:a<4294967296) (hb:b<4294967296):bits .and .u32 (a:Int) (b:Int)=((a &&& b:Nat):Int):=by
 show IntKind.u32.wrap ((BitVec.ofInt 32 (a:Int) &&& BitVec.ofInt 32 (b:Int)).toNat:Nat)=_
 rw[BitVec.toNat_and,BitVec.ofInt_natCast,BitVec.ofInt_natCast,BitVec.toNat_ofNat,BitVec.toNat_ofNat,Nat.mod_eq_of_lt (show a<2 ^ 32 by omega),Nat.mod_eq_of_lt (show b<2 ^ 32 by omega)]
 have:a &&& b≤a:=Nat.and_le_left
 exact zj9 _ (by omega) (by omega)
theorem yib (a b:Nat) (ha:a<4294967296) (hb:b<4294967296):bits .or .u32 (a:Int) (b:Int)=((a ||| b:Nat):Int):=by
 show IntKind.u32.wrap ((BitVec.ofInt 32 (a:Int) ||| BitVec.ofInt 32 (b:Int)).toNat:Nat)=_
 rw[BitVec.toNat_or,BitVec.ofInt_natCast,BitVec.ofInt_natCast,BitVec.toNat_ofNat,BitVec.toNat_ofNat,Nat.mod_eq_of_lt (show a<2 ^ 32 by omega),Nat.mod_eq_of_lt (show b<2 ^ 32 by omega)]
 have:a ||| b<2 ^ 32:=Nat.or_lt_two_pow (by omega) (by omega)
 exact zj9 _ (by omega) (by omega)
theorem znu (a b:Nat) (ha:a<4294967296) (hb:b<4294967296):bits .andNot .u32 (a:Int) (b:Int)=((a &&& (4294967295-b):Nat):Int):=by
 show IntKind.u32.wrap ((BitVec.ofInt 32 (a:Int) &&& ~~~(BitVec.ofInt 32 (b:Int))).toNat:Nat)=_
 rw[BitVec.toNat_and,BitVec.toNat_not,BitVec.ofInt_natCast,BitVec.ofInt_natCast,BitVec.toNat_ofNat,BitVec.toNat_ofNat,Nat.mod_eq_of_lt (show a<2 ^ 32 by omega),Nat.mod_eq_of_lt (show b<2 ^ 32 by omega)]
 have:a &&& (2 ^ 32-1-b)≤a:=Nat.and_le_left
 exact zj9 _ (by omega) (by omega)
theorem zwv (m k B:Nat) (hk:k≤B):(m:Int).fdiv (2 ^ min k B)=((m/2 ^ k:Nat):Int):=by
 rw[Nat.min_eq_left hk,Int.fdiv_eq_ediv_of_nonneg _ (Int.le_of_lt (Int.pow_pos (by decide)))]
 simp
theorem zzu (k:Nat) (hk:k<32):IntKind.u32.wrap (1*2 ^ min k IntKind.u32.bits)=((2 ^ k:Nat):Int):=by
 obtain⟨h1,h2⟩:=zs9 k hk
 rw[show IntKind.u32.bits=32 from rfl,Nat.min_eq_left (by omega),Int.one_mul]
 have:((2:Int) ^ k)=((2 ^ k:Nat):Int):=by simp
 rw[this,zj9 _ (by omega) (by omega)]
theorem zzt (m k:Nat) (hk:k<32):(m:Int).fdiv (2 ^ min k IntKind.u32.bits)=((m/2 ^ k:Nat):Int):=zwv m k _ (by show k≤32;omega)
theorem z4t (m k:Nat) (hm:m<4294967296) (hk:k<32):decide (bits .and .u32 ((m:Int).fdiv (2 ^ min k IntKind.u32.bits)) 1=1)=zbj m k:=by
 rw[zzt m k hk]
 have h1:m/2 ^ k≤m:=Nat.div_le_self _ _
 have:=z90 (m/2 ^ k) 1 (by omega) (by omega)
 rw[show ((1:Nat):Int)=1 from rfl]at this
 rw[this,Nat.and_one_is_mod]
 unfold zbj
 rw[Bool.eq_iff_iff]
 simp only[decide_eq_true_eq,beq_iff_eq]
 omega
end Go.Proofs.YtmjbgbmegbkmhaaGreat
namespace Go.Proofs.YtmjbgbmegbkmhaaGreat
set_option linter.all false
open Go.RowKit
set_option maxRecDepth 100000
abbrev eV (m:Nat) (l:List Nat):AV := .agg [I .u32 m,.c (.sl 1 (l.map zjn))]
theorem ykw (n:Nat) (k:Int) (hn:n<4294967296):Spec Tryz.prog 156 ([] ++ [I .u32 n] ++ [.fel 1 [[.v (.int .i64 k)]] 0 0]) [] (B (decide (k≤(pcK n 32:Nat)))) []:=by
 refine spB Tryz.func156 8 [.tmp 3] Tryz.results156 ?_
 try refine xst ?_
 refine caP (z3k n hn) ?_
 try refine xst ?_
 (try(refine⟨by kernel_rfl,?_⟩))
 try refine xst ?_
 exact xrz rfl
def ybh (m:Nat) (l:List Nat):Int:=zj8 (fun s=>decide (((pcK m 32:Nat):Int)/2+1≤(pcK s 32:Nat))) l
theorem zi7 (m:Nat) (l:List Nat) (hm:m<4294967296) (hl:l.length≤9223372036854775807) (hs:∀s∈l,s<4294967296):Spec Tryz.prog 124 [eV m l] [] (I .i64 (ybh m l)) []:=by
 have hp:=zqp m 32
 refine spB Tryz.func124 13 [.tmp 2] Tryz.results124 ?_
 try refine xst ?_
 refine zdt (z3k m hm) (WkL.refl _) ?_
 try refine xst ?_
 refine zcd (yco _ [] [.fel 1 [[.v (.int .i64 ((pcK m 32:Nat)/2+1))]] 0 0] l (fun s=>decide (((pcK m 32:Nat):Int)/2+1≤(pcK s 32:Nat))) hl (fun s hss=>ykw s _ (hs s hss)) (fun _=>rfl) (fun _=>rfl)) (WkL.refl _) rfl ?_
 try refine xst ?_
 exact zb0 rfl trivial (Wk.refl _)
theorem zoi (m:Nat) (l:List Nat) (k:Int) (hm:m<4294967296):Spec Tryz.prog 127 [eV m l,I .i64 k] [] (B (decide (0≤k∧k<16)&&zbj m k.toNat)) []:=by
 refine spB Tryz.func127 19 [.tmp 4] Tryz.results127 ?_
 try refine xst ?_
 refine zb0 rfl trivial (Wk.of (congrArg B ?_))
 by_cases h:0≤k∧k<16
 ·obtain⟨K,rfl⟩:=Int.eq_ofNat_of_zero_le h.1
  have:=z4t m K hm (by omega)
  simp only[Int.toNat_natCast,this,h,decide_true,Bool.true_and,decide_eq_true h.1,decide_eq_true h.2,and_self]
 ·rw[decide_eq_false h]
  rcases Int.lt_or_le k 0 with h1|h1
  ·simp;omega
  ·simp;omega
theorem yma (m:Nat) (hm:m<4294967296):(m:Int).fdiv (2 ^ min 16 IntKind.u32.bits)=((m/65536:Nat):Int):=by
 have:=zzt m 16 (by omega)
 simpa using this
theorem z73 (m k s:Nat) (hm:m<4294967296) (hs:s<4294967296) (hk:k<32) :
 (!decide (bits .andNot .u32 (s:Int) (m:Int)=0)||decide (bits .and .u32 ((s:Int).fdiv (2 ^ min k IntKind.u32.bits)) 1=1)||(!decide ((s:Int)=0)&&decide (bits .and .u32 ((m:Int).fdiv (2 ^ min k IntKind.u32.bits)) 1=0)))=z74 m k s:=by
 have e:decide (bits .and .u32 ((m:Int).fdiv (2 ^ min k IntKind.u32.bits)) 1=0) = !zbj m k:=by
  rw[zzt m k hk]
  have h1:m/2 ^ k≤m:=Nat.div_le_self _ _
  have:=z90 (m/2 ^ k) 1 (by omega) (by omega)
  rw[show ((1:Nat):Int)=1 from rfl]at this
  rw[this,Nat.and_one_is_mod]
  unfold zbj
  rw[Bool.eq_iff_iff]
  simp only[decide_eq_true_eq,Bool.not_eq_true',beq_eq_false_iff_ne]
  omega
 rw[z4t s k hs hk,e,znu s m hs hm]
 unfold z74
 rw[Bool.eq_iff_iff]
 simp
theorem zvn (m:Nat) (l:List Nat):decide (0≤ybh m l)=(znw m l).isSome:=by
 unfold ybh zj8 znw
 have e:(fun s=>decide (((pcK m 32:Nat):Int)/2+1≤(pcK s 32:Nat)))=z8k m:=by
  funext s;unfold z8k;rw[Bool.eq_iff_iff];simp only[decide_eq_true_eq];omega
 rw[e]
 cases l.findIdx? (z8k m)<;>simp
theorem z3o (m:Nat) (l:List Nat) (hm:m<4294967296) (hl:l.length≤9223372036854775807) (hs:∀s∈l,s<4294967296):Spec Tryz.prog 74 [eV m l] [] (I .i64 (za5 m l)) []:=by
 have e16:=yma m hm
 refine spB Tryz.func74 54 [.tmp 2] Tryz.results74 ?_
 try refine xst ?_
 refine cI (fun h1 => ?_) fun h1 => ?_
 ·have h':m=0∨65535<m:=by omega
  have e:za5 m l=1:=by unfold za5;rw[if_pos h']
  try refine xst ?_
  exact zb0 rfl trivial (Wk.of (by rw[e];rfl))
 ·have h':¬(m=0∨65535<m):=by omega
  try refine xst ?_
  refine cI (fun h2 => ?_) fun h2 => ?_
  ·have e:za5 m l=4:=by unfold za5;rw[if_neg h',if_pos (by omega)]
   try refine xst ?_
   exact zb0 rfl trivial (Wk.of (by rw[e];rfl))
  ·have h2':l.length=16:=by omega
   try refine xst ?_
   refine zax (fun k:Nat=>⟨[(21,I .i64 k),(20,I .i64 l.length),(19,.c (.sl 1 (l.map zjn))),(1,.ptr 0 0 0)],[(0,.blk 38 [I .u32 m,.c (.sl 1 (l.map zjn))])],1⟩) (fun k:Nat=>k≤16∧∀j,j<k→z74 m j (l.getD j 0)=false) (fun k:Nat=>16-k) (0) (⟨by omega,fun j h=>by omega⟩) (To.mk [0] rfl rfl (by decide) ?_ ?_) ?_
   ·simp(etaStruct := .none)only[push_cast,zab,seval]
   ·simp(etaStruct := .none)only[push_cast,zab,seval]
   rintro k ⟨hk,hn⟩
   try refine xst ?_
   refine zay (fun h3 => ?_) (fun h3 => ?_)
   ·(try replace h3:=xhh h3)
    have hlt:k<l.length:=by omega
    have hsk:l[k]<4294967296:=hs _ (List.getElem_mem hlt)
    have hbt:=z73 m k l[k] hm hsk (by omega)
    iterate 2(try simp(etaStruct := .none)only[push_cast,zab,seval,zb4 _ _ _ hlt,zjn];try refine xsu ?_)
    rw[hbt]
    refine cI (fun h4 => ?_) fun h4 => ?_
    ·have hany:(List.range 16).any (fun k=>z74 m k (l.getD k 0))=true:=List.any_eq_true.2 ⟨k,by simp;omega,by rw[zts _ _ _ hlt];exact h4⟩
     have e:za5 m l=4:=by unfold za5;rw[if_neg h',if_neg (by omega),if_pos hany]
     iterate 2(try simp(etaStruct := .none)only[push_cast,zab,seval,zb4 _ _ _ hlt,zjn];try refine xsu ?_)
     exact zb0 rfl trivial (Wk.of (by rw[e];rfl))
    ·iterate 2(try simp(etaStruct := .none)only[push_cast,zab,seval,zb4 _ _ _ hlt,zjn];try refine xsu ?_)
     refine⟨k+1,⟨by omega,fun j hj=>by
 by_cases e:j=k
 ·subst e;rw[zts _ _ _ hlt];exact h4
 ·exact hn j (by omega)⟩, by omega, To.mk [0] rfl rfl (by decide) ?_ ?_⟩
     ·(iterate 2((try simp(etaStruct := .none)only[push_cast,zab,seval,zb4 _ _ _ hlt,zjn]);(try(refine xsu ?_;try exact xtI))))
     ·(iterate 2((try simp(etaStruct := .none)only[push_cast,zab,seval,zb4 _ _ _ hlt,zjn]);(try(refine xsu ?_;try exact xtI))))
   ·(try replace h3:=xhh h3)
    have hge:k=16:=by omega
    subst hge
    have hbad:¬((List.range 16).any (fun k=>z74 m k (l.getD k 0))=true):=by
     simp only[Bool.not_eq_true,List.any_eq_false]
     intro j hj
     rw[hn j (by simpa using hj)]
    have hon:=zvn m l
    try refine xst ?_
    refine caP (zi7 m l hm hl hs) ?_
    try refine xst ?_
    rw[hon]
    refine cI (fun h5 => ?_) fun h5 => ?_
    ·have e:za5 m l=4:=by unfold za5;rw[if_neg h',if_neg (by omega),if_neg hbad,if_pos h5]
     try refine xst ?_
     exact zb0 rfl trivial (Wk.of (by rw[e];rfl))
    ·have e:za5 m l=0:=by unfold za5;rw[if_neg h',if_neg (by omega),if_neg hbad,if_neg (by rw[h5];decide)]
     try refine xst ?_
     exact zb0 rfl trivial (Wk.of (by rw[e];rfl))
def zi3 (f:Nat→Nat) (i:Nat) (g:List Nat):List Nat:=(g.take i).map f++g.drop i
theorem zlh (f:Nat→Nat) (i:Nat) (g:List Nat):(zi3 f i g).length=g.length:=by simp[zi3];omega
theorem yfl (f:Nat→Nat) (g:List Nat):zi3 f 0 g=g:=by simp[zi3]
theorem z08 (f:Nat→Nat) (i:Nat) (g:List Nat) (h:g.length≤i):zi3 f i g=g.map f:=by simp[zi3,List.take_of_length_le h,List.drop_of_length_le h]
theorem z5x (f:Nat→Nat) (i:Nat) (g:List Nat) (h:i<g.length):(zi3 f i g)[i]'(by rw[zlh];exact h)=g[i]:=by
 unfold zi3
 rw[List.getElem_append_right (by simp;omega)]
 simp[Nat.min_eq_left (Nat.le_of_lt h)]
theorem z07 (f:Nat→Nat) (i:Nat) (g:List Nat) (h:i<g.length):(zi3 f i g).set i (f g[i])=zi3 f (i+1) g:=by
 unfold zi3
 rw[List.set_append_right _ _ (by simp;omega)]
 rw[List.length_map,List.length_take,Nat.min_eq_left (Nat.le_of_lt h),Nat.sub_self,List.drop_eq_getElem_cons h,List.set_cons_zero,List.take_succ_eq_append_getElem h,List.map_append,List.append_assoc]
 rfl
theorem zss (l:List Nat) (i:Nat) (x:Int) (n:Nat) (h:x=n):(l.map zjn).set i [.v (.int .u32 x)]=(l.set i n).map zjn:=by rw[h,List.map_set];rfl
theorem z3l (n k:Nat) (hn:n<4294967296) (hk:k<32):bits .andNot .u32 (n:Int) (IntKind.u32.wrap (1*2 ^ min k IntKind.u32.bits))=(clr n k:Nat):=by
 have:=zs9 k hk
 rw[zzu k hk,znu n (2 ^ k) hn (by omega),z38 n k hn hk]
theorem ydh (l:List Nat) (hl:l.length≤1000000000) (h0:l ≠ []):Spec Tryz.prog 72 [.c (.sl 1 (l.map zjn))] [] (.own 0) [.row 35 1 (l.map zjn)]:=by
 refine spB Tryz.func72 8 [.tmp 2] Tryz.results72 ?_
 try refine xst ?_
 intro b hb
 try refine xst ?_
 refine zay (fun h => ?_) (fun h => ?_)
 ·exact absurd (List.map_eq_nil_iff.1 (hb h)) h0
 ·try refine xst ?_
  refine zby [1] rfl rfl (by decide) ⟨?_,trivial⟩ trivial ?_
  ·simp(etaStruct := .none)only[push_cast,zab,seval]
  ·simp(etaStruct := .none)only[push_cast,zab,seval]
theorem ycc (m k:Nat) (l:List Nat) (hm:m<4294967296) (hk:k<16) (hkl:k<l.length) (hl:l.length≤1000000000) (hs:∀s∈l,s<4294967296) :
 Spec Tryz.prog 128 [.ptr 0 0 0,I .i64 k] [.blk 38 [I .u32 m,.own 1],.row 35 1 (l.map zjn)] .undef [.blk 38 [I .u32 (clr m k:Nat),.own 1],.row 35 1 ((lv l k).map zjn)]:=by
 refine spB Tryz.func128 40 [] Tryz.results128 ?_
 try refine xz1 (z3l m k hm (by omega)) ?_
 have hlen:(l.set k 0).length=l.length:=by simp
 refine zax (fun i:Nat=>⟨[(25,I .i64 i),(24,I .i64 l.length),(1,I .i64 k),(0,.ptr 0 0 0)],[(0,.blk 38 [I .u32 (clr m k:Nat),.own 1]),(1,.row 35 1 ((zi3 (clr · k) i (l.set k 0)).map zjn))],2⟩) (fun i=>i≤l.length) (fun i=>l.length-i) 0 (Nat.zero_le _) (To.mk [0,1] rfl rfl (by decide) ?_ ?_) ?_
 ·simp(etaStruct := .none)only[push_cast,zab,seval,yfl]
  exact zss l k 0 0 rfl
 ·(iterate 2((try simp(etaStruct := .none)only[push_cast,zab,seval,List.length_set]);(try(refine xsu ?_;try exact xtI))))
 ·rintro i hi
  have hg:∀s∈l.set k 0,s<4294967296:=fun s hh=>by rcases List.mem_or_eq_of_mem_set hh with h|h;exact hs s h;omega
  try refine xst ?_
  refine zay (fun h => ?_) (fun h => ?_)
  ·have hlt:i<(l.set k 0).length:=by simpa using h
   have hlp:i<(zi3 (clr · k) i (l.set k 0)).length:=by rw[zlh];exact hlt
   have hu:=z3l (l.set k 0)[i] k (hg _ (List.getElem_mem hlt)) (by omega)
   iterate 2(try simp(etaStruct := .none)only[push_cast,zab,seval,zb4 _ _ _ hlp,zjn,zlh,z5x _ i _ hlt,hu];try refine xsu ?_)
   refine⟨i+1,by omega,by omega,To.mk [0,1] rfl rfl (by decide) ?_ ?_⟩
   ·try refine xst ?_
    rw[zss _ _ _ _ rfl,z07 _ i _ hlt]
   ·(try(refine xst ?_;try exact xtI))
  ·have hge:i=l.length:=by simp at h;omega
   try refine xst ?_
   refine zby [0,1] rfl rfl (by decide) ⟨?_,?_,trivial⟩ trivial ?_
   ·(try(refine xst ?_;try exact xtI))
   ·iterate 2(try simp(etaStruct := .none)only[push_cast,zab,seval,z08 _ _ _ (show (l.set k 0).length≤i by omega)];try refine xsu ?_)
    unfold lv
    rfl
   ·try refine xst ?_
    exact Wk.undef _
theorem zti (m:Nat) (b:Int) (hm:m<65536):(decide (0≤b∧b<16)&&zbj m b.toNat)=zhx m b:=by
 by_cases h:0≤b∧b<16
 ·obtain⟨k,rfl⟩:=Int.eq_ofNat_of_zero_le h.1
  rw[ztr m k (by omega),decide_eq_true h];rfl
 ·rw[ztq m b hm h,decide_eq_false h];rfl
theorem z51 (m:Nat) (l:List Nat) (k:Nat) (h:znw m l=some k):ybh m l=k:=by
 have e:(fun s=>decide (((pcK m 32:Nat):Int)/2+1≤(pcK s 32:Nat)))=z8k m:=by
  funext s;unfold z8k;rw[Bool.eq_iff_iff];simp only[decide_eq_true_eq];omega
 unfold ybh zj8
 unfold znw at h
 rw[e,h]
theorem ybg (m:Nat) (l:List Nat) (h:znw m l=none):ybh m l<0:=by
 have:=zvn m l
 rw[h]at this
 simpa using this
theorem z2o (m:Nat) (b:Int) (hm:m<65536) (h:zhx m b=true):∃k:Nat,b=k∧k<16∧zbj m k=true:=by
 by_cases hb:0≤b∧b<16
 ·obtain⟨k,rfl⟩:=Int.eq_ofNat_of_zero_le hb.1
  exact⟨k,rfl,by omega,by rw[←ztr m k (by omega)];exact h⟩
 ·rw[ztq m b hm hb]at h;simp at h
theorem yhg {m:Nat} {g:List Nat} {b a:Int} (h:za5 m g≠0):zch m g b a=((0,[]),false,za5 m g):=by unfold zch;rw[if_pos h]
theorem yhf {m:Nat} {g:List Nat} {b a:Int} (h:za5 m g=0) (h2:(zhx m b&&zhx m a)=false):zch m g b a=((0,[]),false,7):=by unfold zch;rw[if_neg (fun x=>x h),if_pos h2]
theorem yhd {m:Nat} {g:List Nat} {b a:Int} (h:za5 m g=0) (h2:¬(zhx m b&&zhx m a)=false) (h3:b=a):zch m g b a=((0,[]),false,1):=by unfold zch;rw[if_neg (fun x=>x h),if_neg h2,if_pos h3]
theorem yhe {m:Nat} {g:List Nat} {b a:Int} (h:za5 m g=0) (h2:¬(zhx m b&&zhx m a)=false) (h3:b≠a) (h4:zbj (g.getD a.toNat 0) b.toNat=true):zch m g b a=((0,[]),false,8):=by unfold zch;rw[if_neg (fun x=>x h),if_neg h2,if_neg h3,if_pos h4]
theorem yhc {m:Nat} {g:List Nat} {b a:Int} (h:za5 m g=0) (h2:¬(zhx m b&&zhx m a)=false) (h3:b≠a) (h4:¬zbj (g.getD a.toNat 0) b.toNat=true):zch m g b a=(zmj 16 m (g.set a.toNat (g.getD a.toNat 0+2 ^ b.toNat)),!zbj (zmj 16 m (g.set a.toNat (g.getD a.toNat 0+2 ^ b.toNat))).1 a.toNat,0):=by unfold zch;rw[if_neg (fun x=>x h),if_neg h2,if_neg h3,if_neg h4]
theorem yhb (m:Nat) (l:List Nat) (b a:Int) (hm:m<4294967296) (hl:l.length≤9223372036854775807) (hs:∀s∈l,s<4294967296) :
 Spec Tryz.prog 79 [eV m l,I .i64 b,I .i64 a] [] (.tup [eV (zch m l b a).1.1 (zch m l b a).1.2,B (zch m l b a).2.1,I .i64 (zch m l b a).2.2]) []:=by
 refine spB Tryz.func79 71 [.cell 6 38,.tmp 7,.tmp 8] Tryz.results79 ?_
 try refine xst ?_
 refine zdt (z3o m l hm hl hs) (WkL.refl _) ?_
 try refine xst ?_
 refine zay (fun h => ?_) (fun h => ?_)
 ·have h1:za5 m l≠0:=by simpa using h
  try refine xst ?_
  refine zay (fun _ => ?_) (fun h'=>absurd (h.symm.trans h') (by decide))
  try refine xst ?_
  rw[yhg h1]
  exact zb0 rfl ⟨rfl,trivial⟩ (Wk.tup ⟨Wk.agg ⟨Wk.refl _,Wk.nil 1,trivial⟩,Wk.refl _,Wk.refl _,trivial⟩)
 have h1:za5 m l=0:=by simpa using h
 obtain⟨⟨r1,r2⟩,r3,r4,r5⟩:=zi2 m l h1
 try refine xst ?_
 refine zdt (zoi m l b hm) (WkL.refl _) ?_
 try refine xst ?_
 rw[zti m b (by omega)]
 refine zwn (fun _=>zoi m l a hm) (WkL.refl _) (fun hc => ?_) ?_
 ·have hx:zhx m b=true:=by simpa using hc
  rw[←zti m b (by omega)]at hx
  (try simp(etaStruct := .none)only[push_cast,zab,seval])
  simpa using hx
 rw[zti m a (by omega)]
 try refine xst ?_
 have fin:∀(v:Int) (_:v≠0),True:=fun _ _=>trivial
 refine zay (fun h => ?_) (fun h => ?_)
 ·have h2:(zhx m b&&zhx m a)=false:=by revert h;cases zhx m b<;>cases zhx m a<;>decide
  try refine xst ?_
  refine zay (fun _ => ?_) (fun h'=>absurd h' (by decide))
  try refine xst ?_
  rw[yhf h1 h2]
  exact zb0 rfl ⟨rfl,trivial⟩ (Wk.tup ⟨Wk.agg ⟨Wk.refl _,Wk.nil 1,trivial⟩,Wk.refl _,Wk.refl _,trivial⟩)
 have h2:zhx m b=true∧zhx m a=true:=by revert h;cases zhx m b<;>cases zhx m a<;>decide
 have h2':¬(zhx m b&&zhx m a)=false:=by rw[h2.1,h2.2];decide
 obtain⟨B',rfl,hB,bB⟩:=z2o m b (by omega) h2.1
 obtain⟨A',rfl,hA,bA⟩:=z2o m a (by omega) h2.2
 try refine xst ?_
 refine zay (fun h => ?_) (fun h => ?_)
 ·have h3:(B':Int)=(A':Int):=by simpa using h
  try refine xst ?_
  refine zay (fun _ => ?_) (fun h'=>absurd h' (by decide))
  try refine xst ?_
  rw[yhd h1 h2' h3]
  exact zb0 rfl ⟨rfl,trivial⟩ (Wk.tup ⟨Wk.agg ⟨Wk.refl _,Wk.nil 1,trivial⟩,Wk.refl _,Wk.refl _,trivial⟩)
 have h3:(B':Int)≠(A':Int):=by simpa using h
 have hlt:A'<l.length:=by omega
 have hg:l[A']<4294967296:=hs _ (List.getElem_mem hlt)
 have hgd:l.getD A' 0=l[A']:=zts _ _ _ hlt
 iterate 2(try simp(etaStruct := .none)only[push_cast,zab,seval,zb4 _ _ _ hlt,zjn,z4t l[A'] B' hg (by omega)];try refine xsu ?_)
 refine zay (fun h => ?_) (fun h => ?_)
 ·try refine xst ?_
  refine zay (fun _ => ?_) (fun h'=>absurd h' (by decide))
  try refine xst ?_
  rw[yhe h1 h2' h3 (by rw[Int.toNat_natCast,Int.toNat_natCast,hgd];exact h)]
  exact zb0 rfl ⟨rfl,trivial⟩ (Wk.tup ⟨Wk.agg ⟨Wk.refl _,Wk.nil 1,trivial⟩,Wk.refl _,Wk.refl _,trivial⟩)
 obtain⟨o1,o2⟩:=z1e l[A'] B' hg (by omega) h
 have hp:=zs9 B' (by omega)
 rw[yhc h1 h2' h3 (by rw[Int.toNat_natCast,Int.toNat_natCast,hgd,h];decide)]
 rw[Int.toNat_natCast,Int.toNat_natCast,hgd]
 try refine xst ?_
 refine zay (fun h'=>absurd h' (by simp[h1])) (fun _ => ?_)
 try refine xst ?_
 refine zfv [] (ydh l (by omega) (by intro e;rw[e]at r3;simp at r3)) (WkL.refl _) rfl List.nodup_nil (by simp[zbn]) ?_
 have hor:bits .or .u32 (l[A']:Int) ((2:Int) ^ B')=(l[A']:Int)+2 ^ B':=by
  have:=yib l[A'] (2 ^ B') hg (show 2 ^ B'<4294967296 by omega)
  rw[o1]at this
  push_cast at this
  exact this
 iterate 2(try simp(etaStruct := .none)only[push_cast,zab,seval,zb4 _ _ _ hlt,zjn,zzu B' (show B'<32 by omega),hor];try refine xsu ?_)
 rw[zss l A' _ (l[A']+2 ^ B') (by push_cast;rfl)]
 have hgl:(l.set A' (l[A']+2 ^ B')).length=16:=by rw[List.length_set];exact r3
 have hgs:∀s∈l.set A' (l[A']+2 ^ B'),s<4294967296:=fun s hh=>by
  rcases List.mem_or_eq_of_mem_set hh with h|h
  ·exact hs s h
  ·rw[h];exact o2
 generalize l.set A' (l[A']+2 ^ B')=g0 at hgl hgs ⊢
 refine zcd (zi7 m g0 hm (by omega) hgs) (WkL.refl _) rfl ?_
 try refine xst ?_
 refine zax (fun p:Nat × List Nat=>⟨[(10,I .i64 (ybh p.1 p.2)),(3,.ptr 0 0 0),(6,.ptr 1 0 0),(2,I .i64 A')],[(0,.blk 38 [I .u32 p.1,.own 2]),(1,.blk 38 [I .u32 0,.c (.v (.slice none 0 0))]),(2,.row 35 1 (p.2.map zjn))],3⟩) (fun p=>(p.1≤m∧p.2.length=16∧∀s∈p.2,s<4294967296)∧∃n,nz p.2≤n∧zmj 16 m g0=zmj n p.1 p.2) (fun p=>nz p.2) (m,g0) ⟨⟨Nat.le_refl _,hgl,hgs⟩,16,by rw[←hgl];exact yfx g0,rfl⟩ (To.mk [0,1,2] rfl rfl (by decide) ?_ ?_) ?_
 ·simp(etaStruct := .none)only[push_cast,zab,seval]
 ·simp(etaStruct := .none)only[push_cast,zab,seval]
 rintro⟨m',g⟩ ⟨⟨q1,q2,q3⟩,n,q4,q5⟩
 simp only at q1 q2 q3 q4
 try refine xst ?_
 cases hT:znw m' g with
 | none =>
  have hn:=ybg m' g hT
  refine zay (fun h=>absurd h (by simp;omega)) (fun _ => ?_)
  rw[z5j _ _ _ hT]at q5
  rw[q5]
  try refine xst ?_
  refine zcd (zoi m' g A' (by omega)) (WkL.refl _) rfl ?_
  have mm:(decide (0≤(A':Int)∧(A':Int)<16)&&zbj m' (A':Int).toNat)=zbj m' A':=by rw[Int.toNat_natCast,decide_eq_true (by omega)];rfl
  rw[mm]
  try refine xst ?_
  (try refine⟨by kernel_rfl,?_⟩)
  exact zb0 rfl ⟨rfl,trivial⟩ (Wk.refl _)
 | some k =>
  have hk:=z51 m' g k hT
  obtain⟨k1,k2,k3⟩:=zh0 m' g k hT
  obtain⟨n',j1,j2⟩:=z5i n m' g k hT q4
  rw[hk]
  refine zay (fun _ => ?_) (fun h=>absurd h (by simp))
  try refine xst ?_
  refine zfv [0,2] (ycc m' k g (by omega) (by omega) k1 (by omega) q3) (WkL.refl _) rfl (by decide) (by simp[zbn]) ?_
  try refine xst ?_
  have hc:=znl m' k
  have hls:∀s∈lv g k,s<4294967296:=fun s hh=>by
   unfold lv at hh
   obtain⟨u,hu,rfl⟩:=List.mem_map.1 hh
   have hu2:u<4294967296:=by
    rcases List.mem_or_eq_of_mem_set hu with h|h
    ·exact q3 u h
    ·omega
   exact Nat.lt_of_le_of_lt (znl u k) hu2
  refine zcd (zi7 (clr m' k) (lv g k) (by omega) (by rw[zv2];omega) hls) (WkL.refl _) rfl ?_
  try refine xst ?_
  refine⟨(clr m' k,lv g k),⟨⟨by simp only;omega,by simp only;rw[zv2];omega,hls⟩,n',j1,by rw[q5,j2]⟩,z57 g k k1 k3,To.mk [0,1,2] rfl rfl (by decide) ?_ ?_⟩
  ·simp(etaStruct := .none)only[push_cast,zab,seval]
  ·simp(etaStruct := .none)only[push_cast,zab,seval]
end Go.Proofs.YtmjbgbmegbkmhaaGreat
namespace Go.Proofs.YtmjbgbmegbkmhaaGreat
set_option linter.all false
open Go.RowKit
set_option maxRecDepth 100000
set_option maxHeartbeats 1000000
structure Hst where
 sty:Sty
 seats:List Sea
 m:Nat
 ag:List Nat
 most:Int
deriving Inhabited
abbrev z4i (h:Hst):List AV := [I .i64 h.sty.start.f.w,I .i64 h.sty.start.f.h,.c (.sl 1 (h.sty.start.f.p.map zac)),.c (.sl 2 (h.sty.start.bases.map za3)),.c (.sl 1 (h.sty.start.stocks.map zac)),.c (.sl 1 (h.sty.start.mines.map zac)),.c (.sl 7 (h.sty.start.troops.map zaw)),I .i64 h.sty.start.next,I .i64 h.sty.start.now,.c (.sl 1 (h.sty.turns.map zcm)),.c (.sl 3 (h.seats.map zbt)),I .u32 h.m,.c (.sl 1 (h.ag.map zjn)),I .i64 h.most]
abbrev zyr (h:Hst):AV := .agg (z4i h)
structure HstL (h : Hst) : Prop where
 s:StyL h.sty
 l:h.seats.length≤9223372036854775807
 a:∀s∈h.seats,zf9 s
 m:h.m<4294967296
 g:h.ag.length≤9223372036854775807
 e:∀s∈h.ag,s<4294967296
def zgx (h:Hst) (i:Nat):Bool:=decide ((h.seats.getD i default).gone = !zbj h.m i)
def zsd (WR:Cel→List Int) (h:Hst):Int:=if zpx WR h.sty≠0 then zpx WR h.sty else if za4 h.seats≠0 then za4 h.seats else if za5 h.m h.ag≠0 then za5 h.m h.ag else if ¬(1≤h.most∧h.most≤100)then 1 else
 if h.seats.length≠h.sty.start.bases.length∨h.m/2 ^ h.seats.length≠0 then 4 else if (List.range h.seats.length).all (zgx h)then 0 else 4
theorem ztp (n:Int):Spec Tryz.prog 27 [I .i64 n] [] (B (decide (1≤n)&&decide (n≤100))) []:=by
 refine spB Tryz.func27 9 [.tmp 2] Tryz.results27 ?_
 try refine xst ?_
 exact xrz rfl
theorem yeq (m k:Nat) (hm:m<4294967296) (hk:k<32):decide (bits .and .u32 ((m:Int).fdiv (2 ^ min k IntKind.u32.bits)) 1=0) = !zbj m k:=by
 rw[zzt m k hk]
 have h1:m/2 ^ k≤m:=Nat.div_le_self _ _
 have:=z90 (m/2 ^ k) 1 (by omega) (by omega)
 rw[show ((1:Nat):Int)=1 from rfl]at this
 rw[this,Nat.and_one_is_mod]
 unfold zbj
 rw[Bool.eq_iff_iff]
 simp only[decide_eq_true_eq,Bool.not_eq_true',beq_eq_false_iff_ne]
 omega
theorem yep (m k:Nat) (hm:m<4294967296) (hk:k<32):(m:Int).fdiv (2 ^ min k IntKind.u32.bits)=((m/2 ^ k:Nat):Int):=zzt m k hk
theorem zkn (h:Hst) (WR:Cel→List Int) (hWR:∀a,zas h.sty.start.f [a] (WR a)) (hl:HstL h):Spec Tryz.prog 31 [zyr h] [] (I .i64 (zsd WR h)) []:=by
 have S1:=z0l h.sty WR hWR hl.s
 have S2:=zdy h.seats hl.l hl.a
 have S3:=z3o h.m h.ag hl.m hl.g hl.e
 have eH:zsd WR h=if zpx WR h.sty≠0 then zpx WR h.sty else if za4 h.seats≠0 then za4 h.seats else if za5 h.m h.ag≠0 then za5 h.m h.ag else if ¬(1≤h.most∧h.most≤100)then 1 else if h.seats.length≠h.sty.start.bases.length∨h.m/2 ^ h.seats.length≠0 then 4 else if (List.range h.seats.length).all (zgx h)then 0 else 4:=rfl
 have h8:za4 h.seats=0→h.seats.length≤8:=fun h0=>(zcb h0).2.1
 have hm:=hl.m
 generalize zsd WR h=E at *
 generalize zpx WR h.sty=e1 at *
 generalize za4 h.seats=e2 at *
 generalize za5 h.m h.ag=e3 at *
 refine spB Tryz.func31 66 [.tmp 2] Tryz.results31 ?_
 (iterate 2((try simp(etaStruct := .none)only[push_cast,seval]);(try(refine xsu ?_;try exact xtI))))
 refine zaz [some 7,some 8,some 9,some 10,some 11,some 12,some 13,some 14,some 15,some 16,some 17] rfl ?_
 intro Oq lq Rq hlq hdq hRq
 subst hlq
 iterate 2(refine zar fun rq hrq => ?_;(iterate 2((try simp(etaStruct := .none)only[push_cast,seval,hdq,id]);(try(refine xsu ?_;try exact xtI))));subst hrq)
 refine zar fun rq hrq => ?_
 (iterate 2((try simp(etaStruct := .none)only[push_cast,seval,hdq,id]);(try(refine xsu ?_;try exact xtI))))
 refine caP (S1) ?_
 (iterate 2((try simp(etaStruct := .none)only[push_cast,seval,hdq,id]);(try(refine xsu ?_;try exact xtI))))
 subst hrq
 iterate 2(refine zar fun rq hrq => ?_;(iterate 2((try simp(etaStruct := .none)only[push_cast,seval,hdq,id]);(try(refine xsu ?_;try exact xtI))));subst hrq)
 refine zar fun rq hrq => ?_
 (iterate 2((try simp(etaStruct := .none)only[push_cast,seval,hdq,id]);(try(refine xsu ?_;try exact xtI))))
 refine caP (S2) ?_
 (iterate 2((try simp(etaStruct := .none)only[push_cast,seval,hdq,id]);(try(refine xsu ?_;try exact xtI))))
 subst hrq
 iterate 2(refine zar fun rq hrq => ?_;(iterate 2((try simp(etaStruct := .none)only[push_cast,seval,hdq,id]);(try(refine xsu ?_;try exact xtI))));subst hrq)
 refine zar fun rq hrq => ?_
 (iterate 2((try simp(etaStruct := .none)only[push_cast,seval,hdq,id]);(try(refine xsu ?_;try exact xtI))))
 refine caP (S3) ?_
 (iterate 2((try simp(etaStruct := .none)only[push_cast,seval,hdq,id]);(try(refine xsu ?_;try exact xtI))))
 subst hrq
 iterate 2(refine zar fun rq hrq => ?_;(iterate 2((try simp(etaStruct := .none)only[push_cast,seval,hdq,id]);(try(refine xsu ?_;try exact xtI))));subst hrq)
 refine zht ?_
 subst hRq
 clear hdq Oq
 refine zhs (by kernel_rfl) ?_
 (iterate 2((try simp(etaStruct := .none)only[push_cast,seval]);(try(refine xsu ?_;try exact xtI))))
 refine zax (fun k:Nat=>⟨[(17,I .i64 k),(16,.agg [I .i64 e1,I .i64 e2,I .i64 e3]),(1,.ptr 0 0 0)],[(0,.blk 40 (z4i h))],1⟩) (fun k:Nat=>k≤3∧(1≤k→e1=0)∧(2≤k→e2=0)∧(3≤k→e3=0)) (fun k:Nat=>3-k) (0) (⟨by omega,by omega,by omega,by omega⟩) (To.mk [0] rfl rfl (by decide) ?_ ?_) ?_
 ·simp(etaStruct := .none)only[push_cast,zab,seval]
 ·simp(etaStruct := .none)only[push_cast,zab,seval]
 rintro k ⟨hk,k1,k2,k3⟩
 (iterate 2((try simp(etaStruct := .none)only[push_cast,seval]);(try(refine xsu ?_;try exact xtI))))
 refine cI (fun h1 => ?_) fun h1 => ?_
 ·obtain⟨e,hx,he⟩:∃e:Int,([I .i64 e1,I .i64 e2,I .i64 e3]:List AV)[k]? = some (I .i64 e)∧(k=0∧e=e1∨k=1∧e=e2∨k=2∧e=e3):=by
   have:k=0∨k=1∨k=2:=by omega
   rcases this with rfl|rfl|rfl
   ·exact⟨e1,rfl,by omega⟩
   ·exact⟨e2,rfl,by omega⟩
   ·exact⟨e3,rfl,by omega⟩
  (iterate 2((try simp(etaStruct := .none)only[push_cast,seval,hx,Int.toNat_natCast,Nat.mul_one]);(try(refine xsu ?_;try exact xtI))))
  refine cI (fun h2 => ?_) fun h2 => ?_
  ·have eE:E=e:=by
    rw[eH]
    rcases he with ⟨a,rfl⟩|⟨a,rfl⟩|⟨a,rfl⟩
    ·rw[if_pos h2]
    ·rw[if_neg (fun x=>x (k1 (by omega))),if_pos h2]
    ·rw[if_neg (fun x=>x (k1 (by omega))),if_neg (fun x=>x (k2 (by omega))),if_pos h2]
   (iterate 2((try simp(etaStruct := .none)only[push_cast,seval,hx,Int.toNat_natCast,Nat.mul_one]);(try(refine xsu ?_;try exact xtI))))
   exact zb0 rfl trivial (Wk.of (by rw[eE];rfl))
  ·(iterate 2((try simp(etaStruct := .none)only[push_cast,seval,hx,Int.toNat_natCast,Nat.mul_one]);(try(refine xsu ?_;try exact xtI))))
   refine⟨k+1,⟨by omega,fun _=>by omega,fun _=>by omega,fun _=>by omega⟩,by omega,To.mk [0] rfl rfl (by decide) ?_ ?_⟩
   ·(iterate 2((try simp(etaStruct := .none)only[push_cast,seval,hx,Int.toNat_natCast,Nat.mul_one]);(try(refine xsu ?_;try exact xtI))))
   ·(iterate 2((try simp(etaStruct := .none)only[push_cast,seval,hx,Int.toNat_natCast,Nat.mul_one]);(try(refine xsu ?_;try exact xtI))))
 ·have z1:=k1 (by omega)
  have z2:=k2 (by omega)
  have z3:=k3 (by omega)
  have h8:=h8 z2
  rw[if_neg (fun x=>x z1),if_neg (fun x=>x z2),if_neg (fun x=>x z3)]at eH
  have hsh:=yep h.m h.seats.length hm (by omega)
  (iterate 2((try simp(etaStruct := .none)only[push_cast,seval]);(try(refine xsu ?_;try exact xtI))))
  refine caP (ztp h.most) ?_
  (iterate 2((try simp(etaStruct := .none)only[push_cast,seval]);(try(refine xsu ?_;try exact xtI))))
  refine cI (fun h3 => ?_) fun h3 => ?_
  ·have eE:E=1:=by rw[eH,if_pos (by omega)]
   (iterate 2((try simp(etaStruct := .none)only[push_cast,seval]);(try(refine xsu ?_;try exact xtI))))
   exact zb0 rfl trivial (Wk.of (by rw[eE];rfl))
  ·rw[if_neg (by omega)]at eH
   (iterate 2((try simp(etaStruct := .none)only[push_cast,seval]);(try(refine xsu ?_;try exact xtI))))
   refine cI (fun h4 => ?_) fun h4 => ?_
   ·have eE:E=4:=by
     rw[eH,if_pos]
     have:=Int.natCast_eq_zero (n:=h.m/2 ^ h.seats.length)
     generalize h.m/2 ^ h.seats.length=z at *
     omega
    (iterate 2((try simp(etaStruct := .none)only[push_cast,seval]);(try(refine xsu ?_;try exact xtI))))
    exact zb0 rfl trivial (Wk.of (by rw[eE];rfl))
   ·rw[if_neg (by generalize h.m/2 ^ h.seats.length=z at *;omega)]at eH
    (iterate 2((try simp(etaStruct := .none)only[push_cast,seval]);(try(refine xsu ?_;try exact xtI))))
    refine zax (fun k:Nat=>⟨[(50,I .i64 k),(49,I .i64 h.seats.length),(48,.c (.sl 3 (h.seats.map zbt))),(1,.ptr 0 0 0)],[(0,.blk 40 (z4i h))],1⟩) (fun k:Nat=>k≤h.seats.length∧∀j,j<k→zgx h j=true) (fun k:Nat=>h.seats.length-k) (0) (⟨Nat.zero_le _,fun j hj=>by omega⟩) (To.mk [0] rfl rfl (by decide) ?_ ?_) ?_
    ·simp(etaStruct := .none)only[push_cast,zab,seval]
    ·simp(etaStruct := .none)only[push_cast,zab,seval]
    rintro k ⟨hk2,hn⟩
    (iterate 2((try simp(etaStruct := .none)only[push_cast,seval]);(try(refine xsu ?_;try exact xtI))))
    refine cI (fun h5 => ?_) fun h5 => ?_
    ·have hlt:k<h.seats.length:=by omega
     have hub:=yeq h.m k hm (by omega)
     (iterate 2((try simp(etaStruct := .none)only[push_cast,seval,zaa _ _ _ hlt,zbt,hub]);(try(refine xsu ?_;try exact xtI))))
     refine zaz [some 55,some 56,some 57,some 58,some 59,some 60,some 61,some 62,some 63,some 64] rfl ?_
     intro Oq lq Rq hlq hdq hRq
     subst hlq
     iterate 10(refine zar fun rq hrq => ?_;(iterate 2((try simp(etaStruct := .none)only[push_cast,seval,hdq,id,zaa _ _ _ hlt,zbt,hub]);(try(refine xsu ?_;try exact xtI))));subst hrq)
     refine zht ?_
     subst hRq
     clear hdq Oq
     refine zhs (by kernel_rfl) ?_
     (iterate 2((try simp(etaStruct := .none)only[push_cast,seval,zaa _ _ _ hlt,zbt,hub]);(try(refine xsu ?_;try exact xtI))))
     refine cI (fun h6 => ?_) fun h6 => ?_
     ·have eE:E=4:=by
       rw[eH,if_neg]
       intro ha
       have hx:=List.all_eq_true.1 ha k (List.mem_range.2 hlt)
       unfold zgx at hx
       exact h6 (of_decide_eq_true hx)
      (iterate 2((try simp(etaStruct := .none)only[push_cast,seval,zaa _ _ _ hlt,zbt,hub]);(try(refine xsu ?_;try exact xtI))))
      exact zb0 rfl trivial (Wk.of (by rw[eE];rfl))
     ·have hnn:∀j,j<k+1→zgx h j=true:=fun j hj=>by
       rcases Nat.lt_or_ge j k with hx|hx
       ·exact hn j hx
       ·rw[show j=k by omega];unfold zgx;rw[decide_eq_true h6]
      (iterate 2((try simp(etaStruct := .none)only[push_cast,seval,zaa _ _ _ hlt,zbt,hub]);(try(refine xsu ?_;try exact xtI))))
      refine⟨k+1,⟨by omega,hnn⟩,by omega,To.mk [0] rfl rfl (by decide) ?_ ?_⟩
      ·(iterate 2((try simp(etaStruct := .none)only[push_cast,seval,zaa _ _ _ hlt,zbt,hub]);(try(refine xsu ?_;try exact xtI))))
      ·simp(etaStruct := .none)only[push_cast,zab,seval]
    ·have eE:E=0:=by
      rw[eH,if_pos]
      rw[List.all_eq_true]
      intro j hj
      exact hn j (by have:=List.mem_range.1 hj;omega)
     (iterate 2((try simp(etaStruct := .none)only[push_cast,seval]);(try(refine xsu ?_;try exact xtI))))
     exact zb0 rfl trivial (Wk.of (by rw[eE];rfl))
end Go.Proofs.YtmjbgbmegbkmhaaGreat
namespace Go.Proofs.YtmjbgbmegbkmhaaGreat
set_option linter.all false
open Go.RowKit
set_option maxRecDepth 100000
set_option maxHeartbeats 2000000
structure HstB (h : Hst) : Prop where
 p:h.sty.start.f.p.length≤17592186044415
 b:h.sty.start.bases.length≤8796093022207
 s:h.sty.start.stocks.length≤17592186044415
 m:h.sty.start.mines.length≤17592186044415
 t:h.sty.start.troops.length≤2513169434916
 u:∀l∈h.sty.turns,l.length≤2932031007402
 n:h.sty.turns.length≤5864062014800
 w:∀s∈h.seats,s.waits.length≤2932031007402
 l:h.seats.length≤3518437208780
 g:h.ag.length≤35184372088831
theorem z4v (l:List Nat) (hl:l.length≤35184372088831):Spec Tryz.prog 72 [.c (.sl 1 (l.map zjn))] [] (.c (.sl 1 (l.map zjn))) []:=by
 refine spB Tryz.func72 8 [.tmp 2] Tryz.results72 ?_
 try refine xst ?_
 intro b hb
 try refine xst ?_
 refine zay (fun h => ?_) (fun h => ?_)
 ·try refine xst ?_
  exact zb0 rfl trivial (by rw[hb h];exact Wk.nil _)
 ·try refine xst ?_
  exact zb0 rfl trivial (Wk.refl _)
abbrev ygq:List AV := [I .i64 0,I .i64 0,.c (.v (.slice none 0 0)),.c (.v (.slice none 0 0)),.c (.v (.slice none 0 0)),.c (.v (.slice none 0 0)),.c (.v (.slice none 0 0)),I .i64 0,I .i64 0,.c (.v (.slice none 0 0)),.c (.v (.slice none 0 0)),I .u32 0,.c (.v (.slice none 0 0)),I .i64 0]
theorem zil (h:Hst) (hb:HstB h):Spec Tryz.prog 30 [zyr h] [] (zyr h) []:=by
 refine spB Tryz.func30 105 [.cell 2 40] Tryz.results30 ?_
 have hbn:=hb.n
 have hbl:=hb.l
 (iterate 2((try simp(etaStruct := .none)only[push_cast,seval]);(try(refine xsu ?_;try exact xtI))))
 refine zaz [some 12,some 13,some 14,some 15,some 16,some 17,some 18,some 19,some 20,some 21,some 22,some 23,some 24,some 25,some 26,some 27,some 28,some 29,some 30,some 31,some 32,some 33,none,some 34,some 35,none,some 36,some 37,none] rfl ?_
 intro Oq lq Rq hlq hdq hRq
 subst hlq
 iterate 8(refine zar fun rq hrq => ?_;(iterate 2((try simp(etaStruct := .none)only[push_cast,seval,hdq,id]);(try(refine xsu ?_;try exact xtI))));subst hrq)
 refine zar fun rq hrq => ?_
 (iterate 2((try simp(etaStruct := .none)only[push_cast,seval,hdq,id]);(try(refine xsu ?_;try exact xtI))))
 refine caP (zfn h.sty.start.f.p hb.p) ?_
 (iterate 2((try simp(etaStruct := .none)only[push_cast,seval,hdq,id]);(try(refine xsu ?_;try exact xtI))))
 subst hrq
 iterate 4(refine zar fun rq hrq => ?_;(iterate 2((try simp(etaStruct := .none)only[push_cast,seval,hdq,id]);(try(refine xsu ?_;try exact xtI))));subst hrq)
 refine zar fun rq hrq => ?_
 (iterate 2((try simp(etaStruct := .none)only[push_cast,seval,hdq,id]);(try(refine xsu ?_;try exact xtI))))
 refine caP (zpd h.sty.start.bases hb.b) ?_
 (iterate 2((try simp(etaStruct := .none)only[push_cast,seval,hdq,id]);(try(refine xsu ?_;try exact xtI))))
 subst hrq
 iterate 4(refine zar fun rq hrq => ?_;(iterate 2((try simp(etaStruct := .none)only[push_cast,seval,hdq,id]);(try(refine xsu ?_;try exact xtI))));subst hrq)
 refine zar fun rq hrq => ?_
 (iterate 2((try simp(etaStruct := .none)only[push_cast,seval,hdq,id]);(try(refine xsu ?_;try exact xtI))))
 refine caP (zfn h.sty.start.stocks hb.s) ?_
 (iterate 2((try simp(etaStruct := .none)only[push_cast,seval,hdq,id]);(try(refine xsu ?_;try exact xtI))))
 subst hrq
 iterate 10(refine zar fun rq hrq => ?_;(iterate 2((try simp(etaStruct := .none)only[push_cast,seval,hdq,id]);(try(refine xsu ?_;try exact xtI))));subst hrq)
 refine zht ?_
 subst hRq
 clear hdq Oq
 refine zhs (by kernel_rfl) ?_
 (iterate 2((try simp(etaStruct := .none)only[push_cast,seval]);(try(refine xsu ?_;try exact xtI))))
 refine zaz [some 38,some 39,some 40,some 41,some 42,some 43,some 44,some 45,some 46,some 47,some 48,some 49,some 50,some 51,none,some 52,some 53,none] rfl ?_
 intro Oq lq Rq hlq hdq hRq
 subst hlq
 iterate 6(refine zar fun rq hrq => ?_;(iterate 2((try simp(etaStruct := .none)only[push_cast,seval,hdq,id]);(try(refine xsu ?_;try exact xtI))));subst hrq)
 refine zar fun rq hrq => ?_
 (iterate 2((try simp(etaStruct := .none)only[push_cast,seval,hdq,id]);(try(refine xsu ?_;try exact xtI))))
 refine caP (zfn h.sty.start.mines hb.m) ?_
 (iterate 2((try simp(etaStruct := .none)only[push_cast,seval,hdq,id]);(try(refine xsu ?_;try exact xtI))))
 subst hrq
 iterate 4(refine zar fun rq hrq => ?_;(iterate 2((try simp(etaStruct := .none)only[push_cast,seval,hdq,id]);(try(refine xsu ?_;try exact xtI))));subst hrq)
 refine zar fun rq hrq => ?_
 (iterate 2((try simp(etaStruct := .none)only[push_cast,seval,hdq,id]);(try(refine xsu ?_;try exact xtI))))
 refine caP (zul h.sty.start.troops hb.t) ?_
 (iterate 2((try simp(etaStruct := .none)only[push_cast,seval,hdq,id]);(try(refine xsu ?_;try exact xtI))))
 subst hrq
 iterate 6(refine zar fun rq hrq => ?_;(iterate 2((try simp(etaStruct := .none)only[push_cast,seval,hdq,id]);(try(refine xsu ?_;try exact xtI))));subst hrq)
 refine zht ?_
 subst hRq
 clear hdq Oq
 refine zhs (by kernel_rfl) ?_
 (iterate 2((try simp(etaStruct := .none)only[push_cast,seval]);(try(refine xsu ?_;try exact xtI))))
 refine zax (fun k:Nat=>⟨[(63,I .i64 k),(62,I .i64 h.sty.turns.length),(61,.c (.sl 1 (h.sty.turns.map zcm))),(4,.own 2),(2,.ptr 1 0 0),(1,.ptr 0 0 0)],[(0,.blk 40 (z4i h)),(1,.blk 40 ygq),(2,.row 53 1 ((h.sty.turns.take k).map zcm))],3⟩) (fun k:Nat=>k≤h.sty.turns.length) (fun k:Nat=>h.sty.turns.length-k) (0) (Nat.zero_le _) (To.mk [0,1,190] rfl rfl (by decide) ?_ ?_) ?_
 ·simp(etaStruct := .none)only[push_cast,zab,seval,List.take_zero,List.map_nil]
 ·simp(etaStruct := .none)only[push_cast,zab,seval]
 rintro k hk
 (iterate 2((try simp(etaStruct := .none)only[push_cast,seval]);(try(refine xsu ?_;try exact xtI))))
 refine cI (fun h1 => ?_) fun h1 => ?_
 ·have hlt:k<h.sty.turns.length:=by omega
  have ts:=zao h.sty.turns k hlt
  have hlk:(h.sty.turns.take k).length=k:=by rw[List.length_take];omega
  have hln:=hb.u (h.sty.turns.getD k default) (za0 _ _ hlt)
  (iterate 2((try simp(etaStruct := .none)only[push_cast,seval,zaa _ _ _ hlt,zcm]);(try(refine xsu ?_;try exact xtI))))
  refine caP (zie (h.sty.turns.getD k default) hln) ?_
  (iterate 2((try simp(etaStruct := .none)only[push_cast,seval,zaa _ _ _ hlt,zcm]);(try(refine xsu ?_;try exact xtI))))
  refine⟨k+1,by omega,by omega,To.mk [0,1,4] rfl rfl (by decide) ?_ ?_⟩
  ·(iterate 2((try simp(etaStruct := .none)only[push_cast,seval,ts,List.map_append,zcm]);(try(refine xsu ?_;try exact xtI))))
  ·(iterate 2((try simp(etaStruct := .none)only[push_cast,seval,zaa _ _ _ hlt,zcm]);(try(refine xsu ?_;try exact xtI))))
 ·obtain rfl:k=h.sty.turns.length:=by omega
  (iterate 2((try simp(etaStruct := .none)only[push_cast,seval,List.take_length]);(try(refine xsu ?_;try exact xtI))))
  refine zax (fun k:Nat=>⟨[(80,I .i64 k),(79,I .i64 h.seats.length),(78,.c (.sl 3 (h.seats.map zbt))),(7,.own 3),(4,.own 2),(2,.ptr 1 0 0),(1,.ptr 0 0 0)],[(0,.blk 40 (z4i h)),(1,.blk 40 ygq),(2,.row 53 1 (h.sty.turns.map zcm)),(3,.row 169 3 ((h.seats.take k).map zbt))],4⟩) (fun k:Nat=>k≤h.seats.length) (fun k:Nat=>h.seats.length-k) (0) (Nat.zero_le _) (To.mk [0,1,2,3] rfl rfl (by decide) ?_ ?_) ?_
  ·simp(etaStruct := .none)only[push_cast,zab,seval,List.take_length,List.take_zero,List.map_nil]
  ·simp(etaStruct := .none)only[push_cast,zab,seval]
  rintro k hk2
  (iterate 2((try simp(etaStruct := .none)only[push_cast,seval,List.take_length]);(try(refine xsu ?_;try exact xtI))))
  refine cI (fun h2 => ?_) fun h2 => ?_
  ·have hlt:k<h.seats.length:=by omega
   have ts:=zao h.seats k hlt
   have hlk:(h.seats.take k).length=k:=by rw[List.length_take];omega
   have hln:=hb.w (h.seats.getD k default) (za0 _ _ hlt)
   (iterate 2((try simp(etaStruct := .none)only[push_cast,seval,List.take_length,zaa _ _ _ hlt,zbt]);(try(refine xsu ?_;try exact xtI))))
   refine caP (zie (h.seats.getD k default).waits hln) ?_
   (iterate 2((try simp(etaStruct := .none)only[push_cast,seval,List.take_length,zaa _ _ _ hlt,zbt]);(try(refine xsu ?_;try exact xtI))))
   refine⟨k+1,by omega,by omega,To.mk [0,1,2,6] rfl rfl (by decide) ?_ ?_⟩
   ·(iterate 2((try simp(etaStruct := .none)only[push_cast,seval,ts,List.map_append,zbt]);(try(refine xsu ?_;try exact xtI))))
   ·(iterate 2((try simp(etaStruct := .none)only[push_cast,seval,List.take_length,zaa _ _ _ hlt,zbt]);(try(refine xsu ?_;try exact xtI))))
  ·obtain rfl:k=h.seats.length:=by omega
   (iterate 2((try simp(etaStruct := .none)only[push_cast,seval,List.take_length,List.take_length]);(try(refine xsu ?_;try exact xtI))))
   refine caP (z4v h.ag hb.g) ?_
   (iterate 2((try simp(etaStruct := .none)only[push_cast,seval,List.take_length,List.take_length]);(try(refine xsu ?_;try exact xtI))))
   exact xrz rfl
end Go.Proofs.YtmjbgbmegbkmhaaGreat
namespace Go.Proofs.YtmjbgbmegbkmhaaGreat
set_option linter.all false
open Go.RowKit
set_option maxRecDepth 100000
set_option maxHeartbeats 1000000
def yax (s:Sea):List PV := [.undef,pI s.late,pB s.gone]
theorem yk3 (s:Sea):yax s = [.undef,pI s.late,pB s.gone]:=rfl
def waP (s:Sea):List (List PV):=s.waits.map zdv
theorem yem (l:List Sea) (i:Nat) (hi:i<l.length):(l.map waP).getD i []=(l.getD i default).waits.map zdv:=by simp[waP,hi]
theorem z9z (l:List Sea) (i:Nat) (w:List Ord) (hi:i<l.length):unN 0 6 (l.map yax) ((l.map waP).set i (w.map zdv))=(l.set i ⟨w,(l.getD i default).late,(l.getD i default).gone⟩).map zbt:=by
 apply List.ext_getElem?
 intro j
 unfold unN
 rw[List.getElem?_zipWith,List.getElem?_map,List.getElem?_map,List.getElem?_set,List.getElem?_set]
 by_cases hij:i=j
 ·subst hij
  simp[hi,yax,zbt]
 ·rw[if_neg hij,if_neg hij,List.getElem?_map]
  cases l[j]? <;> simp[yax,zbt,waP]
def zqa (l:List Sea) (o:Ord):Int :=
 if za4 l≠0 then za4 l else if zev o≠0 then zev o else if (l.length:Int)≤o.by_ then 7 else if (l.getD o.by_.toNat default).gone=true then 9 else if (l.getD o.by_.toNat default).waits.length=50 then 6 else 0
def zu3 (l:List Sea) (o:Ord):List Sea:=l.set o.by_.toNat ⟨(l.getD o.by_.toNat default).waits ++ [o],(l.getD o.by_.toNat default).late,(l.getD o.by_.toNat default).gone⟩
def zg7 (l:List Sea) (p:Int):List Sea:=l.set p.toNat ⟨[],0,true⟩
def PvLe (p q:PV):Prop:=p=q∨(p = .v (.slice none 0 0)∧∃s,q = .sl s [])
inductive RowLe : List PV → List PV → Prop where
 | nil:RowLe [] []
 | cons {p q:PV} {r s:List PV} : PvLe p q→RowLe r s→RowLe (p::r) (q::s)
inductive RowsLe : List (List PV) → List (List PV) → Prop where
 | nil:RowsLe [] []
 | cons {p q:List PV} {r s:List (List PV)} : RowLe p q→RowsLe r s→RowsLe (p::r) (q::s)
theorem RowLe.len {a b:List PV} (h:RowLe a b):a.length=b.length:=by
 induction h with
 | nil=>rfl
 | cons _ _ ih=>simp[ih]
theorem RowsLe.len {a b:List (List PV)} (h:RowsLe a b):a.length=b.length:=by
 induction h with
 | nil=>rfl
 | cons _ _ ih=>simp[ih]
theorem PvLe.run {w:World} {F:Nat→Prop} {p q:PV} {u:Value} (h:PvLe p q) (hr:RelP w F p u):RelP w F q u:=by
 rcases h with rfl|⟨rfl,s,rfl⟩
 ·exact hr
 ·simp only[RelP]at hr ⊢
  exact⟨none,0,hr.1,Nat.le_refl _,Nat.zero_le _,.inl trivial⟩
theorem RowLe.run {w:World} {F:Nat→Prop} {b:Nat} {xs ys:List PV} (h:RowLe xs ys):∀ {o:Nat},RelC w F b o xs→RelC w F b o ys:=by
 induction h with
 | nil=>intro o hr;exact hr
 | cons hp _ ih =>
  intro o hr
  simp only[RelC]at hr ⊢
  obtain⟨⟨u,h1,h2⟩,h3⟩:=hr
  exact⟨⟨u,h1,hp.run h2⟩,ih h3⟩
theorem RowsLe.run {w:World} {F:Nat→Prop} {b sz:Nat} {xs ys:List (List PV)} (h:RowsLe xs ys):∀ {o:Nat},RelE w F b sz o xs→RelE w F b sz o ys:=by
 induction h with
 | nil=>intro o hr;exact hr
 | cons hp _ ih =>
  intro o hr
  simp only[RelE]at hr ⊢
  exact⟨by rw[←hp.len];exact hr.1,hp.run hr.2.1,ih hr.2.2⟩
theorem Wk.rows {sz:Nat} {xs ys:List (List PV)} (h:RowsLe xs ys):Wk (.c (.sl sz xs)) (.c (.sl sz ys)):=fun _ _ _ _ v hv=>by
 simp only[RelA,RelP]at hv ⊢
 obtain⟨a,c,rfl,h1,h2,h3⟩:=hv
 rw[h.len]at h1 ⊢
 refine⟨a,c,rfl,h1,h2,?_⟩
 rcases h3 with rfl|⟨b,o,rfl,hb,hE⟩
 ·exact .inl (List.eq_nil_of_length_eq_zero h.len.symm)
 ·exact .inr ⟨b,o,rfl,hb,h.run hE⟩
theorem RowsLe.rep {x y:List PV} (h:RowLe x y):∀n,RowsLe (List.replicate n x) (List.replicate n y)
 | 0 => .nil
 | n+1=>by rw[List.replicate_succ,List.replicate_succ];exact .cons h (RowsLe.rep h n)
theorem z5b:RowLe [.v (.slice none 0 0),.v (.int .i64 0),.v (.bool false)] (zbt ⟨[],0,false⟩) := .cons (.inr ⟨rfl,6,rfl⟩) (.cons (.inl rfl) (.cons (.inl rfl) .nil))
theorem RowLe.refl:∀a:List PV,RowLe a a
 | [] => .nil
 | _::r => .cons (.inl rfl) (RowLe.refl r)
theorem RowsLe.refl:∀a:List (List PV),RowsLe a a
 | [] => .nil
 | _::r => .cons (RowLe.refl _) (RowsLe.refl r)
theorem RowsLe.set {x y:List PV} (h:RowLe x y):∀(l:List (List PV)) (i:Nat),RowsLe (l.set i x) (l.set i y)
 | [],_ => .nil
 | _::r,0 => .cons h (RowsLe.refl r)
 | _::r,i+1 => .cons (RowLe.refl _) (RowsLe.set h r i)
theorem z5c:RowLe [.v (.slice none 0 0),.v (.int .i64 0),.v (.bool true)] (zbt ⟨[],0,true⟩) := .cons (.inr ⟨rfl,6,rfl⟩) (.cons (.inl rfl) (.cons (.inl rfl) .nil))
theorem zyo (l:List Sea) (p:Int):(zg7 l p).map zbt=(l.map zbt).set p.toNat (zbt ⟨[],0,true⟩):=by unfold zg7;rw[List.map_set]
theorem ye1 (n:Int) (h:1≤n∧n≤8):Spec Tryz.prog 28 [I .i64 n] [] (.tup [.c (.sl 3 ((List.replicate n.toNat (⟨[],0,false⟩:Sea)).map zbt)),I .i64 0]) []:=by
 refine spB Tryz.func28 12 [.tmp 2,.tmp 3] Tryz.results28 ?_
 try refine xst ?_
 refine cI (fun h1 => ?_) fun h1 => ?_
 ·omega
 ·try refine xst ?_
  refine zb0 rfl (by repeat' (first|exact trivial|exact rfl|omega|refine⟨?_,?_⟩)) (Wk.tup ⟨?_,?_,trivial⟩)
  ·refine Wk.rows ?_
   simp only[List.map_replicate]
   exact RowsLe.rep z5b _
  ·exact Wk.refl _
theorem ye0 (l:List Sea) (hl:l.length≤100000) (hs:∀s∈l,zf9 s) (i:Nat) (hi:i<l.length):Spec Tryz.prog 76 [.c (.sl 3 (l.map zbt))] [] (.own 0) [.nst 169 3 0 48 6 (l.map yax) (l.map waP) (some (i,1)),.row 48 6 ((l.getD i default).waits.map zdv)]:=by
 refine spB Tryz.func76 25 [.tmp 2] Tryz.results76 ?_
 iterate 2(try simp(etaStruct := .none)only[push_cast,zab,seval,List.length_take,List.length_map];try refine xsu ?_)
 refine zax (fun k:Nat=>⟨[(11,I .i64 k),(10,I .i64 l.length),(9,.c (.sl 3 (l.map zbt))),(3,.own 0)],[(0,.nst 169 3 0 48 6 ((l.take k).map yax) ((l.take k).map waP) none)],1⟩) (fun k:Nat=>k≤l.length) (fun k:Nat=>l.length-k) (0) (Nat.zero_le _) ((To.nst 0 169 3 0 48 6 [] rfl (by decide) (by simp)).trans (To.mk [0] rfl rfl (by decide) ?_ ?_)) ?_
 ·simp(etaStruct := .none)only[push_cast,zab,seval]
 ·simp(etaStruct := .none)only[push_cast,zab,seval]
 rintro k hk
 iterate 2(try simp(etaStruct := .none)only[push_cast,zab,seval,List.length_take,List.length_map];try refine xsu ?_)
 refine cI (fun h1 => ?_) fun h1 => ?_
 ·have hlt:k<l.length:=by omega
  iterate 2(try simp(etaStruct := .none)only[push_cast,zab,seval,List.length_take,List.length_map,zaa _ _ _ hlt,zbt];try refine xsu ?_)
  have ts:=zao l k hlt
  refine caM [] ((z1c (l.getD k default).waits (hs _ (by rw[zae _ _ hlt];exact List.getElem_mem hlt))).keep) ?_
  iterate 2(try simp(etaStruct := .none)only[push_cast,zab,seval,List.length_take,List.length_map,zaa _ _ _ hlt,zbt];try refine xsu ?_)
  refine⟨k+1,by omega,by omega,To.mk [4] rfl rfl (by decide) ?_ ?_⟩
  ·(iterate 2((try simp(etaStruct := .none)only[push_cast,zab,seval,ts,List.map_append,yax,waP]);(try(refine xsu ?_;try exact xtI))))
  ·(iterate 2((try simp(etaStruct := .none)only[push_cast,zab,seval,List.length_take,List.length_map,zaa _ _ _ hlt,zbt]);(try(refine xsu ?_;try exact xtI))))
 ·obtain rfl:k=l.length:=by omega
  iterate 2(try simp(etaStruct := .none)only[push_cast,zab,seval,List.length_take,List.length_map];try refine xsu ?_)
  refine zf0 (To.open 0 i 169 3 0 48 6 _ _ rfl (by simpa using hi)) (zby [0,1] rfl rfl (by decide) ⟨?_,?_,trivial⟩ trivial ?_)
  ·simp(etaStruct := .none)only[push_cast,zab,seval,List.take_length]
  ·simp(etaStruct := .none)only[push_cast,zab,seval,List.take_length,yem l i hi]
  ·simp(etaStruct := .none)only[push_cast,zab,seval]
theorem yag (l:List Sea) (o:Ord) (hl:l.length≤9223372036854775807) (hs:∀s∈l,zf9 s) (h:zqa l o=0):Spec Tryz.prog 32 [.c (.sl 3 (l.map zbt)),zpk o] [] (.tup [.c (.sl 3 ((zu3 l o).map zbt)),I .i64 0]) []:=by
 have SC:=zdy l hl hs
 have OC:=zfi o
 unfold zqa at h
 split at h
 ·rename_i h';exact absurd h h'
 rename_i hE
 have hE:za4 l=0:=by simpa using hE
 split at h
 ·rename_i h';exact absurd h h'
 rename_i hO
 have hO:zev o=0:=by simpa using hO
 split at h
 ·simp at h
 rename_i hby
 split at h
 ·simp at h
 rename_i hg
 split at h
 ·simp at h
 rename_i hw
 have hb0:=(zfg hO).1.1
 have hlt:o.by_.toNat<l.length:=by omega
 have hl8:=(zcb hE).2.1
 have hwl:(l.getD o.by_.toNat default).waits.length≤50:=(zcb hE).2.2.1 _ (by rw[zae _ _ hlt];exact List.getElem_mem hlt)
 rw[hE]at SC
 rw[hO]at OC
 refine spB Tryz.func32 58 [.tmp 4,.tmp 5] Tryz.results32 ?_
 try refine xst ?_
 refine caP (SC) ?_
 try refine xst ?_
 refine cI (fun h1 => ?_) fun h1 => ?_
 ·try refine xst ?_
  refine caP (OC) ?_
  try refine xst ?_
  refine cI (fun h2 => ?_) fun h2 => ?_
  ·simp at h2
  ·try refine xst ?_
   refine cI (fun h3 => ?_) fun h3 => ?_
   ·omega
   ·try refine xz2 (gd hlt) zcf ?_
    refine cI (fun h4 => ?_) fun h4 => ?_
    ·exact absurd h4 hg
    ·try refine xz2 (gd hlt) zcf ?_
     refine cI (fun h5 => ?_) fun h5 => ?_
     ·omega
     ·try refine xz2 (gd hlt) zcf ?_
      refine cI (fun h6 => ?_) fun h6 => ?_
      ·simp at h6
      ·try refine xz2 (gd hlt) zcf ?_
       refine caM [] (ye0 l (by omega) hs o.by_.toNat hlt) ?_
       try refine xz2 (gd hlt) zcf ?_
       (try(refine⟨by kernel_rfl,?_⟩))
       try refine xz2 (gd hlt) zcf ?_
       refine zf0 (To.close 1 _ _ _ _ _ _ _ _ _ _ rfl rfl) (zf0 (To.frzN 1 _ _ _ _ _ _ _ rfl) (zb0 rfl (by repeat' (first|exact trivial|exact rfl|omega|refine⟨?_,?_⟩)) (Wk.tup ⟨Wk.of ?_,Wk.refl _,trivial⟩)))
       have ha:∀x,x=zdv o→(l.getD o.by_.toNat default).waits.map zdv ++ [x]=((l.getD o.by_.toNat default).waits ++ [o]).map zdv:=by rintro _ rfl;simp
       show AV.c (.sl 3 _)=_
       rw[ha]
       ·rw[z9z l _ _ hlt];rfl
       ·rfl
 ·simp at h1
theorem zxw (l:List Sea) (o:Ord):zqa l o=0∨(za4 l≠0∧zqa l o=za4 l)∨(za4 l=0∧zev o≠0∧zqa l o=zev o)∨(za4 l=0∧zev o=0∧(l.length:Int)≤o.by_∧zqa l o=7) ∨
 (za4 l=0∧zev o=0∧¬(l.length:Int)≤o.by_∧(l.getD o.by_.toNat default).gone=true∧zqa l o=9) ∨
 (za4 l=0∧zev o=0∧¬(l.length:Int)≤o.by_∧(l.getD o.by_.toNat default).gone=false∧(l.getD o.by_.toNat default).waits.length=50∧zqa l o=6):=by
 unfold zqa
 split
 ·rename_i h;exact .inr (.inl ⟨h,rfl⟩)
 rename_i h1
 split
 ·rename_i h;exact .inr (.inr (.inl ⟨by simpa using h1,h,rfl⟩))
 rename_i h2
 split
 ·rename_i h;exact .inr (.inr (.inr (.inl ⟨by simpa using h1,by simpa using h2,h,rfl⟩)))
 rename_i h3
 split
 ·rename_i h;exact .inr (.inr (.inr (.inr (.inl ⟨by simpa using h1,by simpa using h2,h3,h,rfl⟩))))
 rename_i h4
 split
 ·rename_i h;exact .inr (.inr (.inr (.inr (.inr ⟨by simpa using h1,by simpa using h2,h3,by simpa using h4,h,rfl⟩))))
 ·exact .inl rfl
theorem yal (l:List Sea) (o:Ord) (hl:l.length≤9223372036854775807) (hs:∀s∈l,zf9 s) (h:za4 l≠0):Spec Tryz.prog 32 [.c (.sl 3 (l.map zbt)),zpk o] [] (.tup [.c (.sl 3 (([]:List Sea).map zbt)),I .i64 (za4 l)]) []:=by
 have SC:=zdy l hl hs
 refine spB Tryz.func32 58 [.tmp 4,.tmp 5] Tryz.results32 ?_
 try refine xst ?_
 refine caP (SC) ?_
 try refine xst ?_
 refine cI (fun h1 => ?_) fun h1 => ?_
 ·exact absurd h1 h
 ·try refine xst ?_
  refine cI (fun h2 => ?_) fun h2 => ?_
  ·try refine xst ?_
   refine cI (fun h3 => ?_) fun h3 => ?_
   ·try refine xst ?_
    exact xrz rfl
   ·exact absurd h3 h
  ·exact absurd h2 h
theorem yak (l:List Sea) (o:Ord) (hl:l.length≤9223372036854775807) (hs:∀s∈l,zf9 s) (hE:za4 l=0) (h:zev o≠0):Spec Tryz.prog 32 [.c (.sl 3 (l.map zbt)),zpk o] [] (.tup [.c (.sl 3 (([]:List Sea).map zbt)),I .i64 (zev o)]) []:=by
 have SC:=zdy l hl hs
 have OC:=zfi o
 rw[hE]at SC
 refine spB Tryz.func32 58 [.tmp 4,.tmp 5] Tryz.results32 ?_
 try refine xst ?_
 refine caP (SC) ?_
 try refine xst ?_
 refine cI (fun h1 => ?_) fun h1 => ?_
 ·try refine xst ?_
  refine caP (OC) ?_
  try refine xst ?_
  refine cI (fun h2 => ?_) fun h2 => ?_
  ·try refine xst ?_
   refine cI (fun h3 => ?_) fun h3 => ?_
   ·try refine xst ?_
    exact xrz rfl
   ·exact absurd h3 h
  ·exact absurd h2 h
 ·simp at h1
theorem yaj (l:List Sea) (o:Ord) (hl:l.length≤9223372036854775807) (hs:∀s∈l,zf9 s) (hE:za4 l=0) (hO:zev o=0) (h:(l.length:Int)≤o.by_):Spec Tryz.prog 32 [.c (.sl 3 (l.map zbt)),zpk o] [] (.tup [.c (.sl 3 (([]:List Sea).map zbt)),I .i64 7]) []:=by
 have SC:=zdy l hl hs
 have OC:=zfi o
 rw[hE]at SC
 rw[hO]at OC
 refine spB Tryz.func32 58 [.tmp 4,.tmp 5] Tryz.results32 ?_
 try refine xst ?_
 refine caP (SC) ?_
 try refine xst ?_
 refine cI (fun h1 => ?_) fun h1 => ?_
 ·try refine xst ?_
  refine caP (OC) ?_
  try refine xst ?_
  refine cI (fun h2 => ?_) fun h2 => ?_
  ·simp at h2
  ·try refine xst ?_
   refine cI (fun h3 => ?_) fun h3 => ?_
   ·try refine xst ?_
    refine cI (fun h4 => ?_) fun h4 => ?_
    ·try refine xst ?_
     exact xrz rfl
    ·simp at h4
   ·omega
 ·simp at h1
theorem yai (l:List Sea) (o:Ord) (hl:l.length≤9223372036854775807) (hs:∀s∈l,zf9 s) (hE:za4 l=0) (hO:zev o=0) (h:¬(l.length:Int)≤o.by_) (hg:(l.getD o.by_.toNat default).gone=true):Spec Tryz.prog 32 [.c (.sl 3 (l.map zbt)),zpk o] [] (.tup [.c (.sl 3 (([]:List Sea).map zbt)),I .i64 9]) []:=by
 have SC:=zdy l hl hs
 have OC:=zfi o
 rw[hE]at SC
 rw[hO]at OC
 have hb0:=(zfg hO).1.1
 have hlt:o.by_.toNat<l.length:=by omega
 refine spB Tryz.func32 58 [.tmp 4,.tmp 5] Tryz.results32 ?_
 try refine xst ?_
 refine caP (SC) ?_
 try refine xst ?_
 refine cI (fun h1 => ?_) fun h1 => ?_
 ·try refine xst ?_
  refine caP (OC) ?_
  try refine xst ?_
  refine cI (fun h2 => ?_) fun h2 => ?_
  ·simp at h2
  ·try refine xst ?_
   refine cI (fun h3 => ?_) fun h3 => ?_
   ·omega
   ·try refine xz2 (gd hlt) zcf ?_
    refine cI (fun h4 => ?_) fun h4 => ?_
    ·try refine xz2 (gd hlt) zcf ?_
     refine cI (fun h5 => ?_) fun h5 => ?_
     ·try refine xz2 (gd hlt) zcf ?_
      exact xrz rfl
     ·simp at h5
    ·rw[hg]at h4;simp at h4
 ·simp at h1
theorem yah (l:List Sea) (o:Ord) (hl:l.length≤9223372036854775807) (hs:∀s∈l,zf9 s) (hE:za4 l=0) (hO:zev o=0) (h:¬(l.length:Int)≤o.by_) (hg:(l.getD o.by_.toNat default).gone=false) (hw:(l.getD o.by_.toNat default).waits.length=50):Spec Tryz.prog 32 [.c (.sl 3 (l.map zbt)),zpk o] [] (.tup [.c (.sl 3 (([]:List Sea).map zbt)),I .i64 6]) []:=by
 have SC:=zdy l hl hs
 have OC:=zfi o
 rw[hE]at SC
 rw[hO]at OC
 have hb0:=(zfg hO).1.1
 have hlt:o.by_.toNat<l.length:=by omega
 refine spB Tryz.func32 58 [.tmp 4,.tmp 5] Tryz.results32 ?_
 try refine xst ?_
 refine caP (SC) ?_
 try refine xst ?_
 refine cI (fun h1 => ?_) fun h1 => ?_
 ·try refine xst ?_
  refine caP (OC) ?_
  try refine xst ?_
  refine cI (fun h2 => ?_) fun h2 => ?_
  ·simp at h2
  ·try refine xst ?_
   refine cI (fun h3 => ?_) fun h3 => ?_
   ·omega
   ·try refine xz2 (gd hlt) zcf ?_
    refine cI (fun h4 => ?_) fun h4 => ?_
    ·rw[hg]at h4;simp at h4
    ·try refine xz2 (gd hlt) zcf ?_
     refine cI (fun h5 => ?_) fun h5 => ?_
     ·try refine xz2 (gd hlt) zcf ?_
      refine cI (fun h6 => ?_) fun h6 => ?_
      ·try refine xz2 (gd hlt) zcf ?_
       exact xrz rfl
      ·simp at h6
     ·omega
 ·simp at h1
theorem yez (l:List Sea) (o:Ord) (hl:l.length≤9223372036854775807) (hs:∀s∈l,zf9 s):Spec Tryz.prog 32 [.c (.sl 3 (l.map zbt)),zpk o] [] (.tup [.c (.sl 3 ((if zqa l o=0 then zu3 l o else []).map zbt)),I .i64 (zqa l o)]) []:=by
 rcases zxw l o with h|⟨h1,h⟩|⟨h1,h2,h⟩|⟨h1,h2,h3,h⟩|⟨h1,h2,h3,h4,h⟩|⟨h1,h2,h3,h4,h5,h⟩
 ·rw[if_pos h];rw[h];exact yag l o hl hs h
 ·rw[if_neg (by omega),h];exact yal l o hl hs h1
 ·rw[if_neg (by omega),h];exact yak l o hl hs h1 h2
 ·rw[if_neg (by omega),h];exact yaj l o hl hs h1 h2 h3
 ·rw[if_neg (by omega),h];exact yai l o hl hs h1 h2 h3 h4
 ·rw[if_neg (by omega),h];exact yah l o hl hs h1 h2 h3 h4 h5
theorem z0f (l:List Sea) (p:Int) (hl:l.length≤9223372036854775807) (hs:∀s∈l,zf9 s) (hE:za4 l=0) (hp:¬(p<0∨(l.length:Int)≤p)) (hg:(l.getD p.toNat default).gone=false):Spec Tryz.prog 80 [.c (.sl 3 (l.map zbt)),I .i64 p] [] (.tup [.c (.sl 3 ((zg7 l p).map zbt)),I .i64 0]) []:=by
 have SC:=zdy l hl hs
 rw[hE]at SC
 have hl8:=(zcb hE).2.1
 have hlt:p.toNat<l.length:=by omega
 refine spB Tryz.func80 37 [.tmp 4,.tmp 5] Tryz.results80 ?_
 try refine xst ?_
 refine caP (SC) ?_
 try refine xst ?_
 refine cI (fun h1 => ?_) fun h1 => ?_
 ·simp at h1
 ·try refine xst ?_
  refine cI (fun h2 => ?_) fun h2 => ?_
  ·omega
  ·try refine xz2 (gd hlt) zcf ?_
   refine cI (fun h3 => ?_) fun h3 => ?_
   ·rw[hg]at h3;simp at h3
   ·try refine xz2 (gd hlt) zcf ?_
    refine cI (fun h4 => ?_) fun h4 => ?_
    ·simp at h4
    ·try refine xz2 (gd hlt) zcf ?_
     refine caM [] (z8p l (by omega) hs) ?_
     try refine xz2 (gd hlt) zcf ?_
     refine zb0 rfl (by repeat' (first|exact trivial|exact rfl|omega|refine⟨?_,?_⟩)) (Wk.tup ⟨?_,Wk.refl _,trivial⟩)
     show Wk (AV.c (.sl 3 _)) _
     rw[zyo]
     exact Wk.rows (RowsLe.set z5c _ _)
theorem zs6 {s:ByteArray} {n:Int} {U:Nat→Prop} {w:World} {F:Nat→Prop} {β : Nat→Option Bind} : RelA U w F β (.tup [S s,I .i64 n]) (.tuple #[.string s,.int .i64 n]):=by
 simp only[RelA]
 refine⟨_,rfl,?_⟩
 simp[RelL,RelA,RelP,Value.oneCell']
theorem z8w {w:World} {U F:Nat→Prop} {β : Nat→Option Bind} {x:Value} {vs:List Value} (h:RelL U w F β [.c (.v x)] vs):vs = [x]:=by
 obtain⟨u,rfl,hu⟩:=zvb h
 simp only[RelP]at hu
 rw[hu.1]
theorem zl9:∀xs:List Int,xs.flatMap z7g=xs.map (Value.int .i64)
 | []=>rfl
 | a::r=>by simp[z7g,zl9 r]
theorem z43 {P:Program} {f:FuncId} (hf:zgi P f) (x:Value) (xs:List Int) (e:Int) (T:TypeId) (h:∀w:World,Calls P f #[x] w fun en w'=>(∃v,en = .returned (.tuple #[v,.int .i64 e])∧∃n,w'.ownsRow w.heap.size T 1 v n (xs.flatMap z7g))∧Below w.heap.size w w'):Spec P f [.c (.v x)] [] (.tup [.c (.sl 1 (xs.map zac)),I .i64 e]) []:=by
 refine⟨hf,Nat.le_refl _,fun w F β vs M hv => ?_⟩
 obtain rfl:=z8w hv
 refine(h w).mono ?_
 rintro en w' ⟨⟨v,rfl,n,hlen,hrow⟩,hb⟩
 have hn:n=xs.length:=by
  rw[zl9,List.length_map]at hlen
  omega
 subst hn
 have go:∀G:Nat→Prop,(∀b,G b→w.heap.size≤b∧b<w'.heap.size)→RelP w' (fun b=>F b∨G b) (.sl 1 (xs.map zac)) v→∃v_1 F' β',Ending.returned (.tuple #[v,.int .i64 e]) = .returned v_1∧MemOk w (inB β) (· < ([]:List Chunk).length) F' β' (nth []) w'∧RelA (· < ([]:List Chunk).length) w' F' β' (.tup [.c (.sl 1 (xs.map zac)),I .i64 e]) v_1∧(∀b,F b→F' b)∧(∀b,F' b→F b∨w.heap.size≤b∨inB β b)∧∀i bd,i<([]:List Chunk).length → β' i=some bd→∃bs,β i=some ⟨bd.v,bd.b,bd.n,bd.sz,bs⟩:=by
  intro G hG hr
  obtain⟨S1,S2⟩:=M.step (w':=w') (h':=nth []) (β' := β) (F':=fun b=>F b∨G b) (U':=(· < 0)) (fun _=>False) (fun _ _=>rfl) (fun _ _=>rfl) hb.os hb.tape hb.output hb.size (fun b h _=>hb.block b h) (fun _ h=>h) (fun _ h => .inl h)
   (fun b h=>by
    rcases h with h|h
    ·exact⟨Nat.lt_of_lt_of_le (M.fin b h) hb.size,.inl h⟩
    ·exact⟨(hG b h).2,.inr (.inl (hG b h).1)⟩) (fun _ _ h=>h.elim) (fun _ _ h=>h.elim) (fun _ _ _ _ _ h=>h.elim) (fun _ _ h=>h.elim)
  refine⟨_,fun b=>F b∨G b,β,rfl,S1,?_,fun _ h => .inl h,fun b h => ?_,fun _ _ _ h=>⟨_,h⟩⟩
  ·simp only[RelA]
   refine⟨_,rfl,?_⟩
   simp only[RelL,RelA]
   exact⟨v,_,rfl,hr,_,_,rfl,by simp[RelP,Value.oneCell'],rfl⟩
  ·rcases h with h|h
   ·exact .inl h
   ·exact .inr (.inl (hG b h).1)
 rcases hrow with ⟨rfl,h0⟩|⟨g,cap,cur,rfl,h1,h2,h3,h4,h5,h6⟩
 ·refine go (fun _=>False) (fun _ h=>h.elim) ?_
  obtain rfl:xs = []:=List.eq_nil_of_length_eq_zero h0
  simp only[RelP]
  exact⟨none,0,rfl,Nat.le_refl _,Nat.zero_le _,.inl rfl⟩
 ·refine go (fun b=>b=g) (fun b hbg=>by subst hbg;exact⟨h1,(Array.getElem?_eq_some_iff.1 h2).1⟩) ?_
  simp only[RelP]
  refine⟨some ⟨g,0,none⟩,cap,by rw[List.length_map],by rwa [List.length_map],h4,.inr ⟨g,0,rfl,.inr rfl,RelE.of fun i cs hi => ?_⟩⟩
  rw[List.getElem?_map]at hi
  cases hx:xs[i]? with
  | none=>rw[hx]at hi;simp at hi
  | some z =>
   rw[hx]at hi
   have hi':zac z=cs:=by simpa using hi
   subst hi'
   refine⟨rfl,?_⟩
   unfold zac
   simp only[RelC,and_true,Nat.mul_one,Nat.zero_add,RelP]
   refine⟨_,?_,rfl,rfl⟩
   have hlt:i<xs.length:=(List.getElem?_eq_some_iff.1 hx).1
   have e1:(cur.toList.take (xs.length*1))[i]? = some (.int .i64 z):=by
    rw[h6]
    rw[zl9,List.getElem?_map,hx];rfl
   rw[List.getElem?_take,if_pos (by omega)]at e1
   unfold World.cell?
   simp only[h2]
   simpa using e1
theorem ydd (s:ByteArray) (hs:s.size≤140737488351232):Spec Tryz.prog 35 [S s] [] (.tup [S (zcs s).1,I .i64 (zcs s).2]) [] :=
 zuy (zit Tryz.func35 (by kernel_rfl) rfl) _ _ (.tuple #[.string (zcs s).1,.int .i64 (zcs s).2]) (fun _ _ _ _=>zs6) fun w F β vs hF hv=>by
  obtain rfl:=z8w hv
  exact z53 s w hs
theorem z67 (s:ByteArray) (hs:s.size≤140737488351232):Spec Tryz.prog 36 [S s] [] (.tup [.c (.sl 1 ((gaR s).1.map zac)),I .i64 (gaR s).2]) [] :=
 z43 (zit Tryz.func36 (by kernel_rfl) rfl) _ _ _ 3 fun w=>zyu s w hs
theorem zyf (s:ByteArray):(zcs s).1.size≤s.size:=by
 unfold zcs
 split
 ·exact Nat.zero_le _
 ·split
  ·simp only[ByteArray.size_extract];omega
  ·exact Nat.zero_le _
theorem z28:∀(n:Nat) (s:ByteArray) (out:List Int),(gaF n s out).1.length≤out.length+n
 | 0,s,out=>by unfold gaF;split<;>simp
 | n+1,s,out=>by
  unfold gaF
  split
  ·have:=z28 n (zgs s).2.1 (out ++ [z4r (zgs s).1]);simp at this;omega
  ·simp
theorem z27 (s:ByteArray):(gaR s).1.length≤1000:=by
 unfold gaR
 split
 ·split
  ·rename_i h;have:=z28 (zgs s).1 (zgs s).2.1 [];simp at this;omega
  ·simp
 ·simp
def zye (o:Ord):List Int := [o.by_,o.kind,o.who,o.c.x,o.c.y,o.what]
def zcz (l:List Ord):List Int:=l.flatMap zye
theorem ze6:∀l:List Ord,(zcz l).length=6*l.length
 | []=>rfl
 | o::r=>by
  have:=ze6 r
  unfold zcz at this ⊢
  rw[List.flatMap_cons,List.length_append,this,List.length_cons]
  simp only[zye,List.length_cons,List.length_nil];omega
theorem zyd (l:List Ord) (k:Nat) (h:k<l.length):zcz (l.take (k+1))=zcz (l.take k)++zye (l.getD k default):=by
 unfold zcz
 rw[zao l k h,List.flatMap_append];simp
theorem zvo:∀(l:List Ord) (k j:Nat),k<l.length→j<6→(zcz l)[6*k+j]? = (zye (l.getD k default))[j]?
 | [],k,j,h,_=>by simp at h
 | o::r,0,j,_,hj=>by
  unfold zcz
  rw[List.flatMap_cons,Nat.mul_zero,Nat.zero_add,List.getElem?_append_left (by simp[zye];omega)];rfl
 | o::r,k+1,j,h,hj=>by
  have ih:=zvo r k j (by simpa using h) hj
  unfold zcz at ih ⊢
  rw[List.flatMap_cons,List.getElem?_append_right (by simp[zye];omega)]
  rw[show 6*(k+1)+j-(zye o).length=6*k+j from by simp[zye];omega,ih]
  simp
theorem ybj {o:Ord} (h:zev o=0):∀x∈zye o,I64 x:=by
 obtain⟨h1,h2,h3,h4,h5,_⟩:=zfg h
 intro x hx
 simp only[zye,List.mem_cons,List.not_mem_nil,or_false]at hx
 unfold I64
 rcases hx with rfl|rfl|rfl|rfl|rfl|rfl<;>omega
theorem zvp {l:List Ord} (h:∀o∈l,zev o=0):∀x∈zcz l,I64 x:=by
 intro x hx
 unfold zcz at hx
 obtain⟨o,ho,hx⟩:=List.mem_flatMap.1 hx
 exact ybj (h o ho) x hx
def zci (l:List Ord):ByteArray:=zhg ⟨(paK (zcz l) (6*l.length)).toArray⟩
def zd9 (l:List Ord):ByteArray × Int:=if zc7 l≠0 then (⟨#[]⟩,zc7 l)else (zci l,0)
theorem z5z {l:List Ord} (h:l.length≤100):paR (zcz l)=(⟨(paK (zcz l) (6*l.length)).toArray⟩,0):=by
 unfold paR
 rw[ze6,if_neg (by omega)]
theorem zhb (l:List Ord) (h:l.length≤100):(zci l).size≤10000:=by
 unfold zci
 rw[zmz,zpf]
 have:=zlj (zcz l) (6*l.length)
 omega
theorem ydb (s:ByteArray) (hs:s.size≤140737488351232):Spec Tryz.prog 63 [S s] [] (S (zhg s)) [] :=
 zh4 (zit Tryz.func63 (by kernel_rfl) rfl) [.string s] (.string (zhg s)) rfl fun w=>zn5 s w hs
theorem zvl (l:List Ord) (hl:l.length≤9223372036854775807):Spec Tryz.prog 19 [.c (.sl 6 (l.map zdv))] [] (.tup [S (zd9 l).1,I .i64 (zd9 l).2]) []:=by
 have OA:=zvr l hl
 by_cases h0:zc7 l=0
 ·obtain⟨hl100,hok⟩:=zff h0
  have hV:zd9 l=(zci l,0):=if_neg (by simp[h0])
  have PA:=zvf (zcz l) (zvp hok) (by rw[ze6];omega)
  rw[z5z hl100]at PA
  have hsz:=zlj (zcz l) (6*l.length)
  have CS:=ydb ⟨(paK (zcz l) (6*l.length)).toArray⟩ (by rw[zpf];omega)
  have hw:zhg ⟨(paK (zcz l) (6*l.length)).toArray⟩=zci l:=rfl
  rw[hw]at CS
  rw[hV]
  rw[h0]at OA
  clear hV hsz hw
  simp only at PA
  generalize (⟨(paK (zcz l) (6*l.length)).toArray⟩:ByteArray)=T at *
  refine spB Tryz.func19 49 [.tmp 2,.tmp 3] Tryz.results19 ?_
  try refine xst ?_
  refine caP (OA) ?_
  try refine xst ?_
  refine cI (fun h1 => ?_) fun h1 => ?_
  ·simp at h1
  ·try refine xst ?_
   refine zax (fun k:Nat=>⟨[(17,I .i64 k),(16,I .i64 l.length),(15,.c (.sl 6 (l.map zdv))),(5,.own 0)],[(0,.row 3 1 ((zcz (l.take k)).map zac))],1⟩) (fun k:Nat=>k≤l.length) (fun k:Nat=>l.length-k) (0) (Nat.zero_le _) ((To.nil 5 3 1 rfl).trans (To.mk [0] rfl rfl (by decide) ?_ ?_)) ?_
   ·simp(etaStruct := .none)only[push_cast,zab,seval,zcz,List.take_zero,List.flatMap_nil,List.map_nil]
   ·simp(etaStruct := .none)only[push_cast,zab,seval]
   rintro k hk
   try refine xst ?_
   refine cI (fun h2 => ?_) fun h2 => ?_
   ·have hlt:k<l.length:=by omega
    have hS:=zyd l k hlt
    have hSl:=ze6 (l.take k)
    have hSk:(l.take k).length≤k:=List.length_take_le _ _
    try refine xz2 (gd hlt) zb3 ?_
    refine⟨k+1,by omega,by omega,To.mk [3] rfl rfl (by decide) ?_ ?_⟩
    ·(iterate 2((try simp(etaStruct := .none)only[push_cast,zab,seval,hS,List.map_append,zye,List.map_cons,List.map_nil,zac]);(try(refine xsu ?_;try exact xtI))))
    ·(try(refine xz2 (gd hlt) zb3 ?_;try exact xtI))
   ·obtain rfl:k=l.length:=by omega
    iterate 2(try simp(etaStruct := .none)only[push_cast,zab,seval,List.take_length];try refine xsu ?_)
    refine zcd (PA) (WkL.refl _) rfl ?_
    iterate 2(try simp(etaStruct := .none)only[push_cast,zab,seval,List.take_length];try refine xsu ?_)
    refine cI (fun h3 => ?_) fun h3 => ?_
    ·simp at h3
    ·iterate 2(try simp(etaStruct := .none)only[push_cast,zab,seval,List.take_length];try refine xsu ?_)
     refine caP (CS) ?_
     iterate 2(try simp(etaStruct := .none)only[push_cast,zab,seval,List.take_length];try refine xsu ?_)
     exact xrz rfl
 ·have hV:zd9 l=(⟨#[]⟩,zc7 l):=if_pos h0
  rw[hV]
  generalize zc7 l=e at *
  refine spB Tryz.func19 49 [.tmp 2,.tmp 3] Tryz.results19 ?_
  try refine xst ?_
  refine caP (OA) ?_
  try refine xst ?_
  refine cI (fun h1 => ?_) fun h1 => ?_
  ·try refine xst ?_
   exact xrz rfl
  ·exact absurd h1 h0
end Go.Proofs.YtmjbgbmegbkmhaaGreat
namespace Go.Proofs.YtmjbgbmegbkmhaaGreat
set_option linter.all false
open Go.RowKit
set_option maxRecDepth 100000
set_option maxHeartbeats 800000
theorem z5f (l:List Sea) (most:Int) (hl:l.length≤9223372036854775807) (hs:∀s∈l,zf9 s) (h0:za4 l=0) (hm:1≤most∧most≤100) :
 Spec Tryz.prog 77 [.c (.sl 3 (l.map zbt)),I .i64 most] [] (.tup [.c (.sl 3 ((zcx most l).2.map zbt)),.c (.sl 6 ((zcx most l).1.map zdv)),I .i64 0]) []:=by
 obtain⟨h1,h8,hw50,hr⟩:=zcb h0
 have hlate:∀k,k<l.length→0≤(l.getD k default).late∧(l.getD k default).late≤1000000:=fun k hk=>(zsw (hr k hk)).1
 have CS:=zdy l hl hs
 rw[h0]at CS
 refine spB Tryz.func77 102 [.tmp 4,.tmp 5,.tmp 6] Tryz.results77 ?_
 try refine xst ?_
 refine caP (CS) ?_
 try refine xst ?_
 refine cI (fun h1 => ?_) fun h1 => ?_
 ·simp at h1
 ·try refine xst ?_
  refine cI (fun h2 => ?_) fun h2 => ?_
  ·omega
  ·try refine xst ?_
   refine caM [] (z8p l (by omega) hs) ?_
   try refine xst ?_
   refine zax (fun k:Nat=>⟨[(29,I .i64 k),(28,I .i64 l.length),(1,I .i64 most),(0,.own 0)],[(0,.row 169 3 ((zg0 zbo k l).map zbt))],1⟩) (fun k:Nat=>k≤l.length) (fun k:Nat=>l.length-k) (0) (Nat.zero_le _) (To.mk [0] rfl rfl (by decide) ?_ ?_) ?_
   ·simp(etaStruct := .none)only[push_cast,zab,seval,ybf]
   ·simp(etaStruct := .none)only[push_cast,zab,seval]
   rintro k hk
   try refine xst ?_
   refine cI (fun h3 => ?_) fun h3 => ?_
   ·have hlt:k<l.length:=by omega
    have hltp:k<(zg0 zbo k l).length:=by rw[zcl];exact hlt
    have pg:=zyb zbo k l hlt
    have hla:=hlate k hlt
    iterate 2(try simp(etaStruct := .none)only[push_cast,zab,seval,zaa _ _ _ hltp,zcl,pg,zbt];try refine xsu ?_)
    refine cI (fun h4 => ?_) fun h4 => ?_
    ·have e:zbo (l.getD k default)=⟨(l.getD k default).waits,0,(l.getD k default).gone⟩:=by unfold zbo;rw[if_pos (by omega)]
     iterate 2(try simp(etaStruct := .none)only[push_cast,zab,seval,zaa _ _ _ hltp,zcl,pg,zbt];try refine xsu ?_)
     refine⟨k+1,by omega,by omega,To.mk [0] rfl rfl (by decide) ?_ ?_⟩
     ·try refine xst ?_
      first
      | (rw[zi4 _ _ _ hlt,List.map_set,e];rfl)
      | rw[zi5 _ _ _ hlt e]
     ·(iterate 2((try simp(etaStruct := .none)only[push_cast,zab,seval,zaa _ _ _ hltp,zcl,pg,zbt]);(try(refine xsu ?_;try exact xtI))))
    ·iterate 2(try simp(etaStruct := .none)only[push_cast,zab,seval,zaa _ _ _ hltp,zcl,pg,zbt];try refine xsu ?_)
     refine cI (fun h5 => ?_) fun h5 => ?_
     ·have e:zbo (l.getD k default)=⟨(l.getD k default).waits,min ((l.getD k default).late+1) 1000000,(l.getD k default).gone⟩:=by unfold zbo;rw[if_neg (by omega),if_neg (by rw[h5];simp)]
      have em:(if 1000000<(l.getD k default).late+1 then 1000000 else (l.getD k default).late+1)=min ((l.getD k default).late+1) 1000000:=by split<;>omega
      iterate 2(try simp(etaStruct := .none)only[push_cast,zab,seval,zaa _ _ _ hltp,zcl,pg,zbt,em];try refine xsu ?_)
      refine⟨k+1,by omega,by omega,To.mk [0] rfl rfl (by decide) ?_ ?_⟩
      ·try refine xst ?_
       first
       | (rw[zi4 _ _ _ hlt,List.map_set,e];rfl)
       | rw[zi5 _ _ _ hlt e]
      ·(iterate 2((try simp(etaStruct := .none)only[push_cast,zab,seval,zaa _ _ _ hltp,zcl,pg,zbt,em]);(try(refine xsu ?_;try exact xtI))))
     ·have e:zbo (l.getD k default)=l.getD k default:=by unfold zbo;rw[if_neg (by omega),if_pos h5]
      iterate 2(try simp(etaStruct := .none)only[push_cast,zab,seval,zaa _ _ _ hltp,zcl,pg,zbt];try refine xsu ?_)
      refine⟨k+1,by omega,by omega,To.mk [0] rfl rfl (by decide) ?_ ?_⟩
      ·try refine xst ?_
       first
       | (rw[zi4 _ _ _ hlt,List.map_set,e];rfl)
       | rw[zi5 _ _ _ hlt e]
      ·(iterate 2((try simp(etaStruct := .none)only[push_cast,zab,seval,zaa _ _ _ hltp,zcl,pg,zbt]);(try(refine xsu ?_;try exact xtI))))
   ·obtain rfl:k=l.length:=by omega
    have S0L:(l.map zbo).length=l.length:=by simp
    have S0s:∀s∈l.map zbo,zf9 s:=fun s hh=>by obtain⟨t,ht,rfl⟩:=List.mem_map.1 hh;exact hs t ht
    iterate 2(try simp(etaStruct := .none)only[push_cast,zab,seval,zbe];try refine xsu ?_)
    refine zax (fun x:(List Ord × List Sea) × Bool=>⟨[(11,B x.2),(10,.own 1),(1,I .i64 most),(0,.own 0)],[(0,.row 169 3 (x.1.2.map zbt)),(1,.row 48 6 (x.1.1.map zdv))],2⟩) (fun x:(List Ord × List Sea) × Bool=>(∃n,x.1=itS most n ([],l.map zbo))∧x.1.1.length≤100∧x.1.2.length=l.length∧(∀s∈x.1.2,zf9 s)∧(x.2=false→tkS most x.1.1 x.1.2=x.1)) (fun x:(List Ord × List Sea) × Bool=>yd3 x.1.2+(if x.2 then 1 else 0)) ((([],l.map zbo),true)) (⟨⟨0,rfl⟩,by simp,by simp,S0s,fun h=>by simp at h⟩) ((To.nil 10 48 6 rfl).trans (To.mk [0,1] rfl rfl (by decide) ?_ ?_)) ?_
    ·simp(etaStruct := .none)only[push_cast,zab,seval]
    ·simp(etaStruct := .none)only[push_cast,zab,seval]
    rintro⟨⟨out,S⟩,again⟩ ⟨⟨n,hit⟩,q1,q2,q3,q4⟩
    simp only at hit q1 q2 q3 q4
    iterate 2(try simp(etaStruct := .none)only[push_cast,zab,seval,zbe];try refine xsu ?_)
    refine zay (fun h6 => ?_) (fun h6 => ?_)
    ·(try replace h6:=xhh h6)
     obtain rfl:again=true:=h6
     iterate 2(try simp(etaStruct := .none)only[push_cast,zab,seval,zbe,q2];try refine xsu ?_)
     refine zax (fun y:Nat × (List Ord × List Sea) × Bool=>⟨[(64,I .i64 y.1),(63,I .i64 l.length),(11,B y.2.2),(10,.own 1),(1,I .i64 most),(0,.own 0)],[(0,.row 169 3 (y.2.1.2.map zbt)),(1,.row 48 6 (y.2.1.1.map zdv))],2⟩) (fun y:Nat × (List Ord × List Sea) × Bool=>y.1≤l.length∧y.2.1.2.length=l.length∧tkS most out S=((tkS most y.2.1.1 (y.2.1.2.drop y.1)).1,y.2.1.2.take y.1++(tkS most y.2.1.1 (y.2.1.2.drop y.1)).2)∧y.2.2=decide (out.length<y.2.1.1.length)∧out.length≤y.2.1.1.length∧y.2.1.1.length≤100∧∀s∈y.2.1.2,zf9 s) (fun y:Nat × (List Ord × List Sea) × Bool=>l.length-y.1) ((0,(out,S),false)) (⟨Nat.zero_le _,q2,by simp,by simp,Nat.le_refl _,q1,q3⟩) (To.mk [0,1] rfl rfl (by decide) ?_ ?_) ?_
     ·simp(etaStruct := .none)only[push_cast,zab,seval]
     ·simp(etaStruct := .none)only[push_cast,zab,seval]
     rintro⟨i,⟨o,R⟩,ag⟩ ⟨p1,p2,p3,p4,p5,p6,p7⟩
     simp only at p1 p2 p3 p4 p5 p6 p7
     iterate 2(try simp(etaStruct := .none)only[push_cast,zab,seval,zbe,q2];try refine xsu ?_)
     refine zay (fun h7 => ?_) (fun h7 => ?_)
     ·(try replace h7:=xhh h7)
      have hlt:i<R.length:=by omega
      have hw:=p7 _ (za0 R i hlt)
      have dr:=yc7 R i hlt
      iterate 2(try simp(etaStruct := .none)only[push_cast,zab,seval,zbe,q2,zaa _ _ _ hlt,zbt];try refine xsu ?_)
      refine zay (fun h8 => ?_) (fun h8 => ?_)
      ·(try replace h8:=xhh h8)
       have hw0:0<(R.getD i default).waits.length:=by omega
       have ed:List.drop 1 (List.map zdv (R.getD i default).waits)=((R.getD i default).waits.drop 1).map zdv:=by rw[List.map_drop]
       iterate 2(try simp(etaStruct := .none)only[push_cast,zab,seval,zbe,q2,zaa _ _ _ hlt,zbt,zaa _ _ _ hw0,zdv,ed];try refine xsu ?_)
       (try(refine⟨by kernel_rfl,?_⟩))
       iterate 2(try simp(etaStruct := .none)only[push_cast,zab,seval,zbe,q2,zaa _ _ _ hlt,zbt,zaa _ _ _ hw0,zdv,ed];try refine xsu ?_)
       refine⟨(i+1,(o ++ [(R.getD i default).waits.getD 0 default],R.set i ⟨(R.getD i default).waits.drop 1,(R.getD i default).late,(R.getD i default).gone⟩),true),⟨by simp only;omega,by simp only[List.length_set];exact p2,by
 simp only
 rw[p3,dr,List.drop_set_of_lt (by omega),List.take_set,zao R i hlt]
 simp only[tkS]
 rw[if_pos ⟨hw0,by omega⟩,List.set_append_right _ _ (by simp;omega)]
 simp [Nat.min_eq_left (Nat.le_of_lt hlt)], by simp; omega, by simp; omega, by simp; omega, z5e p7 (by unfold zf9 at hw ⊢; simp only [List.length_drop]; omega)⟩, by simp only; omega, To.mk [0, 38] rfl rfl (by decide) ?_ ?_⟩
       ·iterate 2(try simp(etaStruct := .none)only[push_cast,zab,seval,List.map_set,List.map_append];try refine xsu ?_)
        exact⟨rfl,rfl⟩
       ·(iterate 2((try simp(etaStruct := .none)only[push_cast,zab,seval,zbe,q2,zaa _ _ _ hlt,zbt,zaa _ _ _ hw0,zdv,ed]);(try(refine xsu ?_;try exact xtI))))
      ·(try replace h8:=xhh h8)
       iterate 2(try simp(etaStruct := .none)only[push_cast,zab,seval,zbe,q2,zaa _ _ _ hlt,zbt];try refine xsu ?_)
       refine⟨(i+1,(o,R),ag),⟨by simp only;omega,p2,by
 simp only
 have hc:¬(0<(R.getD i default).waits.length∧(o.length:Int)<most):=by omega
 rw[p3,dr,zao R i hlt]
 simp only[tkS]
 rw[if_neg hc]
 simp, p4, p5, p6, p7⟩, by simp only; omega, To.mk [0, 1] rfl rfl (by decide) ?_ ?_⟩
       ·(iterate 2((try simp(etaStruct := .none)only[push_cast,zab,seval,zbe,q2,zaa _ _ _ hlt,zbt]);(try(refine xsu ?_;try exact xtI))))
       ·(iterate 2((try simp(etaStruct := .none)only[push_cast,zab,seval,zbe,q2,zaa _ _ _ hlt,zbt]);(try(refine xsu ?_;try exact xtI))))
     ·(try replace h7:=xhh h7)
      obtain rfl:i=l.length:=by omega
      have pe:tkS most out S=(o,R):=by
       rw[p3,List.drop_eq_nil_of_le (by omega),List.take_of_length_le (by omega)];simp[tkS]
      iterate 2(try simp(etaStruct := .none)only[push_cast,zab,seval,zbe,q2];try refine xsu ?_)
      refine⟨((o,R),ag),⟨⟨n+1,by rw[zkl,←hit];exact pe.symm⟩,p6,p2,p7,fun ha=>by
 have hlen:o.length=out.length:=by
  simp only at ha
  rw[p4]at ha
  have:=of_decide_eq_false ha
  omega
 have:=zum most S out (by rw[pe];exact hlen)
 rw[pe]at this
 obtain⟨rfl,rfl⟩:=Prod.mk.inj this
 exact pe⟩,by
 have hsum:=zsp most S out
 rw[pe]at hsum
 simp only at hsum ⊢
 rw[p4]
 by_cases hh:out.length<o.length
 ·rw[decide_eq_true hh];simp;omega
 ·rw [decide_eq_false hh]; simp; omega, To.mk [0, 1] rfl rfl (by decide) ?_ ?_⟩
      ·(iterate 2((try simp(etaStruct := .none)only[push_cast,zab,seval,zbe,q2]);(try(refine xsu ?_;try exact xtI))))
      ·(iterate 2((try simp(etaStruct := .none)only[push_cast,zab,seval,zbe,q2]);(try(refine xsu ?_;try exact xtI))))
    ·(try replace h6:=xhh h6)
     have hz:=q4 h6
     have ec:zcx most l=(out,S):=by
      have h9:tkS most (itS most n ([],l.map zbo)).1 (itS most n ([],l.map zbo)).2=itS most n ([],l.map zbo):=by rw[←hit];exact hz
      rw[z7t hw50 h9,←hit]
     iterate 2(try simp(etaStruct := .none)only[push_cast,zab,seval,zbe];try refine xsu ?_)
     exact zb0 rfl trivial (by rw[ec];exact Wk.refl _)
end Go.Proofs.YtmjbgbmegbkmhaaGreat
namespace Go.Proofs.YtmjbgbmegbkmhaaGreat
set_option linter.all false
open Go.RowKit
set_option maxRecDepth 100000
def zzf (w:Wld) (n:Int):Int:=if zal w≠0 then zal w else if w.bases.length=0∨¬(1≤n∧n≤100)then 1 else 0
def zyg (w:Wld) (n:Int):Hst:=if zzf w n=0 then ⟨⟨w,[]⟩,List.replicate w.bases.length ⟨[],0,false⟩,2 ^ w.bases.length-1,List.replicate 16 0,n⟩else default
def zck (h:Hst):List Ord:=(zcx h.most h.seats).1
def zh5 (WR:Cel→List Int) (h:Hst):Int:=if zf1 WR h.sty (zck h)≠0 then zf1 WR h.sty (zck h)else (zd9 (zck h)).2
def zn3 (WR:Cel→List Int) (h:Hst):ByteArray:=if zf1 WR h.sty (zck h)≠0 then ⟨#[]⟩else (zd9 (zck h)).1
def zj4 (WR:Cel→List Int) (h:Hst):Hst:=if zf1 WR h.sty (zck h)≠0 then h else { h with seats:=(zcx h.most h.seats).2,sty:=zg2 WR h.sty (zck h) }
def zro (m m':Nat) (k:Nat):Bool:=zbj m k && !zbj m' k
def zb8 (m m':Nat) (l:List Sea):Nat→List Sea
 | 0=>l
 | k+1=>if zro m m' k then zg7 (zb8 m m' l k) k else zb8 m m' l k
def zt9 (h:Hst) (b a:Int):Int:=(zch h.m h.ag b a).2.2
def zt8 (h:Hst) (b a:Int):Hst:=if zt9 h b a≠0 then h else { h with seats:=zb8 h.m (zch h.m h.ag b a).1.1 h.seats h.seats.length,m:=(zch h.m h.ag b a).1.1,ag:=(zch h.m h.ag b a).1.2 }
theorem zda (m m':Nat) (l:List Sea):∀k,(zb8 m m' l k).length=l.length
 | 0=>rfl
 | k+1=>by
  unfold zb8
  split
  ·unfold zg7;rw[List.length_set,zda m m' l k]
  ·exact zda m m' l k
theorem zrc (m m':Nat) (l:List Sea) (j:Nat):∀k,k≤j→(zb8 m m' l k).getD j default=l.getD j default
 | 0,_=>rfl
 | k+1,h=>by
  have ih:=zrc m m' l j k (by omega)
  unfold zb8
  split
  ·unfold zg7
   rw[List.getD_eq_getElem?_getD,List.getElem?_set_ne (by omega),←List.getD_eq_getElem?_getD];exact ih
  ·exact ih
theorem z5d (i:Int):zp7 ⟨[],0,true⟩ i=true:=by simp[zp7,zm0,zaj]
theorem zxu {l:List Sea} (h:za4 l=0) (p:Nat) (hp:p<l.length):za4 (zg7 l p)=0:=by
 obtain⟨h1,h2,h3,h4⟩:True∧(1≤l.length∧l.length≤8)∧(∀s∈l,s.waits.length≤50)∧∀i,i<l.length→zp7 (l.getD i default) i=true:=by
  unfold za4 at h
  split at h
  ·omega
  split at h
  ·omega
  split at h
  ·rename_i a1 a2 a3
   refine⟨trivial,by omega,fun s hs => ?_,fun i hi=>List.all_eq_true.1 a3 i (List.mem_range.2 hi)⟩
   exact Nat.not_lt.1 fun hx=>a2 (List.any_eq_true.2 ⟨s,hs,decide_eq_true hx⟩)
  ·omega
 unfold za4 zg7
 rw[List.length_set,if_neg (by omega),if_neg,if_pos]
 ·rw[List.all_eq_true]
  intro i hi
  have hi:=List.mem_range.1 hi
  rw[List.getD_eq_getElem?_getD,List.getElem?_set]
  by_cases hpi:(p:Int).toNat=i
  ·rw[if_pos hpi,if_pos (by rw[hpi];exact hi)];exact z5d _
  ·rw[if_neg hpi,←List.getD_eq_getElem?_getD];exact h4 i hi
 ·rw[List.any_eq_true]
  rintro⟨s,hs,hx⟩
  rw[decide_eq_true_iff]at hx
  rcases List.mem_or_eq_of_mem_set hs with e|e
  ·have:=h3 s e;omega
  ·subst e;simp at hx
theorem zem {m m':Nat} {l:List Sea} (h:za4 l=0):∀k,k≤l.length→za4 (zb8 m m' l k)=0
 | 0,_=>h
 | k+1,hk=>by
  have ih:=zem (m:=m) (m':=m') h k (by omega)
  unfold zb8
  split
  ·exact zxu ih k (by rw[zda];omega)
  ·exact ih
theorem ye5 {l:List Sea} (h:za4 l=0):∀s∈l,zf9 s:=fun s hs=>by
 unfold zf9
 have:=(zcb h).2.2.1 s hs;omega
end Go.Proofs.YtmjbgbmegbkmhaaGreat
namespace Go.Proofs.YtmjbgbmegbkmhaaGreat
set_option linter.all false
open Go.RowKit
set_option maxRecDepth 100000
set_option maxHeartbeats 2000000
theorem yj3 (b:Nat) (h8:b≤8):IntKind.u32.wrap (IntKind.u32.wrap (2 ^ min b IntKind.u32.bits)-1)=((2 ^ b-1:Nat):Int):=by
 have:b=0∨b=1∨b=2∨b=3∨b=4∨b=5∨b=6∨b=7∨b=8:=by omega
 rcases this with rfl|rfl|rfl|rfl|rfl|rfl|rfl|rfl|rfl<;>decide
theorem ycu (w:Wld) (n:Int) (WR:Cel→List Int) (hWR:∀a,zas w.f [a] (WR a)) (hl:zfw w) (hE:zzf w n=0) (hw:Right w) (h0:0<w.bases.length) (h8:w.bases.length≤8) (hn:1≤n∧n≤100):Spec Tryz.prog 7 [zcy w,I .i64 n] [] (.tup [zyr (zyg w n),I .i64 0]) []:=by
 have V:=zkw w [] WR hWR hl (fun _ h=>by simp at h)
 have v0:zd0 WR [] w=0:=by unfold zd0;rw[if_neg (by simp),if_neg (fun hn=>hn hw.e)];rfl
 rw[v0,show zhh WR [] w=w from if_pos v0]at V
 have eH:zyg w n=⟨⟨w,[]⟩,List.replicate w.bases.length ⟨[],0,false⟩,2 ^ w.bases.length-1,List.replicate 16 0,n⟩:=if_pos hE
 rw[eH]
 refine spB Tryz.func7 49 [.cell 4 40,.tmp 5] Tryz.results7 ?_
 (iterate 2((try simp(etaStruct := .none)only[push_cast,seval]);(try(refine xsu ?_;try exact xtI))))
 refine zdt (V) (by exact⟨Wk.refl _,Wk.nil _,trivial⟩) ?_
 (iterate 2((try simp(etaStruct := .none)only[push_cast,seval]);(try(refine xsu ?_;try exact xtI))))
 refine cI (fun h1 => ?_) fun h1 => ?_
 ·simp at h1
 ·(iterate 2((try simp(etaStruct := .none)only[push_cast,seval]);(try(refine xsu ?_;try exact xtI))))
  refine gcP (fun hcc=>ztp n) ?_
  (iterate 2((try simp(etaStruct := .none)only[push_cast,seval]);(try(refine xsu ?_;try exact xtI))))
  refine cI (fun h2 => ?_) fun h2 => ?_
  ·omega
  ·(iterate 2((try simp(etaStruct := .none)only[push_cast,seval]);(try(refine xsu ?_;try exact xtI))))
   refine caP (ye1 w.bases.length (by omega)) ?_
   (iterate 2((try simp(etaStruct := .none)only[push_cast,seval]);(try(refine xsu ?_;try exact xtI))))
   refine zaz [some 38,some 39,some 40,some 41,some 42,some 11,none] rfl ?_
   intro Oq lq Rq hlq hdq hRq
   subst hlq
   iterate 7(refine zar fun rq hrq => ?_;(iterate 2((try simp(etaStruct := .none)only[push_cast,seval,hdq,id]);(try(refine xsu ?_;try exact xtI))));subst hrq)
   refine zht ?_
   subst hRq
   clear hdq Oq
   refine zhs (by kernel_rfl) ?_
   (iterate 2((try simp(etaStruct := .none)only[push_cast,seval]);(try(refine xsu ?_;try exact xtI))))
   refine zb0 rfl (by repeat' (first|exact trivial|exact rfl|refine⟨?_,?_⟩)) (Wk.tup ⟨Wk.agg ⟨Wk.refl _,Wk.refl _,Wk.refl _,Wk.refl _,Wk.refl _,Wk.refl _,Wk.refl _,Wk.refl _,Wk.refl _,Wk.nil _,Wk.of ?_,Wk.of ?_,Wk.of ?_,Wk.refl _,trivial⟩,Wk.refl _,trivial⟩)
   ·rfl
   ·show AV.c (.v (.int .u32 (IntKind.u32.wrap (IntKind.u32.wrap (1*2 ^ min w.bases.length IntKind.u32.bits)-1))))=_
    rw[Int.one_mul,yj3 w.bases.length h8]
   ·rfl
theorem ye2 (h:Hst) (WR:Cel→List Int) (hWR:∀a,zas h.sty.start.f [a] (WR a)) (hl:HstL h) (h0:za4 h.seats=0) (hm:1≤h.most∧h.most≤100) (hlen:(zck h).length≤9223372036854775807):Spec Tryz.prog 33 [.ptr 0 0 0] [.blk 40 (z4i h)] (.tup [S (zn3 WR h),I .i64 (zh5 WR h)]) [.blk 40 (z4i (zj4 WR h))]:=by
 have C1:=z5f h.seats h.most hl.l hl.a h0 hm
 have C2:=yat h.sty (zck h) WR hWR hl.s hlen
 have C3:=zvl (zck h) hlen
 refine spB Tryz.func33 48 [.tmp 2,.tmp 3] Tryz.results33 ?_
 (iterate 2((try simp(etaStruct := .none)only[push_cast,seval]);(try(refine xsu ?_;try exact xtI))))
 refine zaz [some 9,some 10,some 11,some 12,some 13,some 14,some 15,some 16,some 17,some 8,some 18,some 19,some 20,some 4,some 5,some 6] rfl ?_
 intro Oq lq Rq hlq hdq hRq
 subst hlq
 iterate 8(refine zar fun rq hrq => ?_;(iterate 2((try simp(etaStruct := .none)only[push_cast,seval,hdq,id]);(try(refine xsu ?_;try exact xtI))));subst hrq)
 refine zar fun rq hrq => ?_
 (iterate 2((try simp(etaStruct := .none)only[push_cast,seval,hdq,id]);(try(refine xsu ?_;try exact xtI))))
 refine caP (C1) ?_
 (iterate 2((try simp(etaStruct := .none)only[push_cast,seval,hdq,id]);(try(refine xsu ?_;try exact xtI))))
 subst hrq
 iterate 7(refine zar fun rq hrq => ?_;(iterate 2((try simp(etaStruct := .none)only[push_cast,seval,hdq,id]);(try(refine xsu ?_;try exact xtI))));subst hrq)
 refine zht ?_
 subst hRq
 clear hdq Oq
 refine zhs (by kernel_rfl) ?_
 (iterate 2((try simp(etaStruct := .none)only[push_cast,seval]);(try(refine xsu ?_;try exact xtI))))
 refine cI (fun h1 => ?_) fun h1 => ?_
 ·simp at h1
 ·(iterate 2((try simp(etaStruct := .none)only[push_cast,seval]);(try(refine xsu ?_;try exact xtI))))
  refine caP (C2) ?_
  (iterate 2((try simp(etaStruct := .none)only[push_cast,seval]);(try(refine xsu ?_;try exact xtI))))
  refine cI (fun h2 => ?_) fun h2 => ?_
  ·have eT:zn3 WR h=⟨#[]⟩:=by unfold zn3;rw[if_pos h2]
   have eE:zh5 WR h=zf1 WR h.sty (zck h):=by unfold zh5;rw[if_pos h2]
   have eH:zj4 WR h=h:=by unfold zj4;rw[if_pos h2]
   rw[eT,eE,eH]
   (iterate 2((try simp(etaStruct := .none)only[push_cast,seval]);(try(refine xsu ?_;try exact xtI))))
   refine zby [0] rfl rfl (by decide) ⟨?_,trivial⟩ (by repeat' (first|exact trivial|exact rfl|refine⟨?_,?_⟩)) ?_<;>first|exact Wk.refl _|exact wkc|(try simp(etaStruct := .none)only[push_cast,zab,seval])
  ·have eT:zn3 WR h=(zd9 (zck h)).1:=by unfold zn3;rw[if_neg (by simpa using h2)]
   have eE:zh5 WR h=(zd9 (zck h)).2:=by unfold zh5;rw[if_neg (by simpa using h2)]
   have eH:zj4 WR h = { h with seats:=(zcx h.most h.seats).2,sty:=zg2 WR h.sty (zck h) }:=by unfold zj4;rw[if_neg (by simpa using h2)]
   rw[eT,eE,eH]
   (iterate 2((try simp(etaStruct := .none)only[push_cast,seval]);(try(refine xsu ?_;try exact xtI))))
   refine zaz [some 36,some 37,some 38,some 39,some 40,some 41,none,some 42,some 43,none] rfl ?_
   intro Oq lq Rq hlq hdq hRq
   subst hlq
   iterate 10(refine zar fun rq hrq => ?_;(iterate 2((try simp(etaStruct := .none)only[push_cast,seval,hdq,id]);(try(refine xsu ?_;try exact xtI))));subst hrq)
   refine zht ?_
   subst hRq
   clear hdq Oq
   refine zhs (by kernel_rfl) ?_
   (iterate 2((try simp(etaStruct := .none)only[push_cast,seval]);(try(refine xsu ?_;try exact xtI))))
   refine caP (C3) ?_
   (iterate 2((try simp(etaStruct := .none)only[push_cast,seval]);(try(refine xsu ?_;try exact xtI))))
   refine zby [0] rfl rfl (by decide) ⟨?_,trivial⟩ (by repeat' (first|exact trivial|exact rfl|refine⟨?_,?_⟩)) ?_<;>first|exact Wk.refl _|exact wkc|(try simp(etaStruct := .none)only[push_cast,zab,seval])
theorem ygs (w:Wld) (n:Int) (WR:Cel→List Int) (hWR:∀a,zas w.f [a] (WR a)) (hl:zfw w) (h:zal w≠0):Spec Tryz.prog 7 [zcy w,I .i64 n] [] (.tup [zyr default,I .i64 (zal w)]) []:=by
 have V:=zkw w [] WR hWR hl (fun _ h=>by simp at h)
 have v0:zd0 WR [] w=zal w:=by unfold zd0;rw[if_neg (by simp),if_pos h]
 rw[v0]at V
 refine spB Tryz.func7 49 [.cell 4 40,.tmp 5] Tryz.results7 ?_
 (iterate 2((try simp(etaStruct := .none)only[push_cast,seval]);(try(refine xsu ?_;try exact xtI))))
 refine zdt (V) (by exact⟨Wk.refl _,Wk.nil _,trivial⟩) ?_
 (iterate 2((try simp(etaStruct := .none)only[push_cast,seval]);(try(refine xsu ?_;try exact xtI))))
 refine cI (fun h1 => ?_) fun h1 => ?_
 ·(iterate 2((try simp(etaStruct := .none)only[push_cast,seval]);(try(refine xsu ?_;try exact xtI))))
  exact xrz rfl
 ·exact absurd h1 h
theorem ygu (w:Wld) (n:Int) (WR:Cel→List Int) (hWR:∀a,zas w.f [a] (WR a)) (hl:zfw w) (hw:Right w) (h:w.bases.length=0∨¬(1≤n∧n≤100)):Spec Tryz.prog 7 [zcy w,I .i64 n] [] (.tup [zyr default,I .i64 1]) []:=by
 have V:=zkw w [] WR hWR hl (fun _ h=>by simp at h)
 have v0:zd0 WR [] w=0:=by unfold zd0;rw[if_neg (by simp),if_neg (fun hn=>hn hw.e)];rfl
 rw[v0,show zhh WR [] w=w from if_pos v0]at V
 refine spB Tryz.func7 49 [.cell 4 40,.tmp 5] Tryz.results7 ?_
 (iterate 2((try simp(etaStruct := .none)only[push_cast,seval]);(try(refine xsu ?_;try exact xtI))))
 refine zdt (V) (by exact⟨Wk.refl _,Wk.nil _,trivial⟩) ?_
 (iterate 2((try simp(etaStruct := .none)only[push_cast,seval]);(try(refine xsu ?_;try exact xtI))))
 refine cI (fun h1 => ?_) fun h1 => ?_
 ·simp at h1
 ·(iterate 2((try simp(etaStruct := .none)only[push_cast,seval]);(try(refine xsu ?_;try exact xtI))))
  refine gcP (fun hcc=>ztp n) ?_
  (iterate 2((try simp(etaStruct := .none)only[push_cast,seval]);(try(refine xsu ?_;try exact xtI))))
  refine cI (fun h2 => ?_) fun h2 => ?_
  ·(iterate 2((try simp(etaStruct := .none)only[push_cast,seval]);(try(refine xsu ?_;try exact xtI))))
   exact xrz rfl
  ·omega
theorem ygt (w:Wld) (n:Int) (WR:Cel→List Int) (hWR:∀a,zas w.f [a] (WR a)) (hl:zfw w):Spec Tryz.prog 7 [zcy w,I .i64 n] [] (.tup [zyr (zyg w n),I .i64 (zzf w n)]) []:=by
 by_cases h:zal w=0
 ·have hw:=zdg h
  by_cases h2:w.bases.length=0∨¬(1≤n∧n≤100)
  ·have e:zzf w n=1:=by unfold zzf;rw[if_neg (fun x=>x h),if_pos h2]
   have e2:zyg w n=default:=by unfold zyg;rw[e];rfl
   rw[e,e2]
   exact ygu w n WR hWR hl hw h2
  ·have e:zzf w n=0:=by unfold zzf;rw[if_neg (fun x=>x h),if_neg h2]
   have:=ycu w n WR hWR hl e hw (by omega) hw.nb (by omega)
   rwa [e]
 ·have e:zzf w n=zal w:=by unfold zzf;rw[if_pos h]
  have e2:zyg w n=default:=by unfold zyg;rw[e,if_neg h]
  rw[e,e2]
  exact ygs w n WR hWR hl h
theorem zmg (n k:Nat):zbj n k=n.testBit k:=by
 unfold zbj
 rw[Nat.testBit_eq_decide_div_mod_eq,Bool.eq_iff_iff]
 simp
theorem z2v (m n k:Nat) (hm:m<4294967296) (hn:n<4294967296) (hk:k<32):decide (bits .and .u32 ((bits .andNot .u32 (m:Int) (n:Int)).fdiv (2 ^ min k IntKind.u32.bits)) 1=1)=zro m n k:=by
 rw[znu m n hm hn]
 have hle:m &&& (4294967295-n)≤m:=Nat.and_le_left
 rw[z4t _ k (by omega) hk]
 unfold zro
 rw[zmg,zmg,zmg,Nat.testBit_and]
 have h2:=Nat.testBit_two_pow_sub_succ (n:=32) (x:=n) (by omega) k
 rw[show (2 ^ 32-(n+1):Nat)=4294967295-n by omega]at h2
 rw[h2,decide_eq_true (by omega),Bool.true_and]
theorem z8s:∀(n m:Nat) (g:List Nat),(zmj n m g).1≤m
 | 0,_,_=>Nat.le_refl _
 | n+1,m,g=>by
  unfold zmj
  split
  ·exact Nat.le_refl _
  ·exact Nat.le_trans (z8s n _ _) (znl _ _)
theorem zw9 (m:Nat) (g:List Nat) (b a:Int):(zch m g b a).1.1≤m:=by
 unfold zch
 repeat' split
 all_goals first|exact Nat.zero_le _|exact z8s _ _ _
theorem ycx (h:Hst) (b a:Int) (hl:HstL h) (h0:za4 h.seats=0) (hg:∀i,i<h.seats.length→zgx h i=true):Spec Tryz.prog 34 [.ptr 0 0 0,I .i64 b,I .i64 a] [.blk 40 (z4i h)] (I .i64 (zt9 h b a)) [.blk 40 (z4i (zt8 h b a))]:=by
 have C:=yhb h.m h.ag b a hl.m hl.g hl.e
 have hv:=zw9 h.m h.ag b a
 have hm:=hl.m
 have h8:=(zcb h0).2.1
 unfold zt8 zt9
 generalize zch h.m h.ag b a=V at *
 obtain⟨⟨m',g'⟩,x,e⟩:=V
 simp only at hv C ⊢
 refine spB Tryz.func34 62 [.tmp 6] Tryz.results34 ?_
 (iterate 2((try simp(etaStruct := .none)only[push_cast,seval]);(try(refine xsu ?_;try exact xtI))))
 refine caP (C) ?_
 (iterate 2((try simp(etaStruct := .none)only[push_cast,seval]);(try(refine xsu ?_;try exact xtI))))
 refine cI (fun h1 => ?_) fun h1 => ?_
 ·rw[if_pos h1]
  (iterate 2((try simp(etaStruct := .none)only[push_cast,seval]);(try(refine xsu ?_;try exact xtI))))
  refine zby [0] rfl rfl (by decide) ⟨?_,trivial⟩ (by repeat' (first|exact trivial|exact rfl|refine⟨?_,?_⟩)) ?_<;>first|exact Wk.refl _|exact wkc|(try simp(etaStruct := .none)only[push_cast,zab,seval])
 ·have h1':e=0:=by simpa using h1
  subst h1'
  rw[if_neg (fun x=>x rfl)]
  have l0:zb8 h.m m' h.seats 0=h.seats:=rfl
  (iterate 2((try simp(etaStruct := .none)only[push_cast,seval]);(try(refine xsu ?_;try exact xtI))))
  refine zax (fun k:Nat=>⟨[(30,I .i64 k),(29,I .i64 h.seats.length),(7,.ptr 1 0 0),(0,.ptr 0 0 0)],[(0,.blk 40 (z4i { h with seats:=zb8 h.m m' h.seats k })),(1,.blk 38 [I .u32 m',.c (.sl 1 (g'.map zjn))])],2⟩) (fun k:Nat=>k≤h.seats.length) (fun k:Nat=>h.seats.length-k) (0) (Nat.zero_le _) (To.mk [0,1] rfl rfl (by decide) ?_ ?_) ?_
  ·simp(etaStruct := .none)only[push_cast,zab,seval,l0]
  ·simp(etaStruct := .none)only[push_cast,zab,seval]
  rintro k hk
  (iterate 2((try simp(etaStruct := .none)only[push_cast,seval]);(try(refine xsu ?_;try exact xtI))))
  refine cI (fun h2 => ?_) fun h2 => ?_
  ·have hlt:k<h.seats.length:=by omega
   have hgt:=z2v h.m m' k hm (by omega) (by omega)
   have hlk:=zda h.m m' h.seats k
   have hr:=zem (m:=h.m) (m':=m') h0 k (by omega)
   (iterate 2((try simp(etaStruct := .none)only[push_cast,seval,hgt]);(try(refine xsu ?_;try exact xtI))))
   refine zaz [some 33,some 34,some 35,some 36,some 37,some 38,some 39,some 40,some 41,some 42,some 43,some 44] rfl ?_
   intro Oq lq Rq hlq hdq hRq
   subst hlq
   iterate 12(refine zar fun rq hrq => ?_;(iterate 2((try simp(etaStruct := .none)only[push_cast,seval,hdq,id,hgt]);(try(refine xsu ?_;try exact xtI))));subst hrq)
   refine zht ?_
   subst hRq
   clear hdq Oq
   refine zhs (by kernel_rfl) ?_
   (iterate 2((try simp(etaStruct := .none)only[push_cast,seval,hgt]);(try(refine xsu ?_;try exact xtI))))
   refine cI (fun h3 => ?_) fun h3 => ?_
   ·have hbk:zbj h.m k=true:=by
     have h3':=h3
     unfold zro at h3'
     rw[Bool.and_eq_true]at h3'
     exact h3'.1
    have hgn:((zb8 h.m m' h.seats k).getD k default).gone=false:=by
     rw[zrc _ _ _ _ _ (Nat.le_refl _)]
     have hx:=hg k hlt
     unfold zgx at hx
     rw[of_decide_eq_true hx,hbk];rfl
    have hs:zb8 h.m m' h.seats (k+1)=zg7 (zb8 h.m m' h.seats k) k:=if_pos h3
    (iterate 2((try simp(etaStruct := .none)only[push_cast,seval,hgt]);(try(refine xsu ?_;try exact xtI))))
    refine caP (z0f (zb8 h.m m' h.seats k) k (by omega) (ye5 hr) hr (by omega) (by rw[Int.toNat_natCast];exact hgn)) ?_
    (iterate 2((try simp(etaStruct := .none)only[push_cast,seval,hgt]);(try(refine xsu ?_;try exact xtI))))
    refine⟨k+1,by omega,by omega,To.mk [0,1] rfl rfl (by decide) ?_ ?_⟩
    ·(iterate 2((try simp(etaStruct := .none)only[push_cast,seval,hs]);(try(refine xsu ?_;try exact xtI))))
    ·(iterate 2((try simp(etaStruct := .none)only[push_cast,seval,hgt]);(try(refine xsu ?_;try exact xtI))))
   ·have hs:zb8 h.m m' h.seats (k+1)=zb8 h.m m' h.seats k:=if_neg (by rw[h3];decide)
    (iterate 2((try simp(etaStruct := .none)only[push_cast,seval,hgt]);(try(refine xsu ?_;try exact xtI))))
    refine⟨k+1,by omega,by omega,To.mk [0,1] rfl rfl (by decide) ?_ ?_⟩
    ·(iterate 2((try simp(etaStruct := .none)only[push_cast,seval,hs]);(try(refine xsu ?_;try exact xtI))))
    ·(iterate 2((try simp(etaStruct := .none)only[push_cast,seval,hgt]);(try(refine xsu ?_;try exact xtI))))
  ·obtain rfl:k=h.seats.length:=by omega
   (iterate 2((try simp(etaStruct := .none)only[push_cast,seval]);(try(refine xsu ?_;try exact xtI))))
   refine zby [0] rfl rfl (by decide) ⟨?_,trivial⟩ (by repeat' (first|exact trivial|exact rfl|refine⟨?_,?_⟩)) ?_<;>first|exact Wk.refl _|exact wkc|(try simp(etaStruct := .none)only[push_cast,zab,seval])
structure Clq where
 kind:Int
 o:Ord
 by_:Int
 at_:Int
deriving Inhabited
abbrev yg9 (c:Clq):AV := .agg [I .i64 c.kind,I .i64 c.o.by_,I .i64 c.o.kind,I .i64 c.o.who,I .i64 c.o.c.x,I .i64 c.o.c.y,I .i64 c.o.what,I .i64 c.by_,I .i64 c.at_]
def doV (WR:Cel→List Int) (h:Hst) (c:Clq):Hst × ByteArray × Int :=
 if c.kind=1 then (if zqa h.seats c.o=0 then ({ h with seats:=zu3 h.seats c.o },⟨#[]⟩,0)else (h,⟨#[]⟩,zqa h.seats c.o))
 else if c.kind=2 then (if zh5 WR h=0 then (zj4 WR h,zn3 WR h,0)else (h,⟨#[]⟩,zh5 WR h))
 else if c.kind=3 then (if zt9 h c.by_ c.at_=0 then (zt8 h c.by_ c.at_,⟨#[]⟩,0)else (h,⟨#[]⟩,zt9 h c.by_ c.at_))
 else (h,⟨#[]⟩,1)
abbrev doA (r:Hst × ByteArray × Int):AV := .tup [zyr r.1,S r.2.1,I .i64 r.2.2]
theorem ykn (h:Hst) (c:Clq) (WR:Cel→List Int) (hWR:∀a,zas h.sty.start.f [a] (WR a)) (hl:HstL h) (hb:HstB h) (hE:zsd WR h=0) (hk:c.kind=1):Spec Tryz.prog 9 [zyr h,yg9 c] [] (doA (doV WR h c)) []:=by
 have C:=zkn h WR hWR hl
 have D:=yez h.seats c.o hl.l hl.a
 have eV:doV WR h c=if zqa h.seats c.o=0 then ({ h with seats:=zu3 h.seats c.o },⟨#[]⟩,0)else (h,⟨#[]⟩,zqa h.seats c.o):=by unfold doV;rw[if_pos hk]
 rw[hE]at C
 rw[eV]
 refine spB Tryz.func9 51 [.cell 4 40,.tmp 5,.tmp 6] Tryz.results9 ?_
 try refine xst ?_
 refine caP (zil h hb) ?_
 try refine xst ?_
 refine caP (C) ?_
 try refine xst ?_
 refine cI (fun h1 => ?_) fun h1 => ?_
 ·simp at h1
 ·try refine xst ?_
  refine cI (fun h2 => ?_) fun h2 => ?_
  ·try refine xst ?_
   refine caP (D) ?_
   try refine xst ?_
   refine cI (fun h3 => ?_) fun h3 => ?_
   ·rw[if_neg h3]
    try refine xst ?_
    exact xrz rfl
   ·rw[if_pos h3,if_pos h3]
    try refine xst ?_
    exact xrz rfl
  ·exact absurd hk h2
theorem ykm (h:Hst) (c:Clq) (WR:Cel→List Int) (hWR:∀a,zas h.sty.start.f [a] (WR a)) (hl:HstL h) (hb:HstB h) (hE:zsd WR h=0) (h0:za4 h.seats=0) (hm:1≤h.most∧h.most≤100) (hlen:(zck h).length≤9223372036854775807) (hk:c.kind=2):Spec Tryz.prog 9 [zyr h,yg9 c] [] (doA (doV WR h c)) []:=by
 have C:=zkn h WR hWR hl
 have D:=ye2 h WR hWR hl h0 hm hlen
 have eV:doV WR h c=if zh5 WR h=0 then (zj4 WR h,zn3 WR h,0)else (h,⟨#[]⟩,zh5 WR h):=by unfold doV;rw[if_neg (by omega),if_pos hk]
 rw[hE]at C
 rw[eV]
 refine spB Tryz.func9 51 [.cell 4 40,.tmp 5,.tmp 6] Tryz.results9 ?_
 try refine xst ?_
 refine caP (zil h hb) ?_
 try refine xst ?_
 refine caP (C) ?_
 try refine xst ?_
 refine cI (fun h1 => ?_) fun h1 => ?_
 ·simp at h1
 ·try refine xst ?_
  refine cI (fun h2 => ?_) fun h2 => ?_
  ·omega
  ·try refine xst ?_
   refine cI (fun h3 => ?_) fun h3 => ?_
   ·try refine xst ?_
    refine caM [3] (D) ?_
    try refine xst ?_
    refine cI (fun h4 => ?_) fun h4 => ?_
    ·rw[if_neg h4]
     try refine xst ?_
     exact xrz rfl
    ·rw[if_pos h4]
     try refine xst ?_
     exact xrz rfl
   ·exact absurd hk h3
theorem ykl (h:Hst) (c:Clq) (WR:Cel→List Int) (hWR:∀a,zas h.sty.start.f [a] (WR a)) (hl:HstL h) (hb:HstB h) (hE:zsd WR h=0) (h0:za4 h.seats=0) (hg:∀i,i<h.seats.length→zgx h i=true) (hk:c.kind=3):Spec Tryz.prog 9 [zyr h,yg9 c] [] (doA (doV WR h c)) []:=by
 have C:=zkn h WR hWR hl
 have D:=ycx h c.by_ c.at_ hl h0 hg
 have eV:doV WR h c=if zt9 h c.by_ c.at_=0 then (zt8 h c.by_ c.at_,⟨#[]⟩,0)else (h,⟨#[]⟩,zt9 h c.by_ c.at_):=by unfold doV;rw[if_neg (by omega),if_neg (by omega),if_pos hk]
 rw[hE]at C
 rw[eV]
 refine spB Tryz.func9 51 [.cell 4 40,.tmp 5,.tmp 6] Tryz.results9 ?_
 try refine xst ?_
 refine caP (zil h hb) ?_
 try refine xst ?_
 refine caP (C) ?_
 try refine xst ?_
 refine cI (fun h1 => ?_) fun h1 => ?_
 ·simp at h1
 ·try refine xst ?_
  refine cI (fun h2 => ?_) fun h2 => ?_
  ·omega
  ·try refine xst ?_
   refine cI (fun h3 => ?_) fun h3 => ?_
   ·omega
   ·try refine xst ?_
    refine cI (fun h4 => ?_) fun h4 => ?_
    ·try refine xst ?_
     refine caM [3] (D) ?_
     try refine xst ?_
     refine cI (fun h5 => ?_) fun h5 => ?_
     ·rw[if_neg h5]
      try refine xst ?_
      exact xrz rfl
     ·rw[if_pos h5]
      try refine xst ?_
      exact xrz rfl
    ·exact absurd hk h4
theorem ykk (h:Hst) (c:Clq) (WR:Cel→List Int) (hWR:∀a,zas h.sty.start.f [a] (WR a)) (hl:HstL h) (hb:HstB h) (hE:zsd WR h=0) (hk:¬(1≤c.kind∧c.kind≤3)):Spec Tryz.prog 9 [zyr h,yg9 c] [] (doA (doV WR h c)) []:=by
 have C:=zkn h WR hWR hl
 have eV:doV WR h c=(h,⟨#[]⟩,1):=by unfold doV;rw[if_neg (by omega),if_neg (by omega),if_neg (by omega)]
 rw[hE]at C
 rw[eV]
 refine spB Tryz.func9 51 [.cell 4 40,.tmp 5,.tmp 6] Tryz.results9 ?_
 try refine xst ?_
 refine caP (zil h hb) ?_
 try refine xst ?_
 refine caP (C) ?_
 try refine xst ?_
 refine cI (fun h1 => ?_) fun h1 => ?_
 ·simp at h1
 ·try refine xst ?_
  refine cI (fun h2 => ?_) fun h2 => ?_
  ·omega
  ·try refine xst ?_
   refine cI (fun h3 => ?_) fun h3 => ?_
   ·omega
   ·try refine xst ?_
    refine cI (fun h4 => ?_) fun h4 => ?_
    ·omega
    ·try refine xst ?_
     refine cI (fun h5 => ?_) fun h5 => ?_
     ·try refine xst ?_
      exact xrz rfl
     ·simp at h5
end Go.Proofs.YtmjbgbmegbkmhaaGreat
namespace Go.Proofs.YtmjbgbmegbkmhaaGreat
set_option linter.all false
open Go.RowKit
set_option maxRecDepth 100000
set_option maxHeartbeats 1000000
theorem znm (most:Int) (l:List Sea) (n:Nat):(itS most n ([],l.map zbo)).2.length=l.length∧((itS most n ([],l.map zbo)).1.length:Int)≤max most 0∧((∀s∈l,zf9 s)→∀s∈(itS most n ([],l.map zbo)).2,zf9 s):=by
 have tkl:∀(m:List Sea) (out:List Ord),(∀s∈m,zf9 s)→∀s∈(tkS most out m).2,zf9 s:=by
  intro m
  induction m with
  | nil=>intro out _ s hs;simp[tkS]at hs
  | cons x r ih =>
   intro out hm s hs
   unfold tkS at hs
   split at hs
   ·rcases List.mem_cons.1 hs with rfl|hs
    ·have:=hm x (by simp);unfold zf9 at this ⊢;simp only[List.length_drop];omega
    ·exact ih _ (fun s h=>hm s (by simp[h])) s hs
   ·rcases List.mem_cons.1 hs with rfl|hs
    ·exact hm _ (by simp)
    ·exact ih _ (fun s h=>hm s (by simp[h])) s hs
 induction n with
 | zero=>exact⟨by simp[itS],by simp[itS];omega,fun h s hs=>by simp only[itS]at hs;obtain⟨t,ht,rfl⟩:=List.mem_map.1 hs;exact h t ht⟩
 | succ n ih =>
  rw[zkl]
  exact⟨by rw[zz0];exact ih.1,zz1 most _ _ ih.2.1,fun h=>tkl _ _ (ih.2.2 h)⟩
end Go.Proofs.YtmjbgbmegbkmhaaGreat
namespace Go.Proofs.YtmjbgbmegbkmhaaGreat
set_option linter.all false
open Go.RowKit
set_option maxRecDepth 100000
set_option maxHeartbeats 2000000
theorem z0m:∀(n m:Nat) (g:List Nat),(zmj n m g).2.length=g.length
 | 0,_,_=>rfl
 | n+1,m,g=>by
  rw[zmj]
  split
  ·rfl
  ·rw[z0m n,zv2]
theorem z7v (m:Nat) (xs:List Nat) (b a:Int):(zch m xs b a).1.2.length≤xs.length:=by
 unfold zch
 repeat' split
 all_goals(first|(simp;done)|(rw[z0m];simp))
theorem zto {WR:Cel→List Int} {h:Hst} (hE:zsd WR h=0):za4 h.seats=0∧(1≤h.most∧h.most≤100)∧∀i,i<h.seats.length→zgx h i=true:=by
 unfold zsd at hE
 split at hE
 ·rename_i x;exact absurd hE x
 split at hE
 ·rename_i x;exact absurd hE x
 rename_i h2
 split at hE
 ·rename_i x;exact absurd hE x
 split at hE
 ·omega
 rename_i h4
 split at hE
 ·omega
 split at hE
 ·rename_i ha
  exact⟨by simpa using h2,by omega,fun i hi=>List.all_eq_true.1 ha i (List.mem_range.2 hi)⟩
 ·omega
theorem zp4 (h:Hst) (hm:h.most≤100):(zck h).length≤100:=by
 have:=(znm h.most h.seats 50).2.1
 unfold zck zcx
 omega
theorem zo9 (most:Int) (l:List Sea):(zcx most l).2.length=l.length∧((∀s∈l,zf9 s)→∀s∈(zcx most l).2,zf9 s):=by
 have h:=znm most l 50
 unfold zcx
 exact⟨h.1,h.2.2⟩
structure HstS (h : Hst) : Prop where
 s:StyL h.sty
 l:h.seats.length≤9223372036854775807
 a:∀s∈h.seats,zf9 s
 g:h.ag.length≤9223372036854775807
theorem HstL.s' {h:Hst} (hl:HstL h):HstS h:=⟨hl.s,hl.l,hl.a,hl.g⟩
theorem yf1 (w:Wld) (n:Int) (hl:zfw w) (hb:w.bases.length≤9223372036854775807):HstS (zyg w n):=by
 unfold zyg
 split
 ·refine⟨⟨hl,fun l h=>by simp at h,Nat.zero_le _⟩,by simp only[List.length_replicate];exact hb,fun s hs => ?_,by simp only[List.length_replicate];omega⟩
  rw[(List.mem_replicate.1 hs).2];exact Nat.zero_le _
 ·exact⟨z8m,Nat.zero_le _,fun s hs=>by exact absurd hs List.not_mem_nil,Nat.zero_le _⟩
theorem ykt {WR:Cel→List Int} {h:Hst} (c:Clq) (hl:HstL h) (hE:zsd WR h=0):HstS (doV WR h c).1:=by
 obtain⟨h0,hm,-⟩:=zto hE
 have h50:=(zcb h0).2.2.1
 have h8:=(zcb h0).2.1
 unfold doV
 split
 ·split
  ·refine⟨hl.s,by simp only[zu3,List.length_set];omega,fun s hs => ?_,hl.g⟩
   rcases List.mem_or_eq_of_mem_set hs with e|e
   ·exact hl.a s e
   ·subst e
    unfold zf9
    simp only[List.length_append,List.length_cons,List.length_nil]
    by_cases hi:c.o.by_.toNat<h.seats.length
    ·have:=h50 _ (za0 h.seats c.o.by_.toNat hi)
     omega
    ·have:(h.seats.getD c.o.by_.toNat default)=default:=by rw[List.getD_eq_getElem?_getD,List.getElem?_eq_none (by omega)];rfl
     rw[this];decide
  ·exact hl.s'
 split
 ·split
  ·unfold zj4
   split
   ·exact hl.s'
   ·have hcl:=zo9 h.most h.seats
    have hml:=yb2 h.sty (zck h) WR hl.s (by have:=zp4 h hm.2;omega)
    generalize zcx h.most h.seats=V at *
    generalize zg2 WR h.sty (zck h)=M at *
    exact⟨hml,by rw[hcl.1];omega,hcl.2 hl.a,hl.g⟩
  ·exact hl.s'
 split
 ·split
  ·unfold zt8
   split
   ·exact hl.s'
   ·refine⟨hl.s,by show (zb8 _ _ _ _).length≤_;rw[zda];omega,ye5 (zem h0 _ (Nat.le_refl _)),?_⟩
    exact Nat.le_trans (z7v _ _ _ _) hl.g
  ·exact hl.s'
 ·exact hl.s'
theorem ygv (h:Hst) (c:Clq) (WR:Cel→List Int) (hWR:∀a,zas h.sty.start.f [a] (WR a)) (hl:HstL h) (hb:HstB h) (hE:zsd WR h=0):Spec Tryz.prog 9 [zyr h,yg9 c] [] (doA (doV WR h c)) []:=by
 obtain⟨h0,hm,hg⟩:=zto hE
 have hlen:(zck h).length≤9223372036854775807:=by have:=zp4 h hm.2;omega
 by_cases k1:c.kind=1
 ·exact ykn h c WR hWR hl hb hE k1
 by_cases k2:c.kind=2
 ·exact ykm h c WR hWR hl hb hE h0 hm hlen k2
 by_cases k3:c.kind=3
 ·exact ykl h c WR hWR hl hb hE h0 hg k3
 ·exact ykk h c WR hWR hl hb hE (by omega)
end Go.Proofs.YtmjbgbmegbkmhaaGreat
