/- TopGone: whatever world, number and calls are handed in, whoever was voted out says nothing any more. No condition. -/
import Derived.Test.YtmjbgbmegbkmhaaGreatTGo8
import Derived.Test.YtmjbgbmegbkmhaaGreatTGo1
import Derived.Test.YtmjbgbmegbkmhaaGreatChecked
import Derived.Test.YtmjbgbmegbkmhaaGreatRows
namespace Go.Proofs.YtmjbgbmegbkmhaaGreat
set_option linter.all false
open Go.RowKit Go.ChangeShapes Go.WideShapes Go.ChangeAt
set_option maxRecDepth 100000
theorem zzm (w:World):OpA Tryz.prog 22 1 w (fun xs:List Int => [.sl 1 (xs.map zac)]) (fun xs=>(∀x∈xs,zh4 x)∧xs.length*8≤140737488351232∧xs.length≤9223372036854775807) :=
 OpA.slice Tryz.underlying22 (by kernel_rfl) (by decide) (by kernel_rfl) (OpA.i64 Tryz.underlying3)
theorem z80 (w:World):OpA Tryz.prog 46 2 w za6 (fun c=>zh4 c.x∧zh4 c.y) :=
 (OpA.struct Tryz.underlying46 (by kernel_rfl) (OpAF.cons rfl rfl (OpA.i64 Tryz.underlying3) (OpAF.cons rfl rfl (OpA.i64 Tryz.underlying3) OpAF.nil))).map (fun x=>⟨x.1,x.2.1⟩) (fun _=>rfl) (fun _ h=>⟨h.1,h.2.1⟩)
def yi5 (f:Fld):List PV := [pI f.w,pI f.h,.sl 1 (f.p.map zac)]
theorem ygm (w:World):OpA Tryz.prog 24 3 w yi5 (fun f=>zh4 f.w∧zh4 f.h∧(∀x∈f.p,zh4 x)∧f.p.length*8≤140737488351232∧f.p.length≤9223372036854775807) :=
 (OpA.struct Tryz.underlying24 (by kernel_rfl) (OpAF.cons rfl rfl (OpA.i64 Tryz.underlying3) (OpAF.cons rfl rfl (OpA.i64 Tryz.underlying3) (OpAF.cons rfl rfl (zzm w) OpAF.nil)))).map (fun x=>⟨x.1,x.2.1,x.2.2.1⟩) (fun _=>rfl) (fun _ h=>⟨h.1,h.2.1,h.2.2.1⟩)
def yhy (w:Wld):List PV := [pI w.f.w,pI w.f.h,.sl 1 (w.f.p.map zac),.sl 2 (w.bases.map za6),.sl 1 (w.stocks.map zac),.sl 1 (w.mines.map zac),.sl 7 (w.troops.map zat),pI w.next,pI w.now]
def yga (t:Trp):Prop:=zh4 t.id∧zh4 t.owner∧zh4 t.kind∧zh4 t.c.x∧zh4 t.c.y∧zh4 t.life∧zh4 t.load
def yho (w:Wld):Prop:=zfm w∧zh4 w.f.w∧zh4 w.f.h∧(∀x∈w.f.p,zh4 x)∧(∀x∈w.bases,zh4 x.x∧zh4 x.y)∧(∀x∈w.stocks,zh4 x)∧(∀x∈w.mines,zh4 x)∧(∀x∈w.troops,yga x)∧zh4 w.next∧zh4 w.now
theorem ygk (w:World):OpA Tryz.prog 108 7 w zat yga :=
 (OpA.struct Tryz.underlying108 (by kernel_rfl) (OpAF.cons rfl rfl (OpA.i64 Tryz.underlying3) (OpAF.cons rfl rfl (OpA.i64 Tryz.underlying3) (OpAF.cons rfl rfl (OpA.i64 Tryz.underlying3) (OpAF.cons rfl rfl (z80 w) (OpAF.cons rfl rfl (OpA.i64 Tryz.underlying3) (OpAF.cons rfl rfl (OpA.i64 Tryz.underlying3) OpAF.nil))))))).map (fun x=>⟨x.1,x.2.1,x.2.2.1,x.2.2.2.1,x.2.2.2.2.1,x.2.2.2.2.2.1⟩) (fun _=>rfl) (fun x h=>⟨h.1,h.2.1,h.2.2.1,h.2.2.2.1.1,h.2.2.2.1.2,h.2.2.2.2.1,h.2.2.2.2.2.1⟩)
theorem ycp (w:World):OpA Tryz.prog 25 1 w (fun xs:List Cel => [.sl 2 (xs.map za6)]) (fun xs=>(∀x∈xs,zh4 x.x∧zh4 x.y)∧xs.length*16≤140737488351232∧xs.length≤9223372036854775807) :=
 OpA.slice Tryz.underlying25 (by kernel_rfl) (by decide) (by kernel_rfl) (z80 w)
theorem ycl (w:World):OpA Tryz.prog 26 1 w (fun xs:List Trp => [.sl 7 (xs.map zat)]) (fun xs=>(∀x∈xs,yga x)∧xs.length*56≤140737488351232∧xs.length≤9223372036854775807) :=
 OpA.slice Tryz.underlying26 (by kernel_rfl) (by decide) (by kernel_rfl) (ygk w)
theorem ygj (w:World):OpA Tryz.prog 28 9 w yhy yho :=
 (OpA.struct Tryz.underlying28 (by kernel_rfl) (OpAF.cons rfl rfl (ygm w) (OpAF.cons rfl rfl (ycp w) (OpAF.cons rfl rfl (zzm w) (OpAF.cons rfl rfl (zzm w) (OpAF.cons rfl rfl (ycl w) (OpAF.cons rfl rfl (OpA.i64 Tryz.underlying3) (OpAF.cons rfl rfl (OpA.i64 Tryz.underlying3) OpAF.nil)))))))).map (fun x=>⟨x.1,x.2.1,x.2.2.1,x.2.2.2.1,x.2.2.2.2.1,x.2.2.2.2.2.1,x.2.2.2.2.2.2.1⟩) (fun _=>rfl)
  (fun x h=>⟨⟨h.1.2.2.2.2,h.2.1.2.2,h.2.2.1.2.2,h.2.2.2.1.2.2,h.2.2.2.2.1.2.2⟩,h.1.1,h.1.2.1,h.1.2.2.1,h.2.1.1,h.2.2.1.1,h.2.2.2.1.1,h.2.2.2.2.1.1,h.2.2.2.2.2.1,h.2.2.2.2.2.2.1⟩)
theorem ygl (w:World):OpA Tryz.prog 48 6 w zdg (fun _=>True) :=
 (OpA.struct Tryz.underlying48 (by kernel_rfl) (OpAF.cons rfl rfl (OpA.i64 Tryz.underlying3) (OpAF.cons rfl rfl (OpA.i64 Tryz.underlying3) (OpAF.cons rfl rfl (OpA.i64 Tryz.underlying3) (OpAF.cons rfl rfl (z80 w) (OpAF.cons rfl rfl (OpA.i64 Tryz.underlying3) OpAF.nil)))))).map (fun x=>⟨x.1,x.2.1,x.2.2.1,x.2.2.2.1,x.2.2.2.2.1⟩) (fun _=>rfl) (fun _ _=>trivial)
end Go.Proofs.YtmjbgbmegbkmhaaGreat
namespace Go.Proofs.YtmjbgbmegbkmhaaGreat
set_option linter.all false
open Go.RowKit Go.ChangeShapes Go.WideShapes Go.ChangeAt
namespace topGone
set_option maxRecDepth 100000
set_option maxHeartbeats 2000000
theorem ygn (w:World):OpA Tryz.prog 50 9 w zlw (fun _=>True) :=
 (OpA.struct Tryz.underlying50 (by kernel_rfl) (OpAF.cons rfl rfl (OpA.i64 Tryz.underlying3) (OpAF.cons rfl rfl (ygl w) (OpAF.cons rfl rfl (OpA.i64 Tryz.underlying3) (OpAF.cons rfl rfl (OpA.i64 Tryz.underlying3) OpAF.nil))))).map (fun x=>⟨x.1,x.2.1,x.2.2.1,x.2.2.2.1⟩) (fun _=>rfl) (fun _ _=>trivial)
theorem yco (w:World):OpA Tryz.prog 29 1 w (fun xs:List Clq => [.sl 9 (xs.map zlw)]) (fun xs=>(∀x∈xs,True)∧xs.length*72≤140737488351232∧xs.length≤9223372036854775807) :=
 OpA.slice Tryz.underlying29 (by kernel_rfl) (by decide) (by kernel_rfl) (ygn w)
theorem law (w:Wld) (n:Int) (cs:List Clq) (hw:yho w) (_:zh4 n) (h:(∀x∈cs,True)∧cs.length*72≤140737488351232∧cs.length≤9223372036854775807):Spec Tryz.prog 3 [zdf w,I .i64 n,.c (.sl 9 (cs.map zlw))] [] (B true) []:=by
 obtain⟨WR,hWR⟩:=ybh w.f
 by_cases h0:zq8 w n=0∧cs.length≤100
 ·exact zx9 w n cs WR hWR hw.1 h.2.2 h0.1 h0.2
 ·exact zx8 w n cs WR hWR hw.1 h.2.2 h0
theorem own:ownKnob Tryz.prog.godebug=none:=by kernel_rfl
theorem zse:laidOutB Tryz.prog=true:=by kernel_rfl
set_option maxRecDepth 100000 in
theorem yc9 (os:Os) (started:os.Started) (H:Type) (enc:TypeId × Value→H) :
 ReturnsInHanded {} Tryz.checked os 3 .any (Rows.topGoneSpec.pre6 enc Tryz.prog Tryz.f3 Rows.topGoneRow.domain false) (Rows.topGoneSpec.post enc Tryz.prog Tryz.f3 false true false false):=by
 refine returnsInHanded_of_change_sized (C:=Tryz.checked) own started (by kernel_rfl) Tryz.func3
  (ChangeSpec.witness6 (enc:=enc) (C:=Tryz.checked) false ⟨#[],#[.agg #[.int .i64 0,.int .i64 0,.slice none 0 0,.slice none 0 0,.slice none 0 0,.slice none 0 0,.slice none 0 0,.int .i64 0,.int .i64 0],.int .i64 0,.slice none 0 0],[]⟩ 8 (by kernel_rfl) (by kernel_rfl) (by kernel_rfl) (by kernel_rfl)) ?_
 intro W base args ds gs before hval0 hW hcnd hsz0 _
 have hval:∀(j:Nat) t v,Tryz.f3.params[j]? = some t→args[j]? = some v→Value.okWide Tryz.prog W .any base t v:=hval0
 have hW':=hW
 obtain⟨p,q,hA0,hV,rfl,hfz,hnd⟩:=hW
 have hA:DataW.TrodAll enc Tryz.prog W 0 (fun _=>true) true Tryz.f3.params.toList args.toList ds p:=hA0
 rw[Tryz.params3]at hA hval hsz0
 obtain⟨v0,vs0,d0,ds0,p0,q0,hargs,rfl,rfl,h0,r0⟩:=trodAll_cons hA
 obtain⟨v1,vs1,d1,ds1,p1,q1,rfl,rfl,rfl,h1,r1⟩:=trodAll_cons r0
 obtain⟨v2,vs2,d2,ds2,p2,q2,rfl,rfl,rfl,h2,r2⟩:=trodAll_cons r1
 obtain⟨rfl,rfl,rfl⟩:=trodAll_nil r2
 obtain rfl:args = #[v0,v1,v2]:=by cases args;simp_all
 obtain⟨rfl,rfl⟩:=trodVars_none hV
 have lt0:∀x∈p0,x.block<W.heap.size:=by obtain⟨m,hm⟩:=h0;exact DataW.trod_lt m _ _ _ hm
 obtain⟨x0,ok0,l0,q0r⟩:=OpA.arg (ygj W) h0 hsz0 0 rfl rfl
 have R0:=z8h (zxn (hval 0 28 v0 rfl rfl) Tryz.underlying28 rfl) l0 q0r
 have lt1:∀x∈p1,x.block<W.heap.size:=by obtain⟨m,hm⟩:=h1;exact DataW.trod_lt m _ _ _ hm
 obtain⟨x1,ok1,l1,q1r⟩:=OpA.arg (OpA.i64 Tryz.underlying3) h1 hsz0 1 rfl rfl
 have R1:=zy5 (z81 Tryz.underlying3 (hval 1 3 v1 rfl rfl)) q1r
 have lt2:∀x∈p2,x.block<W.heap.size:=by obtain⟨m,hm⟩:=h2;exact DataW.trod_lt m _ _ _ hm
 obtain⟨x2,ok2,l2,q2r⟩:=OpA.arg (yco W) h2 hsz0 2 rfl rfl
 have R2:=zy5 (zzn Tryz.underlying29 (hval 2 29 v2 rfl rfl)) q2r
 clear hA0 hval0
 refine(z20 (law x0 x1 x2 ok0 ok1 ok2) (zhk R0 (zhk R1 (zhk R2 zt0)))).mono fun e W' ⟨he,bel⟩ => ?_
 subst he
 exact⟨_,rfl,_,_,_,[],_,[],hW',trodAll_mk1 (shut_bool Tryz.underlying4 _),(trodAll_cons_mk (Below.trod zse (by kernel_rfl) (of_decide_eq_true (by kernel_rfl)) h0 bel lt0) (trodAll_cons_mk (Below.trod zse (by kernel_rfl) (of_decide_eq_true (by kernel_rfl)) h1 bel lt1) (trodAll_cons_mk (Below.trod zse (by kernel_rfl) (of_decide_eq_true (by kernel_rfl)) h2 bel lt2) trodAll_mk0))),rfl,bel.frame _,fun h=>by cases h⟩
theorem over:Rows.topGoneRow.holds Tryz.pinned (OpenSpec.ofChange Rows.topGoneSpec) :=
 OpenClaim.holds_of_wide 3 Tryz.f3 rfl rfl rfl rfl rfl rfl rfl ⟨rfl,rfl,rfl,rfl,rfl⟩ rfl rfl rfl rfl rfl (by kernel_rfl) Tryz.func3 facts
  (of_decide_eq_true (by kernel_rfl)) (by unfold Func.isWrapper;first|(rw[if_pos (by decide +kernel)];kernel_rfl)|(rw[if_neg (by decide +kernel)];exact⟨rfl,rfl⟩))
  (fun os started H enc _=>yc9 os started H enc)
theorem proved:Rows.TopGoneSaid:=over
#print axioms proved
end topGone
end Go.Proofs.YtmjbgbmegbkmhaaGreat
