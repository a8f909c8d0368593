/- HostDoes: whatever host, call, world and number are handed in, New, Check and Do answer what the document says. No condition. -/
import Derived.Test.YtbapdgmcndgieaaGreatHoD9
import Derived.Test.YtbapdgmcndgieaaGreatHoD1
import Derived.Test.YtbapdgmcndgieaaGreatChecked
import Derived.Test.YtbapdgmcndgieaaGreatRows
namespace Go.Proofs.YtbapdgmcndgieaaGreat
set_option linter.all false
open Go.RowKit Go.ChangeShapes Go.WideShapes Go.ChangeAt
set_option maxRecDepth 100000
theorem zrz (w:World):OpA Tryz.prog 22 1 w (fun xs:List Int => [.sl 1 (xs.map zac)]) (fun xs=>(∀x∈xs,zio x)∧xs.length*8≤140737488351232∧xs.length≤9223372036854775807) :=
 OpA.slice Tryz.underlying22 (by kernel_rfl) (by decide) (by kernel_rfl) (OpA.i64 Tryz.underlying3)
theorem ya3 (w:World):OpA Tryz.prog 41 2 w zaz (fun c=>zio c.x∧zio c.y) :=
 (OpA.struct Tryz.underlying41 (by kernel_rfl) (OpAF.cons rfl rfl (OpA.i64 Tryz.underlying3) (OpAF.cons rfl rfl (OpA.i64 Tryz.underlying3) OpAF.nil))).map (fun x=>⟨x.1,x.2.1⟩) (fun _=>rfl) (fun _ h=>⟨h.1,h.2.1⟩)
def yks (f:Fld):List PV := [pI f.w,pI f.h,.sl 1 (f.p.map zac)]
theorem yet (w:World):OpA Tryz.prog 24 3 w yks (fun f=>zio f.w∧zio f.h∧(∀x∈f.p,zio x)∧f.p.length*8≤140737488351232∧f.p.length≤9223372036854775807) :=
 (OpA.struct Tryz.underlying24 (by kernel_rfl) (OpAF.cons rfl rfl (OpA.i64 Tryz.underlying3) (OpAF.cons rfl rfl (OpA.i64 Tryz.underlying3) (OpAF.cons rfl rfl (zrz w) OpAF.nil)))).map (fun x=>⟨x.1,x.2.1,x.2.2.1⟩) (fun _=>rfl) (fun _ h=>⟨h.1,h.2.1,h.2.2.1⟩)
def yji (w:Wld):List PV := [pI w.f.w,pI w.f.h,.sl 1 (w.f.p.map zac),.sl 2 (w.bases.map zaz),.sl 1 (w.stocks.map zac),.sl 1 (w.mines.map zac),.sl 7 (w.troops.map zaw),pI w.next,pI w.now]
def yh3 (t:Trp):Prop:=zio t.id∧zio t.owner∧zio t.kind∧zio t.c.x∧zio t.c.y∧zio t.life∧zio t.load
def ygu (w:Wld):Prop:=zdf w∧zio w.f.w∧zio w.f.h∧(∀x∈w.f.p,zio x)∧(∀x∈w.bases,zio x.x∧zio x.y)∧(∀x∈w.stocks,zio x)∧(∀x∈w.mines,zio x)∧(∀x∈w.troops,yh3 x)∧zio w.next∧zio w.now
theorem yih (w:World):OpA Tryz.prog 92 7 w zaw yh3 :=
 (OpA.struct Tryz.underlying92 (by kernel_rfl) (OpAF.cons rfl rfl (OpA.i64 Tryz.underlying3) (OpAF.cons rfl rfl (OpA.i64 Tryz.underlying3) (OpAF.cons rfl rfl (OpA.i64 Tryz.underlying3) (OpAF.cons rfl rfl (ya3 w) (OpAF.cons rfl rfl (OpA.i64 Tryz.underlying3) (OpAF.cons rfl rfl (OpA.i64 Tryz.underlying3) OpAF.nil))))))).map (fun x=>⟨x.1,x.2.1,x.2.2.1,x.2.2.2.1,x.2.2.2.2.1,x.2.2.2.2.2.1⟩) (fun _=>rfl) (fun x h=>⟨h.1,h.2.1,h.2.2.1,h.2.2.2.1.1,h.2.2.2.1.2,h.2.2.2.2.1,h.2.2.2.2.2.1⟩)
theorem z8g (w:World):OpA Tryz.prog 25 1 w (fun xs:List Cel => [.sl 2 (xs.map zaz)]) (fun xs=>(∀x∈xs,zio x.x∧zio x.y)∧xs.length*16≤140737488351232∧xs.length≤9223372036854775807) :=
 OpA.slice Tryz.underlying25 (by kernel_rfl) (by decide) (by kernel_rfl) (ya3 w)
theorem z8e (w:World):OpA Tryz.prog 26 1 w (fun xs:List Trp => [.sl 7 (xs.map zaw)]) (fun xs=>(∀x∈xs,yh3 x)∧xs.length*56≤140737488351232∧xs.length≤9223372036854775807) :=
 OpA.slice Tryz.underlying26 (by kernel_rfl) (by decide) (by kernel_rfl) (yih w)
theorem yig (w:World):OpA Tryz.prog 28 9 w yji ygu :=
 (OpA.struct Tryz.underlying28 (by kernel_rfl) (OpAF.cons rfl rfl (yet w) (OpAF.cons rfl rfl (z8g w) (OpAF.cons rfl rfl (zrz w) (OpAF.cons rfl rfl (zrz w) (OpAF.cons rfl rfl (z8e w) (OpAF.cons rfl rfl (OpA.i64 Tryz.underlying3) (OpAF.cons rfl rfl (OpA.i64 Tryz.underlying3) OpAF.nil)))))))).map (fun x=>⟨x.1,x.2.1,x.2.2.1,x.2.2.2.1,x.2.2.2.2.1,x.2.2.2.2.2.1,x.2.2.2.2.2.2.1⟩) (fun _=>rfl)
  (fun x h=>⟨⟨h.1.2.2.2.2,h.2.1.2.2,h.2.2.1.2.2,h.2.2.2.1.2.2,h.2.2.2.2.1.2.2⟩,h.1.1,h.1.2.1,h.1.2.2.1,h.2.1.1,h.2.2.1.1,h.2.2.2.1.1,h.2.2.2.2.1.1,h.2.2.2.2.2.1,h.2.2.2.2.2.2.1⟩)
theorem yeq (w:World):OpA Tryz.prog 43 6 w zch (fun _=>True) :=
 (OpA.struct Tryz.underlying43 (by kernel_rfl) (OpAF.cons rfl rfl (OpA.i64 Tryz.underlying3) (OpAF.cons rfl rfl (OpA.i64 Tryz.underlying3) (OpAF.cons rfl rfl (OpA.i64 Tryz.underlying3) (OpAF.cons rfl rfl (ya3 w) (OpAF.cons rfl rfl (OpA.i64 Tryz.underlying3) OpAF.nil)))))).map (fun x=>⟨x.1,x.2.1,x.2.2.1,x.2.2.2.1,x.2.2.2.2.1⟩) (fun _=>rfl) (fun _ _=>trivial)
theorem z8f (w:World):OpA Tryz.prog 66 1 w zca (fun xs=>(∀x∈xs,True)∧xs.length*48≤140737488351232∧xs.length≤9223372036854775807) :=
 OpA.slice Tryz.underlying66 (by kernel_rfl) (by decide) (by kernel_rfl) (yeq w)
def ordssG (ts:List (List Ord)):Prop:=(∀l∈ts,(∀x∈l,True)∧l.length*48≤140737488351232∧l.length≤9223372036854775807)∧ts.length*24≤140737488351232∧ts.length≤9223372036854775807
theorem ordssG.in_ {ts:List (List Ord)} (h:ordssG ts):∀l∈ts,l.length≤9223372036854775807:=fun l hl=>(h.1 l hl).2.2
theorem ya0 (w:World):OpA Tryz.prog 29 1 w (fun ts:List (List Ord) => [.sl 1 (ts.map zca)]) ordssG :=
 OpA.slice Tryz.underlying29 (by kernel_rfl) (by decide) (by kernel_rfl) (z8f w)
end Go.Proofs.YtbapdgmcndgieaaGreat
namespace Go.Proofs.YtbapdgmcndgieaaGreat
set_option linter.all false
open Go.RowKit Go.ChangeShapes Go.WideShapes Go.ChangeAt
namespace hostDoes
set_option maxRecDepth 100000
set_option maxHeartbeats 2000000
def ygv (w:Wld):Prop:=ygu w∧w.f.p.length*8≤140737488351232∧w.bases.length*16≤140737488351232∧w.stocks.length*8≤140737488351232∧w.mines.length*8≤140737488351232∧w.troops.length*56≤140737488351232
theorem yen (w:World):OpA Tryz.prog 28 9 w yji ygv :=
 (OpA.struct Tryz.underlying28 (by kernel_rfl) (OpAF.cons rfl rfl (yet w) (OpAF.cons rfl rfl (z8g w) (OpAF.cons rfl rfl (zrz w) (OpAF.cons rfl rfl (zrz w) (OpAF.cons rfl rfl (z8e w) (OpAF.cons rfl rfl (OpA.i64 Tryz.underlying3) (OpAF.cons rfl rfl (OpA.i64 Tryz.underlying3) OpAF.nil)))))))).map (fun x=>⟨x.1,x.2.1,x.2.2.1,x.2.2.2.1,x.2.2.2.2.1,x.2.2.2.2.2.1,x.2.2.2.2.2.2.1⟩) (fun _=>rfl)
  (fun x h=>⟨⟨⟨h.1.2.2.2.2,h.2.1.2.2,h.2.2.1.2.2,h.2.2.2.1.2.2,h.2.2.2.2.1.2.2⟩,h.1.1,h.1.2.1,h.1.2.2.1,h.2.1.1,h.2.2.1.1,h.2.2.2.1.1,h.2.2.2.2.1.1,h.2.2.2.2.2.1,h.2.2.2.2.2.2.1⟩,h.1.2.2.2.1,h.2.1.2.1,h.2.2.1.2.1,h.2.2.2.1.2.1,h.2.2.2.2.1.2.1⟩)
theorem yii (w:World):OpA Tryz.prog 31 10 w (fun s:Sty => [pI s.start.f.w,pI s.start.f.h,.sl 1 (s.start.f.p.map zac),.sl 2 (s.start.bases.map zaz),.sl 1 (s.start.stocks.map zac),.sl 1 (s.start.mines.map zac),.sl 7 (s.start.troops.map zaw),pI s.start.next,pI s.start.now,.sl 1 (s.turns.map zca)]) (fun s=>ygv s.start∧ordssG s.turns) :=
 (OpA.struct Tryz.underlying31 (by kernel_rfl) (OpAF.cons rfl rfl (yen w) (OpAF.cons rfl rfl (ya0 w) OpAF.nil))).map (fun x=>⟨x.1,x.2.1⟩) (fun _=>rfl) (fun _ h=>⟨h.1,h.2.1⟩)
theorem yij (w:World):OpA Tryz.prog 68 3 w za7 zdg :=
 (OpA.struct Tryz.underlying68 (by kernel_rfl) (OpAF.cons rfl rfl (z8f w) (OpAF.cons rfl rfl (OpA.i64 Tryz.underlying3) (OpAF.cons rfl rfl (OpA.bool Tryz.underlying4) OpAF.nil)))).map (fun x=>⟨x.1,x.2.1,x.2.2.1⟩) (fun _=>rfl) (fun x h=>by have:=h.1.2.1;unfold zdg;simp only;omega)
theorem yep (w:World):OpA Tryz.prog 33 1 w (fun xs:List Sea => [.sl 3 (xs.map za7)]) (fun xs=>(∀x∈xs,zdg x)∧xs.length*40≤140737488351232∧xs.length≤9223372036854775807) :=
 OpA.slice Tryz.underlying33 (by kernel_rfl) (by decide) (by kernel_rfl) (yij w)
theorem yeo (w:World):OpA Tryz.prog 35 1 w (fun xs:List Nat => [.sl 1 (xs.map yjk)]) (fun xs=>(∀x∈xs,x<4294967296)∧xs.length*4≤140737488351232∧xs.length≤9223372036854775807) :=
 OpA.slice Tryz.underlying35 (by kernel_rfl) (by decide) (by kernel_rfl) (OpA.u32 Tryz.underlying34)
theorem yaz (w:World):OpA Tryz.prog 37 2 w (fun x:Nat × List Nat => [.v (.int .u32 x.1),.sl 1 (x.2.map zc9)]) (fun x=>x.1<4294967296∧(∀y∈x.2,y<4294967296)∧x.2.length*4≤140737488351232∧x.2.length≤9223372036854775807) :=
 (OpA.struct Tryz.underlying37 (by kernel_rfl) (OpAF.cons rfl rfl (OpA.u32 Tryz.underlying34) (OpAF.cons rfl rfl (yeo w) OpAF.nil))).map (fun x=>(x.1,x.2.1)) (fun _=>rfl) (fun _ h=>⟨h.1,h.2.1⟩)
def yjs (h:Hst):Prop:=(ygv h.sty.start∧ordssG h.sty.turns)∧((∀x∈h.seats,zdg x)∧h.seats.length*40≤140737488351232∧h.seats.length≤9223372036854775807)∧(h.m<4294967296∧(∀y∈h.ag,y<4294967296)∧h.ag.length*4≤140737488351232∧h.ag.length≤9223372036854775807)∧zio h.most
theorem yik (w:World):OpA Tryz.prog 39 14 w (fun h:Hst => [pI h.sty.start.f.w,pI h.sty.start.f.h,.sl 1 (h.sty.start.f.p.map zac),.sl 2 (h.sty.start.bases.map zaz),.sl 1 (h.sty.start.stocks.map zac),.sl 1 (h.sty.start.mines.map zac),.sl 7 (h.sty.start.troops.map zaw),pI h.sty.start.next,pI h.sty.start.now,.sl 1 (h.sty.turns.map zca),.sl 3 (h.seats.map za7),.v (.int .u32 h.m),.sl 1 (h.ag.map zc9),pI h.most]) yjs :=
 (OpA.struct Tryz.underlying39 (by kernel_rfl) (OpAF.cons rfl rfl (yii w) (OpAF.cons rfl rfl (yep w) (OpAF.cons rfl rfl (yaz w) (OpAF.cons rfl rfl (OpA.i64 Tryz.underlying3) OpAF.nil))))).map (fun x=>⟨x.1,x.2.1,x.2.2.1.1,x.2.2.1.2,x.2.2.2.1⟩) (fun _=>rfl) (fun _ h=>⟨h.1,h.2.1,h.2.2.1,h.2.2.2.1⟩)
theorem yil (w:World):OpA Tryz.prog 45 9 w (fun c:Clq => [pI c.kind,pI c.o.by_,pI c.o.kind,pI c.o.who,pI c.o.c.x,pI c.o.c.y,pI c.o.what,pI c.by_,pI c.at_]) (fun _=>True) :=
 (OpA.struct Tryz.underlying45 (by kernel_rfl) (OpAF.cons rfl rfl (OpA.i64 Tryz.underlying3) (OpAF.cons rfl rfl (yeq w) (OpAF.cons rfl rfl (OpA.i64 Tryz.underlying3) (OpAF.cons rfl rfl (OpA.i64 Tryz.underlying3) OpAF.nil))))).map (fun x=>⟨x.1,x.2.1,x.2.2.1,x.2.2.2.1⟩) (fun _=>rfl) (fun _ _=>trivial)
theorem law (h:Hst) (c:Clq) (w:Wld) (n:Int) (h0:yjs h) (_:True) (hw:ygu w) (_:zio n):Spec Tryz.prog 3 [zhu h,zxp c,zbk w,I .i64 n] [] (B true) []:=by
 obtain⟨WR,hWR⟩:=ydb h.sty.start.f
 obtain⟨WR2,hWR2⟩:=ydb w.f
 obtain⟨⟨g1,g2⟩,⟨s1,s2,s3⟩,⟨v1,v2,v3,v4⟩,_⟩:=h0
 have hl:HstL h:=⟨⟨g1.1.1,g2.in_,g2.2.2⟩,s3,s1,v1,v4,v2⟩
 obtain⟨l1,l2,l3,l4,l5⟩:=g1.2
 have hb:HstB h:=⟨by omega,by omega,by omega,by omega,by omega,fun l hx=>by have:=(g2.1 l hx).2.1;omega,by have:=g2.2.1;omega,s1,by omega,by omega⟩
 obtain⟨w1,w2,w3,w4,w5⟩:=hw.1
 by_cases hE:zhz WR h=0
 ·exact z2r h c w n WR WR2 hWR hWR2 hl hb hw.1 (by omega) hE
 ·exact z2q h c w n WR WR2 hWR hWR2 hl hb hw.1 (by omega) hE
theorem own:ownKnob Tryz.prog.godebug=none:=by kernel_rfl
theorem zpw:laidOutB Tryz.prog=true:=by kernel_rfl
set_option maxRecDepth 100000 in
theorem yfd (os:Os) (started:os.Started) (H:Type) (enc:TypeId × Value→H) :
 ReturnsInHanded {} Tryz.checked os 3 .any (Rows.hostDoesSpec.pre6 enc Tryz.prog Tryz.f3 Rows.hostDoesRow.domain false) (Rows.hostDoesSpec.post enc Tryz.prog Tryz.f3 false true false false):=by
 refine returnsInHanded_of_change_sized (C:=Tryz.checked) own started (by kernel_rfl) Tryz.func3
  (ChangeSpec.witness6 (enc:=enc) (C:=Tryz.checked) false ⟨#[],#[.agg #[.int .i64 0,.int .i64 0,.slice none 0 0,.slice none 0 0,.slice none 0 0,.slice none 0 0,.slice none 0 0,.int .i64 0,.int .i64 0,.slice none 0 0,.slice none 0 0,.int .u32 0,.slice none 0 0,.int .i64 0],.agg #[.int .i64 0,.int .i64 0,.int .i64 0,.int .i64 0,.int .i64 0,.int .i64 0,.int .i64 0,.int .i64 0,.int .i64 0],.agg #[.int .i64 0,.int .i64 0,.slice none 0 0,.slice none 0 0,.slice none 0 0,.slice none 0 0,.slice none 0 0,.int .i64 0,.int .i64 0],.int .i64 0],[]⟩ 8 (by kernel_rfl) (by kernel_rfl) (by kernel_rfl) (by kernel_rfl)) ?_
 intro W base args ds gs before hval0 hW hcnd hsz0 _
 have hval:∀(j:Nat) t v,Tryz.f3.params[j]? = some t→args[j]? = some v→Value.okWide Tryz.prog W .any base t v:=hval0
 have hW':=hW
 obtain⟨p,q,hA0,hV,rfl,hfz,hnd⟩:=hW
 have hA:DataW.TrodAll enc Tryz.prog W 0 (fun _=>true) true Tryz.f3.params.toList args.toList ds p:=hA0
 rw[Tryz.params3]at hA hval hsz0
 obtain⟨v0,vs0,d0,ds0,p0,q0,hargs,rfl,rfl,h0,r0⟩:=trodAll_cons hA
 obtain⟨v1,vs1,d1,ds1,p1,q1,rfl,rfl,rfl,h1,r1⟩:=trodAll_cons r0
 obtain⟨v2,vs2,d2,ds2,p2,q2,rfl,rfl,rfl,h2,r2⟩:=trodAll_cons r1
 obtain⟨v3,vs3,d3,ds3,p3,q3,rfl,rfl,rfl,h3,r3⟩:=trodAll_cons r2
 obtain⟨rfl,rfl,rfl⟩:=trodAll_nil r3
 obtain rfl:args = #[v0,v1,v2,v3]:=by cases args;simp_all
 obtain⟨rfl,rfl⟩:=trodVars_none hV
 have lt0:∀x∈p0,x.block<W.heap.size:=by obtain⟨m,hm⟩:=h0;exact DataW.trod_lt m _ _ _ hm
 obtain⟨x0,ok0,l0,q0r⟩:=OpA.arg (yik W) h0 hsz0 0 rfl rfl
 have R0:=zt3 (zkh (hval 0 39 v0 rfl rfl) Tryz.underlying39 rfl) l0 q0r
 have lt1:∀x∈p1,x.block<W.heap.size:=by obtain⟨m,hm⟩:=h1;exact DataW.trod_lt m _ _ _ hm
 obtain⟨x1,ok1,l1,q1r⟩:=OpA.arg (yil W) h1 hsz0 1 rfl rfl
 have R1:=zt3 (zkh (hval 1 45 v1 rfl rfl) Tryz.underlying45 rfl) l1 q1r
 have lt2:∀x∈p2,x.block<W.heap.size:=by obtain⟨m,hm⟩:=h2;exact DataW.trod_lt m _ _ _ hm
 obtain⟨x2,ok2,l2,q2r⟩:=OpA.arg (yig W) h2 hsz0 2 rfl rfl
 have R2:=zt3 (zkh (hval 2 28 v2 rfl rfl) Tryz.underlying28 rfl) l2 q2r
 have lt3:∀x∈p3,x.block<W.heap.size:=by obtain⟨m,hm⟩:=h3;exact DataW.trod_lt m _ _ _ hm
 obtain⟨x3,ok3,l3,q3r⟩:=OpA.arg (OpA.i64 Tryz.underlying3) h3 hsz0 3 rfl rfl
 have R3:=yan (ya4 Tryz.underlying3 (hval 3 3 v3 rfl rfl)) q3r
 clear hA0 hval0
 refine(z4v (law x0 x1 x2 x3 ok0 ok1 ok2 ok3) (zgr R0 (zgr R1 (zgr R2 (zgr R3 zv5))))).mono fun e W' ⟨he,bel⟩ => ?_
 subst he
 exact⟨_,rfl,_,_,_,[],_,[],hW',trodAll_mk1 (shut_bool Tryz.underlying4 _),(trodAll_cons_mk (Below.trod zpw (by kernel_rfl) (of_decide_eq_true (by kernel_rfl)) h0 bel lt0) (trodAll_cons_mk (Below.trod zpw (by kernel_rfl) (of_decide_eq_true (by kernel_rfl)) h1 bel lt1) (trodAll_cons_mk (Below.trod zpw (by kernel_rfl) (of_decide_eq_true (by kernel_rfl)) h2 bel lt2) (trodAll_cons_mk (Below.trod zpw (by kernel_rfl) (of_decide_eq_true (by kernel_rfl)) h3 bel lt3) trodAll_mk0)))),rfl,bel.frame _,fun h=>by cases h⟩
theorem over:Rows.hostDoesRow.holds Tryz.pinned (OpenSpec.ofChange Rows.hostDoesSpec) :=
 OpenClaim.holds_of_wide 3 Tryz.f3 rfl rfl rfl rfl rfl rfl rfl ⟨rfl,rfl,rfl,rfl,rfl⟩ rfl rfl rfl rfl rfl (by kernel_rfl) Tryz.func3 facts
  (of_decide_eq_true (by kernel_rfl)) (by unfold Func.isWrapper;first|(rw[if_pos (by decide +kernel)];kernel_rfl)|(rw[if_neg (by decide +kernel)];exact⟨rfl,rfl⟩))
  (fun os started H enc _=>yfd os started H enc)
theorem proved:Rows.HostDoesSaid:=over
#print axioms proved
end hostDoes
end Go.Proofs.YtbapdgmcndgieaaGreat
