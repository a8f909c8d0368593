/- TopWire: whatever world, number, calls, window and events are handed in, whoever hears the game has a world that the table had. No condition. -/
import Derived.Test.YtmjbgbmegbkmhaaGreatTWi9
import Derived.Test.YtmjbgbmegbkmhaaGreatTWi1
import Derived.Test.YtmjbgbmegbkmhaaGreatChecked
import Derived.Test.YtmjbgbmegbkmhaaGreatRows
namespace Go.Proofs.YtmjbgbmegbkmhaaGreat
set_option linter.all false
open Go.RowKit Go.ChangeShapes Go.WideShapes Go.ChangeAt
set_option maxRecDepth 100000
theorem z1n (w:World):OpA Tryz.prog 22 1 w (fun xs:List Int => [.sl 1 (xs.map zae)]) (fun xs=>(∀x∈xs,zhz x)∧xs.length*8≤140737488351232∧xs.length≤9223372036854775807) :=
 OpA.slice Tryz.underlying22 (by kernel_rfl) (by decide) (by kernel_rfl) (OpA.i64 Tryz.underlying3)
theorem ybx (w:World):OpA Tryz.prog 46 2 w zbb (fun c=>zhz c.x∧zhz c.y) :=
 (OpA.struct Tryz.underlying46 (by kernel_rfl) (OpAF.cons rfl rfl (OpA.i64 Tryz.underlying3) (OpAF.cons rfl rfl (OpA.i64 Tryz.underlying3) OpAF.nil))).map (fun x=>⟨x.1,x.2.1⟩) (fun _=>rfl) (fun _ h=>⟨h.1,h.2.1⟩)
def ym8 (f:Fld):List PV := [pI f.w,pI f.h,.sl 1 (f.p.map zae)]
theorem yke (w:World):OpA Tryz.prog 24 3 w ym8 (fun f=>zhz f.w∧zhz f.h∧(∀x∈f.p,zhz x)∧f.p.length*8≤140737488351232∧f.p.length≤9223372036854775807) :=
 (OpA.struct Tryz.underlying24 (by kernel_rfl) (OpAF.cons rfl rfl (OpA.i64 Tryz.underlying3) (OpAF.cons rfl rfl (OpA.i64 Tryz.underlying3) (OpAF.cons rfl rfl (z1n w) OpAF.nil)))).map (fun x=>⟨x.1,x.2.1,x.2.2.1⟩) (fun _=>rfl) (fun _ h=>⟨h.1,h.2.1,h.2.2.1⟩)
def yl1 (w:Wld):List PV := [pI w.f.w,pI w.f.h,.sl 1 (w.f.p.map zae),.sl 2 (w.bases.map zbb),.sl 1 (w.stocks.map zae),.sl 1 (w.mines.map zae),.sl 7 (w.troops.map za2),pI w.next,pI w.now]
def yj1 (t:Trp):Prop:=zhz t.id∧zhz t.owner∧zhz t.kind∧zhz t.c.x∧zhz t.c.y∧zhz t.life∧zhz t.load
def ylp (w:Wld):Prop:=zf7 w∧zhz w.f.w∧zhz w.f.h∧(∀x∈w.f.p,zhz x)∧(∀x∈w.bases,zhz x.x∧zhz x.y)∧(∀x∈w.stocks,zhz x)∧(∀x∈w.mines,zhz x)∧(∀x∈w.troops,yj1 x)∧zhz w.next∧zhz w.now
theorem ykc (w:World):OpA Tryz.prog 108 7 w za2 yj1 :=
 (OpA.struct Tryz.underlying108 (by kernel_rfl) (OpAF.cons rfl rfl (OpA.i64 Tryz.underlying3) (OpAF.cons rfl rfl (OpA.i64 Tryz.underlying3) (OpAF.cons rfl rfl (OpA.i64 Tryz.underlying3) (OpAF.cons rfl rfl (ybx w) (OpAF.cons rfl rfl (OpA.i64 Tryz.underlying3) (OpAF.cons rfl rfl (OpA.i64 Tryz.underlying3) OpAF.nil))))))).map (fun x=>⟨x.1,x.2.1,x.2.2.1,x.2.2.2.1,x.2.2.2.2.1,x.2.2.2.2.2.1⟩) (fun _=>rfl) (fun x h=>⟨h.1,h.2.1,h.2.2.1,h.2.2.2.1.1,h.2.2.2.1.2,h.2.2.2.2.1,h.2.2.2.2.2.1⟩)
theorem yf5 (w:World):OpA Tryz.prog 25 1 w (fun xs:List Cel => [.sl 2 (xs.map zbb)]) (fun xs=>(∀x∈xs,zhz x.x∧zhz x.y)∧xs.length*16≤140737488351232∧xs.length≤9223372036854775807) :=
 OpA.slice Tryz.underlying25 (by kernel_rfl) (by decide) (by kernel_rfl) (ybx w)
theorem yf0 (w:World):OpA Tryz.prog 26 1 w (fun xs:List Trp => [.sl 7 (xs.map za2)]) (fun xs=>(∀x∈xs,yj1 x)∧xs.length*56≤140737488351232∧xs.length≤9223372036854775807) :=
 OpA.slice Tryz.underlying26 (by kernel_rfl) (by decide) (by kernel_rfl) (ykc w)
theorem ykb (w:World):OpA Tryz.prog 28 9 w yl1 ylp :=
 (OpA.struct Tryz.underlying28 (by kernel_rfl) (OpAF.cons rfl rfl (yke w) (OpAF.cons rfl rfl (yf5 w) (OpAF.cons rfl rfl (z1n w) (OpAF.cons rfl rfl (z1n w) (OpAF.cons rfl rfl (yf0 w) (OpAF.cons rfl rfl (OpA.i64 Tryz.underlying3) (OpAF.cons rfl rfl (OpA.i64 Tryz.underlying3) OpAF.nil)))))))).map (fun x=>⟨x.1,x.2.1,x.2.2.1,x.2.2.2.1,x.2.2.2.2.1,x.2.2.2.2.2.1,x.2.2.2.2.2.2.1⟩) (fun _=>rfl)
  (fun x h=>⟨⟨h.1.2.2.2.2,h.2.1.2.2,h.2.2.1.2.2,h.2.2.2.1.2.2,h.2.2.2.2.1.2.2⟩,h.1.1,h.1.2.1,h.1.2.2.1,h.2.1.1,h.2.2.1.1,h.2.2.2.1.1,h.2.2.2.2.1.1,h.2.2.2.2.2.1,h.2.2.2.2.2.2.1⟩)
theorem ykd (w:World):OpA Tryz.prog 48 6 w zed (fun _=>True) :=
 (OpA.struct Tryz.underlying48 (by kernel_rfl) (OpAF.cons rfl rfl (OpA.i64 Tryz.underlying3) (OpAF.cons rfl rfl (OpA.i64 Tryz.underlying3) (OpAF.cons rfl rfl (OpA.i64 Tryz.underlying3) (OpAF.cons rfl rfl (ybx w) (OpAF.cons rfl rfl (OpA.i64 Tryz.underlying3) OpAF.nil)))))).map (fun x=>⟨x.1,x.2.1,x.2.2.1,x.2.2.2.1,x.2.2.2.2.1⟩) (fun _=>rfl) (fun _ _=>trivial)
end Go.Proofs.YtmjbgbmegbkmhaaGreat
namespace Go.Proofs.YtmjbgbmegbkmhaaGreat
set_option linter.all false
open Go.RowKit Go.ChangeShapes Go.WideShapes Go.ChangeAt
namespace topWire
set_option maxRecDepth 100000
set_option maxHeartbeats 2000000
theorem ykg (w:World):OpA Tryz.prog 50 9 w zpv (fun _=>True) :=
 (OpA.struct Tryz.underlying50 (by kernel_rfl) (OpAF.cons rfl rfl (OpA.i64 Tryz.underlying3) (OpAF.cons rfl rfl (ykd w) (OpAF.cons rfl rfl (OpA.i64 Tryz.underlying3) (OpAF.cons rfl rfl (OpA.i64 Tryz.underlying3) OpAF.nil))))).map (fun x=>⟨x.1,x.2.1,x.2.2.1,x.2.2.2.1⟩) (fun _=>rfl) (fun _ _=>trivial)
theorem yf4 (w:World):OpA Tryz.prog 29 1 w (fun xs:List Clq => [.sl 9 (xs.map zpv)]) (fun xs=>(∀x∈xs,True)∧xs.length*72≤140737488351232∧xs.length≤9223372036854775807) :=
 OpA.slice Tryz.underlying29 (by kernel_rfl) (by decide) (by kernel_rfl) (ykg w)
theorem ykf (w:World):OpA Tryz.prog 92 4 w zwz (fun _=>True) :=
 (OpA.struct Tryz.underlying92 (by kernel_rfl) (OpAF.cons rfl rfl (OpA.i64 Tryz.underlying3) (OpAF.cons rfl rfl (OpA.i64 Tryz.underlying3) (OpAF.cons rfl rfl (OpA.bool Tryz.underlying4) (OpAF.cons rfl rfl (OpA.str Tryz.underlying9) OpAF.nil))))).map
  (fun x=>⟨x.1,x.2.1,x.2.2.1,x.2.2.2.1⟩) (fun _=>rfl) (fun _ _=>trivial)
theorem yf3 (w:World):OpA Tryz.prog 84 1 w (fun xs:List Evt => [.sl 4 (xs.map zwz)]) (fun xs=>(∀x∈xs,True)∧xs.length*40≤140737488351232∧xs.length≤9223372036854775807) :=
 OpA.slice Tryz.underlying84 (by kernel_rfl) (by decide) (by kernel_rfl) (ykf w)
theorem law (w:Wld) (n:Int) (cs:List Clq) (q:Int) (es:List Evt) (hw:ylp w) (_:zhz n) (h:(∀x∈cs,True)∧cs.length*72≤140737488351232∧cs.length≤9223372036854775807) (_:zhz q) (k:(∀x∈es,True)∧es.length*40≤140737488351232∧es.length≤9223372036854775807):Spec Tryz.prog 6 [zdi w,I .i64 n,.c (.sl 9 (cs.map zpv)),I .i64 q,.c (.sl 4 (es.map zwz))] [] (B true) []:=by
 obtain⟨WR,hWR⟩:=yer w.f
 by_cases h0:zrb w n=0∧cs.length≤100∧es.length≤300∧1≤q∧q≤16
 ·exact zz7 w n cs q es WR hWR hw.1 h0.2.1 h0.1 h0.2.2.2 h0.2.2.1
 ·exact zz6 w n cs q es WR hWR hw.1 h.2.2 k.2.2 h0
theorem own:ownKnob Tryz.prog.godebug=none:=by kernel_rfl
theorem zl1:laidOutB Tryz.prog=true:=by kernel_rfl
set_option maxRecDepth 100000 in
theorem ygr (os:Os) (started:os.Started) (H:Type) (enc:TypeId × Value→H) :
 ReturnsInHanded {} Tryz.checked os 6 .any (Rows.topWireSpec.pre6 enc Tryz.prog Tryz.f6 Rows.topWireRow.domain false) (Rows.topWireSpec.post enc Tryz.prog Tryz.f6 false true false false):=by
 refine returnsInHanded_of_change_sized (C:=Tryz.checked) own started (by kernel_rfl) Tryz.func6
  (ChangeSpec.witness6 (enc:=enc) (C:=Tryz.checked) false ⟨#[],#[.agg #[.int .i64 0,.int .i64 0,.slice none 0 0,.slice none 0 0,.slice none 0 0,.slice none 0 0,.slice none 0 0,.int .i64 0,.int .i64 0],.int .i64 0,.slice none 0 0,.int .i64 0,.slice none 0 0],[]⟩ 8 (by kernel_rfl) (by kernel_rfl) (by kernel_rfl) (by kernel_rfl)) ?_
 intro W base args ds gs before hval0 hW hcnd hsz0 _
 have hval:∀(j:Nat) t v,Tryz.f6.params[j]? = some t→args[j]? = some v→Value.okWide Tryz.prog W .any base t v:=hval0
 have hW':=hW
 obtain⟨p,q,hA0,hV,rfl,hfz,hnd⟩:=hW
 have hA:DataW.TrodAll enc Tryz.prog W 0 (fun _=>true) true Tryz.f6.params.toList args.toList ds p:=hA0
 rw[Tryz.params6]at hA hval hsz0
 obtain⟨v0,vs0,d0,ds0,p0,q0,hargs,rfl,rfl,h0,r0⟩:=trodAll_cons hA
 obtain⟨v1,vs1,d1,ds1,p1,q1,rfl,rfl,rfl,h1,r1⟩:=trodAll_cons r0
 obtain⟨v2,vs2,d2,ds2,p2,q2,rfl,rfl,rfl,h2,r2⟩:=trodAll_cons r1
 obtain⟨v3,vs3,d3,ds3,p3,q3,rfl,rfl,rfl,h3,r3⟩:=trodAll_cons r2
 obtain⟨v4,vs4,d4,ds4,p4,q4,rfl,rfl,rfl,h4,r4⟩:=trodAll_cons r3
 obtain⟨rfl,rfl,rfl⟩:=trodAll_nil r4
 obtain rfl:args = #[v0,v1,v2,v3,v4]:=by cases args;simp_all
 obtain⟨rfl,rfl⟩:=trodVars_none hV
 have lt0:∀x∈p0,x.block<W.heap.size:=by obtain⟨m,hm⟩:=h0;exact DataW.trod_lt m _ _ _ hm
 obtain⟨x0,ok0,l0,q0r⟩:=OpA.arg (ykb W) h0 hsz0 0 rfl rfl
 have R0:=ybe (zzi (hval 0 28 v0 rfl rfl) Tryz.underlying28 rfl) l0 q0r
 have lt1:∀x∈p1,x.block<W.heap.size:=by obtain⟨m,hm⟩:=h1;exact DataW.trod_lt m _ _ _ hm
 obtain⟨x1,ok1,l1,q1r⟩:=OpA.arg (OpA.i64 Tryz.underlying3) h1 hsz0 1 rfl rfl
 have R1:=zof (z1o Tryz.underlying3 (hval 1 3 v1 rfl rfl)) q1r
 have lt2:∀x∈p2,x.block<W.heap.size:=by obtain⟨m,hm⟩:=h2;exact DataW.trod_lt m _ _ _ hm
 obtain⟨x2,ok2,l2,q2r⟩:=OpA.arg (yf4 W) h2 hsz0 2 rfl rfl
 have R2:=zof (zq6 Tryz.underlying29 (hval 2 29 v2 rfl rfl)) q2r
 have lt3:∀x∈p3,x.block<W.heap.size:=by obtain⟨m,hm⟩:=h3;exact DataW.trod_lt m _ _ _ hm
 obtain⟨x3,ok3,l3,q3r⟩:=OpA.arg (OpA.i64 Tryz.underlying3) h3 hsz0 3 rfl rfl
 have R3:=zof (z1o Tryz.underlying3 (hval 3 3 v3 rfl rfl)) q3r
 have lt4:∀x∈p4,x.block<W.heap.size:=by obtain⟨m,hm⟩:=h4;exact DataW.trod_lt m _ _ _ hm
 obtain⟨x4,ok4,l4,q4r⟩:=OpA.arg (yf3 W) h4 hsz0 4 rfl rfl
 have R4:=zof (zq6 Tryz.underlying84 (hval 4 84 v4 rfl rfl)) q4r
 clear hA0 hval0
 refine(z5h (law x0 x1 x2 x3 x4 ok0 ok1 ok2 ok3 ok4) (zfd R0 (zfd R1 (zfd R2 (zfd R3 (zfd R4 zvh)))))).mono fun e W' ⟨he,bel⟩ => ?_
 subst he
 exact⟨_,rfl,_,_,_,[],_,[],hW',trodAll_mk1 (shut_bool Tryz.underlying4 _),(trodAll_cons_mk (Below.trod zl1 (by kernel_rfl) (of_decide_eq_true (by kernel_rfl)) h0 bel lt0) (trodAll_cons_mk (Below.trod zl1 (by kernel_rfl) (of_decide_eq_true (by kernel_rfl)) h1 bel lt1) (trodAll_cons_mk (Below.trod zl1 (by kernel_rfl) (of_decide_eq_true (by kernel_rfl)) h2 bel lt2) (trodAll_cons_mk (Below.trod zl1 (by kernel_rfl) (of_decide_eq_true (by kernel_rfl)) h3 bel lt3) (trodAll_cons_mk (Below.trod zl1 (by kernel_rfl) (of_decide_eq_true (by kernel_rfl)) h4 bel lt4) trodAll_mk0))))),rfl,bel.frame _,fun h=>by cases h⟩
theorem over:Rows.topWireRow.holds Tryz.pinned (OpenSpec.ofChange Rows.topWireSpec) :=
 OpenClaim.holds_of_wide 6 Tryz.f6 rfl rfl rfl rfl rfl rfl rfl ⟨rfl,rfl,rfl,rfl,rfl⟩ rfl rfl rfl rfl rfl (by kernel_rfl) Tryz.func6 facts
  (of_decide_eq_true (by kernel_rfl)) (by unfold Func.isWrapper;first|(rw[if_pos (by decide +kernel)];kernel_rfl)|(rw[if_neg (by decide +kernel)];exact⟨rfl,rfl⟩))
  (fun os started H enc _=>ygr os started H enc)
theorem proved:Rows.TopWireSaid:=over
#print axioms proved
end topWire
end Go.Proofs.YtmjbgbmegbkmhaaGreat
