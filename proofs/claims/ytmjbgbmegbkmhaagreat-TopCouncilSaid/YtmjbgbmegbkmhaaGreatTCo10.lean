/- TopCouncil: whatever world, number, steps and turns are handed in, all who hear of what was chosen come to one world. No condition. -/
import Derived.Test.YtmjbgbmegbkmhaaGreatTCo9
import Derived.Test.YtmjbgbmegbkmhaaGreatTCo1
import Derived.Test.YtmjbgbmegbkmhaaGreatChecked
import Derived.Test.YtmjbgbmegbkmhaaGreatRows
namespace Go.Proofs.YtmjbgbmegbkmhaaGreat
set_option linter.all false
open Go.RowKit Go.ChangeShapes Go.WideShapes Go.ChangeAt
set_option maxRecDepth 100000
theorem z1k (w:World):OpA Tryz.prog 22 1 w (fun xs:List Int => [.sl 1 (xs.map zac)]) (fun xs=>(∀x∈xs,ziv x)∧xs.length*8≤140737488351232∧xs.length≤9223372036854775807) :=
 OpA.slice Tryz.underlying22 (by kernel_rfl) (by decide) (by kernel_rfl) (OpA.i64 Tryz.underlying3)
theorem ybt (w:World):OpA Tryz.prog 46 2 w za3 (fun c=>ziv c.x∧ziv c.y) :=
 (OpA.struct Tryz.underlying46 (by kernel_rfl) (OpAF.cons rfl rfl (OpA.i64 Tryz.underlying3) (OpAF.cons rfl rfl (OpA.i64 Tryz.underlying3) OpAF.nil))).map (fun x=>⟨x.1,x.2.1⟩) (fun _=>rfl) (fun _ h=>⟨h.1,h.2.1⟩)
def ymi (f:Fld):List PV := [pI f.w,pI f.h,.sl 1 (f.p.map zac)]
theorem yj1 (w:World):OpA Tryz.prog 24 3 w ymi (fun f=>ziv f.w∧ziv f.h∧(∀x∈f.p,ziv x)∧f.p.length*8≤140737488351232∧f.p.length≤9223372036854775807) :=
 (OpA.struct Tryz.underlying24 (by kernel_rfl) (OpAF.cons rfl rfl (OpA.i64 Tryz.underlying3) (OpAF.cons rfl rfl (OpA.i64 Tryz.underlying3) (OpAF.cons rfl rfl (z1k w) OpAF.nil)))).map (fun x=>⟨x.1,x.2.1,x.2.2.1⟩) (fun _=>rfl) (fun _ h=>⟨h.1,h.2.1,h.2.2.1⟩)
def ylb (w:Wld):List PV := [pI w.f.w,pI w.f.h,.sl 1 (w.f.p.map zac),.sl 2 (w.bases.map za3),.sl 1 (w.stocks.map zac),.sl 1 (w.mines.map zac),.sl 7 (w.troops.map zaw),pI w.next,pI w.now]
def yjn (t:Trp):Prop:=ziv t.id∧ziv t.owner∧ziv t.kind∧ziv t.c.x∧ziv t.c.y∧ziv t.life∧ziv t.load
def yk1 (w:Wld):Prop:=zfw w∧ziv w.f.w∧ziv w.f.h∧(∀x∈w.f.p,ziv x)∧(∀x∈w.bases,ziv x.x∧ziv x.y)∧(∀x∈w.stocks,ziv x)∧(∀x∈w.mines,ziv x)∧(∀x∈w.troops,yjn x)∧ziv w.next∧ziv w.now
theorem yjy (w:World):OpA Tryz.prog 108 7 w zaw yjn :=
 (OpA.struct Tryz.underlying108 (by kernel_rfl) (OpAF.cons rfl rfl (OpA.i64 Tryz.underlying3) (OpAF.cons rfl rfl (OpA.i64 Tryz.underlying3) (OpAF.cons rfl rfl (OpA.i64 Tryz.underlying3) (OpAF.cons rfl rfl (ybt w) (OpAF.cons rfl rfl (OpA.i64 Tryz.underlying3) (OpAF.cons rfl rfl (OpA.i64 Tryz.underlying3) OpAF.nil))))))).map (fun x=>⟨x.1,x.2.1,x.2.2.1,x.2.2.2.1,x.2.2.2.2.1,x.2.2.2.2.2.1⟩) (fun _=>rfl) (fun x h=>⟨h.1,h.2.1,h.2.2.1,h.2.2.2.1.1,h.2.2.2.1.2,h.2.2.2.2.1,h.2.2.2.2.2.1⟩)
theorem yfv (w:World):OpA Tryz.prog 25 1 w (fun xs:List Cel => [.sl 2 (xs.map za3)]) (fun xs=>(∀x∈xs,ziv x.x∧ziv x.y)∧xs.length*16≤140737488351232∧xs.length≤9223372036854775807) :=
 OpA.slice Tryz.underlying25 (by kernel_rfl) (by decide) (by kernel_rfl) (ybt w)
theorem yfq (w:World):OpA Tryz.prog 26 1 w (fun xs:List Trp => [.sl 7 (xs.map zaw)]) (fun xs=>(∀x∈xs,yjn x)∧xs.length*56≤140737488351232∧xs.length≤9223372036854775807) :=
 OpA.slice Tryz.underlying26 (by kernel_rfl) (by decide) (by kernel_rfl) (yjy w)
theorem yjx (w:World):OpA Tryz.prog 28 9 w ylb yk1 :=
 (OpA.struct Tryz.underlying28 (by kernel_rfl) (OpAF.cons rfl rfl (yj1 w) (OpAF.cons rfl rfl (yfv w) (OpAF.cons rfl rfl (z1k w) (OpAF.cons rfl rfl (z1k w) (OpAF.cons rfl rfl (yfq w) (OpAF.cons rfl rfl (OpA.i64 Tryz.underlying3) (OpAF.cons rfl rfl (OpA.i64 Tryz.underlying3) OpAF.nil)))))))).map (fun x=>⟨x.1,x.2.1,x.2.2.1,x.2.2.2.1,x.2.2.2.2.1,x.2.2.2.2.2.1,x.2.2.2.2.2.2.1⟩) (fun _=>rfl)
  (fun x h=>⟨⟨h.1.2.2.2.2,h.2.1.2.2,h.2.2.1.2.2,h.2.2.2.1.2.2,h.2.2.2.2.1.2.2⟩,h.1.1,h.1.2.1,h.1.2.2.1,h.2.1.1,h.2.2.1.1,h.2.2.2.1.1,h.2.2.2.2.1.1,h.2.2.2.2.2.1,h.2.2.2.2.2.2.1⟩)
theorem yj0 (w:World):OpA Tryz.prog 48 6 w zdv (fun _=>True) :=
 (OpA.struct Tryz.underlying48 (by kernel_rfl) (OpAF.cons rfl rfl (OpA.i64 Tryz.underlying3) (OpAF.cons rfl rfl (OpA.i64 Tryz.underlying3) (OpAF.cons rfl rfl (OpA.i64 Tryz.underlying3) (OpAF.cons rfl rfl (ybt w) (OpAF.cons rfl rfl (OpA.i64 Tryz.underlying3) OpAF.nil)))))).map (fun x=>⟨x.1,x.2.1,x.2.2.1,x.2.2.2.1,x.2.2.2.2.1⟩) (fun _=>rfl) (fun _ _=>trivial)
theorem yfs (w:World):OpA Tryz.prog 53 1 w zcm (fun xs=>(∀x∈xs,True)∧xs.length*48≤140737488351232∧xs.length≤9223372036854775807) :=
 OpA.slice Tryz.underlying53 (by kernel_rfl) (by decide) (by kernel_rfl) (yj0 w)
def ordssG (ts:List (List Ord)):Prop:=(∀l∈ts,(∀x∈l,True)∧l.length*48≤140737488351232∧l.length≤9223372036854775807)∧ts.length*24≤140737488351232∧ts.length≤9223372036854775807
theorem ordssG.in_ {ts:List (List Ord)} (h:ordssG ts):∀l∈ts,l.length≤9223372036854775807:=fun l hl=>(h.1 l hl).2.2
theorem ybq (w:World):OpA Tryz.prog 30 1 w (fun ts:List (List Ord) => [.sl 1 (ts.map zcm)]) ordssG :=
 OpA.slice Tryz.underlying30 (by kernel_rfl) (by decide) (by kernel_rfl) (yfs w)
end Go.Proofs.YtmjbgbmegbkmhaaGreat
namespace Go.Proofs.YtmjbgbmegbkmhaaGreat
set_option linter.all false
open Go.RowKit Go.ChangeShapes Go.WideShapes Go.ChangeAt
namespace topCouncil
set_option maxRecDepth 100000
set_option maxHeartbeats 2000000
theorem yjz (w:World):OpA Tryz.prog 146 4 w zsa (fun _=>True) :=
 (OpA.struct Tryz.underlying146 (by kernel_rfl) (OpAF.cons rfl rfl (OpA.i64 Tryz.underlying3) (OpAF.cons rfl rfl (OpA.i64 Tryz.underlying3) (OpAF.cons rfl rfl (OpA.i64 Tryz.underlying3) (OpAF.cons rfl rfl (OpA.i64 Tryz.underlying3) OpAF.nil))))).map (fun x=>⟨x.1,x.2.1,x.2.2.1,x.2.2.2.1⟩) (fun _=>rfl) (fun _ _=>trivial)
theorem yfr (w:World):OpA Tryz.prog 68 1 w (fun xs:List Stp => [.sl 4 (xs.map zsa)]) (fun xs=>(∀x∈xs,True)∧xs.length*32≤140737488351232∧xs.length≤9223372036854775807) :=
 OpA.slice Tryz.underlying68 (by kernel_rfl) (by decide) (by kernel_rfl) (yjz w)
theorem law (w:Wld) (n:Int) (xs:List Stp) (ts:List (List Ord)) (hw:yk1 w) (_:ziv n) (_:(∀x∈xs,True)∧xs.length*32≤140737488351232∧xs.length≤9223372036854775807) (ht:ordssG ts):Spec Tryz.prog 5 [zcy w,I .i64 n,.c (.sl 4 (xs.map zsa)),.c (.sl 1 (ts.map zcm))] [] (B true) []:=by
 obtain⟨WR,hWR⟩:=yeg w.f
 by_cases h1:1≤n∧n≤15
 ·by_cases h2:xs.length≤500
  ·by_cases h3:xs.any (z34 n)=true
   ·exact zeh w n xs ts hw.1 1 yeb ⟨_,_,rfl,yap n xs h1 h2 h3⟩ (by omega)
   ·obtain⟨m,rfl⟩:∃m:Nat,n=m:=Int.eq_ofNat_of_zero_le (by omega)
    have hb:∀x∈xs,zk2 m x:=fun x hx=>badS_iff.1 (by
     have:=List.any_eq_false.1 (by simpa using h3) x hx
     simpa using this)
    by_cases h4:0<ts.length∧zal w=0
    ·exact zpu w m xs ts WR hWR hw.1 h4.2 (by omega) h2 hb h4.1 ht.2.2 ht.in_
    ·exact zeh w m xs ts hw.1 0 (ykv (zc0 (zc3 m) xs)) ⟨_,_,rfl,zux m xs (by omega) h2 hb⟩ (by omega)
  ·exact zeh w n xs ts hw.1 2 yeb ⟨_,_,rfl,yao n xs h1 (by omega)⟩ (by omega)
 ·exact zeh w n xs ts hw.1 1 yeb ⟨_,_,rfl,yan n xs h1⟩ (by omega)
theorem own:ownKnob Tryz.prog.godebug=none:=by kernel_rfl
theorem zop:laidOutB Tryz.prog=true:=by kernel_rfl
set_option maxRecDepth 100000 in
theorem ygf (os:Os) (started:os.Started) (H:Type) (enc:TypeId × Value→H) :
 ReturnsInHanded {} Tryz.checked os 5 .any (Rows.topCouncilSpec.pre6 enc Tryz.prog Tryz.f5 Rows.topCouncilRow.domain false) (Rows.topCouncilSpec.post enc Tryz.prog Tryz.f5 false true false false):=by
 refine returnsInHanded_of_change_sized (C:=Tryz.checked) own started (by kernel_rfl) Tryz.func5
  (ChangeSpec.witness6 (enc:=enc) (C:=Tryz.checked) false ⟨#[],#[.agg #[.int .i64 0,.int .i64 0,.slice none 0 0,.slice none 0 0,.slice none 0 0,.slice none 0 0,.slice none 0 0,.int .i64 0,.int .i64 0],.int .i64 0,.slice none 0 0,.slice none 0 0],[]⟩ 8 (by kernel_rfl) (by kernel_rfl) (by kernel_rfl) (by kernel_rfl)) ?_
 intro W base args ds gs before hval0 hW hcnd hsz0 _
 have hval:∀(j:Nat) t v,Tryz.f5.params[j]? = some t→args[j]? = some v→Value.okWide Tryz.prog W .any base t v:=hval0
 have hW':=hW
 obtain⟨p,q,hA0,hV,rfl,hfz,hnd⟩:=hW
 have hA:DataW.TrodAll enc Tryz.prog W 0 (fun _=>true) true Tryz.f5.params.toList args.toList ds p:=hA0
 rw[Tryz.params5]at hA hval hsz0
 obtain⟨v0,vs0,d0,ds0,p0,q0,hargs,rfl,rfl,h0,r0⟩:=trodAll_cons hA
 obtain⟨v1,vs1,d1,ds1,p1,q1,rfl,rfl,rfl,h1,r1⟩:=trodAll_cons r0
 obtain⟨v2,vs2,d2,ds2,p2,q2,rfl,rfl,rfl,h2,r2⟩:=trodAll_cons r1
 obtain⟨v3,vs3,d3,ds3,p3,q3,rfl,rfl,rfl,h3,r3⟩:=trodAll_cons r2
 obtain⟨rfl,rfl,rfl⟩:=trodAll_nil r3
 obtain rfl:args = #[v0,v1,v2,v3]:=by cases args;simp_all
 obtain⟨rfl,rfl⟩:=trodVars_none hV
 have lt0:∀x∈p0,x.block<W.heap.size:=by obtain⟨m,hm⟩:=h0;exact DataW.trod_lt m _ _ _ hm
 obtain⟨x0,ok0,l0,q0r⟩:=OpA.arg (yjx W) h0 hsz0 0 rfl rfl
 have R0:=ya6 (zy8 (hval 0 28 v0 rfl rfl) Tryz.underlying28 rfl) l0 q0r
 have lt1:∀x∈p1,x.block<W.heap.size:=by obtain⟨m,hm⟩:=h1;exact DataW.trod_lt m _ _ _ hm
 obtain⟨x1,ok1,l1,q1r⟩:=OpA.arg (OpA.i64 Tryz.underlying3) h1 hsz0 1 rfl rfl
 have R1:=zs7 (ybu Tryz.underlying3 (hval 1 3 v1 rfl rfl)) q1r
 have lt2:∀x∈p2,x.block<W.heap.size:=by obtain⟨m,hm⟩:=h2;exact DataW.trod_lt m _ _ _ hm
 obtain⟨x2,ok2,l2,q2r⟩:=OpA.arg (yfr W) h2 hsz0 2 rfl rfl
 have R2:=zs7 (zqw Tryz.underlying68 (hval 2 68 v2 rfl rfl)) q2r
 have lt3:∀x∈p3,x.block<W.heap.size:=by obtain⟨m,hm⟩:=h3;exact DataW.trod_lt m _ _ _ hm
 obtain⟨x3,ok3,l3,q3r⟩:=OpA.arg (ybq W) h3 hsz0 3 rfl rfl
 have R3:=zs7 (zqw Tryz.underlying30 (hval 3 30 v3 rfl rfl)) q3r
 clear hA0 hval0
 refine(z44 (law x0 x1 x2 x3 ok0 ok1 ok2 ok3) (zga R0 (zga R1 (zga R2 (zga R3 zvc))))).mono fun e W' ⟨he,bel⟩ => ?_
 subst he
 exact⟨_,rfl,_,_,_,[],_,[],hW',trodAll_mk1 (shut_bool Tryz.underlying4 _),(trodAll_cons_mk (Below.trod zop (by kernel_rfl) (of_decide_eq_true (by kernel_rfl)) h0 bel lt0) (trodAll_cons_mk (Below.trod zop (by kernel_rfl) (of_decide_eq_true (by kernel_rfl)) h1 bel lt1) (trodAll_cons_mk (Below.trod zop (by kernel_rfl) (of_decide_eq_true (by kernel_rfl)) h2 bel lt2) (trodAll_cons_mk (Below.trod zop (by kernel_rfl) (of_decide_eq_true (by kernel_rfl)) h3 bel lt3) trodAll_mk0)))),rfl,bel.frame _,fun h=>by cases h⟩
theorem over:Rows.topCouncilRow.holds Tryz.pinned (OpenSpec.ofChange Rows.topCouncilSpec) :=
 OpenClaim.holds_of_wide 5 Tryz.f5 rfl rfl rfl rfl rfl rfl rfl ⟨rfl,rfl,rfl,rfl,rfl⟩ rfl rfl rfl rfl rfl (by kernel_rfl) Tryz.func5 facts
  (of_decide_eq_true (by kernel_rfl)) (by unfold Func.isWrapper;first|(rw[if_pos (by decide +kernel)];kernel_rfl)|(rw[if_neg (by decide +kernel)];exact⟨rfl,rfl⟩))
  (fun os started H enc _=>ygf os started H enc)
theorem proved:Rows.TopCouncilSaid:=over
#print axioms proved
end topCouncil
end Go.Proofs.YtmjbgbmegbkmhaaGreat
