/- TopMist: whatever world and player are handed in, what the player sees goes on by itself as long as no one speaks. No condition. -/
import Derived.Test.YtmjbgbmegbkmhaaGreatTMi9
import Derived.Test.YtmjbgbmegbkmhaaGreatTMi1
import Derived.Test.YtmjbgbmegbkmhaaGreatChecked
import Derived.Test.YtmjbgbmegbkmhaaGreatRows
namespace Go.Proofs.YtmjbgbmegbkmhaaGreat
set_option linter.all false
open Go.RowKit Go.ChangeShapes Go.WideShapes Go.ChangeAt
set_option maxRecDepth 100000
theorem z01 (w:World):OpA Tryz.prog 22 1 w (fun xs:List Int => [.sl 1 (xs.map zad)]) (fun xs=>(∀x∈xs,zik x)∧xs.length*8≤140737488351232∧xs.length≤9223372036854775807) :=
 OpA.slice Tryz.underlying22 (by kernel_rfl) (by decide) (by kernel_rfl) (OpA.i64 Tryz.underlying3)
theorem yeg (w:World):OpA Tryz.prog 46 2 w za2 (fun c=>zik c.x∧zik c.y) :=
 (OpA.struct Tryz.underlying46 (by kernel_rfl) (OpAF.cons rfl rfl (OpA.i64 Tryz.underlying3) (OpAF.cons rfl rfl (OpA.i64 Tryz.underlying3) OpAF.nil))).map (fun x=>⟨x.1,x.2.1⟩) (fun _=>rfl) (fun _ h=>⟨h.1,h.2.1⟩)
def yky (f:Fld):List PV := [pI f.w,pI f.h,.sl 1 (f.p.map zad)]
theorem yid (w:World):OpA Tryz.prog 24 3 w yky (fun f=>zik f.w∧zik f.h∧(∀x∈f.p,zik x)∧f.p.length*8≤140737488351232∧f.p.length≤9223372036854775807) :=
 (OpA.struct Tryz.underlying24 (by kernel_rfl) (OpAF.cons rfl rfl (OpA.i64 Tryz.underlying3) (OpAF.cons rfl rfl (OpA.i64 Tryz.underlying3) (OpAF.cons rfl rfl (z01 w) OpAF.nil)))).map (fun x=>⟨x.1,x.2.1,x.2.2.1⟩) (fun _=>rfl) (fun _ h=>⟨h.1,h.2.1,h.2.2.1⟩)
def yjr (w:Wld):List PV := [pI w.f.w,pI w.f.h,.sl 1 (w.f.p.map zad),.sl 2 (w.bases.map za2),.sl 1 (w.stocks.map zad),.sl 1 (w.mines.map zad),.sl 7 (w.troops.map zat),pI w.next,pI w.now]
def yh2 (t:Trp):Prop:=zik t.id∧zik t.owner∧zik t.kind∧zik t.c.x∧zik t.c.y∧zik t.life∧zik t.load
def yjh (w:Wld):Prop:=ze8 w∧zik w.f.w∧zik w.f.h∧(∀x∈w.f.p,zik x)∧(∀x∈w.bases,zik x.x∧zik x.y)∧(∀x∈w.stocks,zik x)∧(∀x∈w.mines,zik x)∧(∀x∈w.troops,yh2 x)∧zik w.next∧zik w.now
theorem yic (w:World):OpA Tryz.prog 108 7 w zat yh2 :=
 (OpA.struct Tryz.underlying108 (by kernel_rfl) (OpAF.cons rfl rfl (OpA.i64 Tryz.underlying3) (OpAF.cons rfl rfl (OpA.i64 Tryz.underlying3) (OpAF.cons rfl rfl (OpA.i64 Tryz.underlying3) (OpAF.cons rfl rfl (yeg w) (OpAF.cons rfl rfl (OpA.i64 Tryz.underlying3) (OpAF.cons rfl rfl (OpA.i64 Tryz.underlying3) OpAF.nil))))))).map (fun x=>⟨x.1,x.2.1,x.2.2.1,x.2.2.2.1,x.2.2.2.2.1,x.2.2.2.2.2.1⟩) (fun _=>rfl) (fun x h=>⟨h.1,h.2.1,h.2.2.1,h.2.2.2.1.1,h.2.2.2.1.2,h.2.2.2.2.1,h.2.2.2.2.2.1⟩)
theorem yef (w:World):OpA Tryz.prog 25 1 w (fun xs:List Cel => [.sl 2 (xs.map za2)]) (fun xs=>(∀x∈xs,zik x.x∧zik x.y)∧xs.length*16≤140737488351232∧xs.length≤9223372036854775807) :=
 OpA.slice Tryz.underlying25 (by kernel_rfl) (by decide) (by kernel_rfl) (yeg w)
theorem yec (w:World):OpA Tryz.prog 26 1 w (fun xs:List Trp => [.sl 7 (xs.map zat)]) (fun xs=>(∀x∈xs,yh2 x)∧xs.length*56≤140737488351232∧xs.length≤9223372036854775807) :=
 OpA.slice Tryz.underlying26 (by kernel_rfl) (by decide) (by kernel_rfl) (yic w)
theorem yib (w:World):OpA Tryz.prog 28 9 w yjr yjh :=
 (OpA.struct Tryz.underlying28 (by kernel_rfl) (OpAF.cons rfl rfl (yid w) (OpAF.cons rfl rfl (yef w) (OpAF.cons rfl rfl (z01 w) (OpAF.cons rfl rfl (z01 w) (OpAF.cons rfl rfl (yec w) (OpAF.cons rfl rfl (OpA.i64 Tryz.underlying3) (OpAF.cons rfl rfl (OpA.i64 Tryz.underlying3) OpAF.nil)))))))).map (fun x=>⟨x.1,x.2.1,x.2.2.1,x.2.2.2.1,x.2.2.2.2.1,x.2.2.2.2.2.1,x.2.2.2.2.2.2.1⟩) (fun _=>rfl)
  (fun x h=>⟨⟨h.1.2.2.2.2,h.2.1.2.2,h.2.2.1.2.2,h.2.2.2.1.2.2,h.2.2.2.2.1.2.2⟩,h.1.1,h.1.2.1,h.1.2.2.1,h.2.1.1,h.2.2.1.1,h.2.2.2.1.1,h.2.2.2.2.1.1,h.2.2.2.2.2.1,h.2.2.2.2.2.2.1⟩)
end Go.Proofs.YtmjbgbmegbkmhaaGreat
namespace Go.Proofs.YtmjbgbmegbkmhaaGreat
set_option linter.all false
open Go.RowKit Go.ChangeShapes Go.WideShapes Go.ChangeAt
namespace topMist
set_option maxRecDepth 100000
set_option maxHeartbeats 2000000
theorem law (w:Wld) (p:Int) (hw:yjh w) (_:zik p):Spec Tryz.prog 4 [zcx w,I .i64 p] [] (B true) []:=by
 obtain⟨WR,hWR⟩:=yc2 w.f
 by_cases h0:zes w p=0∧w.now<1000000
 ·exact zzl w p WR hWR hw.1 h0.1 h0.2
 ·exact zzk w p hw.1 h0
theorem own:ownKnob Tryz.prog.godebug=none:=by kernel_rfl
theorem z1t:laidOutB Tryz.prog=true:=by kernel_rfl
set_option maxRecDepth 100000 in
theorem ye0 (os:Os) (started:os.Started) (H:Type) (enc:TypeId × Value→H) :
 ReturnsInHanded {} Tryz.checked os 4 .any (Rows.topMistSpec.pre6 enc Tryz.prog Tryz.f4 Rows.topMistRow.domain false) (Rows.topMistSpec.post enc Tryz.prog Tryz.f4 false true false false):=by
 refine returnsInHanded_of_change_sized (C:=Tryz.checked) own started (by kernel_rfl) Tryz.func4
  (ChangeSpec.witness6 (enc:=enc) (C:=Tryz.checked) false ⟨#[],#[.agg #[.int .i64 0,.int .i64 0,.slice none 0 0,.slice none 0 0,.slice none 0 0,.slice none 0 0,.slice none 0 0,.int .i64 0,.int .i64 0],.int .i64 0],[]⟩ 8 (by kernel_rfl) (by kernel_rfl) (by kernel_rfl) (by kernel_rfl)) ?_
 intro W base args ds gs before hval0 hW hcnd hsz0 _
 have hval:∀(j:Nat) t v,Tryz.f4.params[j]? = some t→args[j]? = some v→Value.okWide Tryz.prog W .any base t v:=hval0
 have hW':=hW
 obtain⟨p,q,hA0,hV,rfl,hfz,hnd⟩:=hW
 have hA:DataW.TrodAll enc Tryz.prog W 0 (fun _=>true) true Tryz.f4.params.toList args.toList ds p:=hA0
 rw[Tryz.params4]at hA hval hsz0
 obtain⟨v0,vs0,d0,ds0,p0,q0,hargs,rfl,rfl,h0,r0⟩:=trodAll_cons hA
 obtain⟨v1,vs1,d1,ds1,p1,q1,rfl,rfl,rfl,h1,r1⟩:=trodAll_cons r0
 obtain⟨rfl,rfl,rfl⟩:=trodAll_nil r1
 obtain rfl:args = #[v0,v1]:=by cases args;simp_all
 obtain⟨rfl,rfl⟩:=trodVars_none hV
 have lt0:∀x∈p0,x.block<W.heap.size:=by obtain⟨m,hm⟩:=h0;exact DataW.trod_lt m _ _ _ hm
 obtain⟨x0,ok0,l0,q0r⟩:=OpA.arg (yib W) h0 hsz0 0 rfl rfl
 have R0:=z92 (zyw (hval 0 28 v0 rfl rfl) Tryz.underlying28 rfl) l0 q0r
 have lt1:∀x∈p1,x.block<W.heap.size:=by obtain⟨m,hm⟩:=h1;exact DataW.trod_lt m _ _ _ hm
 obtain⟨x1,ok1,l1,q1r⟩:=OpA.arg (OpA.i64 Tryz.underlying3) h1 hsz0 1 rfl rfl
 have R1:=z90 (yal Tryz.underlying3 (hval 1 3 v1 rfl rfl)) q1r
 clear hA0 hval0
 refine(z4e (law x0 x1 ok0 ok1) (zk8 R0 (zk8 R1 zux))).mono fun e W' ⟨he,bel⟩ => ?_
 subst he
 exact⟨_,rfl,_,_,_,[],_,[],hW',trodAll_mk1 (shut_bool Tryz.underlying4 _),(trodAll_cons_mk (Below.trod z1t (by kernel_rfl) (of_decide_eq_true (by kernel_rfl)) h0 bel lt0) (trodAll_cons_mk (Below.trod z1t (by kernel_rfl) (of_decide_eq_true (by kernel_rfl)) h1 bel lt1) trodAll_mk0)),rfl,bel.frame _,fun h=>by cases h⟩
theorem over:Rows.topMistRow.holds Tryz.pinned (OpenSpec.ofChange Rows.topMistSpec) :=
 OpenClaim.holds_of_wide 4 Tryz.f4 rfl rfl rfl rfl rfl rfl rfl ⟨rfl,rfl,rfl,rfl,rfl⟩ rfl rfl rfl rfl rfl (by kernel_rfl) Tryz.func4 facts
  (of_decide_eq_true (by kernel_rfl)) (by unfold Func.isWrapper;first|(rw[if_pos (by decide +kernel)];kernel_rfl)|(rw[if_neg (by decide +kernel)];exact⟨rfl,rfl⟩))
  (fun os started H enc _=>ye0 os started H enc)
theorem proved:Rows.TopMistSaid:=over
#print axioms proved
end topMist
end Go.Proofs.YtmjbgbmegbkmhaaGreat
