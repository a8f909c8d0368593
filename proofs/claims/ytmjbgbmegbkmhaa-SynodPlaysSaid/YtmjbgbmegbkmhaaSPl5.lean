/- SynodPlays: whatever is handed in, Play answers what the document says. No condition. -/
import Derived.Test.YtmjbgbmegbkmhaaSPl4
import Derived.Test.YtmjbgbmegbkmhaaRows
namespace Go.Proofs.Ytmjbgbmegbkmhaa
set_option linter.all false
open Go.RowKit Go.ChangeShapes Go.WideShapes Go.ChangeAt
namespace synodPlays
set_option maxRecDepth 100000
set_option maxHeartbeats 2000000
theorem zrf (w:World):OpA Try.prog 34 4 w zdo (fun _=>True) :=
 (OpA.struct Try.underlying34 (by kernel_rfl) (OpAF.cons rfl rfl (OpA.i64 Try.underlying3) (OpAF.cons rfl rfl (OpA.i64 Try.underlying3) (OpAF.cons rfl rfl (OpA.i64 Try.underlying3) (OpAF.cons rfl rfl (OpA.i64 Try.underlying3) OpAF.nil))))).map (fun x=>⟨x.1,x.2.1,x.2.2.1,x.2.2.2.1⟩) (fun _=>rfl) (fun _ _=>trivial)
theorem zqc (w:World):OpA Try.prog 22 1 w (fun xs:List Stp => [.sl 4 (xs.map zdo)]) (fun xs=>(∀x∈xs,True)∧xs.length*32≤140737488351232∧xs.length≤9223372036854775807) :=
 OpA.slice Try.underlying22 (by kernel_rfl) (by decide) (by kernel_rfl) (zrf w)
theorem zrj (n:Int) (l:List Stp) (e:Int) (SP:Spec Try.prog 4 [I .i64 n,.c (.sl 4 (l.map zdo))] [] (.tup [zn6,I .i64 e]) []) (RP:Spec Try.prog 5 [I .i64 n,.c (.sl 4 (l.map zdo))] [] (.tup [zn6,I .i64 e]) []):Spec Try.prog 3 [I .i64 n,.c (.sl 4 (l.map zdo))] [] (B true) []:=by
 refine spB Try.func3 29 [.tmp 4] Try.results3 ?_
 try refine xst ?_
 refine caP (SP) ?_
 try refine xst ?_
 refine caP (RP) ?_
 try refine xst ?_
 refine caP (zj0) ?_
 try refine xst ?_
 exact xrz rfl
theorem zss (n:Nat) (l:List Stp) (h:1≤n∧n≤15) (h5:l.length≤500) (hb:∀x∈l,zc1 n x):Spec Try.prog 3 [I .i64 n,.c (.sl 4 (l.map zdo))] [] (B true) []:=by
 have SP:=zl1 n l h h5 hb
 have RP:=zl7 n l h h5 hb
 have L:CnL (zai (zaj n) l):=zoe l h.2 h5 hb
 have SC:=zfc _ L
 generalize zai (zaj n) l=c at *
 refine spB Try.func3 29 [.tmp 4] Try.results3 ?_
 try refine xst ?_
 refine caP (SP) ?_
 try refine xst ?_
 refine caP (RP) ?_
 try refine xst ?_
 refine caP (SC) ?_
 try refine xst ?_
 exact xrz rfl
theorem law (n:Int) (xs:List Stp) (_:zr4 n) (_:(∀x∈xs,True)∧xs.length*32≤140737488351232∧xs.length≤9223372036854775807):Spec Try.prog 3 [I .i64 n,.c (.sl 4 (xs.map zdo))] [] (B true) []:=by
 have hx:xs.length≤9223372036854775807:=by omega
 by_cases h1:1≤n∧n≤15
 ·by_cases h2:xs.length≤500
  ·by_cases h3:xs.any (ze5 n)=true
   ·have e:zcp n xs=1:=by unfold zcp;rw[if_neg (by omega),if_neg (by omega),if_pos h3]
    have R:=zd5 n xs hx (by rw[e];decide)
    rw[e]at R
    exact zrj n xs 1 (zoj n xs h1 h2 h3) R
   ·obtain⟨m,rfl⟩:∃m:Nat,n=m:=Int.eq_ofNat_of_zero_le (by omega)
    have hb:∀x∈xs,zc1 m x:=fun x hx=>badS_iff.1 (by
     have:=List.any_eq_false.1 (by simpa using h3) x hx
     simpa using this)
    exact zss m xs (by omega) h2 hb
  ·have e:zcp n xs=2:=by unfold zcp;rw[if_neg (by omega),if_pos (by omega)]
   have R:=zd5 n xs hx (by rw[e];decide)
   rw[e]at R
   exact zrj n xs 2 (zoi n xs h1 (by omega)) R
 ·have e:zcp n xs=1:=by unfold zcp;rw[if_pos h1]
  have R:=zd5 n xs hx (by rw[e];decide)
  rw[e]at R
  exact zrj n xs 1 (zoh n xs h1) R
theorem own:ownKnob Try.prog.godebug=none:=by kernel_rfl
theorem zku:laidOutB Try.prog=true:=by kernel_rfl
set_option maxRecDepth 100000 in
theorem zqi (os:Os) (started:os.Started) (H:Type) (enc:TypeId × Value→H) :
 ReturnsInHanded {} Try.checked os 3 .any (Rows.synodPlaysSpec.pre6 enc Try.prog Try.f3 Rows.synodPlaysRow.domain false) (Rows.synodPlaysSpec.post enc Try.prog Try.f3 false true false false):=by
 refine returnsInHanded_of_change_sized (C:=Try.checked) own started (by kernel_rfl) Try.func3
  (ChangeSpec.witness6 (enc:=enc) (C:=Try.checked) false ⟨#[],#[.int .i64 0,.slice none 0 0],[]⟩ 8 (by kernel_rfl) (by kernel_rfl) (by kernel_rfl) (by kernel_rfl)) ?_
 intro W base args ds gs before hval0 hW hcnd hsz0 _
 have hval:∀(j:Nat) t v,Try.f3.params[j]? = some t→args[j]? = some v→Value.okWide Try.prog W .any base t v:=hval0
 have hW':=hW
 obtain⟨p,q,hA0,hV,rfl,hfz,hnd⟩:=hW
 have hA:DataW.TrodAll enc Try.prog W 0 (fun _=>true) true Try.f3.params.toList args.toList ds p:=hA0
 rw[Try.params3]at hA hval hsz0
 obtain⟨v0,vs0,d0,ds0,p0,q0,hargs,rfl,rfl,h0,r0⟩:=trodAll_cons hA
 obtain⟨v1,vs1,d1,ds1,p1,q1,rfl,rfl,rfl,h1,r1⟩:=trodAll_cons r0
 obtain⟨rfl,rfl,rfl⟩:=trodAll_nil r1
 obtain rfl:args = #[v0,v1]:=by cases args;simp_all
 obtain⟨rfl,rfl⟩:=trodVars_none hV
 have lt0:∀x∈p0,x.block<W.heap.size:=by obtain⟨m,hm⟩:=h0;exact DataW.trod_lt m _ _ _ hm
 obtain⟨x0,ok0,l0,q0r⟩:=OpA.arg (OpA.i64 Try.underlying3) h0 hsz0 0 rfl rfl
 have R0:=zka (zo1 Try.underlying3 (hval 0 3 v0 rfl rfl)) q0r
 have lt1:∀x∈p1,x.block<W.heap.size:=by obtain⟨m,hm⟩:=h1;exact DataW.trod_lt m _ _ _ hm
 obtain⟨x1,ok1,l1,q1r⟩:=OpA.arg (zqc W) h1 hsz0 1 rfl rfl
 have R1:=zka (zkh Try.underlying22 (hval 1 22 v1 rfl rfl)) q1r
 clear hA0 hval0
 refine(zl2 (law x0 x1 ok0 ok1) (zgd R0 (zgd R1 zma))).mono fun e W' ⟨he,bel⟩ => ?_
 subst he
 exact⟨_,rfl,_,_,_,[],_,[],hW',trodAll_mk1 (shut_bool Try.underlying4 _),(trodAll_cons_mk (Below.trod zku (by kernel_rfl) (of_decide_eq_true (by kernel_rfl)) h0 bel lt0) (trodAll_cons_mk (Below.trod zku (by kernel_rfl) (of_decide_eq_true (by kernel_rfl)) h1 bel lt1) trodAll_mk0)),rfl,bel.frame _,fun h=>by cases h⟩
theorem over:Rows.synodPlaysRow.holds Try.pinned (OpenSpec.ofChange Rows.synodPlaysSpec) :=
 OpenClaim.holds_of_wide 3 Try.f3 rfl rfl rfl rfl rfl rfl rfl ⟨rfl,rfl,rfl,rfl,rfl⟩ rfl rfl rfl rfl rfl (by kernel_rfl) Try.func3 (by kernel_rfl)
  (of_decide_eq_true (by kernel_rfl)) (by unfold Func.isWrapper;first|(rw[if_pos (by decide +kernel)];kernel_rfl)|(rw[if_neg (by decide +kernel)];exact⟨rfl,rfl⟩))
  (fun os started H enc _=>zqi os started H enc)
theorem proved:Rows.SynodPlaysSaid:=over
#print axioms proved
end synodPlays
end Go.Proofs.Ytmjbgbmegbkmhaa
