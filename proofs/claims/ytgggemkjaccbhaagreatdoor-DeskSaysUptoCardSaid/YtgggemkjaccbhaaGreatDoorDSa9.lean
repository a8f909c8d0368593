/- DeskSays, in its second form, its card tied: whatever text is handed in (of bulk at most 1048576), Run answers what the document says. -/
import Derived.Test.YtgggemkjaccbhaaGreatDoorDSa8
import Derived.Shelf.Strings.Builder1
import Derived.Laws.Externs
import Derived.Laws.IdiomCopy
import Derived.Test.YtgggemkjaccbhaaGreatDoorRows
import Derived.Lib.LaidTab
import Derived.LaidMore
import Derived.Shelf.Vars
import Derived.Test.YtgggemkjaccbhaaGreatDoorChecked
import Derived.Test.YtgggemkjaccbhaaGreatDoorCards
import Derived.Test.YtgggemkjaccbhaaGreatDoorTie
import Derived.Deep.DeepHandedRow
import Derived.Deep.DeepWitnessRowRef
namespace Go.Proofs.YtgggemkjaccbhaaGreatDoor
set_option linter.all false
open Go.RowKit
set_option maxRecDepth 100000
set_option maxHeartbeats 4000000
def okL (xs:List (List UInt8)):List UInt8 := [111,107]++(xs.map fun x=>32::x).flatten
theorem zfv (xs:List (List UInt8)) (x:List UInt8):okL (xs ++ [x])=okL xs++32::x:=by
 unfold okL;simp
theorem zzf (c:Nat):∀xs:List (List UInt8),(∀x∈xs,x.length≤c)→(okL xs).length≤2+xs.length*(c+1):=by
 intro xs
 unfold okL
 induction xs with
 | nil=>intro _;simp
 | cons y r ih =>
  intro h
  have h1:=h y (by simp)
  have h2:=ih fun x hx=>h x (by simp[hx])
  simp only[List.map_cons,List.flatten_cons,List.length_append,List.length_cons,List.length_nil,Nat.add_mul]at h2 ⊢
  omega
theorem zom (xs:List (List UInt8)):okT (xs.map fun x => [.v (.string (zah x))])=zah (okL xs):=by
 unfold okT okL
 have e:((okB::(xs.map fun x=>([.v (.string (zah x))]:List PV)).map yd3).map (·.data.toList)) = [111,107]::xs:=by
  rw[List.map_map,List.map_cons,List.map_map]
  congr 1
  conv=>rhs;rw[←List.map_id xs]
  exact List.map_congr_left fun x _=>zbo x
 rw[e,Lib.join_cons]
 rfl
theorem zuq (x:List UInt8):okT [[.v (.string (zah x))]]=zah (okL [x]):=zom [x]
noncomputable def askV (w:Wld) (l:List Ord) (wd:ByteArray) (n:List Nat):Ans :=
 if wd=zhn then .ok (w.troops.map fun t=>zlo (zpi t)) w l
 else if wd=zi8 then stockD w l n
 else if wd=z86 then .ok [zcy w.now] w l
 else if wd=znh then seenD w l n
 else wayDD w l n
theorem zqm (n:Int):zah (okL [Lib.itoa n])=(⟨#[111,107,32]⟩:ByteArray)++zah (Lib.itoa n):=by
 rw[show (⟨#[111,107,32]⟩:ByteArray)=zah [111,107,32]from rfl,zbe]
 unfold okL;simp
theorem ym9 {α : Type} {l:List α} (h:l.length=1):∃a,l = [a]:=by
 match l,h with
 | [a],_=>exact⟨a,rfl⟩
theorem ya7 (w:Wld) (l:List Ord) (wd:ByteArray) (ws:List ByteArray) (n:List Nat) (R:Right w) (hk:wd=zhn∨wd=zi8∨wd=z86∨wd=znh∨wd=z8y) (hn:zxy wd=(n.length:Nat)) :
 Spec Tryz.prog 37 [ykt w l,.c (.sl 1 ((wd::ws).map zge)),.c (.sl 1 (n.map nmP))] [] (S (zmi (askV w l wd n))) []:=by
 obtain⟨f1,f2,f3,_⟩:=za4 R.f
 have hm2:w.f.w*w.f.h≤40*40:=Int.mul_le_mul f1.2 f2.2 (by omega) (by omega)
 have hpl:w.f.p.length≤1600:=by omega
 have z32:(⟨#[32]⟩:ByteArray).size=1:=rfl
 have z3:(⟨#[111,107,32]⟩:ByteArray).size=3:=rfl
 have hnw:=R.nw
 have hnt:=R.nt
 have hnb:=R.nb
 have hsl:=R.sl
 generalize hT:zmi (askV w l wd n)=T
 unfold askV at hT
 refine spB Tryz.func37 174 [.tmp 6] Tryz.results37 ?_
 try refine xz3 zaf zaa zfq ?_
 refine cI (fun h1=>?_) fun h1=>?_
 ·rw[if_pos h1]at hT
  have hT:zah (okL (w.troops.map fun t=>zdb (zpi t)))=T:=by rw[←hT,←zom,List.map_map];rfl
  subst hT
  try refine xz3 zaf zaa zfq ?_
  refine zay (fun k:Nat=>⟨[(28,I .i64 k),(27,I .i64 w.troops.length),(26,.c (.sl 7 (w.troops.map zch))),(7,S (zah (okL ((w.troops.take k).map fun t=>zdb (zpi t)))))],[],0⟩) (fun k:Nat=>k≤w.troops.length) (fun k:Nat=>w.troops.length-k) (0) (Nat.zero_le _) (To.mk [] rfl rfl List.nodup_nil trivial ?_) ?_
  ·simp(etaStruct := .none)only[push_cast,zad,seval]
   exact Wk.refl _
  rintro k hk
  try refine xz3 zaf zaa zfq ?_
  refine cI (fun h2=>?_) fun h2=>?_
  ·have hlt:k<w.troops.length:=by omega
   have ok:=zri R hlt
   have jl:=zg5 _ ok
   have ol:=zzf 154 ((w.troops.take k).map fun t=>zdb (zpi t)) fun x hx=>by
    obtain⟨t,ht,rfl⟩:=List.mem_map.1 hx
    obtain⟨i,hi,rfl⟩:=mem_getD.1 (List.mem_of_mem_take ht)
    have:=zg5 _ (zri R hi)
    exact this
   have tl:(w.troops.take k).length=k:=by rw[List.length_take];omega
   rw[List.length_map,tl]at ol
   have jl2:(zdb (zpi (w.troops.getD k default))).length≤154:=jl
   have eq:zah (okL ((w.troops.take k).map fun t=>zdb (zpi t)))++((⟨#[32]⟩:ByteArray)++zah (zdb (zpi (w.troops.getD k default))))=zah (okL ((w.troops.take (k+1)).map fun t=>zdb (zpi t))):=by
    rw[zak w.troops k hlt,List.map_append,List.map_cons,List.map_nil,zfv,show (⟨#[32]⟩:ByteArray)=zah [32]from rfl,zbe,zbe];rfl
   try refine xz5 zaf zaa (gd hlt) zac zfq ?_
   refine zcn [1] (Spec.hand 0 (yc1 (zpi (w.troops.getD k default)) ok (by simp[zpi])) (Nat.zero_le _) rfl (by exact WkL.refl _) rfl) (WkL.refl _) rfl (by decide) (by simp[za6]) ?_
   try refine xz5 zaf zaa (gd hlt) zac zfq ?_
   refine⟨k+1,by omega,by omega,To.mk [] rfl rfl List.nodup_nil trivial ?_⟩
   ·(try(refine xz1 eq ?_;try exact xtI))
  ·obtain rfl:k=w.troops.length:=by omega
   rw[List.take_length]
   try refine xz3 zaf zaa zfq ?_
   exact xrz rfl
 ·rw[if_neg h1]at hT
  try refine xz3 zaf zaa zfq ?_
  refine cI (fun h3=>?_) fun h3=>?_
  ·obtain rfl:wd=zi8:=h3
   rw[if_pos rfl]at hT
   obtain⟨a,rfl⟩:=ym9 (l:=n) (by have h:zxy zi8=1:=(by decide);omega)
   unfold stockD at hT
   try refine xz4 zaf zaa zas zfq ?_
   (try(refine⟨by kernel_rfl,?_⟩))
   try refine xz4 zaf zaa zas zfq ?_
   refine cI (fun h4=>?_) fun h4=>?_
   ·have hT:zs2 7=T:=by rw[←hT,if_neg (by show ¬a<_;omega)];rfl
    subst hT
    try refine xz4 zaf zaa zas zfq ?_
    refine caP (zjb 7 ⟨by decide,by decide⟩) ?_
    try refine xz4 zaf zaa zas zfq ?_
    exact xrz rfl
   ·have hlt:a<w.stocks.length:=by omega
    have hT:(⟨#[111,107,32]⟩:ByteArray)++zah (Lib.itoa (w.stocks.getD a default))=T:=by rw[←hT,if_pos (by exact hlt),←zqm,←zuq];rfl
    subst hT
    have hq:=(R.base a (by omega)).2.1
    have q1:=Lib.itoa_length_le (w.stocks.getD a default) (by omega) (by omega)
    try refine xz6 zaf zaa zas (gd hlt) zab zfq ?_
    refine caP (zmg (w.stocks.getD a default) ⟨by omega,by omega⟩) ?_
    try refine xz6 zaf zaa zas (gd hlt) zab zfq ?_
    (try(refine⟨by kernel_rfl,?_⟩))
    try refine xz6 zaf zaa zas (gd hlt) zab zfq ?_
    exact xrz rfl
  ·rw[if_neg h3]at hT
   try refine xz3 zaf zaa zfq ?_
   refine cI (fun h5=>?_) fun h5=>?_
   ·rw[if_pos h5]at hT
    have hT:(⟨#[111,107,32]⟩:ByteArray)++zah (Lib.itoa w.now)=T:=by rw[←hT,←zqm,←zuq];rfl
    subst hT
    have q1:=Lib.itoa_length_le w.now (by omega) (by omega)
    try refine xz3 zaf zaa zfq ?_
    refine caP (zmg w.now ⟨by omega,by omega⟩) ?_
    try refine xz3 zaf zaa zfq ?_
    exact xrz rfl
   ·rw[if_neg h5]at hT
    try refine xz3 zaf zaa zfq ?_
    refine cI (fun h6=>?_) fun h6=>?_
    ·obtain rfl:wd=znh:=h6
     rw[if_pos rfl]at hT
     obtain⟨a,rfl⟩:=ym9 (l:=n) (by have h:zxy znh=1:=(by decide);omega)
     unfold seenD at hT
     try refine xz4 zaf zaa zas zfq ?_
     refine caP (yat w (a:Nat) R.l) ?_
     try refine xz4 zaf zaa zas zfq ?_
     (try(refine⟨by kernel_rfl,?_⟩))
     try refine xz4 zaf zaa zas zfq ?_
     refine cI (fun h7=>?_) fun h7=>?_
     ·have hT:zs2 (zef w (a:Nat))=T:=by rw[←hT,if_neg (by exact h7)];rfl
      subst hT
      try refine xz4 zaf zaa zas zfq ?_
      refine caP (zjb (zef w (a:Nat)) (yn8 w _)) ?_
      try refine xz4 zaf zaa zas zfq ?_
      exact xrz rfl
     ·have hT:(⟨#[111,107,32]⟩:ByteArray)++zah (Lib.itoa ((zd9 w (a:Nat) w.f.p.length).length:Nat))=T:=by rw[←hT,if_pos (by exact h7),←zqm,←zuq];rfl
      subst hT
      obtain⟨_,hp⟩:=z56 h7
      try refine xz4 zaf zaa zas zfq ?_
      refine zay (fun k:Nat=>⟨[(100,I .i64 k),(99,I .i64 w.f.p.length),(11,I .i64 ((zd9 w (a:Nat) k).length:Nat)),(3,.ptr 0 0 0),(2,.c (.sl 1 [[.v (.int .i64 (a:Nat))]]))],[(0,.blk 52 [I .i64 w.f.w,I .i64 w.f.h,.c (.sl 1 (w.f.p.map zao)),.c (.sl 2 (w.bases.map zbk)),.c (.sl 1 (w.stocks.map zao)),.c (.sl 1 (w.mines.map zao)),.c (.sl 7 (w.troops.map zch)),I .i64 w.next,I .i64 w.now,.c (.sl 6 (l.map zga))])],1⟩) (fun k:Nat=>k≤w.f.p.length) (fun k:Nat=>w.f.p.length-k) (0) (Nat.zero_le _) (To.mk [0] rfl rfl (by decide) ?_ ?_) ?_
      ·exact xS
      ·simp(etaStruct := .none)only[push_cast,zad,seval,zd9,List.range_zero,List.map_nil,List.filter_nil,List.length_nil]
      rintro k hk
      try refine xz4 zaf zaa zas zfq ?_
      refine cI (fun h8=>?_) fun h8=>?_
      ·have hlt:k<w.f.p.length:=by omega
       have hcs:=zpd w (a:Nat) k
       have hcl:=zgr w (a:Nat) k
       have hdv:IntKind.i64.wrap ((k:Int)/w.f.w)=(k:Int)/w.f.w:=by
        have h1:=Int.ediv_nonneg (a:=(k:Int)) (b:=w.f.w) (by omega) (by omega)
        have h2:=Int.ediv_le_self (a:=(k:Int)) w.f.w (by omega)
        rw[zaj _ (by omega) (by omega)]
       try refine xz5 zaf zaa zas hdv zfq ?_
       refine caP (z4d w (a:Nat) (zdd w.f.w k) R hp (zh7 R.f hlt).1) ?_
       try refine xz5 zaf zaa zas hdv zfq ?_
       (try(refine⟨by kernel_rfl,?_⟩))
       try refine xz5 zaf zaa zas hdv zfq ?_
       refine cI (fun h9=>?_) fun h9=>?_
       ·rw[if_pos h9]at hcs
        have hcs:=congrArg List.length hcs
        rw[List.length_append,List.length_singleton]at hcs
        try refine xz5 zaf zaa zas hdv zfq ?_
        refine⟨k+1,by omega,by omega,To.mk [0] rfl rfl (by decide) ?_ ?_⟩
        ·(try(refine xz5 zaf zaa zas hdv zfq ?_;try exact xtI))
        ·(try(refine xz1 hcs ?_;try exact xtI))
       ·rw[if_neg (by simp[h9]),List.append_nil]at hcs
        try refine xz5 zaf zaa zas hdv zfq ?_
        refine⟨k+1,by omega,by omega,To.mk [0] rfl rfl (by decide) ?_ ?_⟩
        ·(try(refine xz5 zaf zaa zas hdv zfq ?_;try exact xtI))
        ·(try(refine xz1 hcs ?_;try exact xtI))
      ·obtain rfl:k=w.f.p.length:=by omega
       have hcl:=zgr w (a:Nat) w.f.p.length
       have q1:=Lib.itoa_length_le ((zd9 w (a:Nat) w.f.p.length).length:Nat) (by omega) (by omega)
       try refine xz4 zaf zaa zas zfq ?_
       refine caP (zmg ((zd9 w (a:Nat) w.f.p.length).length:Nat) ⟨by omega,by omega⟩) ?_
       try refine xz4 zaf zaa zas zfq ?_
       exact xrz rfl
    ·rw[if_neg h6]at hT
     obtain rfl:wd=z8y:=by
      rcases hk with h|h|h|h|h
      ·exact absurd h h1
      ·exact absurd h h3
      ·exact absurd h h5
      ·exact absurd h h6
      ·exact h
     obtain⟨a,b,c,d,rfl⟩:=ym8 (l:=n) (by have h:zxy z8y=4:=(by decide);omega)
     have P:=z3a w.f ⟨(a:Nat),(b:Nat)⟩ ⟨(c:Nat),(d:Nat)⟩ (by omega) (fldR w.f ⟨(a:Nat),(b:Nat)⟩) (zg9 _ _)
     have hT:zmi (if zek (fldR w.f ⟨(a:Nat),(b:Nat)⟩) w.f ⟨(a:Nat),(b:Nat)⟩ ⟨(c:Nat),(d:Nat)⟩=0 then .ok ([zcy (zml (fldR w.f ⟨(a:Nat),(b:Nat)⟩) w.f ⟨(a:Nat),(b:Nat)⟩ ⟨(c:Nat),(d:Nat)⟩)]++(zmd (fldR w.f ⟨(a:Nat),(b:Nat)⟩) w.f ⟨(a:Nat),(b:Nat)⟩ ⟨(c:Nat),(d:Nat)⟩).map fun x=>zlo [x.x,x.y]) w l else .err (zek (fldR w.f ⟨(a:Nat),(b:Nat)⟩) w.f ⟨(a:Nat),(b:Nat)⟩ ⟨(c:Nat),(d:Nat)⟩))=T:=hT
     have hW:=fun h=>z29 (zg9 w.f ⟨(a:Nat),(b:Nat)⟩) (b:=⟨(c:Nat),(d:Nat)⟩) h
     have y64:=yn1 (fldR w.f ⟨(a:Nat),(b:Nat)⟩) w.f ⟨(a:Nat),(b:Nat)⟩ ⟨(c:Nat),(d:Nat)⟩
     generalize zek (fldR w.f ⟨(a:Nat),(b:Nat)⟩) w.f ⟨(a:Nat),(b:Nat)⟩ ⟨(c:Nat),(d:Nat)⟩=E at *
     generalize zml (fldR w.f ⟨(a:Nat),(b:Nat)⟩) w.f ⟨(a:Nat),(b:Nat)⟩ ⟨(c:Nat),(d:Nat)⟩=D at *
     generalize zmd (fldR w.f ⟨(a:Nat),(b:Nat)⟩) w.f ⟨(a:Nat),(b:Nat)⟩ ⟨(c:Nat),(d:Nat)⟩=V at *
     try refine xz4 zaf zaa zas zfq ?_
     refine caP (P) ?_
     try refine xz4 zaf zaa zas zfq ?_
     (try(refine⟨by kernel_rfl,?_⟩))
     try refine xz4 zaf zaa zas zfq ?_
     refine cI (fun h10=>?_) fun h10=>?_
     ·have hT:zs2 E=T:=by rw[←hT,if_neg (by exact h10)];rfl
      subst hT
      try refine xz4 zaf zaa zas zfq ?_
      refine caP (zjb E y64) ?_
      try refine xz4 zaf zaa zas zfq ?_
      exact xrz rfl
     ·obtain rfl:E=0:=h10
      have hT:zah (okL (Lib.itoa D::V.map fun x=>zdb [x.x,x.y]))=T:=by
       rw[←hT,if_pos rfl,←zom,List.map_cons,List.map_map];rfl
      subst hT
      obtain⟨w1,w2,w3⟩:=hW rfl
      have q1:=Lib.itoa_length_le D (by omega) (by omega)
      have w4:∀x∈V,∀n ∈ [x.x,x.y],zdu n:=fun x hx n hn=>by
       have:=inF_iff.1 (w3 x hx)
       simp only[List.mem_cons,List.mem_nil_iff,or_false]at hn
       rcases hn with rfl|rfl<;>exact⟨by omega,by omega⟩
      rw[if_pos rfl]at P
      try refine xz4 zaf zaa zas zfq ?_
      refine caP (zmg D ⟨by omega,by omega⟩) ?_
      try refine xz4 zaf zaa zas zfq ?_
      refine zay (fun k:Nat=>⟨[(159,I .i64 k),(158,I .i64 V.length),(157,.c (.sl 2 (V.map zbk))),(16,S (zah (okL (Lib.itoa D::(V.take k).map fun x=>zdb [x.x,x.y]))))],[],0⟩) (fun k:Nat=>k≤V.length) (fun k:Nat=>V.length-k) (0) (Nat.zero_le _) (To.mk [] rfl rfl List.nodup_nil trivial ?_) ?_
      ·simp(etaStruct := .none)only[push_cast,zad,seval]
       exact Wk.of (congrArg S (zqm D).symm)
      rintro k hk
      try refine xz4 zaf zaa zas zfq ?_
      refine cI (fun h11=>?_) fun h11=>?_
      ·have hlt:k<V.length:=by omega
       have ok:=w4 _ (zax V k hlt)
       have jl:=zg5 _ ok
       have jl2:(zdb [(V.getD k default).x,(V.getD k default).y]).length≤44:=jl
       have tl:(V.take k).length=k:=by rw[List.length_take];omega
       have ol:=zzf 44 (Lib.itoa D::(V.take k).map fun x=>zdb [x.x,x.y]) fun x hx=>by
        rcases List.mem_cons.1 hx with rfl|hx
        ·omega
        obtain⟨t,ht,rfl⟩:=List.mem_map.1 hx
        exact zg5 _ (w4 t (List.mem_of_mem_take ht))
       rw[List.length_cons,List.length_map,tl]at ol
       have eq:zah (okL (Lib.itoa D::(V.take k).map fun x=>zdb [x.x,x.y]))++((⟨#[32]⟩:ByteArray)++zah (zdb [(V.getD k default).x,(V.getD k default).y]))=zah (okL (Lib.itoa D::(V.take (k+1)).map fun x=>zdb [x.x,x.y])):=by
        rw[zak V k hlt,List.map_append,List.map_cons,List.map_nil,←List.cons_append,zfv,show (⟨#[32]⟩:ByteArray)=zah [32]from rfl,zbe,zbe];rfl
       try refine xz6 zaf zaa zas (gd hlt) zag zfq ?_
       refine zcn [1] (Spec.hand 0 (yc1 [(V.getD k default).x,(V.getD k default).y] ok (by simp)) (Nat.zero_le _) rfl (by exact WkL.refl _) rfl) (WkL.refl _) rfl (by decide) (by simp[za6]) ?_
       try refine xz6 zaf zaa zas (gd hlt) zag zfq ?_
       refine⟨k+1,by omega,by omega,To.mk [] rfl rfl List.nodup_nil trivial ?_⟩
       ·(try(refine xz1 eq ?_;try exact xtI))
      ·obtain rfl:k=V.length:=by omega
       rw[List.take_length]
       try refine xz4 zaf zaa zas zfq ?_
       exact xrz rfl
theorem err10:zs2 10=(⟨#[101,114,114,111,114,32,49,48]⟩:ByteArray):=by
 unfold zs2
 have h2:Lib.itoa ((10:Int).tdiv 10) = [49]:=by
  show Lib.itoa 1=_
  unfold Lib.itoa
  rw[if_neg (by decide),Lib.decDigits_one (by decide)]
  rfl
 rw[(zz7 10 (by omega)).1,h2]
 rfl
theorem ok_nil:okT []=(⟨#[111,107]⟩:ByteArray):=zom []
theorem zfi {wd:ByteArray} {ws:List ByteArray} {k:Nat} (hf:wd≠zfa) (hc:zxy wd=(k:Nat)):lok wd ws↔zcm k ws:=by
 unfold lok zcm
 constructor
 ·rintro (⟨h,_⟩|⟨_,h1,h2⟩)
  ·exact absurd h hf
  ·exact⟨by omega,h2⟩
 ·rintro⟨h1,h2⟩
  exact .inr ⟨hf,by omega,h2⟩
theorem z6i {ws:List ByteArray} (h:lok zfa ws):∃s,ws = [s]:=by
 rcases h with ⟨_,h⟩|⟨h,_⟩
 ·exact ym9 h
 ·exact absurd rfl h
theorem zki {k:Nat} {ws:List ByteArray} {g:List Nat→Ans} (h:¬zcm k ws):numsD k ws g = .err 10:=if_neg h
theorem zh0 {k:Nat} {ws:List ByteArray} {g:List Nat→Ans} (h:zcm k ws):numsD k ws g=g (ws.map za8):=if_pos h
theorem z1q {wd:ByteArray} (h:zkg wd=true):wd=z87∨wd=wGo∨wd=zto∨wd=zwi∨wd=ztp:=by
 unfold zkg at h
 simp only[Bool.or_eq_true,decide_eq_true_eq]at h
 rcases h with (((h|h)|h)|h)|h
 ·exact .inl h
 ·exact .inr (.inl h)
 ·exact .inr (.inr (.inl h))
 ·exact .inr (.inr (.inr (.inl h)))
 ·exact .inr (.inr (.inr (.inr h)))
theorem zoi {wd:ByteArray} (h:zkg wd=true):zxy wd=(yad wd:Nat)∧wd≠zfa∧wd≠ztq∧wd≠zl6:=by
 rcases z1q h with rfl|rfl|rfl|rfl|rfl<;>decide
theorem zq5 (w:Wld) (l:List Ord) (ws:List ByteArray):doneV w l zfa ws=fieldD ws:=if_pos rfl
theorem zvt (w:Wld) (l:List Ord) (ws:List ByteArray):doneV w l ztq ws=numsD 3 ws (baseD w l):=by
 unfold doneV;rw[if_neg (by decide),if_pos rfl]
theorem zq4 (w:Wld) (l:List Ord) (ws:List ByteArray):doneV w l zl6 ws=numsD 4 ws (troopD w l):=by
 unfold doneV;rw[if_neg (by decide),if_neg (by decide),if_pos rfl]
theorem z0t (w:Wld) (l:List Ord) {wd:ByteArray} (ws:List ByteArray) (h:zkg wd=true):doneV w l wd ws=orderD w l wd ws:=by
 obtain⟨_,h1,h2,h3⟩:=zoi h
 unfold doneV;rw[if_neg h1,if_neg h2,if_neg h3,if_pos h]
theorem zvs (w:Wld) (l:List Ord) (ws:List ByteArray):doneV w l z08 ws=numsD 0 ws fun _=>turnDD w l:=by
 unfold doneV;rw[if_neg (by decide),if_neg (by decide),if_neg (by decide),if_neg (by decide),if_pos rfl]
theorem z0u (w:Wld) (l:List Ord) {wd:ByteArray} (ws:List ByteArray) (h:wd=zhn∨wd=zi8∨wd=z86∨wd=znh∨wd=z8y):∃k:Nat,zxy wd=(k:Nat)∧wd≠zfa∧doneV w l wd ws=numsD k ws (askV w l wd):=by
 rcases h with rfl|rfl|rfl|rfl|rfl
 ·refine⟨0,by decide,by decide,?_⟩
  unfold doneV
  rw[if_neg (by decide),if_neg (by decide),if_neg (by decide),if_neg (by decide),if_neg (by decide),if_pos rfl]
  congr 1
 ·refine⟨1,by decide,by decide,?_⟩
  unfold doneV
  rw[if_neg (by decide),if_neg (by decide),if_neg (by decide),if_neg (by decide),if_neg (by decide),if_neg (by decide),if_pos rfl]
  congr 1
 ·refine⟨0,by decide,by decide,?_⟩
  unfold doneV
  rw[if_neg (by decide),if_neg (by decide),if_neg (by decide),if_neg (by decide),if_neg (by decide),if_neg (by decide),if_neg (by decide),if_neg (by decide),if_neg (by decide),if_pos rfl]
  congr 1
 ·refine⟨1,by decide,by decide,?_⟩
  unfold doneV
  rw[if_neg (by decide),if_neg (by decide),if_neg (by decide),if_neg (by decide),if_neg (by decide),if_neg (by decide),if_neg (by decide),if_neg (by decide),if_pos rfl]
  congr 1
 ·refine⟨4,by decide,by decide,?_⟩
  unfold doneV
  rw[if_neg (by decide),if_neg (by decide),if_neg (by decide),if_neg (by decide),if_neg (by decide),if_neg (by decide),if_neg (by decide),if_pos rfl]
  congr 1
theorem zp1 (wd:ByteArray):wd=zfa∨wd=ztq∨wd=zl6∨zkg wd=true∨wd=z08∨(wd=zhn∨wd=zi8∨wd=z86∨wd=znh∨wd=z8y)∨(zxy wd = -1∧wd≠zfa∧∀w l ws,doneV w l wd ws = .err 10):=by
 by_cases h1:wd=zfa
 ·exact .inl h1
 by_cases h2:wd=ztq
 ·exact .inr (.inl h2)
 by_cases h3:wd=zl6
 ·exact .inr (.inr (.inl h3))
 by_cases h4:zkg wd=true
 ·exact .inr (.inr (.inr (.inl h4)))
 by_cases h5:wd=z08
 ·exact .inr (.inr (.inr (.inr (.inl h5))))
 by_cases h6:wd=zhn∨wd=zi8∨wd=z86∨wd=znh∨wd=z8y
 ·exact .inr (.inr (.inr (.inr (.inr (.inl h6)))))
 simp only[not_or]at h6
 obtain⟨a1,a2,a3,a4,a5⟩:=h6
 have h4':=h4
 unfold zkg at h4'
 simp only[Bool.or_eq_true,decide_eq_true_eq,not_or]at h4'
 obtain⟨⟨⟨⟨b1,b2⟩,b3⟩,b4⟩,b5⟩:=h4'
 refine .inr (.inr (.inr (.inr (.inr (.inr ⟨?_,h1,fun w l ws=>?_⟩)))))
 ·have e0:wg0 wd=false:=by simp[wg0,h5,a1,a3]
  have e1:wg1 wd=false:=by simp[wg1,a2,a4]
  have e2:wg2 wd=false:=by simp[wg2,b4,b5]
  have e3:wg3 wd=false:=by simp[wg3,h2,b1]
  have e4:wg4 wd=false:=by simp[wg4,h3,b2,b3,a5]
  unfold zxy
  rw[e0,e1,e2,e3,e4,if_neg h1];rfl
 ·unfold doneV
  rw[if_neg h1,if_neg h2,if_neg h3,if_neg h4,if_neg h5,if_neg a1,if_neg a2,if_neg a5,if_neg a4,if_neg a3]
theorem ycd (w:Wld) (l:List Ord) {wd:ByteArray} {ws:List ByteArray} (h:¬lok wd ws):doneV w l wd ws = .err 10:=by
 rcases zp1 wd with rfl|rfl|rfl|h1|rfl|h1|⟨_,_,h1⟩
 ·rw[zq5]
  unfold fieldD
  match ws,h with
  | [],_=>rfl
  | [s],h=>exact absurd (.inl ⟨rfl,rfl⟩) h
  | _::_::_,_=>rfl
 ·rw[zvt];exact zki fun g=>h ((zfi (by decide) (by decide)).2 g)
 ·rw[zq4];exact zki fun g=>h ((zfi (by decide) (by decide)).2 g)
 ·rw[z0t w l ws h1];exact zki fun g=>h ((zfi (zoi h1).2.1 (zoi h1).1).2 g)
 ·rw[zvs];exact zki fun g=>h ((zfi (by decide) (by decide)).2 g)
 ·obtain⟨k,h2,h3,h4⟩:=z0u w l ws h1
  rw[h4];exact zki fun g=>h ((zfi h3 h2).2 g)
 ·exact h1 w l ws
theorem yce (w:Wld) (l:List Ord) (wd:ByteArray) (n:List Nat):zxc w (askV w l wd n)=w∧zxd l (askV w l wd n)=l:=by
 unfold askV
 split
 ·exact⟨rfl,rfl⟩
 split
 ·unfold stockD;split<;>exact⟨rfl,rfl⟩
 split
 ·exact⟨rfl,rfl⟩
 split
 ·unfold seenD;split<;>exact⟨rfl,rfl⟩
 ·unfold wayDD;dsimp only;split<;>exact⟨rfl,rfl⟩
def ziy (g m:List Int) (d:List Bool):List (List UInt8):=g.map Lib.itoa ++ [[47]]++m.map Lib.itoa ++ [[47]]++d.map fun b=>if b then [121]else [110]
theorem z3k (g m:List Int) (d:List Bool):okT (zk7 g m++d.map ynP)=zah (okL (ziy g m d)):=by
 rw[←zom]
 congr 1
 unfold zk7 ziy
 simp only[List.map_append,List.map_map,List.map_cons,List.map_nil]
 congr 1
 exact List.map_congr_left fun b _=>by cases b<;>rfl
def zgv (g m:List Int) (k:Nat):List Int:=if k=0 then g else m
def zv6 (g:List Int) (k:Nat):List (List UInt8):=if k=0 then []else g.map Lib.itoa ++ [[47]]
def z9b (g m:List Int) (k:Nat):List (List UInt8):=if k=0 then []else if k=1 then g.map Lib.itoa else g.map Lib.itoa ++ [[47]]++m.map Lib.itoa
theorem zm4 (l:List Int) (h:∀n∈l,zdu n):∀x∈l.map Lib.itoa,x.length≤21:=fun x hx=>by
 obtain⟨n,hn,rfl⟩:=List.mem_map.1 hx
 exact Lib.itoa_length_le n (h n hn).1 (h n hn).2
theorem z9p (g m:List Int) (k:Nat) (h:k<2):([[PV.sl 1 (g.map zao)],[PV.sl 1 (m.map zao)]]:List (List PV)).getD k [] = [.sl 1 ((zgv g m k).map zao)]:=by
 match k,h with
 | 0,_=>rfl
 | 1,_=>rfl
theorem z49 {g m:List Int} (hg:∀n∈g,zdu n) (hm:∀n∈m,zdu n) (ng:g.length≤100) (nm:m.length≤100) (k j:Nat):(okL (zv6 g k++((zgv g m k).take j).map Lib.itoa)).length≤5000:=by
 have hs:∀n∈zgv g m k,zdu n:=by unfold zgv;split<;>assumption
 have ns:(zgv g m k).length≤100:=by unfold zgv;split<;>assumption
 have h1:∀x∈zv6 g k++((zgv g m k).take j).map Lib.itoa,x.length≤21:=by
  intro x hx
  rcases List.mem_append.1 hx with hx|hx
  ·unfold zv6 at hx
   split at hx
   ·simp at hx
   ·rcases List.mem_append.1 hx with hx|hx
    ·exact zm4 g hg x hx
    ·rw[List.mem_singleton]at hx;subst hx;simp
  ·exact zm4 _ (fun n hn=>hs n (List.mem_of_mem_take hn)) x hx
 have h2:=zzf 21 _ h1
 have h3:(zv6 g k).length≤101:=by
  unfold zv6
  split
  ·simp
  ·rw[List.length_append,List.length_map,List.length_singleton];omega
 have h4:((zgv g m k).take j).length≤100:=by rw[List.length_take];omega
 rw[List.length_append,List.length_map]at h2
 omega
theorem yct {g m:List Int} (hg:∀n∈g,zdu n) (hm:∀n∈m,zdu n) (k:Nat):∀n∈zgv g m k,zdu n:=by unfold zgv;split<;>assumption
theorem yib {g m:List Int} (ng:g.length≤100) (nm:m.length≤100) (k:Nat):(zgv g m k).length≤100:=by unfold zgv;split<;>assumption
theorem z3h {g m:List Int} {k:Nat} (h:k<2):z9b g m (k+1)=zv6 g k++(zgv g m k).map Lib.itoa:=by
 match k,h with
 | 0,_=>rfl
 | 1,_=>rfl
theorem zym {g m:List Int} (hg:∀n∈g,zdu n) (hm:∀n∈m,zdu n) (ng:g.length≤100) (nm:m.length≤100) (d:List Bool) (nd:d.length≤100):(okL (ziy g m d)).length≤10000:=by
 have h1:∀x∈ziy g m d,x.length≤21:=by
  intro x hx
  unfold ziy at hx
  simp only[List.mem_append,List.mem_singleton,or_assoc]at hx
  rcases hx with hx|rfl|hx|rfl|hx
  ·exact zm4 g hg x hx
  ·simp
  ·exact zm4 m hm x hx
  ·simp
  ·obtain⟨b,_,rfl⟩:=List.mem_map.1 hx
   cases b<;>simp
 have h2:=zzf 21 _ h1
 unfold ziy at h2 ⊢
 simp only[List.length_append,List.length_map,List.length_singleton]at h2
 omega
theorem ya9 {k:Int} (h:zal k 1 2=false):zeg k=1:=by
 rw[within_f]at h
 unfold zeg;rw[if_neg (by omega)]
theorem z6l {k:Int} (h:zal k 1 2=true):zeg k=0∧(k=1∨k=2):=by
 rw[within_iff]at h
 have h2:k=1∨k=2:=by omega
 exact⟨if_pos h2,h2⟩
theorem yfs (w:Wld) (l:List Ord) (wd:ByteArray) (ws:List ByteArray) (R:Right w) (hll:l.length≤100) (hl:ws.length≤65536) (hsz:∀s∈ws,s.size≤65536) :
 Spec Tryz.prog 13 [ykt w l,.c (.sl 1 ((wd::ws).map zge))] [] (.tup [ykt (zxc w (doneV w l wd ws)) (zxd l (doneV w l wd ws)),S (zmi (doneV w l wd ws))]) []:=by
 have C1:=yfp wd ws hl hsz
 have hlb:lokB wd ws=true↔lok wd ws:=by unfold lokB;simp
 have hnb:=R.nb
 have hsl:=R.sl
 have hnt:=R.nt
 have hnx:=R.nx
 have z3:(⟨#[111,107,32]⟩:ByteArray).size=3:=rfl
 generalize hA:doneV w l wd ws=A
 generalize lokB wd ws=b at *
 refine spB Tryz.func13 249 [.cell 4 52,.tmp 5] Tryz.results13 ?_
 try refine xz3 zaf zaa yny ?_
 refine caP (C1) ?_
 try refine xz3 zaf zaa yny ?_
 refine cI (fun h1=>?_) fun h1=>?_
 ·have hb:b=false:=by simpa using h1
  subst hb
  obtain rfl:A = .err 10:=by rw[←hA];exact ycd w l fun h=>absurd (hlb.2 h) (by simp)
  try refine xz3 zaf zaa yny ?_
  exact zi1 rfl (Wk.tup ⟨Wk.refl _,Wk.of (congrArg S err10.symm),trivial⟩)
 ·have hb:b=true:=by simpa using h1
  subst hb
  have hlk:=hlb.1 rfl
  have hn2:zkg wd=true→(zi3 wd ws).length=yad wd:=fun h=>by
   obtain⟨c1,c2,_⟩:=zoi h
   unfold zi3;rw[if_neg c2,List.length_map]
   exact((zfi c2 c1).1 hlk).1
  try refine xz3 zaf zaa z05 ?_
  refine caP (ya3 wd (zi3 wd ws) hn2) ?_
  try refine xz3 zaf zaa z05 ?_
  refine cI (fun h2=>?_) fun h2=>?_
  ·have c2f:=zoi h2
   have hg:=(zfi c2f.2.1 c2f.1).1 hlk
   have D:A=waitD w l (zqj wd (zi3 wd ws)):=by
    rw[←hA,z0t w l ws h2]
    unfold orderD
    rw[zh0 hg]
    unfold zi3
    rw[if_neg c2f.2.1]
   generalize zqj wd (zi3 wd ws)=o at *
   unfold waitD at D
   try refine xz4 zaf zaa h2 z05 ?_
   refine caP (zzd o) ?_
   try refine xz4 zaf zaa h2 z05 ?_
   refine cI (fun h3=>?_) fun h3=>?_
   ·obtain rfl:A = .err (zii o):=by rw[D,if_pos h3]
    try refine xz4 zaf zaa h2 z05 ?_
    refine caP (zjb (zii o) (ymx o)) ?_
    try refine xz4 zaf zaa h2 z05 ?_
    (try(refine⟨by kernel_rfl,?_⟩))
    try refine xz4 zaf zaa h2 z05 ?_
    exact zi1 rfl (Wk.refl _)
   ·rw[if_neg (not_not_intro h3)]at D
    try refine xz4 zaf zaa h2 z05 ?_
    refine cI (fun h4=>?_) fun h4=>?_
    ·obtain rfl:A = .err 2:=by rw[D,if_pos (by omega)]
     try refine xz4 zaf zaa h2 z05 ?_
     refine caP (zjb 2 ⟨by decide,by decide⟩) ?_
     try refine xz4 zaf zaa h2 z05 ?_
     (try(refine⟨by kernel_rfl,?_⟩))
     try refine xz4 zaf zaa h2 z05 ?_
     exact zi1 rfl (Wk.refl _)
    ·obtain rfl:A = .ok [] w (l ++ [o]):=by rw[D,if_neg (by omega)]
     try refine xz4 zaf zaa h2 z05 ?_
     refine zcn [] (z5g l (by omega)) (WkL.refl _) rfl (by decide) (by simp[za6,zdf,zjc]) ?_
     try refine xz4 zaf zaa h2 z05 ?_
     (try(refine⟨by kernel_rfl,?_⟩))
     try refine xz4 zaf zaa h2 z05 ?_
     exact zi1 rfl (Wk.tup ⟨Wk.agg ⟨Wk.refl _,Wk.refl _,Wk.refl _,Wk.refl _,Wk.refl _,Wk.refl _,Wk.refl _,Wk.refl _,Wk.refl _,Wk.of (congrArg (fun x=>AV.c (.sl 6 x)) (show l.map zga ++ [zga o]=(l ++ [o]).map zga by simp)),trivial⟩,Wk.of (congrArg S ok_nil.symm),trivial⟩)
  ·have e2:zkg wd=false:=by simpa using h2
   try refine xz4 zaf zaa e2 zfp ?_
   refine cI (fun h5=>?_) fun h5=>?_
   ·obtain rfl:wd=zfa:=h5
    obtain⟨s,rfl⟩:=z6i hlk
    have hs:=hsz s (by simp)
    have hF:=zo8 s hs
    have D:A=if (fieldOf s).2=0 then .ok [] (zmh (fieldOf s).1) []else .err (fieldOf s).2:=by rw[←hA,zq5];rfl
    unfold zo7 at hF
    have hF64:zdu (fieldOf s).2:=by rcases hF.2.2.2.2 with h|h<;>rw[h]<;>decide
    try refine xz4 zaf zaa e2 zfp ?_
    refine caP (ycv s (by omega)) ?_
    try refine xz4 zaf zaa e2 zfp ?_
    refine⟨by
     have:=zn8 s.data.toList
     have e:s.data.toList.length=s.size:=by rw[Array.length_toList];rfl
     have e1:(⟨#[10]⟩:ByteArray).size=1:=rfl
     omega,?_⟩
    refine caP (hF.2.1) ?_
    try refine xz4 zaf zaa e2 zfp ?_
    refine cI (fun h6=>?_) fun h6=>?_
    ·obtain rfl:A = .err (fieldOf s).2:=by rw[D,if_neg h6]
     try refine xz4 zaf zaa e2 zfp ?_
     refine caP (zjb (fieldOf s).2 hF64) ?_
     try refine xz4 zaf zaa e2 zfp ?_
     (try(refine⟨by kernel_rfl,?_⟩))
     try refine xz4 zaf zaa e2 zfp ?_
     exact zi1 rfl (Wk.refl _)
    ·obtain rfl:A = .ok [] (zmh (fieldOf s).1) []:=by rw[D,if_pos h6]
     try refine xz4 zaf zaa e2 zfp ?_
     refine caP (yc2 (fieldOf s).1 hF.2.2.1) ?_
     try refine xz4 zaf zaa e2 zfp ?_
     exact zi1 rfl (Wk.tup ⟨Wk.refl _,Wk.of (congrArg S ok_nil.symm),trivial⟩)
   ·try refine xz4 zaf zaa e2 zfp ?_
    refine cI (fun h7=>?_) fun h7=>?_
    ·obtain rfl:wd=ztq:=h7
     have hg:=(zfi (k:=3) (by decide) (by decide)).1 hlk
     obtain⟨x,y,z,rfl⟩:=ygi hg
     have D:A=baseD w l [za8 x,za8 y,za8 z]:=by rw[←hA,zvt,zh0 hg];rfl
     have eN:zi3 ztq [x,y,z] = [za8 x,za8 y,za8 z]:=rfl
     have hx:=zdm x
     have hy:=zdm y
     have hz:=zdm z
     generalize za8 x=a at *
     generalize za8 y=b at *
     generalize za8 z=c at *
     have D:A=if zap (zdj w (a:Nat) (b:Nat) (c:Nat))=0 then .ok [zcy w.bases.length] (zdj w (a:Nat) (b:Nat) (c:Nat)) l else .err (zap (zdj w (a:Nat) (b:Nat) (c:Nat))):=D
     have hl2:zd4 (zdj w (a:Nat) (b:Nat) (c:Nat)):=by
      have:=R.l
      unfold zd4 zdj at *;simp only[List.length_append,List.length_cons,List.length_nil];omega
     have q1:=Lib.itoa_length_le w.bases.length (by omega) (by omega)
     try refine xz6 zaf zaa e2 eN zas z26 ?_
     refine zcn [] (zk3 w.bases (by omega)) (WkL.refl _) rfl (by decide) (by simp[za6,zdf,zjc]) ?_
     try refine xz6 zaf zaa e2 eN zas z26 ?_
     (try(refine⟨by kernel_rfl,?_⟩))
     try refine xz6 zaf zaa e2 eN zas z26 ?_
     refine zcn [] (zbm w.stocks (by omega)) (WkL.refl _) rfl (by decide) (by simp[za6,zdf,zjc]) ?_
     try refine xz6 zaf zaa e2 eN zas z26 ?_
     (try(refine⟨by kernel_rfl,?_⟩))
     try refine xz6 zaf zaa e2 eN zas z26 ?_
     refine zc0 (zia (zdj w (a:Nat) (b:Nat) (c:Nat)) hl2) (by simp only[zcf,zdj,List.map_append,List.map_cons,List.map_nil,zbk,zao];exact WkL.refl _) rfl ?_
     try refine xz6 zaf zaa e2 eN zas z26 ?_
     refine cI (fun h8=>?_) fun h8=>?_
     ·obtain rfl:A = .err (zap (zdj w (a:Nat) (b:Nat) (c:Nat))):=by rw[D,if_neg h8]
      try refine xz6 zaf zaa e2 eN zas z26 ?_
      refine caP (zjb _ (yhu (zdj w (a:Nat) (b:Nat) (c:Nat)))) ?_
      try refine xz6 zaf zaa e2 eN zas z26 ?_
      (try(refine⟨by kernel_rfl,?_⟩))
      try refine xz6 zaf zaa e2 eN zas z26 ?_
      exact zi1 rfl (Wk.refl _)
     ·obtain rfl:A = .ok [zcy w.bases.length] (zdj w (a:Nat) (b:Nat) (c:Nat)) l:=by rw[D,if_pos h8]
      try refine xz6 zaf zaa e2 eN zas z26 ?_
      refine caP (zmg w.bases.length ⟨by omega,by omega⟩) ?_
      try refine xz6 zaf zaa e2 eN zas z26 ?_
      (try(refine⟨by kernel_rfl,?_⟩))
      try refine xz6 zaf zaa e2 eN zas z26 ?_
      have eB:w.bases.map zbk ++ [[PV.v (.int .i64 (a:Nat)),PV.v (.int .i64 (b:Nat))]]=(zdj w (a:Nat) (b:Nat) (c:Nat)).bases.map zbk:=by
       show _=(w.bases ++ [(⟨(a:Nat),(b:Nat)⟩:Cel)]).map zbk
       rw[List.map_append];rfl
      have eC:w.stocks.map zao ++ [[PV.v (.int .i64 (c:Nat))]]=(zdj w (a:Nat) (b:Nat) (c:Nat)).stocks.map zao:=by
       show _=(w.stocks ++ [((c:Nat):Int)]).map zao
       rw[List.map_append];rfl
      exact zi1 rfl (Wk.tup ⟨Wk.agg ⟨Wk.refl _,Wk.refl _,Wk.refl _,Wk.of (congrArg (fun x=>AV.c (.sl 2 x)) eB),Wk.of (congrArg (fun x=>AV.c (.sl 1 x)) eC),Wk.refl _,Wk.refl _,Wk.refl _,Wk.refl _,Wk.refl _,trivial⟩,Wk.of (congrArg S ((zqm w.bases.length).symm.trans (zuq _).symm)),trivial⟩)
    ·try refine xz4 zaf zaa e2 zfp ?_
     refine cI (fun h9=>?_) fun h9=>?_
     ·obtain rfl:wd=zl6:=h9
      have hg:=(zfi (k:=4) (by decide) (by decide)).1 hlk
      obtain⟨x,y,z,u,rfl⟩:=z7b hg
      have D:A=troopD w l [za8 x,za8 y,za8 z,za8 u]:=by rw[←hA,zq4,zh0 hg];rfl
      have eN:zi3 zl6 [x,y,z,u] = [za8 x,za8 y,za8 z,za8 u]:=rfl
      have hx:=zdm x
      have hy:=zdm y
      have hz:=zdm z
      have hu:=zdm u
      generalize za8 x=a at *
      generalize za8 y=b at *
      generalize za8 z=c at *
      generalize za8 u=d at *
      have D:A=if zeg (b:Nat)≠0 then .err (zeg (b:Nat))else if zap (zb7 w (a:Nat) (b:Nat) (c:Nat) (d:Nat))=0 then .ok [zcy w.next] (zb7 w (a:Nat) (b:Nat) (c:Nat) (d:Nat)) l else .err (zap (zb7 w (a:Nat) (b:Nat) (c:Nat) (d:Nat))):=D
      have hl2:zd4 (zb7 w (a:Nat) (b:Nat) (c:Nat) (d:Nat)):=by
       have:=R.l
       unfold zd4 zb7 at *;simp only[List.length_append,List.length_cons,List.length_nil];omega
      have q1:=Lib.itoa_length_le w.next (by omega) (by omega)
      try refine xz6 zaf zaa e2 eN zas zwc ?_
      refine caP (zat (b:Nat) 1 2) ?_
      try refine xz6 zaf zaa e2 eN zas zwc ?_
      refine cI (fun h10=>?_) fun h10=>?_
      ·have hkE:zeg (b:Nat)=1:=ya9 h10
       obtain rfl:A = .err 1:=by rw[D,if_pos (by rw[hkE];decide),hkE]
       try refine xz6 zaf zaa e2 eN zas zwc ?_
       refine caP (zjb 1 ⟨by decide,by decide⟩) ?_
       try refine xz6 zaf zaa e2 eN zas zwc ?_
       (try(refine⟨by kernel_rfl,?_⟩))
       try refine xz6 zaf zaa e2 eN zas zwc ?_
       exact zi1 rfl (Wk.refl _)
      ·obtain⟨hk0,hk12⟩:=z6l h10
       rw[if_neg (not_not_intro hk0)]at D
       try refine xz6 zaf zaa e2 eN zas zwc ?_
       refine zcn [] (zcl w.troops (by omega)) (WkL.refl _) rfl (by decide) (by simp[za6,zdf,zjc]) ?_
       try refine xz6 zaf zaa e2 eN zas zwc ?_
       refine zcn [] (zg4 (b:Nat) hk12) (WkL.refl _) rfl (by decide) (by simp[za6,zdf,zjc]) ?_
       try refine xz6 zaf zaa e2 eN zas zwc ?_
       (try(refine⟨by kernel_rfl,?_⟩))
       try refine xz6 zaf zaa e2 eN zas zwc ?_
       refine zc0 (zia (zb7 w (a:Nat) (b:Nat) (c:Nat) (d:Nat)) hl2) (by simp only[zcf,zb7,List.map_append,List.map_cons,List.map_nil,zch];exact WkL.refl _) rfl ?_
       try refine xz6 zaf zaa e2 eN zas zwc ?_
       refine cI (fun h11=>?_) fun h11=>?_
       ·obtain rfl:A = .err (zap (zb7 w (a:Nat) (b:Nat) (c:Nat) (d:Nat))):=by rw[D,if_neg h11]
        try refine xz6 zaf zaa e2 eN zas zwc ?_
        refine caP (zjb _ (yhu (zb7 w (a:Nat) (b:Nat) (c:Nat) (d:Nat)))) ?_
        try refine xz6 zaf zaa e2 eN zas zwc ?_
        (try(refine⟨by kernel_rfl,?_⟩))
        try refine xz6 zaf zaa e2 eN zas zwc ?_
        exact zi1 rfl (Wk.refl _)
       ·obtain rfl:A = .ok [zcy w.next] (zb7 w (a:Nat) (b:Nat) (c:Nat) (d:Nat)) l:=by rw[D,if_pos h11]
        try refine xz6 zaf zaa e2 eN zas zwc ?_
        refine caP (zmg w.next ⟨by omega,by omega⟩) ?_
        try refine xz6 zaf zaa e2 eN zas zwc ?_
        (try(refine⟨by kernel_rfl,?_⟩))
        try refine xz6 zaf zaa e2 eN zas zwc ?_
        have eB:w.troops.map zch ++ [zch (⟨w.next,(a:Nat),(b:Nat),⟨(c:Nat),(d:Nat)⟩,(zbx (b:Nat)).life,0⟩:Trp)]=(zb7 w (a:Nat) (b:Nat) (c:Nat) (d:Nat)).troops.map zch:=by
         show _=(w.troops ++ [(⟨w.next,(a:Nat),(b:Nat),⟨(c:Nat),(d:Nat)⟩,(zbx (b:Nat)).life,0⟩:Trp)]).map zch
         rw[List.map_append];rfl
        exact zi1 rfl (Wk.tup ⟨Wk.agg ⟨Wk.refl _,Wk.refl _,Wk.refl _,Wk.refl _,Wk.refl _,Wk.refl _,Wk.of (congrArg (fun x=>AV.c (.sl 7 x)) eB),Wk.refl _,Wk.refl _,Wk.refl _,trivial⟩,Wk.of (congrArg S ((zqm w.next).symm.trans (zuq _).symm)),trivial⟩)
     ·try refine xz4 zaf zaa e2 zfp ?_
      refine cI (fun h12=>?_) fun h12=>?_
      ·obtain rfl:wd=z08:=h12
       have hg:=(zfi (k:=0) (by decide) (by decide)).1 hlk
       obtain rfl:=ybj hg
       have D:A=turnDD w l:=by rw[←hA,zvs,zh0 hg]
       unfold turnDD at D
       have T:=yek w l (fldR w.f) (zg9 w.f) R.l (by omega)
       have i1:=zrh (fldR w.f) w l
       have i2:=znl (fldR w.f) w l
       try refine xz4 zaf zaa e2 zfp ?_
       refine caP (T) ?_
       try refine xz4 zaf zaa e2 zfp ?_
       refine cI (fun h13=>?_) fun h13=>?_
       ·obtain rfl:A = .err (zck l w):=by rw[D,if_neg h13]
        try refine xz4 zaf zaa e2 zfp ?_
        refine caP (zjb _ (yn4 l w)) ?_
        try refine xz4 zaf zaa e2 zfp ?_
        (try(refine⟨by kernel_rfl,?_⟩))
        try refine xz4 zaf zaa e2 zfp ?_
        exact zi1 rfl (Wk.refl _)
       ·have D:=D.trans (if_pos h13)
        have e1:z3l (fldR w.f) w l=zj6 (fldR w.f) w l:=if_pos h13
        have e2:zhp w l=zk8 w l:=if_pos h13
        have e3:zho (fldR w.f) w l=znm (fldR w.f) w l:=if_pos h13
        have e4:zj7 (fldR w.f) w l=zme (fldR w.f) w l:=if_pos h13
        rw[e1,e2,e3,e4]
        rw[e2,e3,e4]at i2
        rw[e2,e3]at i1
        generalize zj6 (fldR w.f) w l=W at *
        generalize zk8 w l=g at *
        generalize znm (fldR w.f) w l=m at *
        generalize zme (fldR w.f) w l=d at *
        subst D
        obtain⟨i1,i3⟩:=i1
        obtain⟨n1,n2,n3⟩:=i2
        have eT:zmi (.ok (zk7 g m++d.map ynP) W [])=zah (okL (ziy g m d)):=z3k g m d
        have z2:(⟨#[32,47]⟩:ByteArray).size=2:=rfl
        have z32:(⟨#[32]⟩:ByteArray).size=1:=rfl
        have zy:(⟨#[32,121]⟩:ByteArray).size=2:=rfl
        have zn:(⟨#[32,110]⟩:ByteArray).size=2:=rfl
        rw[eT]
        try refine xz4 zaf zaa e2 zfp ?_
        refine zay (fun k:Nat=>⟨[(204,I .i64 k),(203,I .i64 2),(202,.own 3),(19,S (zah (okL (z9b g m k)))),(17,.ptr 2 0 0),(16,.ptr 1 0 0),(4,.ptr 0 0 0)],[(0,.blk 52 [I .i64 0,I .i64 0,.c (.v (.slice none 0 0)),.c (.v (.slice none 0 0)),.c (.v (.slice none 0 0)),.c (.v (.slice none 0 0)),.c (.v (.slice none 0 0)),I .i64 0,I .i64 0,.c (.v (.slice none 0 0))]),(1,.blk 32 (zhe W)),(2,.blk 95 [.c (.sl 1 (g.map zao)),.c (.sl 1 (m.map zao)),.c (.sl 1 (d.map zf9))]),(3,.row 26 1 [[.sl 1 (g.map zao)],[.sl 1 (m.map zao)]])],4⟩) (fun k:Nat=>k≤2) (fun k:Nat=>2-k) (0) (Nat.zero_le _) (To.mk [1,4,5,6] rfl rfl (by decide) ?_ ?_) ?_
        ·exact xS
        ·simp(etaStruct := .none)only[push_cast,zad,seval]
         exact Wk.refl _
        rintro k hk
        try refine xz4 zaf zaa e2 zfp ?_
        refine cI (fun h14=>?_) fun h14=>?_
        ·have hk2:k<2:=by omega
         have eS:=z9p g m k hk2
         have pk0:=z49 i1 i3 n1 n2 k 0
         rw[List.take_zero,List.map_nil,List.append_nil]at pk0
         try refine xz5 zaf zaa e2 eS zfp ?_
         refine cI (fun h15=>?_) fun h15=>?_
         ·have hk1:k=1:=by omega
          have eq:zah (okL (z9b g m k))++(⟨#[32,47]⟩:ByteArray)=zah (okL (zv6 g k)):=by
           rw[show (⟨#[32,47]⟩:ByteArray)=zah [32,47]from rfl,zbe,hk1]
           show zah (okL (g.map Lib.itoa)++32 :: [47])=zah (okL (g.map Lib.itoa ++ [[47]]))
           rw[zfv]
          have pk1:(okL (z9b g m k)).length≤5000:=by
           have h1:=congrArg ByteArray.size eq
           rw[ByteArray.size_append,zaa,zaa]at h1
           omega
          try refine xz5 zaf zaa e2 eS zfp ?_
          refine zay (fun j:Nat=>⟨[(215,I .i64 j),(214,I .i64 (zgv g m k).length),(213,.c (.sl 1 ((zgv g m k).map zao))),(204,I .i64 k),(203,I .i64 2),(202,.own 3),(19,S (zah (okL (zv6 g k++((zgv g m k).take j).map Lib.itoa)))),(17,.ptr 2 0 0),(16,.ptr 1 0 0),(4,.ptr 0 0 0)],[(0,.blk 52 [I .i64 0,I .i64 0,.c (.v (.slice none 0 0)),.c (.v (.slice none 0 0)),.c (.v (.slice none 0 0)),.c (.v (.slice none 0 0)),.c (.v (.slice none 0 0)),I .i64 0,I .i64 0,.c (.v (.slice none 0 0))]),(1,.blk 32 (zhe W)),(2,.blk 95 [.c (.sl 1 (g.map zao)),.c (.sl 1 (m.map zao)),.c (.sl 1 (d.map zf9))]),(3,.row 26 1 [[.sl 1 (g.map zao)],[.sl 1 (m.map zao)]])],4⟩) (fun j:Nat=>j≤(zgv g m k).length) (fun j:Nat=>(zgv g m k).length-j) (0) (Nat.zero_le _) (To.mk [0,1,2,3] rfl rfl (by decide) ?_ ?_) ?_
          ·exact xS
          ·exact xS2 eq yok
          rintro j hj
          try refine xz5 zaf zaa e2 eS zfp ?_
          refine cI (fun h16=>?_) fun h16=>?_
          ·have hjt:j<(zgv g m k).length:=by omega
           have hin:zdu ((zgv g m k).getD j default):=yct i1 i3 k _ (zax _ j hjt)
           have hsn:=yib n1 n2 k
           have q1:=Lib.itoa_length_le _ hin.1 hin.2
           have pj:=z49 i1 i3 n1 n2 k j
           have eq2:zah (okL (zv6 g k++((zgv g m k).take j).map Lib.itoa))++((⟨#[32]⟩:ByteArray)++zah (Lib.itoa ((zgv g m k).getD j default)))=zah (okL (zv6 g k++((zgv g m k).take (j+1)).map Lib.itoa)):=by
            rw[zak _ j hjt,List.map_append,List.map_cons,List.map_nil,←List.append_assoc,zfv,show (⟨#[32]⟩:ByteArray)=zah [32]from rfl,zbe,zbe];rfl
           try refine xz7 zaf zaa e2 eS (gd hjt) zab zfp ?_
           refine caP (zmg _ hin) ?_
           try refine xz7 zaf zaa e2 eS (gd hjt) zab zfp ?_
           refine⟨j+1,by omega,by omega,To.mk [0,1,2,3] rfl rfl (by decide) ?_ ?_⟩
           ·(try(refine xz7 zaf zaa e2 eS (gd hjt) zab zfp ?_;try exact xtI))
           ·(try(refine xz1 eq2 ?_;try exact xtI))
          ·obtain rfl:j=(zgv g m k).length:=by omega
           have ep:zv6 g k++((zgv g m k).take (zgv g m k).length).map Lib.itoa=z9b g m (k+1):=by rw[List.take_length,z3h hk2]
           try refine xz5 zaf zaa e2 eS zfp ?_
           refine⟨k+1,by omega,by omega,To.mk [0,1,2,3] rfl rfl (by decide) ?_ ?_⟩
           ·(try(refine xz5 zaf zaa e2 eS zfp ?_;try exact xtI))
           ·(try(refine xz1 ep ?_;try exact xtI))
         ·have hk0:k=0:=by omega
          have eq:zah (okL (z9b g m k))=zah (okL (zv6 g k)):=by rw[hk0];rfl
          try refine xz5 zaf zaa e2 eS zfp ?_
          refine zay (fun j:Nat=>⟨[(215,I .i64 j),(214,I .i64 (zgv g m k).length),(213,.c (.sl 1 ((zgv g m k).map zao))),(204,I .i64 k),(203,I .i64 2),(202,.own 3),(19,S (zah (okL (zv6 g k++((zgv g m k).take j).map Lib.itoa)))),(17,.ptr 2 0 0),(16,.ptr 1 0 0),(4,.ptr 0 0 0)],[(0,.blk 52 [I .i64 0,I .i64 0,.c (.v (.slice none 0 0)),.c (.v (.slice none 0 0)),.c (.v (.slice none 0 0)),.c (.v (.slice none 0 0)),.c (.v (.slice none 0 0)),I .i64 0,I .i64 0,.c (.v (.slice none 0 0))]),(1,.blk 32 (zhe W)),(2,.blk 95 [.c (.sl 1 (g.map zao)),.c (.sl 1 (m.map zao)),.c (.sl 1 (d.map zf9))]),(3,.row 26 1 [[.sl 1 (g.map zao)],[.sl 1 (m.map zao)]])],4⟩) (fun j:Nat=>j≤(zgv g m k).length) (fun j:Nat=>(zgv g m k).length-j) (0) (Nat.zero_le _) (To.mk [0,1,2,3] rfl rfl (by decide) ?_ ?_) ?_
          ·exact xS
          ·exact xS2 eq yok
          rintro j hj
          try refine xz5 zaf zaa e2 eS zfp ?_
          refine cI (fun h17=>?_) fun h17=>?_
          ·have hjt:j<(zgv g m k).length:=by omega
           have hin:zdu ((zgv g m k).getD j default):=yct i1 i3 k _ (zax _ j hjt)
           have hsn:=yib n1 n2 k
           have q1:=Lib.itoa_length_le _ hin.1 hin.2
           have pj:=z49 i1 i3 n1 n2 k j
           have eq2:zah (okL (zv6 g k++((zgv g m k).take j).map Lib.itoa))++((⟨#[32]⟩:ByteArray)++zah (Lib.itoa ((zgv g m k).getD j default)))=zah (okL (zv6 g k++((zgv g m k).take (j+1)).map Lib.itoa)):=by
            rw[zak _ j hjt,List.map_append,List.map_cons,List.map_nil,←List.append_assoc,zfv,show (⟨#[32]⟩:ByteArray)=zah [32]from rfl,zbe,zbe];rfl
           try refine xz7 zaf zaa e2 eS (gd hjt) zab zfp ?_
           refine caP (zmg _ hin) ?_
           try refine xz7 zaf zaa e2 eS (gd hjt) zab zfp ?_
           refine⟨j+1,by omega,by omega,To.mk [0,1,2,3] rfl rfl (by decide) ?_ ?_⟩
           ·(try(refine xz7 zaf zaa e2 eS (gd hjt) zab zfp ?_;try exact xtI))
           ·(try(refine xz1 eq2 ?_;try exact xtI))
          ·obtain rfl:j=(zgv g m k).length:=by omega
           have ep:zv6 g k++((zgv g m k).take (zgv g m k).length).map Lib.itoa=z9b g m (k+1):=by rw[List.take_length,z3h hk2]
           try refine xz5 zaf zaa e2 eS zfp ?_
           refine⟨k+1,by omega,by omega,To.mk [0,1,2,3] rfl rfl (by decide) ?_ ?_⟩
           ·(try(refine xz5 zaf zaa e2 eS zfp ?_;try exact xtI))
           ·(try(refine xz1 ep ?_;try exact xtI))
        ·obtain rfl:k=2:=by omega
         have tx0:=zym i1 i3 n1 n2 [] (by simp)
         have eq:zah (okL (z9b g m 2))++(⟨#[32,47]⟩:ByteArray)=zah (okL (ziy g m [])):=by
          rw[show (⟨#[32,47]⟩:ByteArray)=zah [32,47]from rfl,zbe]
          show zah (okL (g.map Lib.itoa ++ [[47]]++m.map Lib.itoa)++32 :: [47])=zah (okL (g.map Lib.itoa ++ [[47]]++m.map Lib.itoa ++ [[47]] ++ []))
          rw[List.append_nil,zfv]
         have pk1:(okL (z9b g m 2)).length≤10000:=by
          have h1:=congrArg ByteArray.size eq
          rw[ByteArray.size_append,zaa,zaa]at h1
          omega
         try refine xz4 zaf zaa e2 zfp ?_
         refine zay (fun k:Nat=>⟨[(231,I .i64 k),(230,I .i64 d.length),(229,.c (.sl 1 (d.map zf9))),(19,S (zah (okL (ziy g m (d.take k))))),(16,.ptr 1 0 0),(4,.ptr 0 0 0)],[(0,.blk 52 [I .i64 0,I .i64 0,.c (.v (.slice none 0 0)),.c (.v (.slice none 0 0)),.c (.v (.slice none 0 0)),.c (.v (.slice none 0 0)),.c (.v (.slice none 0 0)),I .i64 0,I .i64 0,.c (.v (.slice none 0 0))]),(1,.blk 32 (zhe W))],2⟩) (fun k:Nat=>k≤d.length) (fun k:Nat=>d.length-k) (0) (Nat.zero_le _) (To.mk [0,1] rfl rfl (by decide) ?_ ?_) ?_
         ·exact xS
         ·exact xS2 eq Qa0
         rintro k hk
         try refine xz4 zaf zaa e2 zfp ?_
         refine cI (fun h18=>?_) fun h18=>?_
         ·have hlt:k<d.length:=by omega
          have tx:=zym i1 i3 n1 n2 (d.take k) (by rw[List.length_take];omega)
          have sx:ziy g m (d.take (k+1))=ziy g m (d.take k) ++ [if d.getD k default then [121]else [110]]:=by
           unfold ziy;rw[zak d k hlt,List.map_append,List.map_cons,List.map_nil,←List.append_assoc]
          try refine xz6 zaf zaa e2 (gd hlt) zbg zfp ?_
          refine cI (fun h19=>?_) fun h19=>?_
          ·have eq3:zah (okL (ziy g m (d.take k)))++(⟨#[32,121]⟩:ByteArray)=zah (okL (ziy g m (d.take (k+1)))):=by
            rw[sx,h19,zfv,show (⟨#[32,121]⟩:ByteArray)=zah [32,121]from rfl,zbe];rfl
           try refine xz6 zaf zaa e2 (gd hlt) zbg zfp ?_
           refine⟨k+1,by omega,by omega,To.mk [0,1] rfl rfl (by decide) ?_ ?_⟩
           ·(try(refine xz6 zaf zaa e2 (gd hlt) zbg zfp ?_;try exact xtI))
           ·(try(refine xz1 eq3 ?_;try exact xtI))
          ·have h19:d.getD k default=false:=by simpa using h19
           have eq3:zah (okL (ziy g m (d.take k)))++(⟨#[32,110]⟩:ByteArray)=zah (okL (ziy g m (d.take (k+1)))):=by
            rw[sx,h19,zfv,show (⟨#[32,110]⟩:ByteArray)=zah [32,110]from rfl,zbe];rfl
           try refine xz6 zaf zaa e2 (gd hlt) zbg zfp ?_
           refine⟨k+1,by omega,by omega,To.mk [0,1] rfl rfl (by decide) ?_ ?_⟩
           ·(try(refine xz6 zaf zaa e2 (gd hlt) zbg zfp ?_;try exact xtI))
           ·(try(refine xz1 eq3 ?_;try exact xtI))
         ·obtain rfl:k=d.length:=by omega
          rw[List.take_length]
          try refine xz4 zaf zaa e2 zfp ?_
          exact zi1 rfl (Wk.tup ⟨Wk.agg ⟨Wk.refl _,Wk.refl _,Wk.refl _,Wk.refl _,Wk.refl _,Wk.refl _,Wk.refl _,Wk.refl _,Wk.refl _,Wk.nil _,trivial⟩,Wk.refl _,trivial⟩)
      ·have hask:wd=zhn∨wd=zi8∨wd=z86∨wd=znh∨wd=z8y:=by
        rcases zp1 wd with h|h|h|h|h|h|⟨h,hf,_⟩
        ·exact absurd h h5
        ·exact absurd h h7
        ·exact absurd h h9
        ·rw[e2]at h;exact absurd h (by simp)
        ·exact absurd h h12
        ·exact h
        ·rcases hlk with ⟨h0,_⟩|⟨_,h0,_⟩
         ·exact absurd h0 hf
         ·omega
       obtain⟨q,hq1,hq2,hq3⟩:=z0u w l ws hask
       have hg:=(zfi hq2 hq1).1 hlk
       have eN:zi3 wd ws=ws.map za8:=if_neg hq2
       obtain rfl:A=askV w l wd (zi3 wd ws):=by rw[←hA,hq3,zh0 hg,eN]
       have hv:=ya7 w l wd ws (zi3 wd ws) R hask (by rw[hq1,eN,List.length_map,hg.1])
       obtain⟨k1,k2⟩:=yce w l wd (zi3 wd ws)
       rw[k1,k2]
       try refine xz4 zaf zaa e2 zfp ?_
       refine caP (hv) ?_
       try refine xz4 zaf zaa e2 zfp ?_
       (try(refine⟨by kernel_rfl,?_⟩))
       try refine xz4 zaf zaa e2 zfp ?_
       exact zi1 rfl (Wk.refl _)
theorem z9t {P:Program} (w:World) (t u ty e:Nat) {i:TypeInfo} (ht:P.underlying t=some (.slice e)) (hu:P.underlying u=some .string) (hi:P.info? e=some i) (hz:i.zero=some (.int .u8 0)) (hsize:i.size=1) (hby:i.bytes=1)
 (v:Value) (n:Nat) (xs:List Value) (hown:w.ownsRow 0 e 1 v n xs) (s:ByteArray) (hbytes:n+s.size≤140737488355328) :
 ∃v' w',(Builtin.append_ #[t,u] ty #[v,.string s]).run P w = .ok v' w'∧w'.ownsRow 0 e 1 v' (n+s.size) (xs++Lib.strCells s)∧w.grownBy w' v.ownBlock ∧
  (v'.ownBlock=v.ownBlock∨∀q,v'.ownBlock=some q→w.heap.size≤q):=by
 obtain⟨v',w',hr,h2,h3,h4⟩:=Lib.run_append_own_string (P:=P) w 0 t u ty e i ht hu hi hz hsize hby v n xs hown s (by unfold maxLen;omega) hbytes (Nat.zero_le _)
 refine⟨v',w',hr,h2,h3,?_⟩
 rcases hown.2 with ⟨rfl,rfl⟩|⟨g,cap,cur,rfl,hbg,hg,hnc,hcm,hcs,htake⟩
 ·by_cases hm:s.size=0
  ·exact .inl (by rw[h4.2 ⟨rfl,hm⟩])
  ·have hr2:=run_append_nil_string (P:=P) w t u ty e i (.int .u8 0) ht hu hi hz s (by omega) (by omega) (by rw[hby];omega)
   rw[hr2]at hr
   cases hr
   exact .inr (fun q hq=>by simp[Value.ownBlock]at hq;omega)
 ·by_cases hroom:n+s.size≤cap
  ·have hr2:=Lib.run_append_room_string (P:=P) w t u ty e i ht hu hi hsize g n cap cur hg s hroom (by rw[hcs];omega)
   rw[hr2]at hr
   cases hr
   exact .inl rfl
  ·have holds:∀j u,xs[j]? = some u→w.cell? ((⟨g,0,none⟩:Addr).add j)=some u:=hown.cells (g:=g) rfl
   have hr2:=Lib.run_append_grow_string (P:=P) w t u ty e i (.int .u8 0) ht hu hi hz ⟨g,0,none⟩ n cap xs (by rw[hsize];simpa using hown.1) holds s (by omega) (by omega) (by rw[hby];exact growslice_fits (by omega) (by omega))
   rw[hr2]at hr
   cases hr
   exact .inr (fun q hq=>by simp[Value.ownBlock]at hq;omega)
theorem yds {P:Program} (w:World) {ops:Array Oper} {rest:List Oper} {o:Oper} {a:Act} {Q:Exit→Act→World→Prop} (hgd:o.guard=none) (sl x:Operand) (t u:TypeId)
 (ho:o.op = .call { callee := .builtin .append,args := #[sl,x],argTypes := #[t,u] })
 (e:TypeId) {i:TypeInfo} (ht:P.underlying t=some (.slice e)) (hu:P.underlying u=some .string) (hi:P.info? e=some i) (hz:i.zero=some (.int .u8 0))
 (hsize:i.size=1) (hby:i.bytes=1)
 (v:Value) (n:Nat) (xs:List Value) (hs:a.eval sl=v) (hown:w.ownsRow 0 e 1 v n xs) (s:ByteArray) (hx:a.eval x = .string s)
 (hbytes:n+s.size≤140737488355328)
 (h:∀v' w',w'.ownsRow 0 e 1 v' (n+s.size) (xs++Lib.strCells s)→w.grownBy w' v.ownBlock→(v'.ownBlock=v.ownBlock∨∀q,v'.ownBlock=some q→w.heap.size≤q)→wpList P ops Q rest (a.put o.dst v') w'):wpList P ops Q (o::rest) a w:=by
 refine wpList_plain hgd fun K hK=>?_
 obtain⟨v',w',hr,h2,h3,h4⟩:=z9t (P:=P) w t u o.type e ht hu hi hz hsize hby v n xs hown s hbytes
 unfold Oper.wp execOp
 simp only[ho,resolve,invoke,builtin,Sem.run_bind,Sem.run_pure,Result.andThen_ok,List.map_toArray,List.map_cons,List.map_nil,hs,hx,hr]
 exact hK _ _ (h v' w' h2 h3 h4)
theorem z8h:(Tryz.prog.info? 40).map (·.size)=some 2:=by kernel_rfl
theorem zpw (b:Nat) (w:World) (h0:w.cell? ⟨b,0,none⟩=some (.pointer (some ⟨b,0,none⟩))) :
 Calls Tryz.prog 15 #[.pointer (some ⟨b,0,none⟩)] w fun e w'=>e = .returned (.tuple #[])∧w'=w:=by
 obtain⟨j,hj,_⟩:=Option.map_eq_some_iff.1 z8h
 go_enter Tryz.func15,Tryz.ntmps15
 go_wp2
 rw[Lib.run_neq_ptr_same w _ Tryz.underlying37 hj]
 go_wp2
 go_end0
 exact⟨rfl,rfl⟩
theorem zpf (b:Nat) (w:World) (h0:w.cell? ⟨b,0,none⟩=some (.pointer none)) (hsh:w.shape? b=some (40,2)) (hfz:w.frozen? ⟨b,0,none⟩=false) :
 Calls Tryz.prog 15 #[.pointer (some ⟨b,0,none⟩)] w fun e w'=>e = .returned (.tuple #[])∧w'=w.setCell ⟨b,0,none⟩ (.pointer (some ⟨b,0,none⟩)):=by
 obtain⟨j,hj,hjs⟩:=Option.map_eq_some_iff.1 z8h
 go_enter Tryz.func15,Tryz.ntmps15
 go_wp2
 rw[Lib.run_to_unsafe w ⟨b,0,none⟩ Tryz.underlying37 Tryz.underlying102 hj (by rw[hjs];decide) hsh (Nat.zero_lt_succ 1)]
 simp only[Result.andThen]
 rw[Oper.upon_value]
 go_wp2
 rw[run_callFunc_extern Tryz.func41 (by kernel_rfl) (by kernel_rfl) (by kernel_rfl) (e:=Extern.AbiNoEscape.same) (by kernel_rfl)]
 rw[Lib.run_noEscape]
 simp only[Result.andThen]
 rw[Oper.upon_value]
 go_wp2
 rw[Lib.run_from_unsafe w ⟨b,0,none⟩ Tryz.underlying102 Tryz.underlying37 hj hsh (by kernel_rfl)]
 simp only[Result.andThen]
 rw[Oper.upon_value]
 go_wp2
 go_end0
 exact⟨rfl,rfl⟩
structure Only (b : Nat) (v : Value) (w w' : World) : Prop where
 os:w'.os=w.os
 tape:w'.tape=w.tape
 output:w'.output=w.output
 size:w.heap.size≤w'.heap.size
 blk:∀k,k<w.heap.size→k≠b→some k≠v.ownBlock→w'.heap[k]? = w.heap[k]?
theorem yhf (b:Nat) (p0 v:Value) (w:World) (hp0:p0 = .pointer none∨p0 = .pointer (some ⟨b,0,none⟩)) (hbk:w.heap[b]? = some (.cells #[p0,v] 40 (0,0))) :
 Calls Tryz.prog 15 #[.pointer (some ⟨b,0,none⟩)] w fun e w'=>e = .returned (.tuple #[])∧w'.heap[b]? = some (.cells #[.pointer (some ⟨b,0,none⟩),v] 40 (0,0))∧w'.heap.size=w.heap.size∧Only b (.slice none 0 0) w w':=by
 rcases hp0 with rfl|rfl
 ·refine(zpf b w (by rw[Lib.cell_of_heap hbk];rfl) (by simp[World.shape?,hbk]) (Lib.frozen_of_heap hbk 0)).mono ?_
  rintro e w' ⟨rfl,rfl⟩
  exact⟨rfl,heap_setCell_same w b 0 _ _ _ hbk,by simp[World.setCell],⟨rfl,rfl,rfl,by simp[World.setCell],fun k _ hk _=>heap_setCell_other w ⟨b,0,none⟩ k _ hk⟩⟩
 ·refine(zpw b w (by rw[Lib.cell_of_heap hbk];rfl)).mono ?_
  rintro e w' ⟨rfl,rfl⟩
  exact⟨rfl,hbk,rfl,⟨rfl,rfl,rfl,Nat.le_refl _,fun _ _ _ _=>rfl⟩⟩
theorem yhe (b:Nat) (p0 v:Value) (n:Nat) (cells:List Value) (s:ByteArray) (w:World) (hp0:p0 = .pointer none∨p0 = .pointer (some ⟨b,0,none⟩)) (hbk:w.heap[b]? = some (.cells #[p0,v] 40 (0,0)))
 (hown:w.ownsRow 0 5 1 v n cells) (hlen:n+s.size≤140737488355328) :
 Calls Tryz.prog 8 #[.pointer (some ⟨b,0,none⟩),.string s] w fun e w'=>e = .returned (.tuple #[.int .i64 s.size,.nilIface])∧∃v',w'.heap[b]? = some (.cells #[.pointer (some ⟨b,0,none⟩),v'] 40 (0,0))∧w'.ownsRow 0 5 1 v' (n+s.size) (cells++Lib.strCells s) ∧
  (v'.ownBlock=v.ownBlock∨∀q,v'.ownBlock=some q→w.heap.size≤q)∧Only b v w w':=by
 obtain⟨i0,hi,hz0,hz1,hz2⟩:=info_parts (show (Tryz.prog.info? 5).map (fun i=>(i.zero,i.size,i.bytes))=some (some (.int .u8 0),1,1)by kernel_rfl)
 have hne:=Lib.ownBlock_ne hown hbk (by decide)
 go_enter Tryz.func8,Tryz.ntmps8
 go_wp2_with (go_at_call 15;refine(yhf b p0 v _ hp0 hbk).mono ?_)
 rintro e w1 ⟨rfl,hbk1,hsz1,O1⟩
 have hown1:w1.ownsRow 0 5 1 v n cells:=by
  refine⟨hown.1,?_⟩
  rcases hown.2 with h|⟨g,cap,cur,h1,h2,h3,h4⟩
  ·exact .inl h
  ·refine .inr ⟨g,cap,cur,h1,h2,(O1.blk g ?_ ?_ (by simp[Value.ownBlock])).trans h3,h4⟩
   ·exact(Array.getElem?_eq_some_iff.1 h3).1
   ·rintro rfl
    exact hne (by rw[h1];rfl)
 have hlt:b<w1.heap.size:=(Array.getElem?_eq_some_iff.1 hbk1).1
 have c0:w1.cell? ⟨b,0,none⟩=some (.pointer (some ⟨b,0,none⟩)):=by rw[Lib.cell_of_heap hbk1];rfl
 have c1:w1.cell? ⟨b,1,none⟩=some v:=by rw[Lib.cell_of_heap hbk1];rfl
 go_wp2_with (at_builtin;refine yds _ rfl _ _ 38 9 rfl 5 Tryz.underlying38 Tryz.underlying9 hi hz0 hz1 hz2 v n cells rfl hown1 s rfl hlen ?_)
 intro v' w2 hown' hgrow hob
 have hb2:w2.heap[b]? = some (.cells #[.pointer (some ⟨b,0,none⟩),v] 40 (0,0)):=by
  rw[hgrow.block b hlt (fun e=>hne e.symm)]
  exact hbk1
 have hne2:=Lib.ownBlock_ne hown' hb2 (by decide)
 have d0:w2.cell? ⟨b,0,none⟩=some (.pointer (some ⟨b,0,none⟩)):=by rw[Lib.cell_of_heap hb2];rfl
 have d1:w2.cell? ⟨b,1,none⟩=some v:=by rw[Lib.cell_of_heap hb2];rfl
 have f1:w2.frozen? ⟨b,1,none⟩=false:=Lib.frozen_of_heap hb2 1
 obtain⟨ao,n',cap,rfl⟩:∃ao n' cap,v' = .slice ao n' cap:=by
  rcases hown'.2 with ⟨hv,_⟩|⟨g,cap,cur,hv,_⟩
  ·exact⟨_,_,_,hv⟩
  ·exact⟨_,_,_,hv⟩
 go_wp2
 go_ret2
 refine⟨rfl,_,heap_setCell_same w2 b 1 _ _ _ hb2,?_,?_,⟨hgrow.os.trans O1.os,hgrow.tape.trans O1.tape,hgrow.output.trans O1.output,?_,?_⟩⟩
 ·exact hown'.kept (row:=some b) ⟨rfl,rfl,rfl,by simp[World.setCell],fun k _ hk=>Below.heap_setCell _ _ _ _ (fun e=>hk (by simp[e]))⟩ (Or.inr hne2)
 ·exact hob
 ·simp only[World.setCell,Array.size_modify]
  have:=hgrow.size
  omega
 ·intro k hk hkb hkv
  rw[heap_setCell_other w2 ⟨b,1,none⟩ k _ hkb,hgrow.block k (by omega) hkv]
  exact O1.blk k hk hkb (by simp[Value.ownBlock])
theorem zm9 (b:Nat) (p v:Value) (q a:Option Addr) (n c:Nat) (s:ByteArray) (w w1 w2:World) (hv:v = .slice a n c) (hbk:w.heap[b]? = some (.cells #[p,v] 40 (0,0)))
 (hSD:(Builtin.unsafeSliceData_ #[38] 65 #[.slice a n c]).run Tryz.prog w.drew = .ok (.pointer q) w1) (h1:w1.heap[b]? = w.heap[b]?)
 (hUS:(Builtin.unsafeString_ #[65,3] 9 #[.pointer q,.int .i64 n]).run Tryz.prog w1 = .ok (.string s) w2) :
 Calls Tryz.prog 10 #[.pointer (some ⟨b,0,none⟩)] w fun e w'=>e = .returned (.string s)∧w'=w2:=by
 subst hv
 have c0:w.cell? ⟨b,1,none⟩=some (.slice a n c):=by rw[Lib.cell_of_heap hbk];rfl
 have c1:w.drew.cell? ⟨b,1,none⟩=some (.slice a n c):=c0
 have c2:w1.cell? ⟨b,1,none⟩=some (.slice a n c):=by rw[Lib.cell_of_heap (h1.trans hbk)];rfl
 go_enter Tryz.func10,Tryz.ntmps10
 go_wp2
 go_region
 all_goals(go_wp2;go_ret;exact⟨rfl,rfl⟩)
theorem yhd (b:Nat) (p v:Value) (l:List UInt8) (w:World) (hbk:w.heap[b]? = some (.cells #[p,v] 40 (0,0))) (hown:w.ownsRow 0 5 1 v l.length (Lib.byteCells l)) :
 Calls Tryz.prog 10 #[.pointer (some ⟨b,0,none⟩)] w fun e w'=>e = .returned (.string ⟨l.toArray⟩)∧Only b v w w':=by
 have hlt:b<w.heap.size:=(Array.getElem?_eq_some_iff.1 hbk).1
 have O:Only b v w w.drew:=⟨rfl,rfl,rfl,Nat.le_refl _,fun _ _ _ _=>rfl⟩
 rcases hown.2 with ⟨hv,h0⟩|⟨g,cap,cur,hv,_,hg,hnc,hcm,hcs,htake⟩
 ·have hl:l = []:=List.eq_nil_of_length_eq_zero h0
  subst hl
  refine(zm9 b p v none none 0 0 .empty w w.drew w.drew hv hbk rfl rfl (Lib.run_unsafeString_none w.drew _ _ _ none)).mono ?_
  rintro e w' ⟨rfl,rfl⟩
  exact⟨rfl,O⟩
 ·by_cases hl:l = []
  ·subst hl
   by_cases hc0:cap=0
   ·subst hc0
    refine(zm9 b p v (some ⟨w.drew.heap.size,0,none⟩) _ 0 0 .empty w (w.drew.alloc (.view ⟨g,0,none⟩ 5)) _ hv hbk
     (Lib.run_unsafeSliceData_zero w.drew _ _ 5 Tryz.underlying65 ⟨g,0,none⟩ 0 (5,cur.size) (by have hg':w.drew.heap[g]? = some (.cells cur 5 (0,0)):=hg;simp[World.shape?,hg']))
     (Lib.alloc_old w.drew _ b hlt) (Lib.run_unsafeString_none _ _ _ _ _)).mono ?_
    rintro e w' ⟨rfl,rfl⟩
    exact⟨rfl,⟨rfl,rfl,rfl,by simp,fun k hk _ _=>Lib.alloc_old w.drew _ k hk⟩⟩
   ·refine(zm9 b p v (some ⟨g,0,none⟩) _ 0 cap .empty w w.drew w.drew hv hbk (Lib.run_unsafeSliceData_row _ _ _ _ _ _ hc0) rfl (Lib.run_unsafeString_none _ _ _ _ _)).mono ?_
    rintro e w' ⟨rfl,rfl⟩
    exact⟨rfl,O⟩
  ·have hl0:l.length≠0:=by simpa using hl
   refine(zm9 b p v (some ⟨g,0,none⟩) _ l.length cap ⟨l.toArray⟩ w w.drew (w.drew.freeze ⟨g,0,none⟩ l.length) hv hbk (Lib.run_unsafeSliceData_row _ _ _ _ _ _ (by omega)) rfl
    (Lib.run_unsafeString_row w.drew 65 3 9 5 Tryz.underlying65 (by kernel_rfl) g cur.size (by have hg':w.drew.heap[g]? = some (.cells cur 5 (0,0)):=hg;simp[World.shape?,hg']) l hl (by omega) (by unfold maxLen at hcm;omega) fun j x hx=>?_)).mono ?_
   ·exact hown.cells (g:=g) (by rw[hv];rfl) j (.int .u8 x.toNat) (by simp[Lib.byteCells,hx])
   ·rintro e w' ⟨rfl,rfl⟩
    refine⟨rfl,?_⟩
    unfold World.freeze
    rw[if_neg hl0]
    refine⟨rfl,rfl,rfl,by simp,fun k hk _ hkv=>?_⟩
    simp only[Array.getElem?_modify]
    rw[if_neg (by rintro rfl;exact hkv (by rw[hv];rfl))]
    rfl
theorem z4o {U:Nat→Prop} {w:World} {F:Nat→Prop} {β : Nat→Option Bind} {bd:Bind} {e:TypeId} {l:List UInt8} (k:ChOk U w F β bd (.row e 1 (l.map bP))):w.ownsRow 0 e 1 bd.v l.length (Lib.byteCells l)∧bd.v.ownBlock=bd.b:=by
 obtain⟨_,_,_,h⟩:=k
 rcases h with ⟨h1,h2,h3⟩|⟨g,cap,cur,h1,h2,h3,h4,h5,h6,hE⟩
 ·obtain rfl:l = []:=by simpa using h2
  rw[h3,h1]
  exact⟨World.ownsRow_nil w 0 e 1,rfl⟩
 ·rw[List.length_map]at h2 h4
  rw[h2,h1]
  refine⟨⟨by simp[Lib.byteCells],.inr ⟨g,cap,cur,rfl,Nat.zero_le _,h3,h4,h5,h6,?_⟩⟩,rfl⟩
  apply List.ext_getElem?
  intro j
  rw[Nat.mul_one,List.getElem?_take]
  by_cases hj:j<l.length
  ·rw[if_pos hj]
   have hx:(l.map bP)[j]? = some (bP l[j]):=by simp[hj]
   obtain⟨_,hC⟩:=hE.at j _ hx
   obtain⟨u,hu,hr⟩:=hC.at 0 (.v (.int .u8 (l[j].toNat:Nat))) rfl
   simp only[RelP]at hr
   obtain⟨rfl,_⟩:=hr
   simp only[World.cell?,h3,Nat.zero_add,Nat.mul_one,Nat.add_zero,Option.isSome_none,Bool.false_eq_true,if_false]at hu
   simp[Lib.byteCells,hu,hj]
  ·rw[if_neg hj]
   simp[Lib.byteCells,hj]
theorem ye3 {U:Nat→Prop} {w:World} {F:Nat→Prop} {β : Nat→Option Bind} {v:Value} {e:TypeId} {l:List UInt8} (h:w.ownsRow 0 e 1 v l.length (Lib.byteCells l)):ChOk U w F β ⟨v,v.ownBlock,l.length,1,[]⟩ (.row e 1 (l.map bP)):=by
 refine⟨⟨rfl,rfl⟩,by simp,fun cs hc=>?_,?_⟩
 ·obtain⟨x,_,rfl⟩:=List.mem_map.1 hc
  rfl
 ·rcases h.2 with ⟨hv,h0⟩|⟨g,cap,cur,hv,_,hg,hnc,hcm,hcs,htake⟩
  ·refine .inl ⟨by rw[hv];rfl,?_,hv⟩
   rw[List.eq_nil_of_length_eq_zero h0];rfl
  ·refine .inr ⟨g,cap,cur,by rw[hv];rfl,by rw[hv,List.length_map],hg,by simpa using hnc,hcm,hcs,RelE.of fun i cs hi=>?_⟩
   rw[List.getElem?_map]at hi
   obtain⟨q,hq,rfl⟩:=Option.map_eq_some_iff.1 hi
   refine⟨rfl,RelC.of fun j x hx=>?_⟩
   cases j with
   | zero =>
    have hx:some (PV.v (.int .u8 (q.toNat:Nat)))=some x:=hx
    cases hx
    have:=h.cells (g:=g) (by rw[hv];rfl) i (.int .u8 q.toNat) (by simp[Lib.byteCells,hq])
    rw[Addr.add_lit]at this
    refine⟨_,by rw[Nat.mul_one,Nat.add_zero];exact this,?_⟩
    simp only[RelP]
    exact⟨trivial,rfl⟩
   | succ j=>simp[bP]at hx
theorem zmy (hs:List Chunk) {i:Nat} (h:hs.length≤i):nth hs i = .dead:=by
 unfold nth
 rw[List.getD_eq_getElem?_getD,List.getElem?_eq_none h];rfl
theorem yj8 (c0:AV) (hc0:c0 = .c (.v (.pointer none))∨c0 = .ptr 0 0 0) (l:List UInt8) (s:ByteArray) (hlen:l.length+s.size≤140737488355328) :
 Spec Tryz.prog 8 [.ptr 0 0 0,S s] [.blk 40 [c0,.own 1],.row 5 1 (l.map bP)] (.tup [I .i64 s.size,.c (.v .nilIface)])
  [.blk 40 [.ptr 0 0 0,.own 2],.dead,.row 5 1 ((l++s.data.toList).map bP)]:=by
 refine⟨zdi rfl rfl rfl,Nat.le_of_ble_eq_true rfl,fun w F β vs M hv=>?_⟩
 simp only[RelL]at hv
 obtain⟨u0,_,rfl,r0,u1,_,rfl,r1,rfl⟩:=hv
 obtain⟨bd0,hb0,k0⟩:=M.ch 0 (by simp[nth])
 obtain⟨bd1,hb1,k1⟩:=M.ch 1 (by simp[nth])
 have k0:ChOk (· < 2) w F β bd0 (.blk 40 [c0,.own 1]):=k0
 have k1:ChOk (· < 2) w F β bd1 (.row 5 1 (l.map bP)):=k1
 obtain⟨hown,hob1⟩:=z4o k1
 obtain⟨⟨q1,q2⟩,q3,b,vs,q4,q5,q6,q7,q8⟩:=k0
 simp only[RelA]at r0
 obtain⟨b',hb',rfl⟩:=r0.2.2 bd0 hb0
 rw[q4]at hb';cases hb'
 cases relS.1 r1
 simp only[RelL]at q7
 obtain⟨p0,_,e7,r2,v,_,rfl,r3,rfl⟩:=q7
 have hp0:p0 = .pointer none∨p0 = .pointer (some ⟨b,0,none⟩):=by
  rcases hc0 with rfl|rfl
  ·exact .inl (relC.1 r2).1
  ·simp only[RelA]at r2
   obtain⟨b',hb',rfl⟩:=r2.2.2 bd0 hb0
   rw[q4]at hb';cases hb'
   exact .inr (by simp)
 simp only[RelA]at r3
 have hv1:=r3.2.2 bd1 hb1
 subst hv1
 have hvs:vs = #[p0,bd1.v]:=by rw[←Array.toList_inj,e7]
 subst hvs
 have e00:(⟨b,0*bd0.sz+0,none⟩:Addr)=⟨b,0,none⟩:=by simp
 rw[e00]
 refine(yhe b p0 bd1.v l.length (Lib.byteCells l) s w hp0 q6 hown hlen).mono ?_
 rintro e w' ⟨rfl,v',hbk',hown',hob,O⟩
 rw[Lib.strCells_eq,←Lib.byteCells_append]at hown'
 have hll:(l++s.data.toList).length=l.length+s.size:=by
  rw[List.length_append,Array.length_toList];rfl
 rw[←hll]at hown'
 have hne':=Lib.ownBlock_ne hown' hbk' (by decide)
 have hb0lt:=(M.off 0 bd0 b hb0 (.inl q4)).2.1
 have hvlt:∀q,v'.ownBlock=some q→q<w'.heap.size∧(w.heap.size≤q∨bd1.b=some q):=by
  intro q hq
  refine⟨(hown'.lt q hq).2,?_⟩
  rcases hob with h|h
  ·exact .inr (by rw[←hob1,←h];exact hq)
  ·exact .inl (h q hq)
 obtain⟨S1,S2⟩:=M.step (w':=w') (h':=nth [.blk 40 [.ptr 0 0 0,.own 2],.dead,.row 5 1 ((l++s.data.toList).map bP)]) (β':=fun i=>if i=0 then some bd0 else if i=1 then none else if i=2 then some ⟨v',v'.ownBlock,(l++s.data.toList).length,1,[]⟩else β i) (F':=F) (U':=(· < 3)) (· < 3)
  (fun i hi=>by
   have h0:i≠0:=by omega
   have h1:i≠1:=by omega
   have h2:i≠2:=by omega
   simp[h0,h1,h2])
  (fun i hi=>by rw[zmy _ (by simp only[List.length_cons,List.length_nil];omega),zmy _ (by simp only[List.length_cons,List.length_nil];omega)]) O.os O.tape O.output O.size
  (fun k hk hn=>O.blk k hk (fun hkb=>hn 0 bd0 (by omega) hb0 (.inl (by rw[q4,hkb]))) fun hkv=>hn 1 bd1 (by omega) hb1 (.inl (by rw[←hob1,←hkv])))
  (fun i hi=>Nat.lt_of_lt_of_le hi (show 2≤3 by decide)) (fun _ h=>h) (fun k hk=>⟨Nat.lt_of_lt_of_le (M.fin k hk) O.size,.inl hk⟩)
  (fun i bd hi hu hb=>by
   have hi:i<3:=hi
   match i,hi with
   | 0,_ =>
    simp only[if_true,oI]at hb
    subst hb
    exact⟨bd0.bs,hb0⟩
   | 1,_=>simp at hb
   | 2,_=>exact absurd (show 2<2 from hu) (by decide))
  (fun i bd hi hb=>by
   have hi:i<3:=hi
   match i,hi with
   | 0,_ =>
    simp only[if_true,oI]at hb
    subst hb
    refine⟨by decide,fun k hk=>?_⟩
    obtain⟨h1,h2,h3⟩:=M.off 0 bd0 k hb0 hk
    exact⟨Nat.lt_of_lt_of_le h2 O.size,h1,.inr ⟨0,bd0,by decide,hb0,hk⟩⟩
   | 1,_=>simp at hb
   | 2,_ =>
    have hb:some (⟨v',v'.ownBlock,(l++s.data.toList).length,1,[]⟩:Bind)=some bd:=hb
    cases hb
    refine⟨by decide,fun k hk=>?_⟩
    obtain⟨h1,h2⟩:=hvlt k (Bind.has_nil hk)
    refine⟨h1,?_,?_⟩
    ·rcases h2 with h2|h2
     ·intro hf;have:=M.fin k hf;omega
     ·exact(M.off 1 bd1 k hb1 (.inl h2)).1
    ·rcases h2 with h2|h2
     ·exact .inl h2
     ·exact .inr ⟨1,bd1,by decide,hb1,.inl h2⟩)
  (fun i j bi bj k hi hj hbi hbj hk1 hk2=>by
   have hi:i<3:=hi
   have hj:j<3:=hj
   have key:∀k,bd0.has k→(⟨v',v'.ownBlock,(l++s.data.toList).length,1,[]⟩:Bind).has k→False:=by
    intro k h1 h2
    rcases h1 with h1|h1
    ·rw[q4]at h1;cases h1
     exact hne' (Bind.has_nil h2)
    ·rw[q2]at h1;cases h1
   rcases (show i=0∨i=1∨i=2 by omega)with rfl|rfl|rfl<;>rcases (show j=0∨j=1∨j=2 by omega)with rfl|rfl|rfl
   ·rfl
   ·simp at hbj
   ·have hbi:some bd0=some bi:=hbi
    have hbj:some (⟨v',v'.ownBlock,(l++s.data.toList).length,1,[]⟩:Bind)=some bj:=hbj
    cases hbi;cases hbj
    exact(key k hk1 hk2).elim
   ·simp at hbi
   ·rfl
   ·simp at hbi
   ·have hbi:some (⟨v',v'.ownBlock,(l++s.data.toList).length,1,[]⟩:Bind)=some bi:=hbi
    have hbj:some bd0=some bj:=hbj
    cases hbi;cases hbj
    exact(key k hk2 hk1).elim
   ·simp at hbj
   ·rfl)
  (fun E i hi hd=>by
   have hi:i<3:=hi
   match i,hi with
   | 0,_ =>
    refine⟨bd0,rfl,⟨q1,q2⟩,q3,b,_,q4,q5,hbk',?_,?_⟩
    ·simp only[RelL,RelA]
     refine⟨_,_,rfl,⟨by decide,rfl,fun bd hb=>?_⟩,_,_,rfl,⟨by decide,?_,fun bd hb=>?_⟩,rfl⟩
     ·have hb:some bd0=some bd:=hb
      cases hb
      exact⟨b,q4,by rw[e00]⟩
     ·rcases hown'.2 with ⟨hv0,_⟩|⟨g,cap,cur,hv0,_⟩<;>rw[hv0]<;>rfl
     ·have hb:some (⟨v',v'.ownBlock,(l++s.data.toList).length,1,[]⟩:Bind)=some bd:=hb
      cases hb
      rfl
    ·intro x hx
     simp only[List.mem_cons,List.not_mem_nil,or_false]at hx
     rcases hx with rfl|rfl
     ·rfl
     ·rcases hown'.2 with ⟨hv0,_⟩|⟨g,cap,cur,hv0,_⟩<;>rw[hv0]<;>rfl
   | 1,_=>exact absurd rfl hd
   | 2,_=>exact⟨_,rfl,ye3 hown'⟩)
 refine⟨_,F,_,rfl,S1,?_,fun _ h=>h,fun _ h => .inl h,fun i bd hi hb=>?_⟩
 ·simp only[RelA,RelL]
  exact⟨_,rfl,_,_,rfl,⟨rfl,rfl⟩,_,_,rfl,⟨rfl,rfl⟩,rfl⟩
 ·have hi:i<2:=hi
  match i,hi with
  | 0,_ =>
   have hb:some bd0=some bd:=hb
   cases hb
   exact⟨bd0.bs,hb0⟩
  | 1,_=>simp at hb
theorem yj7 (c0:AV) (l:List UInt8) :
 Spec Tryz.prog 10 [.ptr 0 0 0] [.blk 40 [c0,.own 1],.row 5 1 (l.map bP)] (S ⟨l.toArray⟩) [.dead,.dead]:=by
 refine⟨zdi rfl rfl rfl,Nat.le_of_ble_eq_true rfl,fun w F β vs M hv=>?_⟩
 simp only[RelL]at hv
 obtain⟨u0,_,rfl,r0,rfl⟩:=hv
 obtain⟨bd0,hb0,k0⟩:=M.ch 0 (by simp[nth])
 obtain⟨bd1,hb1,k1⟩:=M.ch 1 (by simp[nth])
 have k0:ChOk (· < 2) w F β bd0 (.blk 40 [c0,.own 1]):=k0
 have k1:ChOk (· < 2) w F β bd1 (.row 5 1 (l.map bP)):=k1
 obtain⟨hown,hob1⟩:=z4o k1
 obtain⟨⟨q1,q2⟩,q3,b,vs,q4,q5,q6,q7,q8⟩:=k0
 simp only[RelA]at r0
 obtain⟨b',hb',rfl⟩:=r0.2.2 bd0 hb0
 rw[q4]at hb';cases hb'
 simp only[RelL]at q7
 obtain⟨p0,_,e7,r2,v,_,rfl,r3,rfl⟩:=q7
 simp only[RelA]at r3
 have hv1:=r3.2.2 bd1 hb1
 subst hv1
 have hvs:vs = #[p0,bd1.v]:=by rw[←Array.toList_inj,e7]
 subst hvs
 have e00:(⟨b,0*bd0.sz+0,none⟩:Addr)=⟨b,0,none⟩:=by simp
 rw[e00]
 refine(yhd b p0 bd1.v l w q6 hown).mono ?_
 rintro e w' ⟨rfl,O⟩
 obtain⟨S1,S2⟩:=M.step (w':=w') (h':=nth [.dead,.dead]) (β':=fun i=>if i<2 then none else β i) (F':=F) (U':=(· < 2)) (· < 2)
  (fun i hi=>by rw[if_neg hi])
  (fun i hi=>by rw[zmy _ (by simp only[List.length_cons,List.length_nil];omega),zmy _ (by simp only[List.length_cons,List.length_nil];omega)]) O.os O.tape O.output O.size
  (fun k hk hn=>O.blk k hk (fun hkb=>hn 0 bd0 (by omega) hb0 (.inl (by rw[q4,hkb]))) fun hkv=>hn 1 bd1 (by omega) hb1 (.inl (by rw[←hob1,←hkv])))
  (fun i hi=>hi) (fun _ h=>h) (fun k hk=>⟨Nat.lt_of_lt_of_le (M.fin k hk) O.size,.inl hk⟩)
  (fun i bd hi hu hb=>by
   have hi:i<2:=hi
   rw[if_pos hi]at hb;cases hb)
  (fun i bd hi hb=>by
   have hi:i<2:=hi
   rw[if_pos hi]at hb;cases hb)
  (fun i j bi bj k hi hj hbi hbj _ _=>by
   have hi:i<2:=hi
   rw[if_pos hi]at hbi;cases hbi)
  (fun E i hi hd=>by
   have hi:i<2:=hi
   match i,hi with
   | 0,_=>exact absurd rfl hd
   | 1,_=>exact absurd rfl hd)
 refine⟨_,F,_,rfl,S1,relS.2 rfl,fun _ h=>h,fun _ h => .inl h,fun i bd hi hb=>?_⟩
 have hi:i<2:=hi
 have hb:(if i<2 then none else β i)=some bd:=hb
 rw[if_pos hi]at hb;cases hb
theorem ybn (f:Fld) (hl:f.p.length≤10000):Spec Tryz.prog 7 [.ptr 0 0 0,.agg [I .i64 f.w,I .i64 f.h,.own 1]] [.blk 35 [I .i64 0,I .i64 0,.c (.v (.slice none 0 0)),.c (.v (.slice none 0 0)),.c (.v (.slice none 0 0)),.c (.v (.slice none 0 0)),.c (.v (.slice none 0 0)),I .i64 0,I .i64 0,.c (.v (.slice none 0 0))],.row 3 1 (f.p.map zao)] (.tup []) [za9 (zmh f) 2,.dead,zbc []]:=by
 refine spB Tryz.func7 36 [] Tryz.results7 ?_
 try refine xst ?_
 (try(refine⟨by kernel_rfl,?_⟩))
 try refine xst ?_
 refine zay (fun k:Nat=>⟨[(21,I .i64 k),(20,I .i64 f.p.length),(19,.c (.sl 1 (f.p.map zao))),(3,.ptr 2 0 0),(0,.ptr 0 0 0)],[(0,.blk 35 [I .i64 f.w,I .i64 f.h,.c (.sl 1 (f.p.map zao)),.c (.v (.slice none 0 0)),.c (.v (.slice none 0 0)),.own 3,.c (.v (.slice none 0 0)),I .i64 1,I .i64 0,.c (.v (.slice none 0 0))]),(1,.dead),(2,.blk 28 [I .i64 f.w,I .i64 f.h,.c (.sl 1 (f.p.map zao))]),(3,.row 3 1 ((zd5 f k).map zao))],4⟩) (fun k:Nat=>k≤f.p.length) (fun k:Nat=>f.p.length-k) (0) (Nat.zero_le _) ((To.frzB [1]).trans (To.mk [0,1,2,23] rfl rfl (by decide) ?_ ?_)) ?_
 ·simp(etaStruct := .none)only[push_cast,zad,seval]
  simp[zd5,zao]
 ·exact xS
 rintro k hk
 try refine xst ?_
 refine cI (fun h1=>?_) fun h1=>?_
 ·have hlt:k<f.p.length:=by omega
  have ml:=zqo f k hk
  have ms:=zoq f k hlt
  try refine xz3 (gd hlt) zab ml ?_
  refine cI (fun h2=>?_) fun h2=>?_
  ·have m1:((zd5 f k).map zao).set k [.v (.int .i64 10)]=(zd5 f (k+1)).map zao:=by rw[ms,if_pos h2,List.map_set];rfl
   try refine xz3 (gd hlt) zab ml ?_
   refine⟨k+1,by omega,by omega,To.mk [0,1,2,3] rfl rfl (by decide) ?_ ?_⟩
   ·(try(refine xz1 m1 ?_;try exact xtI))
   ·(try(refine xz3 (gd hlt) zab ml ?_;try exact xtI))
  ·have m2:=congrArg (List.map zao) (zux f k hlt h2)
   try refine xz3 (gd hlt) zab ml ?_
   refine⟨k+1,by omega,by omega,To.mk [0,1,2,3] rfl rfl (by decide) ?_ ?_⟩
   ·(try(refine xz1 m2 ?_;try exact xtI))
   ·(try(refine xz3 (gd hlt) zab ml ?_;try exact xtI))
 ·obtain rfl:k=f.p.length:=by omega
  have me:=zqp f
  try refine xst ?_
  refine zjn (To.nilC 0 9 74 6 35 _ rfl rfl) (zb9 [0,1,4] rfl rfl (by decide) ⟨?_,trivial,?_,trivial⟩ trivial ?_)
  ·simp(etaStruct := .none)only[push_cast,zad,seval,List.set_cons_succ,List.set_cons_zero,me]
   exact⟨Wk.refl _,Wk.refl _,Wk.refl _,Wk.nil _,Wk.nil _,Wk.refl _,Wk.nil _,Wk.refl _,Wk.refl _⟩
  ·exact xS
  ·exact xS
def ydo (i:Nat) (b:Bool):AV:=if b then .ptr i 0 0 else .c (.v (.pointer none))
theorem zcv (i:Nat) (b:Bool):ydo i b=(if b then .ptr i 0 0 else .c (.v (.pointer none)):AV):=rfl
def yjx:List UInt8 := [101,114,114,111,114,32,50,10]
def fwK (l:List UInt8) (j:Nat):List (List UInt8):=((za2 32 l).take j).filter fun x=>decide (x ≠ [])
theorem ynl (l:List UInt8):fwK l 0 = []:=rfl
theorem ygp (l:List UInt8):fwK l (za2 32 l).length=zde l:=by unfold fwK zde;rw[List.take_length]
theorem ybm (l:List UInt8) (j:Nat) (h:j<(za2 32 l).length):fwK l (j+1)=if (za2 32 l).getD j default = []then fwK l j else fwK l j ++ [(za2 32 l).getD j default]:=by
 unfold fwK
 rw[zak _ j h,List.filter_append]
 by_cases e:(za2 32 l).getD j default = []
 ·rw[if_pos e,e];simp
 ·rw[if_neg e,List.filter_cons_of_pos (by simpa using e),List.filter_nil]
theorem zib (l:List UInt8):zah l=(⟨#[]⟩:ByteArray)↔l = []:=by
 constructor
 ·intro h
  have:=congrArg ByteArray.size h
  rw[zaa]at this
  exact List.eq_nil_of_length_eq_zero this
 ·rintro rfl;rfl
theorem yft {α : Type} (L:List α) (d : α):L.getLastD d=L.getD (L.length-1) d:=by rw[List.getLastD_eq_getLast?,List.getLast?_eq_getElem?,List.getD_eq_getElem?_getD]
theorem ycu (xs:List (List UInt8)) (k:Nat) (h:k<xs.length):((xs.map zah).map zge).getD k [] = [.v (.string (zah (xs.getD k default)))]:=by
 rw[List.getD_eq_getElem?_getD,List.getElem?_map,List.getElem?_map,List.getD_eq_getElem?_getD,List.getElem?_eq_getElem h];rfl
theorem ypx (a b:ByteArray):(a++b).size=a.size+b.size:=ByteArray.size_append
theorem yh5 (c:UInt8):((c.toNat:Nat):Int)=35↔c=35:=by
 constructor
 ·intro e
  have:c.toNat=35:=by omega
  exact UInt8.toNat_inj.1 this
 ·rintro rfl;rfl
theorem ygo (l:List UInt8) (j:Nat):(fwK l j).length≤l.length+1:=by
 unfold fwK
 have h1:=List.length_filter_le (fun x:List UInt8=>decide (x ≠ [])) ((za2 32 l).take j)
 have h2:=zdo 32 l
 have h3:l.count 32≤l.length:=List.count_le_length
 rw[List.length_take]at h1
 omega
open Classical in
noncomputable def runT (t:List UInt8):List UInt8:=if 65536<t.length∨300<(zbr t).length then yjx else (runL (zbr t)).o
theorem ymr (t:List UInt8) (ht:t.length≤1048576):Spec Tryz.prog 4 [S (zah t)] [] (S (zah (runT t))) []:=by
 have tl:=zaa t
 have C1:=zyu 10 (zah t) (by rw[tl];exact ht)
 rw[zbo]at C1
 have hS:=zh2 t
 have hSl:=zdo 10 t
 have hcnt:t.count 10≤t.length:=List.count_le_length
 have hLm:=zqu (t:=t)
 generalize hO:runT t=O
 generalize za2 10 t=L at *
 have hLl:0<L.length:=by omega
 have tn:((L.length:Int)-1).toNat=L.length-1:=by omega
 have eL:((L.map zah).map zge).getD (L.length-1) [] = [.v (.string (zah (L.getLastD [])))]:=by
  rw[yft,List.getD_eq_getElem?_getD,List.getElem?_map,List.getElem?_map,List.getD_eq_getElem?_getD,List.getElem?_eq_getElem (by omega:L.length-1<L.length)];rfl
 refine spB Tryz.func4 72 [.tmp 2] Tryz.results4 ?_
 try refine xz3 tl tn eL ?_
 refine caP (C1) ?_
 try refine xz3 tl tn eL ?_
 refine zf1 (fun _u:Unit=>⟨[(3,.c (.sl 1 (((zbr t).map zah).map zge))),(0,S (zah t))],[],0⟩) (fun _u:Unit=>Tr) (fun h1=>?_) (fun h1=>?_) ?_
 ·(try replace h1:=xhh h1)
  rw[zib]at h1
  rw[if_pos h1,List.dropLast_eq_take]at hS
  try refine xz3 tl tn eL ?_
  refine⟨(),trI,To.mk [] rfl rfl List.nodup_nil trivial ?_⟩
  ·(iterate 2((try simp(etaStruct := .none)only[push_cast,zad,seval,tl,tn,hS,List.map_take]);(try(refine xsu ?_;try exact xtI))))
 ·(try replace h1:=xhh h1)
  rw[zib]at h1
  rw[if_neg h1]at hS
  try refine xz3 tl tn eL ?_
  refine⟨(),trI,To.mk [] rfl rfl List.nodup_nil trivial ?_⟩
  ·(iterate 2((try simp(etaStruct := .none)only[push_cast,zad,seval,tl,tn,hS,List.map_take]);(try(refine xsu ?_;try exact xtI))))
 ·rintro _ _
  try refine xz3 tl tn eL ?_
  refine cI (fun h2=>?_) fun h2=>?_
  ·rw[show zah O=(⟨#[101,114,114,111,114,32,50,10]⟩:ByteArray)from by rw[←hO];unfold runT;rw[if_pos (by omega)];rfl]
   try refine xz3 tl tn eL ?_
   exact xrz rfl
  ·have ht2:t.length≤65536:=by omega
   have hln:(zbr t).length≤300:=by omega
   obtain rfl:O=(runL (zbr t)).o:=by rw[←hO];unfold runT;rw[if_neg (by omega)]
   have hrl:=z4j (zbr t) fun l hl=>by have:=hLm l hl;omega
   generalize zbr t=ls at *
   try refine xz3 tl tn eL ?_
   refine caM [0,1] (ybn ydi (by decide)) ?_
   try refine xz3 tl tn eL ?_
   refine zay (fun x:Nat × Bool=>⟨[(38,I .i64 x.1),(37,I .i64 ls.length),(36,.c (.sl 1 ((ls.map zah).map zge))),(5,.ptr 2 0 0),(4,.ptr 0 0 0)],[(0,za9 (runL (ls.take x.1)).w 1),(1,zbc (runL (ls.take x.1)).l),(2,.blk 40 [ydo 2 x.2,.own 3]),(3,.row 5 1 ((runL (ls.take x.1)).o.map bP))],4⟩) (fun x:Nat × Bool=>x.1≤ls.length) (fun x:Nat × Bool=>ls.length-x.1) ((0,false)) (Nat.zero_le _) ((To.nilC 3 1 5 1 40 _ rfl rfl).trans (To.mk [0,2,3,4] rfl rfl (by decide) ?_ ?_)) ?_
   ·simp(etaStruct := .none)only[push_cast,zad,seval,show runL []=⟨zmh ydi,[],[]⟩from rfl,List.map_nil,List.set_cons_succ,List.set_cons_zero,ydo,Bool.false_eq_true,if_false,List.take_zero]
   ·exact xS
   rintro⟨k,bb⟩ hk
   have hk:k≤ls.length:=hk
   have hbb:bb=true∨bb=false:=by cases bb<;>simp
   have hR:=hrl k hk
   generalize hr:runL (ls.take k)=s at *
   rcases hbb with hbb|hbb
   all_goals
    try refine xz5 tl tn eL zcv hbb ?_
    refine cI (fun h3=>?_) fun h3=>?_
    ·have hlt:k<ls.length:=by omega
     have hsu:=zt8 ls k hlt
     rw[hr]at hsu
     have eLk:=ycu ls k hlt
     have hll:=hLm _ (zax ls k hlt)
     generalize ls.getD k default=l at *
     have C3:=zyu 32 (zah l) (by rw[zaa];omega)
     rw[zbo]at C3
     have hPl:=zdo 32 l
     have hPc:l.count 32≤l.length:=List.count_le_length
     try refine xz6 tl tn eL zcv hbb eLk ?_
     refine caP (C3) ?_
     try refine xz6 tl tn eL zcv hbb eLk ?_
     refine zay (fun j:Nat=>⟨[(45,I .i64 j),(44,I .i64 (za2 32 l).length),(43,.c (.sl 1 (((za2 32 l).map zah).map zge))),(38,I .i64 k),(37,I .i64 ls.length),(36,.c (.sl 1 ((ls.map zah).map zge))),(8,.own 4),(5,.ptr 2 0 0),(4,.ptr 0 0 0)],[(0,za9 s.w 1),(1,zbc s.l),(2,.blk 40 [ydo 2 bb,.own 3]),(3,.row 5 1 (s.o.map bP)),(4,.row 9 1 (((fwK l j).map zah).map zge))],5⟩) (fun j:Nat=>j≤(za2 32 l).length) (fun j:Nat=>(za2 32 l).length-j) (0) (Nat.zero_le _) ((To.nil 8 9 1 rfl).trans (To.mk [0,1,2,3,4] rfl rfl (by decide) ?_ ?_)) ?_
     ·exact xS4 zcv hbb ynl yp1
     ·exact xS
     rintro j hj
     try refine xz6 tl tn eL zcv hbb eLk ?_
     refine cI (fun h4=>?_) fun h4=>?_
     ·have hjt:j<(za2 32 l).length:=by omega
      have eP:=ycu (za2 32 l) j hjt
      have fs:=ybm l j hjt
      have fl:=ygo l j
      try refine xz7 tl tn eL zcv hbb eLk eP ?_
      refine cI (fun h5=>?_) fun h5=>?_
      ·rw[zib]at h5
       rw[if_neg h5]at fs
       try refine xz7 tl tn eL zcv hbb eLk eP ?_
       refine⟨j+1,by omega,by omega,To.mk [0,1,2,3,6] rfl rfl (by decide) ?_ ?_⟩
       ·(try(refine xz5 zcv hbb fs zaf yp0 ?_;try exact xtI))
       ·(try(refine xz7 tl tn eL zcv hbb eLk eP ?_;try exact xtI))
      ·rw[zib]at h5
       rw[if_pos h5]at fs
       try refine xz7 tl tn eL zcv hbb eLk eP ?_
       refine⟨j+1,by omega,by omega,To.mk [0,1,2,3,4] rfl rfl (by decide) ?_ ?_⟩
       ·(try(refine xz4 zcv hbb fs yk6 ?_;try exact xtI))
       ·(try(refine xz7 tl tn eL zcv hbb eLk eP ?_;try exact xtI))
     ·obtain rfl:j=(za2 32 l).length:=by omega
      have fe:=ygp l
      rcases hw:zde l with _|⟨wd,ws⟩
      ·rw[hw]at fe
       iterate 2(try simp(etaStruct := .none)only[push_cast,zad,seval,ydo,hbb,fe,List.map_nil,List.length_nil,List.getD_nil,List.take_nil,Int.lt_irrefl,Int.natCast_zero,Bool.false_eq_true,if_false,if_true];try refine xsu ?_)
       refine zcd (fun h6=>absurd h6 (by simp)) (fun h6=>?_)
       have sR:stepR s l=s:=by
        rcases zgu s l with ⟨_,e⟩|⟨_,_,e0,_⟩|⟨_,_,e0,_⟩
        ·exact e
        ·rw[hw]at e0;cases e0
        ·rw[hw]at e0;cases e0
       try refine xst ?_
       refine⟨(k+1,bb),by show k+1≤ls.length;omega,by show ls.length-(k+1)<ls.length-k;omega,To.mk [0,1,2,3] rfl rfl (by decide) ?_ ?_⟩
       ·(try(refine xz5 zcv hbb hsu sR yk6 ?_;try exact xtI))
       ·(try(refine xst ?_;try exact xtI))
      rw[hw]at fe
      obtain⟨w1,w2,w3,w4⟩:=zrd hw (by omega)
      have wp:0<wd.length:=List.length_pos_iff.2 w1
      have hpos:((0:Int)<(ws.length:Int)+1)=True:=eq_true (by omega)
      have hhd:wd.headD 0=wd.getD 0 0:=by cases wd<;>rfl
      try refine ze1 tl tn eL zcv hbb eLk fe zaf hpos (And.intro zbo (And.intro zaa yhr)) ?_
      refine yg3 (To.frz [4]) (fun h6=>?_) (fun h6=>?_)
      ·(try replace h6:=xhh h6)
       have sR:stepR s l=lineR s wd ws:=by
        rcases zgu s l with ⟨e0,_⟩|⟨wd',ws',e0,e1,_⟩|⟨wd',ws',e0,_,e⟩
        ·rw[hw]at e0;cases e0
        ·rw[hw]at e0;cases e0
         rw[hhd]at e1
         exact absurd (by rw[e1];rfl) h6
        ·rw[hw]at e0;cases e0
         exact e
       have hA:=zsh (zsg hR w3 (wd:=wd))
       have LS:=yi4 s.w s.l (zah wd) (ws.map zah) hR.w hR.l (by rw[List.length_map];exact w4) (fun x hx=>by
        obtain⟨y,hy,rfl⟩:=List.mem_map.1 hx
        rw[zaa];exact w3 y hy)
       have ew:(lineR s wd ws).w=zxc s.w (doneV s.w s.l (zah wd) (ws.map zah)):=rfl
       have el:(lineR s wd ws).l=zxd s.l (doneV s.w s.l (zah wd) (ws.map zah)):=rfl
       have eo:(lineR s wd ws).o=s.o++(zmi (doneV s.w s.l (zah wd) (ws.map zah))++(⟨#[10]⟩:ByteArray)).data.toList:=by
        show s.o++_=_
        rw[ByteArray.data_append];simp
       have sz1:(⟨#[10]⟩:ByteArray).size=1:=rfl
       have ho:=hR.o
       generalize doneV s.w s.l (zah wd) (ws.map zah)=A at *
       have BP:=yj8 (ydo 0 bb) (by unfold ydo;cases bb<;>simp) s.o (zmi A++⟨#[10]⟩) (by rw[ypx,sz1];omega)
       simp only[ydo,hbb,Bool.false_eq_true,if_false,if_true]at BP
       try refine ze1 tl tn eL zcv hbb eLk fe zaf hpos (And.intro zbo (And.intro zaa yhr)) ?_
       refine caM [0,1] (LS) ?_
       try refine ze1 tl tn eL zcv hbb eLk fe zaf hpos (And.intro zbo (And.intro zaa yhr)) ?_
       refine caM [2,3] (BP) ?_
       try refine ze1 tl tn eL zcv hbb eLk fe zaf hpos (And.intro zbo (And.intro zaa yhr)) ?_
       refine⟨(k+1,true),by show k+1≤ls.length;omega,by show ls.length-(k+1)<ls.length-k;omega,To.mk [0,5,2,6] rfl rfl (by decide) ?_ ?_⟩
       ·(try(refine xz8 zcv hbb hsu sR ew el eo yk6 ?_;try exact xtI))
       ·(try(refine ze1 tl tn eL zcv hbb eLk fe zaf hpos (And.intro zbo (And.intro zaa yhr)) ?_;try exact xtI))
      ·(try replace h6:=xhh h6)
       have sR:stepR s l=s:=by
        rcases zgu s l with ⟨e0,_⟩|⟨wd',ws',e0,e1,e⟩|⟨wd',ws',e0,e1,_⟩
        ·rw[hw]at e0;cases e0
        ·exact e
        ·rw[hw]at e0;cases e0
         rw[hhd]at e1
         exact absurd ((yh5 _).1 h6) e1
       try refine ze1 tl tn eL zcv hbb eLk fe zaf hpos (And.intro zbo (And.intro zaa yhr)) ?_
       refine⟨(k+1,bb),by show k+1≤ls.length;omega,by show ls.length-(k+1)<ls.length-k;omega,To.mk [0,1,2,3] rfl rfl (by decide) ?_ ?_⟩
       ·(try(refine xz5 zcv hbb hsu sR yk6 ?_;try exact xtI))
       ·(try(refine ze1 tl tn eL zcv hbb eLk fe zaf hpos (And.intro zbo (And.intro zaa yhr)) ?_;try exact xtI))
    ·have hkl:k=ls.length:=by omega
     rw[hkl,List.take_length]at hr
     rw[hr]
     try refine xz5 tl tn eL zcv hbb ?_
     refine caM [2,3] (yj7 _ s.o) ?_
     try refine xz5 tl tn eL zcv hbb ?_
     exact xrz rfl
theorem zle:∀(k:Nat) (t:List UInt8),zbr (za3 k t)=(zbr t).drop k
 | 0,_=>rfl
 | k+1,t=>by
  show zbr (za3 k (zcx t))=_
  rw[zle k (zcx t)]
  by_cases h:t = []
  ·subst h
   show (zbr []).drop k=_
   rw[zgm];simp
  ·rw[zjq t h];rfl
theorem yes (t:List UInt8) (k:Nat) (h:za3 k t ≠ []):k<(zbr t).length∧(zbr t).getD k default=za0 (za3 k t):=by
 have h1:=zle k t
 rw[zjq _ h]at h1
 have hlt:k<(zbr t).length:=by
  rcases Nat.lt_or_ge k (zbr t).length with h2|h2
  ·exact h2
  ·rw[List.drop_eq_nil_of_le h2]at h1;cases h1
 refine⟨hlt,?_⟩
 have h2:=List.drop_eq_getElem_cons hlt
 rw[h2]at h1
 rw[zaq _ _ hlt]
 exact(List.cons.inj h1).1.symm
theorem z91 (t:List UInt8) (k:Nat) (hk:k≤(zbr t).length) (h:za3 k t = []):k=(zbr t).length:=by
 have h1:=zle k t
 rw[h,zgm]at h1
 have h2:=congrArg List.length h1
 rw[List.length_drop,List.length_nil]at h2
 omega
def yeq (q:List UInt8 × List (List UInt8)):List PV := [.sl 1 (((q.1::q.2).map zah).map zge)]
def zwb (ls:List (List UInt8)):List (List UInt8 × List (List UInt8)):=ls.filterMap z2z
theorem z8k (ls:List (List UInt8)) (k:Nat) (h:k<ls.length):zwb (ls.take (k+1))=zwb (ls.take k)++(z2z (ls.getD k default)).toList:=by
 unfold zwb
 rw[zak ls k h,List.filterMap_append]
 congr 1
theorem ybx (t:List UInt8) (ht:t.length≤1048576):Spec Tryz.prog 11 [S (zah t)] [] (.tup [.c (.sl 1 ((zwb (zbr t)).map yeq)),I .i64 (zbr t).length]) []:=by
 have hrl:=fun k=>zhu k t
 have hhl:=fun x:List UInt8=>zgo x
 refine spB Tryz.func11 39 [.tmp 2,.tmp 3] Tryz.results11 ?_
 try refine xz4 zaf zbo zaa zph ?_
 refine zay (fun k:Nat=>⟨[(5,I .i64 k),(4,.own 0),(0,S (zah (za3 k t)))],[(0,.row 24 1 ((zwb ((zbr t).take k)).map yeq))],1⟩) (fun k:Nat=>k≤(zbr t).length) (fun k:Nat=>(zbr t).length-k) (0) (Nat.zero_le _) ((To.nil 4 24 1 rfl).trans (To.mk [0] rfl rfl (by decide) ?_ ?_)) ?_
 ·simp(etaStruct := .none)only[push_cast,zad,seval,List.take_zero,zwb,List.filterMap_nil,List.map_nil]
 ·simp(etaStruct := .none)only[push_cast,zad,seval]
  exact Wk.refl _
 rintro k hk
 try refine xz4 zaf zbo zaa zph ?_
 refine cI (fun h1=>?_) fun h1=>?_
 ·rw[zib]at h1
  obtain⟨hlt,hline⟩:=yes t k h1
  have sq:=z8k (zbr t) k hlt
  rw[hline]at sq
  have hr1:=hrl k
  have hh1:=hhl (za3 k t)
  have C1:=ynr (za3 k t) (by omega) h1
  rw[←zih]at C1
  have nl:(zbr t).length≤1048577:=by
   have h1:=zh2 t
   have h2:=zdo 10 t
   have h3:t.count 10≤t.length:=List.count_le_length
   have h4:(zbr t).length≤(za2 10 t).length:=by
    rw[h1]
    split
    ·rw[List.length_dropLast];omega
    ·exact Nat.le_refl _
   omega
  have al:(zwb ((zbr t).take k)).length≤1048577:=by
   have:=List.length_filterMap_le z2z ((zbr t).take k)
   rw[List.length_take]at this
   unfold zwb
   omega
  have W:=ydu (za0 (za3 k t)) (by omega)
  generalize za0 (za3 k t)=line at *
  try refine xz4 zaf zbo zaa zph ?_
  refine caP (C1) ?_
  try refine xz4 zaf zbo zaa zph ?_
  rcases hw:zde line with _|⟨wd,ws⟩<;>rw[hw]at W
  ·have ea:z2z line=none:=by unfold z2z;rw[hw]
   rw[ea]at sq
   refine caP W ?_
   iterate 2(try simp(etaStruct := .none)only[push_cast,zad,seval,List.map_nil,List.length_nil,List.getD_nil,List.take_nil,Int.lt_irrefl,Int.natCast_zero,Bool.false_eq_true,if_false,if_true];try refine xsu ?_)
   refine zcd (fun h2=>absurd h2 (by simp)) (fun h2=>?_)
   try refine xst ?_
   refine⟨k+1,by omega,by omega,To.mk [0] rfl rfl (by decide) ?_ ?_⟩
   ·(iterate 2((try simp(etaStruct := .none)only[push_cast,zad,seval,sq,Option.toList_none,List.append_nil]);(try(refine xsu ?_;try exact xtI))))
   ·(try(refine xst ?_;try exact xtI))
  have w1:=(zpz (l:=line) (x:=wd) (by rw[hw];simp)).1
  have wp:0<wd.length:=List.length_pos_iff.2 w1
  have hpos:((0:Int)<(ws.length:Int)+1)=True:=eq_true (by omega)
  have hhd:wd.headD 0=wd.getD 0 0:=by cases wd<;>rfl
  have ea:z2z line=if wd.headD 0=35 then none else some (wd,ws):=by unfold z2z;rw[hw]
  refine caP (W) ?_
  try refine xz4 zaf zbo zaa zph ?_
  refine cI (fun h2=>?_) fun h2=>?_
  ·have h3:wd.headD 0≠35:=fun e=>h2.2 (by rw[←hhd,e];rfl)
   rw[if_neg h3]at ea
   rw[ea]at sq
   try refine xz4 zaf zbo zaa zph ?_
   refine⟨k+1,by omega,by omega,To.mk [2] rfl rfl (by decide) ?_ ?_⟩
   ·(iterate 2((try simp(etaStruct := .none)only[push_cast,zad,seval,sq,Option.toList_some,List.map_append,List.map_cons,List.map_nil,yeq,zge]);(try(refine xsu ?_;try exact xtI))))
   ·(try(refine xz4 zaf zbo zaa zph ?_;try exact xtI))
  ·have h3:wd.headD 0=35:=by
    rcases h2 with h2|h2
    ·omega
    ·rw[hhd];exact(yh5 _).1 h2
   rw[if_pos h3]at ea
   rw[ea]at sq
   try refine xz4 zaf zbo zaa zph ?_
   refine⟨k+1,by omega,by omega,To.mk [0] rfl rfl (by decide) ?_ ?_⟩
   ·(iterate 2((try simp(etaStruct := .none)only[push_cast,zad,seval,sq,Option.toList_none,List.append_nil]);(try(refine xsu ?_;try exact xtI))))
   ·(try(refine xz4 zaf zbo zaa zph ?_;try exact xtI))
 ·rw[zib]at h1
  have hke:=z91 t k hk h1
  rw[hke,List.take_length]
  try refine xz4 zaf zbo zaa zph ?_
  exact xrz rfl
theorem yjr (qs:List (List UInt8 × List (List UInt8))) (k:Nat) (h:k<qs.length) (s:RunS):(qs.take (k+1)).foldl (fun s q=>lineR s q.1 q.2) s=lineR ((qs.take k).foldl (fun s q=>lineR s q.1 q.2) s) (qs.getD k default).1 (qs.getD k default).2:=by
 rw[zak qs k h,List.foldl_append];rfl
noncomputable def askR (qs:List (List UInt8 × List (List UInt8))):RunS:=qs.foldl (fun s q=>lineR s q.1 q.2) run0
theorem z9u (ls:List (List UInt8)):runL ls=askR (zwb ls):=by
 unfold runL askR zwb
 generalize run0=s
 induction ls generalizing s with
 | nil=>rfl
 | cons x r ih =>
  rw[List.foldl_cons]
  cases hq:z2z x with
  | none =>
   rw[List.filterMap_cons_none hq,show stepR s x=s by unfold stepR;rw[hq]]
   exact ih s
  | some q =>
   rw[List.filterMap_cons_some hq,List.foldl_cons,show stepR s x=lineR s q.1 q.2 by unfold stepR;rw[hq]]
   exact ih _
theorem z8j {ls:List (List UInt8)} (hl:∀l∈ls,l.length≤65536):∀q∈zwb ls,q.1.length≤65536∧(∀x∈q.2,x.length≤65536)∧q.2.length≤65536:=by
 intro q hq
 unfold zwb at hq
 obtain⟨l,h1,h2⟩:=List.mem_filterMap.1 hq
 unfold z2z at h2
 cases hw:zde l with
 | nil=>rw[hw]at h2;cases h2
 | cons wd ws =>
  rw[hw]at h2
  by_cases h3:wd.headD 0=35
  ·simp only[if_pos h3]at h2;cases h2
  ·simp only[if_neg h3]at h2
   cases h2
   exact(zrd hw (hl l h1)).2
theorem z8l {qs:List (List UInt8 × List (List UInt8))} (h:∀q∈qs,q.1.length≤65536∧(∀x∈q.2,x.length≤65536)∧q.2.length≤65536):∀k,k≤qs.length→RunOk k (askR (qs.take k))
 | 0,_=>by rw[List.take_zero];exact z4k
 | k+1,hk=>by
  unfold askR
  rw[yjr qs k (by omega)]
  exact zz2 (z8l h k (by omega)) (h _ (zax qs k (by omega))).2.1
theorem yd2 (a:List UInt8) (b:ByteArray):zah a++b=zah (a++b.data.toList):=by
 conv=>lhs;rw[←zrj b]
 rw[zbe]
theorem yj3 (t:List UInt8) (ht:t.length≤1048576):Spec Tryz.prog 5 [S (zah t)] [] (S (zah (runT t))) []:=by
 have tl:=zaa t
 have DL:=ybx t ht
 have hLm:=zqu (t:=t)
 generalize hO:runT t=O
 refine spB Tryz.func5 43 [.tmp 2] Tryz.results5 ?_
 try refine xz1 tl ?_
 refine caP (DL) ?_
 try refine xz1 tl ?_
 refine cI (fun h1=>?_) fun h1=>?_
 ·rw[show zah O=(⟨#[101,114,114,111,114,32,50,10]⟩:ByteArray)from by rw[←hO];unfold runT;rw[if_pos (by omega)];rfl]
  try refine xz1 tl ?_
  exact xrz rfl
 ·have ht2:t.length≤65536:=by omega
  have hln:(zbr t).length≤300:=by omega
  have hqs:=z8j fun l hl=>(by have:=hLm l hl;omega:l.length≤65536)
  have hql:(zwb (zbr t)).length≤300:=by
   have:=List.length_filterMap_le z2z (zbr t)
   unfold zwb;omega
  obtain rfl:O=(askR (zwb (zbr t))).o:=by rw[←hO];unfold runT;rw[if_neg (by omega),z9u]
  generalize zwb (zbr t)=qs at *
  have hrl:=z8l hqs
  try refine xz1 tl ?_
  refine zcn [0] (Spec.hand 0 (yc2 ydi (by decide)) (Nat.zero_le _) rfl (by exact WkL.refl _) rfl) (WkL.refl _) rfl (by decide) (by simp[za6]) ?_
  try refine xz1 tl ?_
  refine zay (fun k:Nat=>⟨[(27,I .i64 k),(26,I .i64 qs.length),(25,.c (.sl 1 (qs.map yeq))),(6,S (zah (askR (qs.take k)).o)),(5,.ptr 0 0 0)],[(0,.blk 52 [I .i64 (askR (qs.take k)).w.f.w,I .i64 (askR (qs.take k)).w.f.h,.c (.sl 1 ((askR (qs.take k)).w.f.p.map zao)),.c (.sl 2 ((askR (qs.take k)).w.bases.map zbk)),.c (.sl 1 ((askR (qs.take k)).w.stocks.map zao)),.c (.sl 1 ((askR (qs.take k)).w.mines.map zao)),.c (.sl 7 ((askR (qs.take k)).w.troops.map zch)),I .i64 (askR (qs.take k)).w.next,I .i64 (askR (qs.take k)).w.now,.c (.sl 6 ((askR (qs.take k)).l.map zga))])],1⟩) (fun k:Nat=>k≤qs.length) (fun k:Nat=>qs.length-k) (0) (Nat.zero_le _) (To.mk [1] rfl rfl (by decide) ?_ ?_) ?_
  ·simp(etaStruct := .none)only[push_cast,zad,seval,List.take_zero,show askR []=⟨zmh ydi,[],[]⟩from rfl,List.map_nil]
  ·simp(etaStruct := .none)only[push_cast,zad,seval,List.take_zero,show askR []=⟨zmh ydi,[],[]⟩from rfl]
   exact Wk.refl _
  rintro k hk
  try refine xz1 tl ?_
  refine cI (fun h2=>?_) fun h2=>?_
  ·have hlt:k<qs.length:=by omega
   have hR:=hrl k hk
   have su:askR (qs.take (k+1))=lineR (askR (qs.take k)) (qs.getD k default).1 (qs.getD k default).2:=yjr qs k hlt run0
   obtain⟨w2,w3,w4⟩:=hqs _ (zax qs k hlt)
   have eq:=zae yeq qs k hlt
   generalize qs.getD k default=q at *
   obtain⟨wd,ws⟩:=q
   simp only at su w2 w3 w4
   generalize askR (qs.take k)=s at *
   have hA:=zsh (zsg hR w3 (wd:=wd))
   have LS:=yfs s.w s.l (zah wd) (ws.map zah) hR.w hR.l (by rw[List.length_map];exact w4) (fun x hx=>by
    obtain⟨y,hy,rfl⟩:=List.mem_map.1 hx
    rw[zaa];exact w3 y hy)
   have ew:(lineR s wd ws).w=zxc s.w (doneV s.w s.l (zah wd) (ws.map zah)):=rfl
   have el:(lineR s wd ws).l=zxd s.l (doneV s.w s.l (zah wd) (ws.map zah)):=rfl
   have eo:zah s.o++(zmi (doneV s.w s.l (zah wd) (ws.map zah))++(⟨#[10]⟩:ByteArray))=zah (lineR s wd ws).o:=by
    rw[yd2]
    congr 1
   have sz1:(⟨#[10]⟩:ByteArray).size=1:=rfl
   have ho:=hR.o
   generalize doneV s.w s.l (zah wd) (ws.map zah)=A at *
   iterate 2(try simp(etaStruct := .none)only[push_cast,zad,seval,tl,eq,yeq,ByteArray.size_append,zaa];try refine xsu ?_)
   refine caP (LS) ?_
   iterate 2(try simp(etaStruct := .none)only[push_cast,zad,seval,tl,eq,yeq,ByteArray.size_append,zaa];try refine xsu ?_)
   refine⟨k+1,by omega,by omega,To.mk [0] rfl rfl (by decide) ?_ ?_⟩
   ·(try(refine xz3 su ew el ?_;try exact xtI))
   ·(try(refine xz2 su eo ?_;try exact xtI))
  ·obtain rfl:k=qs.length:=by omega
   rw[List.take_length]
   try refine xz1 tl ?_
   exact xrz rfl
end Go.Proofs.YtgggemkjaccbhaaGreatDoor
namespace Go.Proofs.YtgggemkjaccbhaaGreatDoor
set_option linter.all false
open Go.RowKit Go.ChangeShapes Go.WideShapes Go.ChangeAt
set_option maxRecDepth 100000
set_option maxHeartbeats 1000000
theorem yj0 (s:ByteArray) (hs:s.size≤1048576):Spec Tryz.prog 3 [S s] [] (B true) []:=by
 have hl:s.data.toList.length≤1048576:=by rw[bsz];exact hs
 have R1:=ymr s.data.toList hl
 have R2:=yj3 s.data.toList hl
 rw[zrj]at R1 R2
 generalize zah (runT s.data.toList)=x at *
 refine spB Tryz.func3 8 [.tmp 2] Tryz.results3 ?_
 try refine xst ?_
 refine caP (R1) ?_
 try refine xst ?_
 refine caP (R2) ?_
 try refine xst ?_
 exact xrz rfl
theorem zkq {H:Type} {enc:TypeId × Value→H} {P:Program} {w:World} {base:Nat} {sp:Nat→Bool} {fuel:Nat} {t:TypeId} {ms:Array (String × TypeId)} {cs:List Value} {n:String} {d:DataW H} {p:List MemPlace} (ht:P.underlying t=some (.interface ms))
 (h:DataW.trod enc P w base sp false fuel t cs=some (.iface n d,p)):∃u v,cs = [.iface u v]:=by
 cases fuel with
 | zero=>simp[DataW.trod]at h
 | succ fuel =>
  unfold DataW.trod at h
  rw[ht]at h
  split at h
  all_goals first|(rename_i heq;cases heq;done)|skip
  all_goals first|(simp at h;done)|exact⟨_,_,rfl⟩|skip
theorem zre {P:Program} {w:World} {n:String} {g:Nat} {cs:Array Value} (hg:P.globalNamed n=some g) (h:w.var? P n=some cs):∃t z,w.heap[g]? = some (.cells cs t z):=by
 simp only[World.var?,hg,Option.bind_some]at h
 split at h
 ·rename_i cs' t z e
  simp only[oI]at h
  subst h
  exact⟨_,_,e⟩
 ·cases h
theorem zil {w:World} {g:Nat} {o:Obj} (h:w.heap[g]? = some o):g<w.heap.size:=(Array.getElem?_eq_some_iff.1 h).1
theorem zol {cs:Array Value} {v:Value} (h:cs.toList = [v]):cs = #[v]:=by rw[←Array.toList_inj,h]
theorem ynj {W:World} (hS:W.ShapedOpen Tryz.prog) (hL:laidMetH Tryz.prog Rows.deskSaysUptoRow.laid W):Gl W (· < W.heap.size):=by
 rw[MakeChecks.laidMetH_plain _ _ _ (by kernel_rfl)]at hL
 obtain⟨ps,⟨_,_,_,_,_,_,_,_,_,_,⟨_,_,_,_,_,_,_,_,_,_,⟨g3,t3,cs3,f3,p3,q3,hg3,ht3,hv3,hd3,⟨_,_,_,_,_,_,_,_,_,_,⟨g7,t7,cs7,f7,p7,q7,hg7,ht7,hv7,hd7,⟨g6,t6,cs6,f6,p6,q6,hg6,ht6,hv6,hd6,_,_⟩,_⟩,_⟩,_⟩,_⟩,_⟩,_,_⟩:=hL
 obtain rfl := Option.some.inj ((show Tryz.prog.globalNamed "internal/strconv.uint64pow10" = some 3 by kernel_rfl).symm.trans hg3)
 obtain rfl := Option.some.inj ((show Tryz.prog.globalNamed "strconv.ErrRange" = some 7 by kernel_rfl).symm.trans hg7)
 obtain rfl := Option.some.inj ((show Tryz.prog.globalNamed "strconv.ErrSyntax" = some 6 by kernel_rfl).symm.trans hg6)
 obtain rfl:=Option.some.inj ((show (Tryz.prog.globals[3]?).map (·.type)=some 224 by kernel_rfl).symm.trans ht3)
 obtain rfl:=Option.some.inj ((show (Tryz.prog.globals[7]?).map (·.type)=some 43 by kernel_rfl).symm.trans ht7)
 obtain rfl:=Option.some.inj ((show (Tryz.prog.globals[6]?).map (·.type)=some 43 by kernel_rfl).symm.trans ht6)
 have e3:cs3.toList=Lib.pow10Tab.map fun z=>Value.int .u64 z:=Lib.cells_of_tab (k := .u64) (zs:=Lib.pow10Tab) Tryz.underlying224 Tryz.underlying178 (by kernel_rfl) (by kernel_rfl) hd3
 obtain⟨u7,v7,e7⟩:=zkq Tryz.underlying43 hd7
 obtain⟨u6,v6,e6⟩:=zkq Tryz.underlying43 hd6
 obtain⟨a3,z3,h3⟩:=zre hg3 hv3
 obtain⟨a7,z7,h7⟩:=zre hg7 hv7
 obtain⟨a6,z6,h6⟩:=zre hg6 hv6
 intro t ht
 simp only[ymn,yh6,List.mem_cons,List.not_mem_nil,or_false]at ht
 rcases ht with rfl|rfl|rfl|rfl
 ·obtain⟨cs,hh,hs,_⟩:=hS.1 0 #[.int .i64 0] 3 (of_decide_eq_true (by kernel_rfl)) (by kernel_rfl)
  obtain⟨m,hm⟩:=cell_of_shapedOpen_int (zero := #[.int .i64 0]) (t:=3) (g:=0) hS (of_decide_eq_true (by kernel_rfl)) (by kernel_rfl) rfl (by kernel_rfl) (by kernel_rfl) Tryz.underlying3
  refine⟨zil hh,cs,_,_,hh,m,?_⟩
  simp only[World.cell?,hh,Option.isSome_none,Bool.false_eq_true,if_false]at hm
  have hs:cs.size=1:=hs
  apply Array.ext_getElem?
  intro i
  by_cases hi:i=0
  ·subst hi;rw[hm];rfl
  ·rw[Array.getElem?_eq_none (by omega),Array.getElem?_eq_none (by simp;omega)]
 ·exact⟨zil h3,cs3,_,_,h3,(Array.toList_inj.1 (by rw[e3]):cs3=(Lib.pow10Tab.map fun z=>Value.int .u64 z).toArray)⟩
 ·exact⟨zil h6,cs6,_,_,h6,u6,v6,zol e6⟩
 ·exact⟨zil h7,cs7,_,_,h7,u7,v7,zol e7⟩
end Go.Proofs.YtgggemkjaccbhaaGreatDoor
namespace Go.Proofs.YtgggemkjaccbhaaGreatDoor
set_option linter.all false
open Go.RowKit Go.ChangeShapes Go.WideShapes Go.ChangeAt
def RelCs (w:World) (ps:List PV) (cs:List Value):Prop:=∀(j:Nat) p u,ps[j]? = some p→cs[j]? = some u→RelP w (· < w.heap.size) p u
theorem RelCs.nil {w:World} : RelCs w [] []:=fun j p u h=>by simp at h
theorem RelCs.cons {w:World} {p:PV} {u:Value} {ps:List PV} {cs:List Value} (h:RelP w (· < w.heap.size) p u) (h':RelCs w ps cs):RelCs w (p::ps) (u::cs):=by
 intro j q v h1 h2
 cases j with
 | zero=>simp at h1 h2;subst h1 h2;exact h
 | succ j=>exact h' j q v (by simpa using h1) (by simpa using h2)
theorem RelCs.append {w:World} : ∀ {ps qs:List PV} {cs ds:List Value},ps.length=cs.length→RelCs w ps cs→RelCs w qs ds→RelCs w (ps++qs) (cs++ds)
 | [],_,[],_,_,_,h=>h
 | [],_,_::_,_,hl,_,_=>by simp at hl
 | _::_,_,[],_,hl,_,_=>by simp at hl
 | p::ps,qs,c::cs,ds,hl,h,h'=>by
  refine RelCs.cons (h 0 p c rfl rfl) (RelCs.append (by simpa using hl) (fun j q v h1 h2=>h (j+1) q v (by simpa using h1) (by simpa using h2)) h')
def OpA (P:Program) (T sz:Nat) (w:World) {α : Type} (pv : α → List PV) (ok : α → Prop):Prop :=
 ∃(β : Type) (enc : β → List Value) (okb : β → Prop) (f : β → α),Opens P T sz w enc okb∧∀y,okb y→ok (f y)∧(pv (f y)).length=sz∧(enc y).length=sz∧RelCs w (pv (f y)) (enc y)
section
variable {P : Program} {T : Nat} {w : World}
theorem OpA.i64 (h:P.underlying T=some (.int .i64)):OpA P T 1 w zao zdu :=
 ⟨_,_,_,id,Opens.i64 h,fun y hy=>⟨hy,rfl,rfl,.cons (zue rfl) .nil⟩⟩
theorem OpA.u64 (h:P.underlying T=some (.int .u64)):OpA P T 1 w yoo (fun n=>n<18446744073709551616) :=
 ⟨_,_,_,id,Opens.u64 h,fun y hy=>⟨hy,rfl,rfl,.cons (zue rfl) .nil⟩⟩
def yop (n:Nat):List PV := [.v (.int .u32 n)]
theorem OpA.u32 (h:P.underlying T=some (.int .u32)):OpA P T 1 w yop (fun n=>n<4294967296) :=
 ⟨_,_,_,id,Opens.u32 h,fun y hy=>⟨hy,rfl,rfl,.cons (zue rfl) .nil⟩⟩
theorem OpA.bool (h:P.underlying T=some .bool):OpA P T 1 w zf9 (fun _=>True) :=
 ⟨_,_,_,id,Opens.bool h,fun y hy=>⟨hy,rfl,rfl,.cons (zue rfl) .nil⟩⟩
theorem OpA.str (h:P.underlying T=some .string):OpA P T 1 w zge (fun s=>s.size≤140737488351232) :=
 ⟨_,_,_,id,Opens.str h,fun y hy=>⟨hy,rfl,rfl,.cons (zue rfl) .nil⟩⟩
theorem OpA.map {sz:Nat} {α β : Type} {pv : α → List PV} {ok : α → Prop} {pv' : β → List PV} {ok' : β → Prop} (h:OpA P T sz w pv ok) (f : α → β) (hf:∀x,pv' (f x)=pv x) (hok:∀x,ok x→ok' (f x)):OpA P T sz w pv' ok':=by
 obtain⟨γ,enc,okb,g,h1,h2⟩:=h
 exact⟨γ,enc,okb,fun y=>f (g y),h1,fun y hy=>by obtain⟨a,b,c,d⟩:=h2 y hy;exact⟨hok _ a,by rw[hf];exact b,c,by rw[hf];exact d⟩⟩
theorem OpA.slice {E sz bts:Nat} {α : Type} {pv : α → List PV} {ok : α → Prop} (hT:P.underlying T=some (.slice E)) (hc:P.cellsOf E=sz) (hsz:0<sz) (hby:P.bytesOf E=bts) (hE:OpA P E sz w pv ok) :
 OpA P T 1 w (fun xs:List α => [.sl sz (xs.map pv)]) (fun xs=>(∀x∈xs,ok x)∧xs.length*bts≤140737488351232∧xs.length≤9223372036854775807):=by
 obtain⟨γ,enc,okb,g,h1,h2⟩:=hE
 refine⟨_,_,_,fun s=>s.xs.map g,Opens.slice hT hc hsz hby h1,fun s hs=>⟨⟨?_,?_,?_⟩,rfl,rfl,?_⟩⟩
 ·intro x hx
  obtain⟨y,hy,rfl⟩:=List.mem_map.1 hx
  exact(h2 y (hs.each y hy).1).1
 ·have:=hs.reach
  have h3:s.xs.length*bts≤s.c*bts:=Nat.mul_le_mul_right _ hs.cap
  simp only[List.length_map];omega
 ·have h3:=hs.cap;have h4:=hs.max;unfold maxLen at h4;simp only[List.length_map];omega
 ·refine .cons ?_ .nil
  have:=yij (pv:=fun y=>pv (g y)) hs fun y hy ho=>by
   obtain⟨_,a,b,d⟩:=h2 y ho
   exact⟨a,d⟩
  simpa[List.map_map,Function.comp_def]using this
def OpAF (P:Program) (w:World) (fs:List Field) (o sz:Nat) {α : Type} (pv : α → List PV) (ok : α → Prop):Prop :=
 ∃(β : Type) (enc : β → List Value) (okb : β → Prop) (f : β → α),OpensF P w fs o sz enc okb∧∀y,okb y→ok (f y)∧(pv (f y)).length=sz∧(enc y).length=sz∧RelCs w (pv (f y)) (enc y)
theorem OpAF.nil {o:Nat} : OpAF P w [] o 0 (fun _:Unit => []) (fun _=>True) :=
 ⟨_,_,_,id,OpensF.nil,fun y hy=>⟨trivial,rfl,rfl,.nil⟩⟩
theorem OpAF.cons {f:Field} {fs:List Field} {o n sz:Nat} {α β : Type} {pv : α → List PV} {ok : α → Prop} {pv' : β → List PV} {ok' : β → Prop}
 (ho:f.offset=o) (hn:P.cellsOf f.type=n) (h:OpA P f.type n w pv ok) (h':OpAF P w fs (o+n) sz pv' ok') :
 OpAF P w (f::fs) o (n+sz) (fun x : α × β => pv x.1++pv' x.2) (fun x=>ok x.1∧ok' x.2):=by
 obtain⟨γ,enc,okb,g,h1,h2⟩:=h
 obtain⟨γ',enc',okb',g',h1',h2'⟩:=h'
 refine⟨_,_,_,fun y=>(g y.1,g' y.2),OpensF.cons ho hn h1 h1',fun y hy=>?_⟩
 obtain⟨a,b,c,d⟩:=h2 y.1 hy.1
 obtain⟨a',b',c',d'⟩:=h2' y.2 hy.2
 exact⟨⟨a,a'⟩,by simp[b,b'],by simp[c,c'],.append (by rw[b,c]) d d'⟩
theorem OpA.struct {sz:Nat} {fs:Array Field} {α : Type} {pv : α → List PV} {ok : α → Prop} (hT:P.underlying T=some (.struct fs)) (hc:P.cellsOf T=sz) (h:OpAF P w fs.toList 0 sz pv ok):OpA P T sz w pv ok:=by
 obtain⟨γ,enc,okb,g,h1,h2⟩:=h
 exact⟨γ,enc,okb,g,Opens.struct hT hc h1,h2⟩
theorem OpA.arg {sz:Nat} {α : Type} {pv : α → List PV} {ok : α → Prop} (h:OpA P T sz w pv ok) {H:Type} {eH:TypeId × Value→H} {v:Value} {d:DataW H} {p:List MemPlace}
 (hT:DataW.Trod eH P w 0 (fun _=>true) true T v d p) {ts:List TypeId} {ds:List (DataW H)} (hz:(DataW.weightsEach P ts ds).all (· ≤ reachBytes)=true) (j:Nat) (h1:ts[j]? = some T) (h2:ds[j]? = some d):∃x : α,ok x∧(pv x).length=v.cells.toList.length∧RelCs w (pv x) v.cells.toList:=by
 obtain⟨γ,enc,okb,g,k1,k2⟩:=h
 obtain⟨y,hy,ho⟩:=Opens.arg k1 hT hz j h1 h2
 obtain⟨a,b,c,e⟩:=k2 y ho
 exact⟨g y,a,by rw[hy,b,c],by rw[hy];exact e⟩
theorem yet {p:PV} {v:Value} (hv:v.cells = #[v]) (hr:RelCs w [p] v.cells.toList):RelA (· < 0) w (· < w.heap.size) (fun _=>none) (.c p) v :=
 yim (hr 0 p v rfl (by rw[hv];rfl))
theorem yfc {base:Nat} {v:Value} (ht:P.underlying T=some .string) (h:Value.okWide P w .any base T v):v.cells = #[v]:=by obtain⟨n,rfl⟩:=okWide_string ht h;rfl
end
end Go.Proofs.YtgggemkjaccbhaaGreatDoor
namespace Go.Proofs.YtgggemkjaccbhaaGreatDoor
set_option linter.all false
open Go.RowKit Go.ChangeShapes Go.WideShapes Go.ChangeAt
set_option maxRecDepth 100000
end Go.Proofs.YtgggemkjaccbhaaGreatDoor
namespace Go.Proofs.YtgggemkjaccbhaaGreatDoor
set_option linter.all false
open Go.RowKit Go.ChangeShapes Go.WideShapes Go.ChangeAt
namespace deskSays
theorem own:ownKnob Tryz.prog.godebug=none:=by kernel_rfl
theorem yfw:laidOutB Tryz.prog=true:=by kernel_rfl
def ypj (l:List Nat):Obj→Obj
 | .cells _ t z => .cells (l.map fun (n:Nat)=>Value.int .u8 n).toArray t z
 | o=>o
def argsW:Array Value := #[.string ByteArray.empty]
set_option maxRecDepth 100000 in
theorem ynb (os:Os) (H:Type) (enc:TypeId × Value→H):∃w0:World,w0.os=os ∧
 (w0.forCall (fun _ _=>0) ⟨#[],argsW,[]⟩).variablesRefB Tryz.checked.prog=true ∧
 ((w0.forCall (fun _ _=>0) ⟨#[],argsW,[]⟩).heap.toList.drop Tryz.checked.prog.globals.size).take ((begin Tryz.checked.prog (fun _ _=>0) default).world.heap.size-Tryz.checked.prog.globals.size) =
  (begin Tryz.checked.prog (fun _ _=>0) default).world.heap.toList.drop Tryz.checked.prog.globals.size ∧
 Input.okWideB Tryz.checked.prog (w0.forCall (fun _ _=>0) ⟨#[],argsW,[]⟩) 3 ⟨#[],argsW,[]⟩=true ∧
 laidMetH Tryz.prog Rows.deskSaysUptoRow.laid (w0.forCall (fun _ _=>0) ⟨#[],argsW,[]⟩).memory ∧
 DataW.whole enc Tryz.prog (w0.forCall (fun _ _=>0) ⟨#[],argsW,[]⟩).memory Tryz.f3.params.toList Rows.deskSaysSpec.vars false argsW.toList 8=some ([.lit (.string [])],[],[]) ∧
 (Rows.OpenSpec.upto Rows.deskSaysSpec).bare.sizedB enc Tryz.prog Tryz.f3 false (w0.forCall (fun _ _=>0) ⟨#[],argsW,[]⟩).memory argsW 8=true:=by
 refine⟨{ World.doorLaid Tryz.prog 72 os with heap:=(World.doorLaid Tryz.prog 72 os).heap.modify 1 (ypj Go.Pinned.utf8FirstZ) },rfl,?_,?_,?_,?_,?_,?_⟩
 ·kernel_rfl
 ·kernel_rfl
 ·kernel_rfl
 ·exact laidMetH_of_parts3 (fuel:=8) (laidMet_of_run' 8 (by kernel_rfl) (by kernel_rfl)) (by kernel_rfl) (by kernel_rfl)
 ·kernel_rfl
 ·kernel_rfl
set_option maxRecDepth 100000 in
theorem yi5 (os:Os) (started:os.Started) (H:Type) (enc:TypeId × Value→H) (F:Stop.Interp) :
 ReturnsInHanded {} Tryz.checked os 3 .any ((Rows.OpenSpec.upto Rows.deskSaysSpec).preRow enc Tryz.prog Tryz.f3 Rows.deskSaysUptoRow.domain false Rows.deskSaysUptoRow.laid) (((Rows.OpenSpec.upto Rows.deskSaysSpec).at F).post enc Tryz.prog Tryz.f3 false true false false):=by
 obtain⟨w0,e1,e2,e3,e4,e5,e6,e7⟩:=ynb os H enc
 refine returnsInHanded_of_row (C:=Tryz.checked) (s:=Rows.OpenSpec.upto Rows.deskSaysSpec) own started (by kernel_rfl) Tryz.func3
  (witness_row_atRef (enc:=enc) (C:=Tryz.checked) false w0 argsW e1 e2 e3 e4
   (OpenSpec.preRow_of_cond 8 e6 (by kernel_rfl) (fun k hk=>by cases hk;kernel_rfl) e7 e5)) ?_
 intro W base args ds gs before hval0 hW hcnd hcond hsz0 hL hS _
 have hk:Rows.uptoSmall H (ds++gs)=true:=hcond _ rfl
 have hval:∀(j:Nat) t v,Tryz.f3.params[j]? = some t→args[j]? = some v→Value.okWide Tryz.prog W .any base t v:=hval0
 have hW':=hW
 obtain⟨p,q,hA0,hV,rfl,hfz,hnd⟩:=hW
 have hA:DataW.TrodAll enc Tryz.prog W 0 (fun _=>true) true Tryz.f3.params.toList args.toList ds p:=hA0
 rw[Tryz.params3]at hA hval hsz0
 obtain⟨v1,vs1,d1,ds1,p1,q1,hargs,rfl,rfl,h1,r1⟩:=trodAll_cons hA
 obtain⟨rfl,rfl,rfl⟩:=trodAll_nil r1
 obtain rfl:args = #[v1]:=by cases args;simp_all
 obtain⟨rfl,rfl⟩:=trodVars_none hV
 have lt1:∀x∈p1,x.block<W.heap.size:=by obtain⟨m,hm⟩:=h1;exact DataW.trod_lt m _ _ _ hm
 obtain⟨x1,ok1,l1,q1r⟩:=OpA.arg (OpA.str Tryz.underlying9) h1 hsz0 0 rfl rfl
 have R1:=yet (yfc Tryz.underlying9 (hval 0 9 v1 rfl rfl)) q1r
 have sb1:x1.size≤1048576:=by
  have e:=R1
  simp only[RelA,RelP]at e
  exact z3w (e.1▸h1) Tryz.underlying9 hk (by simp)
 clear hA0 hval0
 refine(z9l (yj0 x1 sb1) (z4y R1 z94) (ynj hS hL)).mono fun e W' ⟨he,bel⟩=>?_
 subst he
 exact⟨_,rfl,_,_,_,[],_,[],hW',trodAll_mk1 (shut_bool Tryz.underlying4 _),(trodAll_cons_mk (Below.trod yfw (by kernel_rfl) (of_decide_eq_true (by kernel_rfl)) h1 bel lt1) trodAll_mk0),rfl,bel.frame _,fun h=>by cases h⟩
theorem over:Rows.DeskSaysUptoSaid :=
 OpenClaim.holds_of_cond 3 Tryz.f3 rfl rfl rfl rfl rfl rfl rfl ⟨rfl,rfl,rfl,rfl,rfl⟩ rfl rfl rfl rfl rfl (by kernel_rfl) Tryz.func3 (by kernel_rfl)
  (of_decide_eq_true (by kernel_rfl)) (by unfold Func.isWrapper;first|(rw[if_pos (by decide +kernel)];kernel_rfl)|(rw[if_neg (by decide +kernel)];exact⟨rfl,rfl⟩))
  (fun os started H enc _ F=>by rw[OpenClaim.pre_eq_preRow];exact yi5 os started H enc F)
theorem ymv (f : FuncId) (fn : Func) (hf : Tryz.pinned.checked.prog.funcNamed "musterfield/mustlaw.DeskSays" = some f) (hfn : Tryz.pinned.checked.prog.funcs[f]? = some fn) :
 true=Tryz.pinned.checked.prog.looks []∧∀(j:Nat) t,fn.params[j]? = some t→Tryz.pinned.checked.prog.wantsStandIn t=false:=by
 obtain rfl : f = 3 := Option.some.inj ((show Tryz.prog.funcNamed "musterfield/mustlaw.DeskSays" = some 3 by kernel_rfl).symm.trans hf) |>.symm
 obtain rfl:fn=Tryz.f3:=(Option.some.inj (Tryz.func3.symm.trans hfn)).symm
 refine⟨by kernel_rfl,fun j t ht=>?_⟩
 rw[Tryz.params3]at ht
 have hm:t ∈ [9]:=by simpa using Array.mem_of_getElem? ht
 have hall:([9].all fun u => !Tryz.prog.wantsStandIn u)=true:=by kernel_rfl
 exact(show Tryz.prog.wantsStandIn t=false by simpa using List.all_eq_true.1 hall t hm)
theorem proved:Rows.DeskSaysUptoCardSaid :=
 Claim7.holds_tied_plain_at .later [] _ _ _ _ over (fun _ h=>by cases h) (by kernel_rfl) (fun _ h=>by cases h) deskSaysUpto_row_tie rfl ⟨rfl,rfl⟩ (by kernel_rfl) rfl ymv (by kernel_rfl)
#print axioms proved
end deskSays
end Go.Proofs.YtgggemkjaccbhaaGreatDoor
