/- Lemmas for the proof of topWire.proved. -/
import Derived.Test.YtmjbgbmegbkmhaaGreatTWi7
namespace Go.Proofs.YtmjbgbmegbkmhaaGreat
set_option linter.all false
open Go.RowKit
set_option maxRecDepth 100000
set_option maxHeartbeats 1000000
def OwnM (w:Wld) (k:Nat) (es:List (List Int × Int)):Prop:=(∀i:Int,zlt [i] es=(w.troops.take k).any fun t=>decide (t.id=i))∧∀j,j<k→zdg [(w.troops.getD j default).id] es=(w.troops.getD j default).owner
theorem OwnM.step {w:Wld} (hw:zaw w=0) {k:Nat} {es:List (List Int × Int)} (h:OwnM w k es) (hk:k<w.troops.length):OwnM w (k+1) (zgv [(w.troops.getD k default).id] (w.troops.getD k default).owner es):=by
 refine⟨fun i => ?_,fun j hj => ?_⟩
 ·rw[zls,zas _ _ hk,List.any_append,h.1 i]
  simp only[List.any_cons,List.any_nil,Bool.or_false,List.cons.injEq,and_true]
  by_cases hi:i=(w.troops.getD k default).id
  ·rw[if_pos hi,decide_eq_true hi.symm,Bool.or_true]
  ·rw[if_neg hi,decide_eq_false (Ne.symm hi),Bool.or_false]
 ·rw[zci]
  by_cases hjk:j=k
  ·subst hjk;rw[if_pos rfl]
  ·have h2:=(zfq hw hk).2
   unfold z85 at h2
   rw[zpp,Bool.and_eq_true]at h2
   have:=(zbk _ _).1 h2.1 j (by omega)
   rw[decide_eq_true_eq]at this
   rw[if_neg (fun h=>by have:=(List.cons.inj h).1;omega)]
   exact h.2 j (by omega)
theorem OwnM.find {w:Wld} {es:List (List Int × Int)} (h:OwnM w w.troops.length es) (i b:Int):(zlt [i] es&&decide (zdg [i] es=b))=match zdr w i with|some t=>decide (t.owner=b)|none=>false:=by
 have h1:=h.1 i
 rw[List.take_length]at h1
 unfold zdr
 cases hf:w.troops.find? (fun t=>decide (t.id=i))with
 | none =>
  have:(w.troops.any fun t=>decide (t.id=i))=false:=by
   rw[List.any_eq_false];intro x hx;simpa using List.find?_eq_none.1 hf x hx
  rw[h1,this];rfl
 | some t =>
  have hm:=List.mem_of_find?_eq_some hf
  have hp:=List.find?_some hf
  rw[decide_eq_true_eq]at hp
  have:(w.troops.any fun t=>decide (t.id=i))=true:=by
   rw[List.any_eq_true];exact⟨t,hm,by simpa using hp⟩
  obtain⟨j,hj,rfl⟩:=List.getElem_of_mem hm
  have h2:=h.2 j hj
  rw[zag _ _ hj,hp]at h2
  rw[h1,this,h2];rfl
def zcx (l:List Ord) (w:Wld):Int:=if zdn l≠0 then zdn l else zaw w
theorem zpr {o:Ord} (h:o.kind≠1):z4w o = []:=by unfold z4w;rw[if_neg h]
theorem zpq {o:Ord} (h:o.kind≠2):z4v o = []:=by unfold z4v;rw[if_neg h]
theorem z4o {o:Ord} (h:¬2<o.kind):zxl o = []:=by unfold zxl;rw[if_neg h]
theorem yh2 {o:Ord} (h:o.kind=1):z4w o = [⟨o.who,o.what⟩]:=by unfold z4w;rw[if_pos h]
theorem yhy {o:Ord} (h:o.kind=2):z4v o = [⟨o.who,o.c⟩]:=by unfold z4v;rw[if_pos h]
theorem yh1 {o:Ord} (ho:ze5 o=0) (h:o.kind=3):zxl o = [⟨1,o.who,o.c,0⟩]:=by
 have:=zfs ho
 unfold zxl z74;rw[if_pos (by omega),h,if_neg (by decide),this.2.2.2.2.2.2.2 (by omega) (by omega)];rfl
theorem yh0 {o:Ord} (ho:ze5 o=0) (h:o.kind=4):zxl o = [⟨2,o.who,⟨0,0⟩,0⟩]:=by
 have:=zfs ho
 unfold zxl z74;rw[if_pos (by omega),h,if_neg (by decide),this.2.2.2.2.2.2.2 (by omega) (by omega),this.2.2.2.2.2.2.1 (by omega) (by omega)];rfl
theorem yhz {o:Ord} (ho:ze5 o=0) (h:o.kind=5):zxl o = [⟨3,o.by_,⟨0,0⟩,o.what⟩]:=by
 have:=zfs ho
 unfold zxl z74;rw[if_pos (by omega),h,if_pos rfl,this.2.2.2.2.2.2.1 (by omega) (by omega)];rfl
theorem z0i (l:List Ord) (w:Wld) (hll:l.length≤9223372036854775807) (hl:zf7 w) (h:zcx l w≠0):Spec Tryz.prog 46 [.c (.sl 6 (l.map zed)),zdi w] [] (.tup [.c (.v (.slice none 0 0)),.c (.v (.slice none 0 0)),.c (.v (.slice none 0 0)),I .i64 (zcx l w)]) []:=by
 refine spB Tryz.func46 82 [.tmp 4,.tmp 5,.tmp 6,.tmp 7] Tryz.results46 ?_
 try refine xst ?_
 refine caP (zvv l hll) ?_
 try refine xst ?_
 refine cI (fun h1 => ?_) fun h1 => ?_
 ·have e:zcx l w=zdn l:=by unfold zcx;rw[if_pos h1]
  try refine xst ?_
  (first|(refine zaz rfl (Wk.of ?_);(try simp(etaStruct := .none)only[push_cast,zab,seval]);first|done|(simp[e, *];done)|(simp_all[e];done))|(refine zaz rfl ?_;(try simp(etaStruct := .none)only[push_cast,zab,seval]);(try simp[e, *]);(try exact wkc)))
 ·try refine xst ?_
  refine caP (zeq w hl) ?_
  try refine xst ?_
  refine cI (fun h2 => ?_) fun h2 => ?_
  ·have e:zcx l w=zaw w:=by unfold zcx;rw[if_neg (by simpa using h1)]
   try refine xst ?_
   (first|(refine zaz rfl (Wk.of ?_);(try simp(etaStruct := .none)only[push_cast,zab,seval]);first|done|(simp[e, *];done)|(simp_all[e];done))|(refine zaz rfl ?_;(try simp(etaStruct := .none)only[push_cast,zab,seval]);(try simp[e, *]);(try exact wkc)))
  ·exact absurd (by unfold zcx;rw[if_neg (by simpa using h1)];exact h2) h
theorem z0h (l:List Ord) (w:Wld) (hll:l.length≤9223372036854775807) (hl:zf7 w) (ho:zdn l=0) (hw:zaw w=0):Spec Tryz.prog 46 [.c (.sl 6 (l.map zed)),zdi w] [] (.tup [.c (.sl 2 ((zc8 l w).map zfa)),.c (.sl 3 ((zfi l w).map ze7)),.c (.sl 5 ((zcu l w).map zmm)),I .i64 0]) []:=by
 obtain⟨ho1,ho2⟩:=zgu ho
 obtain⟨w1,w2,w3,w4,w5⟩:=zdt hw
 refine spB Tryz.func46 82 [.tmp 4,.tmp 5,.tmp 6,.tmp 7] Tryz.results46 ?_
 try refine xst ?_
 refine caP (zvv l hll) ?_
 try refine xst ?_
 refine cI (fun h1 => ?_) fun h1 => ?_
 ·exact absurd ho h1
 ·try refine xst ?_
  refine caP (zeq w hl) ?_
  try refine xst ?_
  refine cI (fun h2 => ?_) fun h2 => ?_
  ·exact absurd hw h2
  ·try refine xst ?_
   refine za3 (fun x:Nat × List (List Int × Int)=>⟨[(32,I .i64 x.1),(31,I .i64 w.troops.length),(30,.c (.sl 7 (w.troops.map za2))),(10,.map 1),(3,.ptr 0 0 0),(0,.c (.sl 6 (l.map zed)))],[(0,.blk 28 (znz w)),(1,.mp false 1 x.2)],2⟩) (fun x:Nat × List (List Int × Int)=>x.1≤w.troops.length∧OwnM w x.1 x.2) (fun x:Nat × List (List Int × Int)=>w.troops.length-x.1) ((0,[])) (⟨Nat.zero_le _,fun i=>rfl,fun j h=>absurd h (Nat.not_lt_zero _)⟩) (To.mk [0,1] rfl rfl (by decide) ?_ ?_) ?_
   ·simp(etaStruct := .none)only[push_cast,zab,seval]
   ·simp(etaStruct := .none)only[push_cast,zab,seval]
   rintro⟨k,es⟩ ⟨hk,hn⟩
   simp only at hk hn
   try refine xst ?_
   refine cI (fun h3 => ?_) fun h3 => ?_
   ·have hlt:k<w.troops.length:=by omega
    try refine xz2 (gd hlt) zbh ?_
    refine⟨(k+1,zgv [(w.troops.getD k default).id] (w.troops.getD k default).owner es),⟨by simp only;omega,hn.step hw hlt⟩,by simp only;omega,To.mk [0,1] rfl rfl (by decide) ?_ ?_⟩
    ·(try(refine xz2 (gd hlt) zbh ?_;try exact xtI))
    ·(try(refine xz2 (gd hlt) zbh ?_;try exact xtI))
   ·obtain rfl:k=w.troops.length:=by omega
    have of:=hn.find
    try refine xst ?_
    refine za3 (fun k:Nat=>⟨[(44,I .i64 k),(43,I .i64 l.length),(42,.c (.sl 6 (l.map zed))),(13,.ptr 2 0 0),(10,.map 1),(3,.ptr 0 0 0)],[(0,.blk 28 (znz w)),(1,.mp false 1 es),(2,.blk 193 [.own 3,.own 4,.own 5]),(3,.row 261 2 ((zc8 (l.take k) w).map zfa)),(4,.row 263 3 ((zfi (l.take k) w).map ze7)),(5,.row 202 5 ((zcu (l.take k) w).map zmm))],6⟩) (fun k:Nat=>k≤l.length) (fun k:Nat=>l.length-k) (0) (Nat.zero_le _) (((To.nilC 2 0 261 2 193 _ rfl rfl).trans ((To.nilC 2 1 263 3 193 _ rfl rfl).trans (To.nilC 2 2 202 5 193 _ rfl rfl))).trans (To.mk [0,1,2,3,4,5] rfl rfl (by decide) ?_ ?_)) ?_
    ·simp(etaStruct := .none)only[push_cast,zab,seval,List.set_cons_zero,List.set_cons_succ,zc8,zfi,zcu,List.filter_nil,List.flatMap_nil]
    ·simp(etaStruct := .none)only[push_cast,zab,seval]
    rintro k hk
    try refine xst ?_
    refine cI (fun h4 => ?_) fun h4 => ?_
    ·have hlt:k<l.length:=by omega
     have hor:=ho2 _ (zbj l k hlt)
     have hok:=zfs hor
     have st1:=zmb (fun o=>zd3 o w) z4w l k hlt
     have st2:=zmb (fun o=>zd3 o w) z4v l k hlt
     have st3:=zmb (fun o=>zd3 o w) zxl l k hlt
     have fl1:=zfz (fun o=>zd3 o w) z4w zxm (l.take k)
     have fl2:=zfz (fun o=>zd3 o w) z4v zxj (l.take k)
     have fl3:=zfz (fun o=>zd3 o w) zxl zxk (l.take k)
     rw[List.length_take]at fl1 fl2 fl3
     change zc8 (l.take (k+1)) w=zc8 (l.take k) w++_ at st1
     change zfi (l.take (k+1)) w=zfi (l.take k) w++_ at st2
     change zcu (l.take (k+1)) w=zcu (l.take k) w++_ at st3
     change (zc8 (l.take k) w).length≤_ at fl1
     change (zfi (l.take k) w).length≤_ at fl2
     change (zcu (l.take k) w).length≤_ at fl3
     try refine xz2 (gd hlt) zcf ?_
     refine znq (fun x:Int × Bool=>⟨[(44,I .i64 k),(43,I .i64 l.length),(42,.c (.sl 6 (l.map zed))),(17,B x.2),(16,I .i64 x.1),(15,.ptr 6 0 0),(13,.ptr 2 0 0),(10,.map 1),(3,.ptr 0 0 0)],[(0,.blk 28 (znz w)),(1,.mp false 1 es),(2,.blk 193 [.own 3,.own 4,.own 5]),(3,.row 261 2 ((zc8 (l.take k) w).map zfa)),(4,.row 263 3 ((zfi (l.take k) w).map ze7)),(5,.row 202 5 ((zcu (l.take k) w).map zmm)),(6,.blk 48 [I .i64 (l.getD k default).by_,I .i64 (l.getD k default).kind,I .i64 (l.getD k default).who,I .i64 (l.getD k default).c.x,I .i64 (l.getD k default).c.y,I .i64 (l.getD k default).what])],7⟩) (fun x:Int × Bool=>(x.2&&decide (x.1=(l.getD k default).by_))=zd3 (l.getD k default) w) (fun h5 => ?_) (fun h5 => ?_) ?_
     ·(try replace h5:=xhh h5)
      try refine xz2 (gd hlt) zcf ?_
      (try(refine⟨by kernel_rfl,?_⟩))
      try refine xz2 (gd hlt) zcf ?_
      refine⟨((l.getD k default).by_,decide ((l.getD k default).by_<w.bases.length)),by unfold zd3;rw[if_pos h5];simp,To.mk [0,1,2,3,4,5,6] rfl rfl (by decide) ?_ ?_⟩
      ·(try(refine xz2 (gd hlt) zcf ?_;try exact xtI))
      ·(try(refine xz2 (gd hlt) zcf ?_;try exact xtI))
     ·(try replace h5:=xhh h5)
      try refine xz2 (gd hlt) zcf ?_
      refine⟨(zdg [(l.getD k default).who] es,zlt [(l.getD k default).who] es),by rw[of];unfold zd3;rw[if_neg h5];cases zdr w (l.getD k default).who<;>rfl,To.mk [0,1,2,3,4,5,6] rfl rfl (by decide) ?_ ?_⟩
      ·(try(refine xz2 (gd hlt) zcf ?_;try exact xtI))
      ·(try(refine xz2 (gd hlt) zcf ?_;try exact xtI))
     ·rintro⟨by1,ok1⟩ hx
      simp only at hx
      try refine xz2 (gd hlt) zcf ?_
      refine cI (fun h6 => ?_) fun h6 => ?_
      ·have ha:zd3 (l.getD k default) w=true:=by rw[←hx];simp only[h6.1,h6.2,decide_true,Bool.and_self]
       rw[if_pos ha]at st1 st2 st3
       try refine xz2 (gd hlt) zcf ?_
       have hkind:(l.getD k default).kind=1∨(l.getD k default).kind=2∨(l.getD k default).kind=3∨(l.getD k default).kind=4∨(l.getD k default).kind=5:=by omega
       rcases hkind with h|h|h|h|h
       ·rw[yh2 h]at st1;rw[zpq (by omega)]at st2;rw[z4o (by omega)]at st3
        refine zcb [2,3,4,5] (z8p (l.getD k default) (zc8 (l.take k) w) (zfi (l.take k) w) (zcu (l.take k) w) h (by omega)) (WkL.refl _) rfl (by decide) (by simp[zay]) ?_
        try refine xz2 (gd hlt) zcf ?_
        refine⟨k+1,by omega,by omega,To.mk [0,1,2,7,4,5] rfl rfl (by decide) ?_ ?_⟩
        ·(iterate 2((try simp(etaStruct := .none)only[push_cast,zab,seval,st1,st2,st3,List.append_nil,List.map_append,zfa]);(try(refine xsu ?_;try exact xtI))))
        ·(try(refine xst ?_;try exact xtI))
       ·rw[zpr (by omega)]at st1;rw[yhy h]at st2;rw[z4o (by omega)]at st3
        refine zcb [2,3,4,5] (yhw (l.getD k default) (zc8 (l.take k) w) (zfi (l.take k) w) (zcu (l.take k) w) h (by omega)) (WkL.refl _) rfl (by decide) (by simp[zay]) ?_
        try refine xz2 (gd hlt) zcf ?_
        refine⟨k+1,by omega,by omega,To.mk [0,1,2,3,7,5] rfl rfl (by decide) ?_ ?_⟩
        ·(iterate 2((try simp(etaStruct := .none)only[push_cast,zab,seval,st1,st2,st3,List.append_nil,List.map_append,ze7]);(try(refine xsu ?_;try exact xtI))))
        ·(try(refine xst ?_;try exact xtI))
       ·rw[zpr (by omega)]at st1;rw[zpq (by omega)]at st2;rw[yh1 hor h]at st3
        refine zcb [2,3,4,5] (z8m (l.getD k default) (zc8 (l.take k) w) (zfi (l.take k) w) (zcu (l.take k) w) h (by omega)) (WkL.refl _) rfl (by decide) (by simp[zay]) ?_
        try refine xz2 (gd hlt) zcf ?_
        refine⟨k+1,by omega,by omega,To.mk [0,1,2,3,4,7] rfl rfl (by decide) ?_ ?_⟩
        ·(iterate 2((try simp(etaStruct := .none)only[push_cast,zab,seval,st1,st2,st3,List.append_nil,List.map_append,zmm]);(try(refine xsu ?_;try exact xtI))))
        ·(try(refine xst ?_;try exact xtI))
       ·rw[zpr (by omega)]at st1;rw[zpq (by omega)]at st2;rw[yh0 hor h]at st3
        refine zcb [2,3,4,5] (z8o (l.getD k default) (zc8 (l.take k) w) (zfi (l.take k) w) (zcu (l.take k) w) h (by omega)) (WkL.refl _) rfl (by decide) (by simp[zay]) ?_
        try refine xz2 (gd hlt) zcf ?_
        refine⟨k+1,by omega,by omega,To.mk [0,1,2,3,4,7] rfl rfl (by decide) ?_ ?_⟩
        ·(iterate 2((try simp(etaStruct := .none)only[push_cast,zab,seval,st1,st2,st3,List.append_nil,List.map_append,zmm]);(try(refine xsu ?_;try exact xtI))))
        ·(try(refine xst ?_;try exact xtI))
       ·rw[zpr (by omega)]at st1;rw[zpq (by omega)]at st2;rw[yhz hor h]at st3
        refine zcb [2,3,4,5] (z8n (l.getD k default) (zc8 (l.take k) w) (zfi (l.take k) w) (zcu (l.take k) w) h (by omega)) (WkL.refl _) rfl (by decide) (by simp[zay]) ?_
        try refine xz2 (gd hlt) zcf ?_
        refine⟨k+1,by omega,by omega,To.mk [0,1,2,3,4,7] rfl rfl (by decide) ?_ ?_⟩
        ·(iterate 2((try simp(etaStruct := .none)only[push_cast,zab,seval,st1,st2,st3,List.append_nil,List.map_append,zmm]);(try(refine xsu ?_;try exact xtI))))
        ·(try(refine xst ?_;try exact xtI))
      ·have ha:zd3 (l.getD k default) w=false:=by
        rw[←hx]
        rcases h6 with h|h
        ·rw[h];rfl
        ·rw[decide_eq_false h,Bool.and_false]
       rw[ha]at st1 st2 st3
       simp only[Bool.false_eq_true,if_false,List.append_nil]at st1 st2 st3
       try refine xz2 (gd hlt) zcf ?_
       refine⟨k+1,by omega,by omega,To.mk [0,1,2,3,4,5] rfl rfl (by decide) ?_ ?_⟩
       ·(try(refine xz3 st1 st2 st3 ?_;try exact xtI))
       ·(try(refine xz2 (gd hlt) zcf ?_;try exact xtI))
    ·obtain rfl:k=l.length:=by omega
     iterate 2(try simp(etaStruct := .none)only[push_cast,zab,seval,List.take_length];try refine xsu ?_)
     (try(refine⟨by kernel_rfl,?_⟩))
     iterate 2(try simp(etaStruct := .none)only[push_cast,zab,seval,List.take_length];try refine xsu ?_)
     exact xrz rfl
end Go.Proofs.YtmjbgbmegbkmhaaGreat
namespace Go.Proofs.YtmjbgbmegbkmhaaGreat
set_option linter.all false
open Go.RowKit
set_option maxRecDepth 100000
theorem z3u (w:Wld) (d:Ded):(zgd w d).1.now=w.now:=by
 unfold zgd
 repeat' split
 all_goals rfl
theorem zzc (l:List Ded):∀w,(zbi w l).1.now=w.now:=by
 induction l with
 | nil=>intro w;rfl
 | cons a r ih=>intro w;rw[zbi,ih,z3u]
def tkA (w:Wld) (l:List Ord):Wld:=ze2 w (zc8 l w)
def tkB (WR:Cel→List Int) (w:Wld) (l:List Ord):Wld:=z4s (tkA w l) (zhc w.f WR (zfi l w) (tkA w l).troops).1
def tkC (WR:Cel→List Int) (w:Wld) (l:List Ord):Wld:=(zbi (tkB WR w l) (zcu l w)).1
def z6m (w:Wld):Wld:={ w with now:=w.now+1 }
def zfp (WR:Cel→List Int) (w:Wld) (l:List Ord):Wld:=z6m (tkC WR w l)
def yal (w:Wld) (l:List Ord):List Int:=z7f w (zc8 l w)
def yak (WR:Cel→List Int) (w:Wld) (l:List Ord):List Int:=(zhc w.f WR (zfi l w) (tkA w l).troops).2
def yam (WR:Cel→List Int) (w:Wld) (l:List Ord):List Bool:=(zbi (tkB WR w l) (zcu l w)).2
def zb4 (l:List Ord) (w:Wld):Int:=if zcx l w≠0 then zcx l w else if 1000000≤w.now then 6 else 0
theorem zfc {l:List Ord} {w:Wld} (h:zcx l w=0):zdn l=0∧zaw w=0:=by
 have ho:zdn l=0:=by
  unfold zcx at h
  split at h
  ·rename_i h1;exact absurd h h1
  ·rename_i h1;simpa using h1
 exact⟨ho,by unfold zcx at h;rwa [if_neg (by simp[ho])]at h⟩
theorem zxx {l:List Ord} {w:Wld} (h:zdn l=0):(zc8 l w).length≤100∧(zfi l w).length≤100∧(zcu l w).length≤100:=by
 obtain⟨o1,o2⟩:=zgu h
 have f1:=zfz (fun o=>zd3 o w) z4w zxm l
 have f2:=zfz (fun o=>zd3 o w) z4v zxj l
 have f3:=zfz (fun o=>zd3 o w) zxl zxk l
 change (zc8 l w).length≤_ at f1
 change (zfi l w).length≤_ at f2
 change (zcu l w).length≤_ at f3
 omega
theorem zqu {w:Wld} (h:Right w) (l:List Ord):Right (tkA w l):=zqv h _ fun id=>(z20 w _ id).1
theorem zqt {w:Wld} (h:Right w) {WR:Cel→List Int} (hWR:∀a,zat w.f [a] (WR a)) (l:List Ord):Right (tkB WR w l):=zod (w:=tkA w l) (zqu h l) hWR _
theorem zqs {w:Wld} (h:Right w) {WR:Cel→List Int} (hWR:∀a,zat w.f [a] (WR a)) (l:List Ord):Right (tkC WR w l):=zlf _ (zqt h hWR l)
theorem z0c (WR:Cel→List Int) (w:Wld) (l:List Ord):(tkC WR w l).now=w.now:=by unfold tkC;rw[zzc];rfl
theorem zs8 {w:Wld} (h:Right w) (hn:w.now<1000000):Right (z6m w):=by
 have:=h.nw
 refine⟨h.f,h.nb,h.nt,h.sl,h.ml,h.nx,?_,h.base,h.mine,fun k hk => ?_,h.ord⟩
 ·change 0≤w.now+1∧w.now+1≤1000000;omega
 ·have t:=h.trp k hk
  exact⟨t.kind,t.id,t.owner,t.at_,t.x,t.y,t.life,t.load⟩
theorem zi5 {w:Wld} (h:Right w) {WR:Cel→List Int} (hWR:∀a,zat w.f [a] (WR a)) (l:List Ord) (hn:w.now<1000000):Right (zfp WR w l):=zs8 (zqs h hWR l) (by rw[z0c];exact hn)
end Go.Proofs.YtmjbgbmegbkmhaaGreat
namespace Go.Proofs.YtmjbgbmegbkmhaaGreat
set_option linter.all false
open Go.RowKit
set_option maxRecDepth 100000
set_option maxHeartbeats 1000000
abbrev yig (g m:List Int) (d:List Bool):AV := .agg [.c (.sl 1 (g.map zae)),.c (.sl 1 (m.map zae)),.c (.sl 1 (d.map zfl))]
theorem yan (w:Wld) (l:List Ord) (WR:Cel→List Int) (hWR:∀a,zat w.f [a] (WR a)) (hll:l.length≤9223372036854775807) (h:zb4 l w=0):Spec Tryz.prog 14 [zdi w,.c (.sl 6 (l.map zed))] [] (.tup [zdi (zfp WR w l),yig (yal w l) (yak WR w l) (yam WR w l),I .i64 0]) []:=by
 have hs:zcx l w=0:=by unfold zb4 at h;split at h;rename_i h1;exact absurd h h1;rename_i h1;simpa using h1
 have hn:w.now<1000000:=by unfold zb4 at h;rw[if_neg (by simp[hs])]at h;split at h;exact absurd h (by decide);omega
 obtain⟨ho,hw⟩:=zfc hs
 have R0:=zea hw
 have RA:=zqu R0 l
 have RB:=zqt R0 hWR l
 have RC:=zqs R0 hWR l
 obtain⟨n1,n2,n3⟩:=zxx (w:=w) ho
 have hnow:(tkC WR w l).now=w.now:=z0c WR w l
 have hnw:=R0.nw
 have e1:zbq w (zc8 l w)=0:=by unfold zbq;rw[if_neg (by simp[hw]),if_neg (by omega)]
 have HK:=zru w (zc8 l w) R0.l (by omega) e1
 rw[e1,show ze3 w (zc8 l w)=tkA w l from by unfold ze3;rw[if_pos e1];rfl,show zrx w (zc8 l w)=yal w l from by unfold zrx;rw[if_pos e1];rfl]at HK
 have e2:zk7 (tkA w l) (zfi l w)=0:=by unfold zk7;rw[if_neg (by simp[RA.e]),if_neg (by omega)]
 have MK:=z6s (tkA w l) (zfi l w) WR hWR RA.l (by omega)
 rw[e2,if_pos rfl,if_pos rfl,show z4s (tkA w l) (zhc (tkA w l).f WR (zfi l w) (tkA w l).troops).1=tkB WR w l from rfl,show (zhc (tkA w l).f WR (zfi l w) (tkA w l).troops).2=yak WR w l from rfl]at MK
 have DK:=ync (tkB WR w l) (zcu l w) RB (by omega)
 rw[show (zbi (tkB WR w l) (zcu l w)).1=tkC WR w l from rfl,show (zbi (tkB WR w l) (zcu l w)).2=yam WR w l from rfl]at DK
 have hup:IntKind.i64.wrap ((tkC WR w l).now+1)=w.now+1:=by rw[hnow];exact zaq _ (by omega) (by omega)
 have htv:zfp WR w l = { tkC WR w l with now:=w.now+1 }:=by unfold zfp z6m;rw[hnow]
 rw[htv]
 refine spB Tryz.func14 62 [.cell 4 28,.cell 5 63,.tmp 6] Tryz.results14 ?_
 try refine xst ?_
 refine caP (z0h l w hll R0.l ho hw) ?_
 try refine xst ?_
 refine cI (fun h1 => ?_) fun h1 => ?_
 ·omega
 ·try refine xst ?_
  refine cI (fun h2 => ?_) fun h2 => ?_
  ·simp at h2
  ·iterate 2(try simp(etaStruct := .none)only[push_cast,zab,seval,hup];try refine xsu ?_)
   refine caP (HK) ?_
   iterate 2(try simp(etaStruct := .none)only[push_cast,zab,seval,hup];try refine xsu ?_)
   refine caP (MK) ?_
   iterate 2(try simp(etaStruct := .none)only[push_cast,zab,seval,hup];try refine xsu ?_)
   refine caP (DK) ?_
   iterate 2(try simp(etaStruct := .none)only[push_cast,zab,seval,hup];try refine xsu ?_)
   (try(refine⟨by kernel_rfl,?_⟩))
   iterate 2(try simp(etaStruct := .none)only[push_cast,zab,seval,hup];try refine xsu ?_)
   exact xrz rfl
theorem yap (w:Wld) (l:List Ord) (hl:zf7 w) (hll:l.length≤9223372036854775807) (h:zcx l w≠0):Spec Tryz.prog 14 [zdi w,.c (.sl 6 (l.map zed))] [] (.tup [zdi default,yig [] [] [],I .i64 (zcx l w)]) []:=by
 refine spB Tryz.func14 62 [.cell 4 28,.cell 5 63,.tmp 6] Tryz.results14 ?_
 try refine xst ?_
 refine caP (z0i l w hll hl h) ?_
 try refine xst ?_
 refine cI (fun h1 => ?_) fun h1 => ?_
 ·exact absurd h1.1 h
 ·try refine xst ?_
  refine cI (fun h2 => ?_) fun h2 => ?_
  ·try refine xst ?_
   exact xrz rfl
  ·exact absurd h2 h
theorem yao (w:Wld) (l:List Ord) (hl:zf7 w) (hll:l.length≤9223372036854775807) (hs:zcx l w=0) (hn:1000000≤w.now):Spec Tryz.prog 14 [zdi w,.c (.sl 6 (l.map zed))] [] (.tup [zdi default,yig [] [] [],I .i64 6]) []:=by
 obtain⟨ho,hw⟩:=zfc hs
 refine spB Tryz.func14 62 [.cell 4 28,.cell 5 63,.tmp 6] Tryz.results14 ?_
 try refine xst ?_
 refine caP (z0h l w hll hl ho hw) ?_
 try refine xst ?_
 refine cI (fun h1 => ?_) fun h1 => ?_
 ·try refine xst ?_
  refine cI (fun h2 => ?_) fun h2 => ?_
  ·try refine xst ?_
   exact xrz rfl
  ·simp at h2
 ·omega
def zp0 (WR:Cel→List Int) (w:Wld) (l:List Ord):Wld:=if zb4 l w=0 then zfp WR w l else default
def z83 (w:Wld) (l:List Ord):List Int:=if zb4 l w=0 then yal w l else []
def z82 (WR:Cel→List Int) (w:Wld) (l:List Ord):List Int:=if zb4 l w=0 then yak WR w l else []
def z84 (WR:Cel→List Int) (w:Wld) (l:List Ord):List Bool:=if zb4 l w=0 then yam WR w l else []
theorem zst (w:Wld) (l:List Ord) (WR:Cel→List Int) (hWR:∀a,zat w.f [a] (WR a)) (hl:zf7 w) (hll:l.length≤9223372036854775807):Spec Tryz.prog 14 [zdi w,.c (.sl 6 (l.map zed))] [] (.tup [zdi (zp0 WR w l),yig (z83 w l) (z82 WR w l) (z84 WR w l),I .i64 (zb4 l w)]) []:=by
 unfold zp0 z83 z82 z84
 by_cases h:zb4 l w=0
 ·rw[if_pos h,if_pos h,if_pos h,if_pos h,h];exact yan w l WR hWR hll h
 ·rw[if_neg h,if_neg h,if_neg h,if_neg h]
  by_cases hs:zcx l w=0
  ·have hn:1000000≤w.now:=by
    unfold zb4 at h;rw[if_neg (by simp[hs])]at h;split at h;assumption;exact absurd rfl h
   rw[show zb4 l w=6 from by unfold zb4;rw[if_neg (by simp[hs]),if_pos hn]];exact yao w l hl hll hs hn
  ·rw[show zb4 l w=zcx l w from by unfold zb4;rw[if_pos hs]];exact yap w l hl hll hs
end Go.Proofs.YtmjbgbmegbkmhaaGreat
namespace Go.Proofs.YtmjbgbmegbkmhaaGreat
set_option linter.all false
open Go.RowKit
theorem zu3 {P:Program} {f:FuncId} (hf:zfn P f) (args:List AV) (r:AV) (v:Value) (hr:∀(U:Nat→Prop) (w:World) (F:Nat→Prop) (β : Nat→Option Bind),RelA U w F β r v)
 (h:∀(w:World) (F:Nat→Prop) (β : Nat→Option Bind) (vs:List Value),(∀b,F b→b<w.heap.size)→RelL (· < 0) w F β args vs→Calls P f vs.toArray w fun e w'=>e = .returned v∧Below w.heap.size w w'):Spec P f args [] r []:=by
 refine⟨hf,Nat.le_refl _,fun w F β vs M hv => ?_⟩
 refine(h w F β vs M.fin hv).mono ?_
 rintro e w' ⟨rfl,hb⟩
 obtain⟨S1,S2⟩:=M.step (w':=w') (h':=nth []) (β' := β) (F':=F) (U':=(· < 0)) (fun _=>False) (fun _ _=>rfl) (fun _ _=>rfl) hb.os hb.tape hb.output hb.size (fun b h _=>hb.block b h) (fun _ h=>h) (fun _ h=>h)
  (fun b h=>⟨Nat.lt_of_lt_of_le (M.fin b h) hb.size,.inl h⟩) (fun _ _ h=>h.elim) (fun _ _ h=>h.elim) (fun _ _ _ _ _ h=>h.elim) (fun _ _ h=>h.elim)
 exact⟨v,F,β,rfl,S1,hr _ _ _ _,fun _ h=>h,fun _ h => .inl h,fun _ _ _ h=>⟨_,h⟩⟩
theorem ybd {α : Type} {w:World} {F:Nat→Prop} {u:Value} (enc : α → Value) (xs:List α) (hF:∀b,F b→b<w.heap.size) (h:RelP w F (.sl 1 (xs.map fun x => [.v (enc x)])) u) :
 ∃a c,u = .slice a xs.length c∧xs.length≤c∧c≤maxLen∧Els w w.heap.size a 1 (fun x => [enc x]) xs:=by
 simp only[RelP]at h
 obtain⟨a,c,rfl,h1,h2,h3⟩:=h
 rw[List.length_map]at h1
 refine⟨a,c,by rw[List.length_map],h1,h2,?_⟩
 rcases h3 with h3|⟨b,o,rfl,hb,hE⟩
 ·exact .inl (by simpa using h3)
 ·refine .inr ⟨b,o,rfl,hF b hb,fun i j v hv => ?_⟩
  cases hx:xs[i]? with
  | none=>rw[hx]at hv;simp at hv
  | some x =>
   rw[hx]at hv
   cases j with
   | succ j=>simp at hv
   | zero =>
    have hv':enc x=v:=by simpa using hv
    obtain⟨_,hc⟩:=RelE.at hE i [.v (enc x)] (by simp[hx])
    obtain⟨u,hu,hr⟩:=RelC.at hc 0 _ rfl
    simp only[RelP]at hr
    rw[←hv',←hr.1,←hu];rfl
theorem zvg {w:World} {U F:Nat→Prop} {β : Nat→Option Bind} {p:PV} {vs:List Value} (h:RelL U w F β [.c p] vs):∃u,vs = [u]∧RelP w F p u:=by
 simp only[RelL,RelA]at h
 obtain⟨u,us,rfl,h1,rfl⟩:=h
 exact⟨u,rfl,h1⟩
end Go.Proofs.YtmjbgbmegbkmhaaGreat
namespace Go.Proofs.YtmjbgbmegbkmhaaGreat
set_option linter.all false
open Go.RowKit
set_option maxRecDepth 100000
set_option maxHeartbeats 1000000
theorem ygt (s:ByteArray) (hs:s.size≤140737488351232):Spec Tryz.prog 119 [S s] [] (.c (.v (.int .u64 (z2g s:Nat)))) [] :=
 zh7 (zgn Tryz.func119 rfl rfl) [.string s] _ rfl fun w=>(z64 s w hs).mono fun e w' ⟨h1,h2⟩=>⟨h1,h2▸Below.refl _ _⟩
theorem zyd {s:ByteArray} {n:Int} {U:Nat→Prop} {w:World} {F:Nat→Prop} {β : Nat→Option Bind} : RelA U w F β (.tup [S s,I .i64 n]) (.tuple #[.string s,.int .i64 n]):=by
 simp only[RelA]
 refine⟨_,rfl,?_⟩
 simp[RelL,RelA,RelP,Value.oneCell']
theorem zvk (xs:List Int) (hx:∀x∈xs,I64 x) (hl:xs.length≤140737488351232):Spec Tryz.prog 62 [.c (.sl 1 (xs.map zae))] [] (.tup [S (paR xs).1,I .i64 (paR xs).2]) [] :=
 zu3 (zgn Tryz.func62 rfl rfl) _ _ (.tuple #[.string (paR xs).1,.int .i64 (paR xs).2]) (fun _ _ _ _=>zyd) fun w F β vs hF hv=>by
  obtain⟨u,rfl,hu⟩:=zvg hv
  obtain⟨a,c,rfl,_,_,hE⟩:=ybd (fun n:Int=>Value.int .i64 n) xs hF hu
  exact zyg a c w.heap.size xs w hE hx hl (Nat.le_refl _)
theorem yb2 (m n:Nat) (hm:m<18446744073709551616):Spec Tryz.prog 151 [.c (.v (.int .u64 m)),.c (.v (.int .u64 n))] [] (.c (.v (.int .u64 (m ^^^ mx n:Nat)))) [] :=
 zh7 (zgn Tryz.func151 rfl rfl) [.int .u64 m,.int .u64 n] _ rfl fun w=>(z46 m n hm w).mono fun e w' h=>⟨h.1,h.2▸Below.refl _ _⟩
theorem ygj (m:Nat):mk m []=m:=rfl
theorem mkl (l:List Nat) (m:Nat) (k:Nat) (h:k<l.length):mk m (l.take (k+1))=mk m (l.take k) ^^^ mx (l.getD k default):=by rw[zas l k h,yb5]
theorem ygl (l:List Nat) (hl:l.length≤1000000):Spec Tryz.prog 120 [.c (.sl 1 [[.sl 1 (l.map zmp)]])] [] (.c (.v (.int .u64 (mk 0 l:Nat)))) []:=by
 refine spB Tryz.func120 26 [.tmp 2] Tryz.results120 ?_
 try refine xst ?_
 refine za3 (fun k:Nat=>⟨[(10,I .i64 k),(9,I .i64 1),(8,.c (.sl 1 [[.sl 1 (l.map zmp)]])),(3,.c (.v (.int .u64 ((if k=0 then 0 else mk 0 l:Nat):Int))))],[],0⟩) (fun k:Nat=>k≤1) (fun k:Nat=>1-k) (0) (Nat.zero_le _) (To.mk [] rfl rfl List.nodup_nil trivial ?_) ?_
 ·simp(etaStruct := .none)only[push_cast,zab,seval,if_pos trivial]
 rintro k hk
 try refine xst ?_
 refine cI (fun h1 => ?_) fun h1 => ?_
 ·obtain rfl:k=0:=by omega
  try refine xst ?_
  refine za3 (fun k:Nat=>⟨[(16,I .i64 k),(15,I .i64 l.length),(14,.c (.sl 1 (l.map zmp))),(10,I .i64 0),(9,I .i64 1),(8,.c (.sl 1 [[.sl 1 (l.map zmp)]])),(3,.c (.v (.int .u64 (mk 0 (l.take k):Nat))))],[],0⟩) (fun k:Nat=>k≤l.length) (fun k:Nat=>l.length-k) (0) (Nat.zero_le _) (To.mk [] rfl rfl List.nodup_nil trivial ?_) ?_
  ·simp(etaStruct := .none)only[push_cast,zab,seval,List.take_zero,ygj]
  rintro k hk
  try refine xst ?_
  refine cI (fun h2 => ?_) fun h2 => ?_
  ·have hlt:k<l.length:=by omega
   have ml:=mkl l 0 k hlt
   try refine xz2 (gd hlt) z81 ?_
   refine caP (yb2 (mk 0 (l.take k)) (l.getD k default) (ykn _ 0 (by decide))) ?_
   try refine xz2 (gd hlt) z81 ?_
   refine⟨k+1,by omega,by omega,To.mk [] rfl rfl List.nodup_nil trivial ?_⟩
   ·(try(refine xz1 ml ?_;try exact xtI))
  ·obtain rfl:k=l.length:=by omega
   iterate 2(try simp(etaStruct := .none)only[push_cast,zab,seval,List.take_length];try refine xsu ?_)
   refine⟨1,by omega,by omega,To.mk [] rfl rfl List.nodup_nil trivial ?_⟩
   ·(iterate 2((try simp(etaStruct := .none)only[push_cast,zab,seval,if_neg (show ¬(1:Nat)=0 by decide),Int.zero_add]);(try(refine xsu ?_;try exact xtI))))
 ·obtain rfl:k=1:=by omega
  try refine xst ?_
  exact xrz rfl
theorem ykm (l:List Nat) (hl:l.length≤1000000):Spec Tryz.prog 70 [.c (.sl 1 (l.map zmp))] [] (.c (.v (.int .u64 (mk 0 l:Nat)))) []:=by
 refine spB Tryz.func70 6 [.tmp 2] Tryz.results70 ?_
 try refine xst ?_
 refine zcw (ygl l hl) (WkL.refl _) rfl ?_
 try refine xst ?_
 exact xrz rfl
def zj8 (l:List Int):Nat:=z2g (paR l).1
theorem z59 (l:List Int):(paR l).1.size≤20000:=by
 unfold paR
 split
 ·show 0≤20000;omega
 ·show ByteArray.size ⟨(paK l l.length).toArray⟩≤20000
  rw[zpn];have:=zlm l l.length;omega
theorem zn3 (l:List Int) (hx:∀x∈l,I64 x) (hl:l.length≤1000000):Spec Tryz.prog 69 [.c (.sl 1 (l.map zae))] [] (.c (.v (.int .u64 (zj8 l:Nat)))) []:=by
 have:=z59 l
 refine spB Tryz.func69 12 [.tmp 2] Tryz.results69 ?_
 try refine xst ?_
 refine caP (zvk l hx (by omega)) ?_
 try refine xst ?_
 refine caP (ygt (paR l).1 (by omega)) ?_
 try refine xst ?_
 (first|(refine zaz rfl (Wk.of ?_);(try simp(etaStruct := .none)only[push_cast,zab,seval]);first|done|(simp[zj8, *];done)|(simp_all[zj8];done))|(refine zaz rfl ?_;(try simp(etaStruct := .none)only[push_cast,zab,seval]);(try simp[zj8, *]);(try exact wkc)))
def hdI (w:Wld):List Int := [1,w.f.w,w.f.h,w.next,w.now]++w.f.p
def yd3 (w:Wld) (i:Nat):List Int := [2,(i:Int),(w.bases.getD i default).x,(w.bases.getD i default).y,w.stocks.getD i default]
def yb7 (w:Wld) (i:Nat):List Int := [3,(i:Int),w.mines.getD i default]
def yas (w:Wld) (i:Nat):List Int := [4,(w.troops.getD i default).id,(w.troops.getD i default).owner,(w.troops.getD i default).kind,(w.troops.getD i default).c.x,(w.troops.getD i default).c.y,(w.troops.getD i default).life,(w.troops.getD i default).load]
def wl1 (w:Wld) (k:Nat):List Nat:=zj8 (hdI w)::(List.range k).map fun i=>zj8 (yd3 w i)
def wl2 (w:Wld) (k:Nat):List Nat:=wl1 w w.bases.length++(List.range k).flatMap fun i=>if w.mines.getD i default=0 then []else [zj8 (yb7 w i)]
def wl3 (w:Wld) (k:Nat):List Nat:=wl2 w w.mines.length++(List.range k).map fun i=>zj8 (yas w i)
theorem yio (w:Wld):wl1 w 0 = [zj8 (hdI w)]:=rfl
theorem yew (w:Wld):wl2 w 0=wl1 w w.bases.length:=by simp[wl2]
theorem yim (w:Wld):wl3 w 0=wl2 w w.mines.length:=by simp[wl3]
theorem yin (w:Wld) (k:Nat):wl1 w (k+1)=wl1 w k ++ [zj8 (yd3 w k)]:=by simp[wl1,List.range_succ]
theorem yev (w:Wld) (k:Nat):wl2 w (k+1)=wl2 w k++(if w.mines.getD k default=0 then []else [zj8 (yb7 w k)]):=by
 unfold wl2;rw[List.range_succ,List.flatMap_append,←List.append_assoc];congr 1;exact List.flatMap_singleton ..
theorem yil (w:Wld) (k:Nat):wl3 w (k+1)=wl3 w k ++ [zj8 (yas w k)]:=by simp[wl3,List.range_succ]
theorem zzv (w:Wld):∀k,(wl1 w k).length=k+1:=by intro k;simp[wl1]
theorem zso (w:Wld):∀k,(wl2 w k).length≤w.bases.length+1+k
 | 0=>by rw[yew,zzv];omega
 | k+1=>by
  have:=zso w k
  rw[yev,List.length_append];split<;>simp<;>omega
theorem zzu (w:Wld) (k:Nat):(wl3 w k).length≤w.bases.length+1+w.mines.length+k:=by
 have:=zso w w.mines.length
 unfold wl3;rw[List.length_append,List.length_map,List.length_range];omega
def zju (w:Wld):Nat:=mk 0 (wl3 w w.troops.length)
theorem zkv {w:Wld} (h:zaw w=0):(1≤w.f.w∧w.f.w≤40)∧(1≤w.f.h∧w.f.h≤40)∧(w.f.p.length≤1600∧∀p∈w.f.p,0≤p∧p<4)∧w.bases.length≤8∧w.troops.length≤100∧w.stocks.length=w.bases.length∧w.mines.length=w.f.p.length∧(1≤w.next∧w.next≤1000000)∧(0≤w.now∧w.now≤1000000) ∧
 (∀k,k<w.bases.length→(0≤(w.bases.getD k default).x∧(w.bases.getD k default).x≤39)∧(0≤(w.bases.getD k default).y∧(w.bases.getD k default).y≤39)∧0≤w.stocks.getD k default∧w.stocks.getD k default≤1000000) ∧
 (∀k,k<w.mines.length→0≤w.mines.getD k default∧w.mines.getD k default≤1000000):=by
 obtain⟨h1,h2,h3,h4,h5⟩:=zdt h
 obtain⟨g1,g2,g3,g4⟩:=zbs h1
 obtain⟨f1,f2,f3,f4⟩:=zkw h4
 have hm2:w.f.w*w.f.h≤40*40:=Int.mul_le_mul g1.2 g2.2 (by omega) (by omega)
 unfold zh1 at h5
 simp only[Bool.and_eq_true]at h5
 refine⟨g1,g2,⟨by omega,g4⟩,h2,h3,f1,f2,f3,f4,fun k hk => ?_,fun k hk => ?_⟩
 ·have:=(zbk _ _).1 h5.1.1 k hk
  unfold zmz at this
  simp only[Bool.and_eq_true,within_iff]at this
  have hi:=inF_iff.1 (ground_iff.1 this.1.1).1
  omega
 ·have:=(zbk _ _).1 h5.1.2 k hk
  unfold zmr at this
  simp only[Bool.and_eq_true,within_iff]at this
  omega
theorem yg6 {w:Wld} (h:zaw w=0):(∀x∈hdI w,I64 x)∧(hdI w).length≤1000000:=by
 obtain⟨b1,b2,b3,b4,b5,b6,b7,b8,b9,b10,b11⟩:=zkv h
 refine⟨fun x hx => ?_,by simp[hdI];omega⟩
 simp only[hdI,List.mem_append,List.mem_cons,List.not_mem_nil,or_false]at hx
 unfold I64
 rcases hx with (rfl|rfl|rfl|rfl|rfl)|hx
 ·omega
 ·omega
 ·omega
 ·omega
 ·omega
 ·have:=b3.2 x hx;omega
theorem yd2 {w:Wld} (h:zaw w=0) {k:Nat} (hk:k<w.bases.length):(∀x∈yd3 w k,I64 x)∧(yd3 w k).length≤1000000:=by
 obtain⟨b1,b2,b3,b4,b5,b6,b7,b8,b9,b10,b11⟩:=zkv h
 have:=b10 k hk
 refine⟨fun x hx => ?_,by simp[yd3]⟩
 simp only[yd3,List.mem_cons,List.not_mem_nil,or_false]at hx
 unfold I64
 rcases hx with rfl|rfl|rfl|rfl|rfl<;>omega
theorem yb6 {w:Wld} (h:zaw w=0) {k:Nat} (hk:k<w.mines.length):(∀x∈yb7 w k,I64 x)∧(yb7 w k).length≤1000000:=by
 obtain⟨b1,b2,b3,b4,b5,b6,b7,b8,b9,b10,b11⟩:=zkv h
 have:=b11 k hk
 refine⟨fun x hx => ?_,by simp[yb7]⟩
 simp only[yb7,List.mem_cons,List.not_mem_nil,or_false]at hx
 unfold I64
 rcases hx with rfl|rfl|rfl<;>omega
theorem z67 {k:Int} : (zbl k).life≤20:=by unfold zbl;split;decide;split<;>decide
theorem yar {w:Wld} (h:zaw w=0) {k:Nat} (hk:k<w.troops.length):(∀x∈yas w k,I64 x)∧(yas w k).length≤1000000:=by
 obtain⟨b1,b2,b3,b4,b5,b6,b7,b8,b9,b10,b11⟩:=zkv h
 obtain⟨t1,t2,t3,t4,t5,t6,t7,t8⟩:=(zfq h hk).1
 have kl := @z67 (w.troops.getD k default).kind
 refine⟨fun x hx => ?_,by simp[yas]⟩
 simp only[yas,List.mem_cons,List.not_mem_nil,or_false]at hx
 unfold I64
 rcases hx with rfl|rfl|rfl|rfl|rfl|rfl|rfl|rfl<;>omega
theorem zsx (w:Wld) (hl:zf7 w) (hw:zaw w=0):Spec Tryz.prog 25 [zdi w] [] (.tup [.c (.v (.int .u64 (zju w:Nat))),I .i64 0]) []:=by
 obtain⟨b1,b2,b3,b4,b5,b6,b7,b8,b9,b10,b11⟩:=zkv hw
 have h0:=yg6 hw
 refine spB Tryz.func25 107 [.tmp 2,.tmp 3] Tryz.results25 ?_
 try refine xst ?_
 refine caP (zeq w hl) ?_
 try refine xst ?_
 refine cI (fun h1 => ?_) fun h1 => ?_
 ·exact absurd hw h1
 ·try refine xst ?_
  refine zcw (zn3 (hdI w) h0.1 h0.2) (WkL.refl _) rfl ?_
  try refine xst ?_
  refine za3 (fun k:Nat=>⟨[(37,I .i64 k),(36,I .i64 w.bases.length),(35,.c (.sl 2 (w.bases.map zbb))),(5,.own 1),(1,.ptr 0 0 0)],[(0,.blk 28 (znz w)),(1,.row 96 1 ((wl1 w k).map zmp))],2⟩) (fun k:Nat=>k≤w.bases.length) (fun k:Nat=>w.bases.length-k) (0) (Nat.zero_le _) (To.mk [0,3] rfl rfl (by decide) ?_ ?_) ?_
  ·simp(etaStruct := .none)only[push_cast,zab,seval,yio,zmp]
  ·simp(etaStruct := .none)only[push_cast,zab,seval]
  rintro k hk
  try refine xst ?_
  refine cI (fun h2 => ?_) fun h2 => ?_
  ·have hlt:k<w.bases.length:=by omega
   have hlt2:k<w.stocks.length:=by omega
   have ok:=yd2 hw hlt
   have ln:=zzv w k
   try refine xz4 (gd hlt) (gd hlt2) zcg zbe ?_
   refine zcw (zn3 (yd3 w k) ok.1 ok.2) (WkL.refl _) rfl ?_
   try refine xz4 (gd hlt) (gd hlt2) zcg zbe ?_
   (try(refine⟨by kernel_rfl,?_⟩))
   try refine xz4 (gd hlt) (gd hlt2) zcg zbe ?_
   refine⟨k+1,by omega,by omega,To.mk [0,59] rfl rfl (by decide) ?_ ?_⟩
   ·(iterate 2((try simp(etaStruct := .none)only[push_cast,zab,seval,yin,List.map_append,zmp]);(try(refine xsu ?_;try exact xtI))))
   ·(try(refine xz4 (gd hlt) (gd hlt2) zcg zbe ?_;try exact xtI))
  ·obtain rfl:k=w.bases.length:=by omega
   try refine xst ?_
   refine za3 (fun k:Nat=>⟨[(61,I .i64 k),(60,I .i64 w.mines.length),(59,.c (.sl 1 (w.mines.map zae))),(5,.own 1),(1,.ptr 0 0 0)],[(0,.blk 28 (znz w)),(1,.row 96 1 ((wl2 w k).map zmp))],2⟩) (fun k:Nat=>k≤w.mines.length) (fun k:Nat=>w.mines.length-k) (0) (Nat.zero_le _) (To.mk [0,1] rfl rfl (by decide) ?_ ?_) ?_
   ·simp(etaStruct := .none)only[push_cast,zab,seval,yew]
   ·simp(etaStruct := .none)only[push_cast,zab,seval]
   rintro k hk
   try refine xst ?_
   refine cI (fun h3 => ?_) fun h3 => ?_
   ·have hlt:k<w.mines.length:=by omega
    have ok:=yb6 hw hlt
    have ln:=zso w k
    have bm:=b11 k hlt
    have st:=yev w k
    try refine xz2 (gd hlt) zbe ?_
    refine cI (fun h4 => ?_) fun h4 => ?_
    ·rw[if_neg (by omega)]at st
     try refine xz2 (gd hlt) zbe ?_
     refine zcw (zn3 (yb7 w k) ok.1 ok.2) (WkL.refl _) rfl ?_
     try refine xz2 (gd hlt) zbe ?_
     refine⟨k+1,by omega,by omega,To.mk [0,4] rfl rfl (by decide) ?_ ?_⟩
     ·(iterate 2((try simp(etaStruct := .none)only[push_cast,zab,seval,st,List.map_append,zmp]);(try(refine xsu ?_;try exact xtI))))
     ·(try(refine xz2 (gd hlt) zbe ?_;try exact xtI))
    ·rw[if_pos (by omega),List.append_nil]at st
     try refine xz2 (gd hlt) zbe ?_
     refine⟨k+1,by omega,by omega,To.mk [0,1] rfl rfl (by decide) ?_ ?_⟩
     ·(try(refine xz1 st ?_;try exact xtI))
     ·(try(refine xz2 (gd hlt) zbe ?_;try exact xtI))
   ·obtain rfl:k=w.mines.length:=by omega
    try refine xst ?_
    refine za3 (fun k:Nat=>⟨[(79,I .i64 k),(78,I .i64 w.troops.length),(77,.c (.sl 7 (w.troops.map za2))),(5,.own 0)],[(0,.row 96 1 ((wl3 w k).map zmp))],1⟩) (fun k:Nat=>k≤w.troops.length) (fun k:Nat=>w.troops.length-k) (0) (Nat.zero_le _) (To.mk [1] rfl rfl (by decide) ?_ ?_) ?_
    ·simp(etaStruct := .none)only[push_cast,zab,seval,yim]
    ·simp(etaStruct := .none)only[push_cast,zab,seval]
    rintro k hk
    try refine xst ?_
    refine cI (fun h5 => ?_) fun h5 => ?_
    ·have hlt:k<w.troops.length:=by omega
     have ok:=yar hw hlt
     have ln:=zzu w k
     try refine xz2 (gd hlt) zbh ?_
     refine zcw (zn3 (yas w k) ok.1 ok.2) (WkL.refl _) rfl ?_
     try refine xz2 (gd hlt) zbh ?_
     refine⟨k+1,by omega,by omega,To.mk [4] rfl rfl (by decide) ?_ ?_⟩
     ·(iterate 2((try simp(etaStruct := .none)only[push_cast,zab,seval,yil,List.map_append,zmp]);(try(refine xsu ?_;try exact xtI))))
     ·(try(refine xz2 (gd hlt) zbh ?_;try exact xtI))
    ·obtain rfl:k=w.troops.length:=by omega
     have ln:=zzu w w.troops.length
     try refine xst ?_
     refine zcw (ykm (wl3 w w.troops.length) (by omega)) (WkL.refl _) rfl ?_
     try refine xst ?_
     (first|(refine zaz rfl (Wk.of ?_);(try simp(etaStruct := .none)only[push_cast,zab,seval]);first|done|(simp[zju, *];done)|(simp_all[zju];done))|(refine zaz rfl ?_;(try simp(etaStruct := .none)only[push_cast,zab,seval]);(try simp[zju, *]);(try exact wkc)))
def zdv (l:List Ord):List PV := [.sl 6 (l.map zed)]
theorem ze4 (l:List Ord):zdv l = [.sl 6 (l.map zed)]:=rfl
def zfo (WR:Cel→List Int):List (List Ord)→Wld→Wld
 | [],w=>w
 | o::r,w=>zfo WR r (zfp WR w o)
def zzn (WR:Cel→List Int):List (List Ord)→Wld→List Nat
 | [],w => [zju w]
 | o::r,w=>zju w::zzn WR r (zfp WR w o)
def zg5 (WR:Cel→List Int):List (List Ord)→Wld→Int
 | [],_=>0
 | o::r,w=>if zb4 o w≠0 then zb4 o w else zg5 WR r (zfp WR w o)
theorem ydk (w:Wld) (d:Ded):(zgd w d).1.f=w.f:=by
 unfold zgd
 repeat' split
 all_goals rfl
theorem z73 (l:List Ded):∀w,(zbi w l).1.f=w.f:=by
 induction l with
 | nil=>intro w;rfl
 | cons a r ih=>intro w;rw[zbi,ih,ydk]
theorem zss (WR:Cel→List Int) (w:Wld) (o:List Ord):(zfp WR w o).f=w.f:=by
 unfold zfp z6m tkC;rw[show ({ (zbi (tkB WR w o) (zcu o w)).1 with now:=(zbi (tkB WR w o) (zcu o w)).1.now+1 } : Wld).f=(zbi (tkB WR w o) (zcu o w)).1.f from rfl,z73];rfl
theorem z0u (WR:Cel→List Int):∀(l:List (List Ord)) (w:Wld),(zfo WR l w).f=w.f
 | [],_=>rfl
 | o::r,w=>by rw[zfo,z0u WR r,zss]
theorem zqo (WR:Cel→List Int) (o:List Ord):∀(l:List (List Ord)) (w:Wld),zfo WR (l ++ [o]) w=zfp WR (zfo WR l w) o
 | [],_=>rfl
 | a::r,w=>by rw[List.cons_append,zfo,zqo WR o r];rfl
theorem zqp (WR:Cel→List Int) (o:List Ord):∀(l:List (List Ord)) (w:Wld),zzn WR (l ++ [o]) w=zzn WR l w ++ [zju (zfp WR (zfo WR l w) o)]
 | [],_=>rfl
 | a::r,w=>by rw[List.cons_append,zzn,zqp WR o r];rfl
theorem zib (WR:Cel→List Int) (b:List (List Ord)):∀(a:List (List Ord)) (w:Wld),zg5 WR (a++b) w=if zg5 WR a w≠0 then zg5 WR a w else zg5 WR b (zfo WR a w)
 | [],w=>by simp[zg5,zfo]
 | o::r,w=>by
  rw[List.cons_append,zg5,zg5,zib WR b r,zfo]
  by_cases h:zb4 o w≠0
  ·rw[if_pos h,if_pos h,if_pos h]
  ·rw[if_neg h,if_neg h]
theorem zvc (WR:Cel→List Int):∀(l:List (List Ord)) (w:Wld),(zzn WR l w).length=l.length+1
 | [],_=>rfl
 | o::r,w=>by rw[zzn,List.length_cons,zvc WR r,List.length_cons]
theorem zn1 {w:Wld} {l:List Ord} (h:zb4 l w=0):Right w∧w.now<1000000:=by
 have hs:zcx l w=0:=by unfold zb4 at h;split at h;rename_i h1;exact absurd h h1;rename_i h1;simpa using h1
 have hn:w.now<1000000:=by unfold zb4 at h;rw[if_neg (by simp[hs])]at h;split at h;exact absurd h (by decide);omega
 exact⟨zea (zfc hs).2,hn⟩
theorem zic {WR:Cel→List Int} : ∀(l:List (List Ord)) {w:Wld},Right w→(∀a,zat w.f [a] (WR a))→zg5 WR l w=0→Right (zfo WR l w)
 | [],_,h,_,_=>h
 | o::r,w,h,hWR,he=>by
  rw[zg5]at he
  split at he
  ·rename_i h1;exact absurd he h1
  ·rename_i h1
   have h1:zb4 o w=0:=by simpa using h1
   exact zic r (zi5 h hWR o (zn1 h1).2) (by intro a;rw[zss];exact hWR a) he
theorem z5u {WR:Cel→List Int} {ts:List (List Ord)} {w:Wld} {k:Nat} (hk:k<ts.length) (h:zg5 WR (ts.take k) w=0):(zb4 (ts.getD k default) (zfo WR (ts.take k) w)≠0→zg5 WR ts w=zb4 (ts.getD k default) (zfo WR (ts.take k) w))∧(zb4 (ts.getD k default) (zfo WR (ts.take k) w)=0→zg5 WR (ts.take (k+1)) w=0):=by
 have e1:=zas ts k hk
 constructor
 ·intro hn
  have e2:ts=ts.take k++ts.drop k:=(List.take_append_drop k ts).symm
  have e3:ts.drop k=ts.getD k default::ts.drop (k+1):=by rw[zag _ _ hk];exact List.drop_eq_getElem_cons hk
  rw[show zg5 WR ts w=zg5 WR (ts.take k++ts.drop k) w from by rw[←e2],zib,if_neg (by simp[h]),e3,zg5,if_pos hn]
 ·intro h0
  rw[e1,zib,if_neg (fun hn=>hn h),zg5,if_neg (fun hn=>hn h0)];rfl
theorem zxv {w:Wld} (h:Right w):ze2 w []=w:=by
 have e:zd6 w []=id:=by funext t;unfold zd6;rw[zwj];simp
 unfold ze2 zil
 rw[e,List.map_id,List.filter_eq_self.2]
 intro t ht
 obtain⟨i,hi,rfl⟩:=List.mem_iff_getElem.1 ht
 have:=(h.trp i hi).life
 rw[zag _ _ hi]at this
 simp;omega
abbrev yet:List AV := [I .i64 0,I .i64 0,.c (.v (.slice none 0 0)),.c (.v (.slice none 0 0)),.c (.v (.slice none 0 0)),.c (.v (.slice none 0 0)),.c (.v (.slice none 0 0)),I .i64 0,I .i64 0]
theorem ye4 (w:Wld) (ts:List (List Ord)) (WR:Cel→List Int) (hWR:∀a,zat w.f [a] (WR a)) (hts:ts.length≤200) (hin:∀l∈ts,l.length≤9223372036854775807) (hw:Right w):Spec Tryz.prog 26 [zdi w,.c (.sl 1 (ts.map zdv))] [] (.tup [zdi (if zg5 WR ts w=0 then zfo WR ts w else default),.c (.sl 1 ((if zg5 WR ts w=0 then zzn WR ts w else []).map zmp)),I .i64 (zg5 WR ts w)]) []:=by
 have e1:zbq w []=0:=by unfold zbq;rw[if_neg (by simp[hw.e]),if_neg (by simp)]
 have HK:=zru w [] hw.l (by simp) e1
 rw[e1,show ze3 w []=w from by unfold ze3;rw[if_pos e1,zxv hw]]at HK
 obtain⟨E,hE⟩:∃E,E=zg5 WR ts w:=⟨_,rfl⟩
 rw[←hE]
 refine spB Tryz.func26 64 [.cell 4 28,.tmp 5,.tmp 6] Tryz.results26 ?_
 try refine xst ?_
 refine cI (fun h1 => ?_) fun h1 => ?_
 ·omega
 ·try refine xst ?_
  refine zem (HK) (by exact⟨Wk.refl _,Wk.nil _,trivial⟩) ?_
  try refine xst ?_
  refine cI (fun h2 => ?_) fun h2 => ?_
  ·simp at h2
  ·try refine xst ?_
   refine caP (zsx w hw.l hw.e) ?_
   try refine xst ?_
   refine za3 (fun k:Nat=>⟨[(37,I .i64 k),(36,I .i64 ts.length),(35,.c (.sl 1 (ts.map zdv))),(11,.own 2),(4,.ptr 1 0 0),(2,.ptr 0 0 0)],[(0,.blk 28 (znz (zfo WR (ts.take k) w))),(1,.blk 28 yet),(2,.row 96 1 ((zzn WR (ts.take k) w).map zmp))],3⟩) (fun k:Nat=>k≤ts.length∧zg5 WR (ts.take k) w=0) (fun k:Nat=>ts.length-k) (0) (⟨Nat.zero_le _,rfl⟩) (To.mk [0,1,2] rfl rfl (by decide) ?_ ?_) ?_
   ·simp(etaStruct := .none)only[push_cast,zab,seval,List.take_zero,zfo,zzn,List.map_cons,List.map_nil,zmp]
   ·simp(etaStruct := .none)only[push_cast,zab,seval]
   rintro k ⟨hk,hn⟩
   try refine xst ?_
   refine cI (fun h3 => ?_) fun h3 => ?_
   ·have hlt:k<ts.length:=by omega
    have RK:=zic (ts.take k) hw hWR hn
    have hWk:∀a,zat (zfo WR (ts.take k) w).f [a] (WR a):=by intro a;rw[z0u];exact hWR a
    obtain⟨st1,st2⟩:=z5u hlt hn
    have T:=zst (zfo WR (ts.take k) w) (ts.getD k default) WR hWk RK.l (hin _ (zbj _ _ hlt))
    try refine xz2 (gd hlt) ze4 ?_
    refine caP (T) ?_
    try refine xz2 (gd hlt) ze4 ?_
    refine cI (fun h4 => ?_) fun h4 => ?_
    ·have hE2:=hE.trans (st1 h4)
     rw[if_neg (by rw[hE2];exact h4),if_neg (by rw[hE2];exact h4),hE2]
     try refine xz2 (gd hlt) ze4 ?_
     exact xrz rfl
    ·have e0:zb4 (ts.getD k default) (zfo WR (ts.take k) w)=0:=by simpa using h4
     have hWv:zp0 WR (zfo WR (ts.take k) w) (ts.getD k default)=zfp WR (zfo WR (ts.take k) w) (ts.getD k default):=if_pos e0
     have RV:Right (zp0 WR (zfo WR (ts.take k) w) (ts.getD k default)):=by rw[hWv];exact zi5 RK hWk _ (zn1 e0).2
     have hW1:zfo WR (ts.take (k+1)) w=zp0 WR (zfo WR (ts.take k) w) (ts.getD k default):=by rw[zas ts k hlt,zqo,hWv]
     have hM1:zzn WR (ts.take (k+1)) w=zzn WR (ts.take k) w ++ [zju (zp0 WR (zfo WR (ts.take k) w) (ts.getD k default))]:=by rw[zas ts k hlt,zqp,hWv]
     have hml:=zvc WR (ts.take k) w
     rw[List.length_take]at hml
     try refine xz2 (gd hlt) ze4 ?_
     refine caP (zsx _ RV.l RV.e) ?_
     try refine xz2 (gd hlt) ze4 ?_
     refine⟨k+1,⟨by omega,st2 e0⟩,by omega,To.mk [0,1,4] rfl rfl (by decide) ?_ ?_⟩
     ·(iterate 2((try simp(etaStruct := .none)only[push_cast,zab,seval,hW1,hM1,List.map_append,List.map_cons,List.map_nil,zmp]);(try(refine xsu ?_;try exact xtI))))
     ·(try(refine xz2 (gd hlt) ze4 ?_;try exact xtI))
   ·obtain rfl:k=ts.length:=by omega
    rw[List.take_length]at hn
    have hE0:E=0:=hE.trans hn
    rw[if_pos hE0,if_pos hE0,hE0]
    iterate 2(try simp(etaStruct := .none)only[push_cast,zab,seval,List.take_length];try refine xsu ?_)
    exact xrz rfl
def zdm (WR:Cel→List Int) (ts:List (List Ord)) (w:Wld):Int:=if 200<ts.length then 2 else if zaw w≠0 then zaw w else zg5 WR ts w
def zg4 (WR:Cel→List Int) (ts:List (List Ord)) (w:Wld):Wld:=if zdm WR ts w=0 then zfo WR ts w else default
def yfn (WR:Cel→List Int) (ts:List (List Ord)) (w:Wld):List Nat:=if zdm WR ts w=0 then zzn WR ts w else []
theorem ye3 (w:Wld) (ts:List (List Ord)) (h:200<ts.length):Spec Tryz.prog 26 [zdi w,.c (.sl 1 (ts.map zdv))] [] (.tup [zdi default,.c (.sl 1 (([]:List Nat).map zmp)),I .i64 2]) []:=by
 refine spB Tryz.func26 64 [.cell 4 28,.tmp 5,.tmp 6] Tryz.results26 ?_
 try refine xst ?_
 refine cI (fun h1 => ?_) fun h1 => ?_
 ·try refine xst ?_
  exact xrz rfl
 ·omega
theorem ye2 (w:Wld) (ts:List (List Ord)) (hl:zf7 w) (h:ts.length≤200) (hw:zaw w≠0):Spec Tryz.prog 26 [zdi w,.c (.sl 1 (ts.map zdv))] [] (.tup [zdi default,.c (.sl 1 (([]:List Nat).map zmp)),I .i64 (zaw w)]) []:=by
 have e1:zbq w []=zaw w:=by unfold zbq;rw[if_pos hw]
 have HK:=z2s w [] hl (by simp) (by rw[e1];exact hw)
 rw[e1]at HK
 refine spB Tryz.func26 64 [.cell 4 28,.tmp 5,.tmp 6] Tryz.results26 ?_
 try refine xst ?_
 refine cI (fun h1 => ?_) fun h1 => ?_
 ·omega
 ·try refine xst ?_
  refine zem (HK) (by exact⟨Wk.refl _,Wk.nil _,trivial⟩) ?_
  try refine xst ?_
  refine cI (fun h2 => ?_) fun h2 => ?_
  ·try refine xst ?_
   exact xrz rfl
  ·exact absurd h2 hw
theorem zjv (w:Wld) (ts:List (List Ord)) (WR:Cel→List Int) (hWR:∀a,zat w.f [a] (WR a)) (hl:zf7 w) (hin:∀l∈ts,l.length≤9223372036854775807):Spec Tryz.prog 26 [zdi w,.c (.sl 1 (ts.map zdv))] [] (.tup [zdi (zg4 WR ts w),.c (.sl 1 ((yfn WR ts w).map zmp)),I .i64 (zdm WR ts w)]) []:=by
 unfold zg4 yfn
 obtain⟨E,hE⟩:∃E,E=zdm WR ts w:=⟨_,rfl⟩
 rw[←hE]
 unfold zdm at hE
 by_cases h:200<ts.length
 ·rw[if_pos h]at hE;subst hE;exact ye3 w ts h
 ·rw[if_neg h]at hE
  by_cases hw:zaw w=0
  ·rw[if_neg (fun hn=>hn hw)]at hE;subst hE;exact ye4 w ts WR hWR (by omega) hin (zea hw)
  ·rw[if_pos hw]at hE;subst hE;rw[if_neg hw,if_neg hw];exact ye2 w ts hl (by omega) hw
theorem zer {WR:Cel→List Int} {ts:List (List Ord)} {w:Wld} (h:zdm WR ts w=0):ts.length≤200∧Right w∧zg5 WR ts w=0:=by
 unfold zdm at h
 split at h
 ·exact absurd h (by decide)
 ·split at h
  ·rename_i h1;exact absurd h h1
  ·rename_i h1;exact⟨by omega,zea (Decidable.not_not.1 h1),h⟩
theorem yes:zf7 (default:Wld):=⟨Nat.zero_le _,Nat.zero_le _,Nat.zero_le _,Nat.zero_le _,Nat.zero_le _⟩
structure Sty where
 start:Wld
 turns:List (List Ord)
 deriving DecidableEq, Inhabited
abbrev ym0 (s:Sty):List AV := [I .i64 s.start.f.w,I .i64 s.start.f.h,.c (.sl 1 (s.start.f.p.map zae)),.c (.sl 2 (s.start.bases.map zbb)),.c (.sl 1 (s.start.stocks.map zae)),.c (.sl 1 (s.start.mines.map zae)),.c (.sl 7 (s.start.troops.map za2)),I .i64 s.start.next,I .i64 s.start.now,.c (.sl 1 (s.turns.map zdv))]
abbrev yj3:List AV := [I .i64 0,I .i64 0,.c (.v (.slice none 0 0)),.c (.v (.slice none 0 0)),.c (.v (.slice none 0 0)),.c (.v (.slice none 0 0)),.c (.v (.slice none 0 0)),I .i64 0,I .i64 0,.c (.v (.slice none 0 0))]
abbrev yib (s:Sty):AV := .agg (ym0 s)
structure StyL (s : Sty) : Prop where
 w:zf7 s.start
 t:∀l∈s.turns,l.length≤9223372036854775807
 n:s.turns.length≤9223372036854775807
abbrev zps (WR:Cel→List Int) (s:Sty):Int:=zdm WR s.turns s.start
theorem z99 {WR:Cel→List Int} {ts:List (List Ord)} {w:Wld} (hWR:∀a,zat w.f [a] (WR a)) (h:zdm WR ts w=0):zg4 WR ts w=zfo WR ts w∧Right (zg4 WR ts w)∧∀a,zat (zg4 WR ts w).f [a] (WR a):=by
 have e:zg4 WR ts w=zfo WR ts w:=if_pos h
 obtain⟨_,h2,h3⟩:=zer h
 rw[e]
 exact⟨rfl,zic ts h2 hWR h3,fun a=>by rw[z0u];exact hWR a⟩
theorem zqk (s:Sty) (WR:Cel→List Int) (hWR:∀a,zat s.start.f [a] (WR a)) (hl:StyL s):Spec Tryz.prog 68 [yib s] [] (I .i64 (zps WR s)) []:=by
 have T:=zjv s.start s.turns WR hWR hl.w hl.t
 refine spB Tryz.func68 16 [.tmp 2] Tryz.results68 ?_
 try refine xst ?_
 refine caP (T) ?_
 try refine xst ?_
 exact xrz rfl
theorem zqq {WR:Cel→List Int} {ts:List (List Ord)} {w:Wld} (n:Nat) (h:zg5 WR ts w=0):zg5 WR (ts.take n) w=0:=by
 have e:=zib WR (ts.drop n) (ts.take n) w
 rw[List.take_append_drop,h]at e
 by_cases h1:zg5 WR (ts.take n) w=0
 ·exact h1
 ·rw[if_pos h1]at e;exact absurd e.symm h1
theorem zx4 {WR:Cel→List Int} {ts:List (List Ord)} {w:Wld} (n:Nat) (h:zdm WR ts w=0):zdm WR (ts.take n) w=0:=by
 obtain⟨h1,h2,h3⟩:=zer h
 unfold zdm
 rw[if_neg (by simp;omega),if_neg (fun hn=>hn h2.e),zqq n h3]
def atE (WR:Cel→List Int) (s:Sty) (n:Int):Int:=if zps WR s≠0 then zps WR s else if n<0∨(s.turns.length:Int)<n then 1 else 0
def atW (WR:Cel→List Int) (s:Sty) (n:Int):Wld:=if atE WR s n=0 then zfo WR (s.turns.take n.toNat) s.start else default
theorem yj7 (s:Sty) (n:Int) (WR:Cel→List Int) (hWR:∀a,zat s.start.f [a] (WR a)) (hl:StyL s):Spec Tryz.prog 24 [yib s,I .i64 n] [] (.tup [zdi (atW WR s n),I .i64 (atE WR s n)]) []:=by
 have SC:=zqk s WR hWR hl
 have hn:=hl.n
 refine spB Tryz.func24 39 [.cell 4 28,.tmp 5] Tryz.results24 ?_
 try refine xst ?_
 refine caP (SC) ?_
 try refine xst ?_
 refine cI (fun h1 => ?_) fun h1 => ?_
 ·have e:atE WR s n=zps WR s:=if_pos h1
  have e2:atW WR s n=default:=if_neg (by rw[e];exact h1)
  rw[e,e2]
  try refine xst ?_
  exact xrz rfl
 ·try refine xst ?_
  refine cI (fun h2 => ?_) fun h2 => ?_
  ·have e:atE WR s n=1:=by unfold atE;rw[if_neg (fun hn=>hn h1),if_pos (by omega)]
   have e2:atW WR s n=default:=if_neg (by rw[e];decide)
   rw[e,e2]
   try refine xst ?_
   exact xrz rfl
  ·have hr:0≤n∧n≤s.turns.length:=by omega
   have e:atE WR s n=0:=by unfold atE;rw[if_neg (fun hn=>hn h1),if_neg (by omega)]
   have e2:atW WR s n=zfo WR (s.turns.take n.toNat) s.start:=if_pos e
   rw[e,e2]
   have T:=zjv s.start (s.turns.take n.toNat) WR hWR hl.w (fun l h=>hl.t l (List.mem_of_mem_take h))
   have e0:=zx4 n.toNat h1
   rw[e0,show zg4 WR (s.turns.take n.toNat) s.start=zfo WR (s.turns.take n.toNat) s.start from if_pos e0]at T
   have ht:(s.turns.map zdv).take n.toNat=(s.turns.take n.toNat).map zdv:=List.map_take.symm
   try refine xz1 ht ?_
   refine caP (T) ?_
   try refine xz1 ht ?_
   (try(refine⟨by kernel_rfl,?_⟩))
   try refine xz1 ht ?_
   clear ht
   exact xrz rfl
def zf8 (WR:Cel→List Int) (s:Sty) (l:List Ord):Int:=if zps WR s≠0 then zps WR s else if 199<s.turns.length then 6 else zb4 l (zg4 WR s.turns s.start)
def zg8 (WR:Cel→List Int) (s:Sty) (l:List Ord):Sty:=if zf8 WR s l=0 then ⟨s.start,s.turns ++ [l]⟩else default
theorem zia {WR:Cel→List Int} : ∀(ts:List (List Ord)) {w:Wld},zg5 WR ts w=0→∀l∈ts,l.length≤100
 | [],_,_,l,hl=>by simp at hl
 | o::r,w,h,l,hl=>by
  rw[zg5]at h
  split at h
  ·rename_i h1;exact absurd h h1
  ·rename_i h1
   have h1:zb4 o w=0:=Decidable.not_not.1 h1
   rcases List.mem_cons.1 hl with rfl|hl
   ·have hs:zcx l w=0:=by unfold zb4 at h1;split at h1;rename_i h2;exact absurd h1 h2;rename_i h2;simpa using h2
    exact(zgu (zfc hs).1).1
   ·exact zia r h l hl
theorem ya2 (s:Sty) (l:List Ord) (WR:Cel→List Int) (hWR:∀a,zat s.start.f [a] (WR a)) (hl:StyL s) (hll:l.length≤9223372036854775807):Spec Tryz.prog 78 [yib s,.c (.sl 6 (l.map zed))] [] (.tup [yib (zg8 WR s l),I .i64 (zf8 WR s l)]) []:=by
 have T:=zjv s.start s.turns WR hWR hl.w hl.t
 have hn:=hl.n
 refine spB Tryz.func78 79 [.cell 4 32,.tmp 5] Tryz.results78 ?_
 try refine xst ?_
 refine caP (T) ?_
 try refine xst ?_
 refine cI (fun h1 => ?_) fun h1 => ?_
 ·have e:zf8 WR s l=zps WR s:=if_pos h1
  have e2:zg8 WR s l=default:=if_neg (by rw[e];exact h1)
  rw[e,e2]
  try refine xst ?_
  exact xrz rfl
 ·obtain⟨r1,r2,r3⟩:=z99 hWR h1
  obtain⟨k1,k2,k3⟩:=zer h1
  try refine xst ?_
  refine cI (fun h2 => ?_) fun h2 => ?_
  ·have e:zf8 WR s l=6:=by unfold zf8;rw[if_neg (fun hn=>hn h1),if_pos (by omega)]
   have e2:zg8 WR s l=default:=if_neg (by rw[e];decide)
   rw[e,e2]
   try refine xst ?_
   exact xrz rfl
  ·have e:zf8 WR s l=zb4 l (zg4 WR s.turns s.start):=by unfold zf8;rw[if_neg (fun hn=>hn h1),if_neg (by omega)]
   have U:=zst (zg4 WR s.turns s.start) l WR r3 r2.l hll
   try refine xst ?_
   refine caP (U) ?_
   try refine xst ?_
   refine cI (fun h3 => ?_) fun h3 => ?_
   ·have e2:zg8 WR s l=default:=if_neg (by rw[e];exact h3)
    rw[e,e2]
    try refine xst ?_
    exact xrz rfl
   ·have e2:zg8 WR s l=⟨s.start,s.turns ++ [l]⟩:=if_pos (by rw[e];exact h3)
    rw[e,e2,h3]
    have V:=zjv s.start [] WR hWR hl.w (fun _ h=>by simp at h)
    have hl1:l.length≤100:=by
     have hs:zcx l (zg4 WR s.turns s.start)=0:=by unfold zb4 at h3;split at h3;rename_i h1;exact absurd h3 h1;rename_i h1;simpa using h1
     exact(zgu (zfc hs).1).1
    have v0:zdm WR [] s.start=0:=by unfold zdm;rw[if_neg (by simp),if_neg (fun hn=>hn k2.e)];rfl
    rw[v0,show zg4 WR [] s.start=s.start from if_pos v0]at V
    try refine xst ?_
    refine zem (V) (by exact⟨Wk.refl _,Wk.nil _,trivial⟩) ?_
    try refine xst ?_
    refine za3 (fun k:Nat=>⟨[(59,I .i64 k),(58,I .i64 s.turns.length),(57,.c (.sl 1 (s.turns.map zdv))),(15,.ptr 1 0 0),(4,.ptr 0 0 0),(1,.c (.sl 6 (l.map zed)))],[(0,.blk 32 yj3),(1,.blk 32 [I .i64 s.start.f.w,I .i64 s.start.f.h,.c (.sl 1 (s.start.f.p.map zae)),.c (.sl 2 (s.start.bases.map zbb)),.c (.sl 1 (s.start.stocks.map zae)),.c (.sl 1 (s.start.mines.map zae)),.c (.sl 7 (s.start.troops.map za2)),I .i64 s.start.next,I .i64 s.start.now,.own 2]),(2,.row 53 1 ((s.turns.take k).map zdv))],3⟩) (fun k:Nat=>k≤s.turns.length) (fun k:Nat=>s.turns.length-k) (0) (Nat.zero_le _) ((To.nilC 6 9 53 1 32 _ rfl rfl).trans (To.mk [1,6,7] rfl rfl (by decide) ?_ ?_)) ?_
    ·simp(etaStruct := .none)only[push_cast,zab,seval,List.set_cons_zero,List.set_cons_succ,List.take_zero,List.map_nil]
    ·simp(etaStruct := .none)only[push_cast,zab,seval]
    rintro k hk
    try refine xst ?_
    refine cI (fun h4 => ?_) fun h4 => ?_
    ·have hlt:k<s.turns.length:=by omega
     have hk1:=zia s.turns k3 (s.turns.getD k default) (zbj _ _ hlt)
     have htk:=zas s.turns k hlt
     try refine xz2 (gd hlt) ze4 ?_
     refine caP (zih (s.turns.getD k default) (by omega)) ?_
     try refine xz2 (gd hlt) ze4 ?_
     (try(refine⟨by kernel_rfl,?_⟩))
     try refine xz2 (gd hlt) ze4 ?_
     refine⟨k+1,by omega,by omega,To.mk [0,1,23] rfl rfl (by decide) ?_ ?_⟩
     ·(iterate 2((try simp(etaStruct := .none)only[push_cast,zab,seval,htk,List.map_append,List.map_cons,List.map_nil,zdv]);(try(refine xsu ?_;try exact xtI))))
     ·(try(refine xz2 (gd hlt) ze4 ?_;try exact xtI))
    ·obtain rfl:k=s.turns.length:=by omega
     iterate 2(try simp(etaStruct := .none)only[push_cast,zab,seval,List.take_length,List.map_append,List.map_cons,List.map_nil,zdv];try refine xsu ?_)
     refine caP (zih l (by omega)) ?_
     iterate 2(try simp(etaStruct := .none)only[push_cast,zab,seval,List.take_length,List.map_append,List.map_cons,List.map_nil,zdv];try refine xsu ?_)
     (try(refine⟨by kernel_rfl,?_⟩))
     iterate 2(try simp(etaStruct := .none)only[push_cast,zab,seval,List.take_length,List.map_append,List.map_cons,List.map_nil,zdv];try refine xsu ?_)
     have hq:(s.turns ++ [l]).map zdv=s.turns.map zdv ++ [[.sl 6 (l.map zed)]]:=by rw[List.map_append];rfl
     refine zbr rfl (by repeat' (first|exact trivial|exact rfl|refine⟨?_,?_⟩)) (Wk.of ?_)
     show _=AV.tup [.agg [I .i64 s.start.f.w,I .i64 s.start.f.h,.c (.sl 1 (s.start.f.p.map zae)),.c (.sl 2 (s.start.bases.map zbb)),.c (.sl 1 (s.start.stocks.map zae)),.c (.sl 1 (s.start.mines.map zae)),.c (.sl 7 (s.start.troops.map za2)),I .i64 s.start.next,I .i64 s.start.now,.c (.sl 1 ((s.turns ++ [l]).map zdv))],I .i64 0]
     rw[hq]
     first|rfl|kernel_rfl
theorem z89:StyL default:=⟨yes,fun l (h:l∈([]:List (List Ord)))=>by simp at h,Nat.zero_le _⟩
theorem yb4 (s:Sty) (l:List Ord) (WR:Cel→List Int) (hl:StyL s) (hll:l.length≤9223372036854775807):StyL (zg8 WR s l):=by
 unfold zg8
 split
 ·rename_i h
  have hE:zps WR s=0:=Decidable.byContradiction fun hn=>by
   unfold zf8 at h;rw[if_pos hn]at h;exact hn h
  have hn:=(zer hE).1
  refine⟨hl.w,fun x hx => ?_,by simp;omega⟩
  rcases List.mem_append.1 hx with hx|hx
  ·exact hl.t x hx
  ·rw[List.mem_singleton]at hx;rw[hx];exact hll
 ·exact z89
end Go.Proofs.YtmjbgbmegbkmhaaGreat
namespace Go.Proofs.YtmjbgbmegbkmhaaGreat
set_option linter.all false
open Go.RowKit
set_option maxRecDepth 100000
theorem yli (n:Nat) (hn:n<4294967296):Spec Tryz.prog 61 [I .u32 n] [] (I .i64 (pcK n 32:Nat)) [] :=
 zh7 (zgn Tryz.func61 rfl rfl) [.int .u32 n] _ rfl fun w=>(ydp n w hn).mono fun e w' ⟨h1,h2⟩=>⟨h1,h2▸(Below.refl _ _).drew⟩
theorem z3w (n:Nat) (hn:n<4294967296):Spec Tryz.prog 154 [I .u32 n] [] (I .i64 (pcK n 32:Nat)) []:=by
 refine spB Tryz.func154 5 [.tmp 2] Tryz.results154 ?_
 simp(etaStruct := .none)only[push_cast,zab,seval]
 refine zem (yli n hn) (WkL.refl _) ?_
 simp(etaStruct := .none)only[push_cast,zab,seval]
 exact zbr rfl trivial (Wk.refl _)
def zjp (n:Nat):List PV := [.v (.int .u32 n)]
theorem ylw (n:Nat):zjp n = [.v (.int .u32 n)]:=rfl
theorem ycs (F:FuncId) (a b:List AV) (l:List Nat) (p:Nat→Bool) (hl:l.length≤9223372036854775807) (hp:∀n∈l,Spec Tryz.prog F (a ++ [I .u32 n]++b) [] (B (p n)) []) (ha:∀h,cvL [] h a=a) (hb:∀h,cvL [] h b=b) :
 Spec Tryz.prog 155 [.c (.sl 1 (l.map zjp)),.clo (.func F) a b] [] (I .i64 (zkm p l)) []:=by
 refine spB Tryz.func155 19 [.tmp 4] Tryz.results155 ?_
 simp(etaStruct := .none)only[push_cast,zab,seval]
 refine za3 (fun k:Nat=>⟨[(8,I .i64 k),(7,I .i64 l.length),(0,.c (.sl 1 (l.map zjp))),(1,.clo (.func F) a b)],[],0⟩) (fun k=>k≤l.length∧∀j (hj:j<l.length),j<k→p l[j]=false) (fun k=>l.length-k) 0 ⟨Nat.zero_le _,fun j _ h=>by omega⟩ (To.mk [] rfl rfl List.nodup_nil trivial ?_) ?_
 ·simp(etaStruct := .none)only[push_cast,zab,seval,ha,hb]
 ·rintro k ⟨hk,hn⟩
  simp(etaStruct := .none)only[push_cast,zab,seval]
  refine za1 (fun h => ?_) (fun h => ?_)
  ·have hlt:k<l.length:=by simpa using h
   simp(etaStruct := .none)only[push_cast,zab,seval,zcs _ _ _ hlt,zjp]
   repeat with_reducible refine obA ?_
   refine zem (hp _ (List.getElem_mem hlt)) (by simp only[zeh,ha,hb,cvL,cv];exact WkL.refl _) ?_
   simp(etaStruct := .none)only[push_cast,zab,seval]
   refine za1 (fun h => ?_) (fun h => ?_)
   ·simp(etaStruct := .none)only[push_cast,zab,seval]
    exact zbr rfl trivial (Wk.of (by rw[zey p l k hlt h hn];rfl))
   ·simp(etaStruct := .none)only[push_cast,zab,seval]
    refine⟨k+1,⟨by omega,fun j hj hjk => ?_⟩,by omega,To.mk [] rfl rfl List.nodup_nil trivial ?_⟩
    ·by_cases e:j=k
     ·subst e;exact h
     ·exact hn j hj (by omega)
    ·simp(etaStruct := .none)only[push_cast,zab,seval,ha,hb]
     simp(disch:=omega)only[zaq,zbg,tdv,tmd]
  ·have hge:k=l.length:=by simp at h;omega
   subst hge
   simp(etaStruct := .none)only[push_cast,zab,seval]
   exact zbr rfl trivial (Wk.of (by rw[zdy p l (fun j hj=>hn j hj hj)];rfl))
end Go.Proofs.YtmjbgbmegbkmhaaGreat
namespace Go.Proofs.YtmjbgbmegbkmhaaGreat
set_option linter.all false
open Go.RowKit
theorem zka (n:Int) (h1:0≤n) (h2:n<4294967296):IntKind.u32.wrap n=n:=by
 unfold IntKind.wrap
 simp only[IntKind.bits,IntKind.signed,Bool.false_and,Bool.false_eq_true,if_false]
 show n % (2 ^ 32:Int)=n
 omega
theorem yaj (a b:Nat) (ha:a<4294967296) (hb:b<4294967296):bits .and .u32 (a:Int) (b:Int)=((a &&& b:Nat):Int):=by
 show IntKind.u32.wrap ((BitVec.ofInt 32 (a:Int) &&& BitVec.ofInt 32 (b:Int)).toNat:Nat)=_
 rw[BitVec.toNat_and,BitVec.ofInt_natCast,BitVec.ofInt_natCast,BitVec.toNat_ofNat,BitVec.toNat_ofNat,Nat.mod_eq_of_lt (show a<2 ^ 32 by omega),Nat.mod_eq_of_lt (show b<2 ^ 32 by omega)]
 have:a &&& b≤a:=Nat.and_le_left
 exact zka _ (by omega) (by omega)
theorem yl2 (a b:Nat) (ha:a<4294967296) (hb:b<4294967296):bits .or .u32 (a:Int) (b:Int)=((a ||| b:Nat):Int):=by
 show IntKind.u32.wrap ((BitVec.ofInt 32 (a:Int) ||| BitVec.ofInt 32 (b:Int)).toNat:Nat)=_
 rw[BitVec.toNat_or,BitVec.ofInt_natCast,BitVec.ofInt_natCast,BitVec.toNat_ofNat,BitVec.toNat_ofNat,Nat.mod_eq_of_lt (show a<2 ^ 32 by omega),Nat.mod_eq_of_lt (show b<2 ^ 32 by omega)]
 have:a ||| b<2 ^ 32:=Nat.or_lt_two_pow (by omega) (by omega)
 exact zka _ (by omega) (by omega)
theorem zn0 (a b:Nat) (ha:a<4294967296) (hb:b<4294967296):bits .andNot .u32 (a:Int) (b:Int)=((a &&& (4294967295-b):Nat):Int):=by
 show IntKind.u32.wrap ((BitVec.ofInt 32 (a:Int) &&& ~~~(BitVec.ofInt 32 (b:Int))).toNat:Nat)=_
 rw[BitVec.toNat_and,BitVec.toNat_not,BitVec.ofInt_natCast,BitVec.ofInt_natCast,BitVec.toNat_ofNat,BitVec.toNat_ofNat,Nat.mod_eq_of_lt (show a<2 ^ 32 by omega),Nat.mod_eq_of_lt (show b<2 ^ 32 by omega)]
 have:a &&& (2 ^ 32-1-b)≤a:=Nat.and_le_left
 exact zka _ (by omega) (by omega)
theorem z7o (m k B:Nat) (hk:k≤B):(m:Int).fdiv (2 ^ min k B)=((m/2 ^ k:Nat):Int):=by
 rw[Nat.min_eq_left hk,Int.fdiv_eq_ediv_of_nonneg _ (Int.le_of_lt (Int.pow_pos (by decide)))]
 simp
theorem z80 (k:Nat) (hk:k<32):IntKind.u32.wrap (1*2 ^ min k IntKind.u32.bits)=((2 ^ k:Nat):Int):=by
 obtain⟨h1,h2⟩:=zyh k hk
 rw[show IntKind.u32.bits=32 from rfl,Nat.min_eq_left (by omega),Int.one_mul]
 have:((2:Int) ^ k)=((2 ^ k:Nat):Int):=by simp
 rw[this,zka _ (by omega) (by omega)]
theorem zz2 (m k:Nat) (hk:k<32):(m:Int).fdiv (2 ^ min k IntKind.u32.bits)=((m/2 ^ k:Nat):Int):=z7o m k _ (by show k≤32;omega)
theorem z43 (m k:Nat) (hm:m<4294967296) (hk:k<32):decide (bits .and .u32 ((m:Int).fdiv (2 ^ min k IntKind.u32.bits)) 1=1)=zdb m k:=by
 rw[zz2 m k hk]
 have h1:m/2 ^ k≤m:=Nat.div_le_self _ _
 have:=yaj (m/2 ^ k) 1 (by omega) (by omega)
 rw[show ((1:Nat):Int)=1 from rfl]at this
 rw[this,Nat.and_one_is_mod]
 unfold zdb
 rw[Bool.eq_iff_iff]
 simp only[decide_eq_true_eq,beq_iff_eq]
 omega
end Go.Proofs.YtmjbgbmegbkmhaaGreat
namespace Go.Proofs.YtmjbgbmegbkmhaaGreat
set_option linter.all false
open Go.RowKit
set_option maxRecDepth 100000
abbrev eV (m:Nat) (l:List Nat):AV := .agg [I .u32 m,.c (.sl 1 (l.map zjp))]
theorem ylj (n:Nat) (k:Int) (hn:n<4294967296):Spec Tryz.prog 156 ([] ++ [I .u32 n] ++ [.fel 1 [[.v (.int .i64 k)]] 0 0]) [] (B (decide (k≤(pcK n 32:Nat)))) []:=by
 refine spB Tryz.func156 8 [.tmp 3] Tryz.results156 ?_
 try refine xst ?_
 refine caP (z3w n hn) ?_
 try refine xst ?_
 (try(refine⟨by kernel_rfl,?_⟩))
 try refine xst ?_
 exact xrz rfl
def ybm (m:Nat) (l:List Nat):Int:=zkm (fun s=>decide (((pcK m 32:Nat):Int)/2+1≤(pcK s 32:Nat))) l
theorem zja (m:Nat) (l:List Nat) (hm:m<4294967296) (hl:l.length≤9223372036854775807) (hs:∀s∈l,s<4294967296):Spec Tryz.prog 124 [eV m l] [] (I .i64 (ybm m l)) []:=by
 have hp:=z07 m 32
 refine spB Tryz.func124 13 [.tmp 2] Tryz.results124 ?_
 try refine xst ?_
 refine zem (z3w m hm) (WkL.refl _) ?_
 try refine xst ?_
 refine zcw (ycs _ [] [.fel 1 [[.v (.int .i64 ((pcK m 32:Nat)/2+1))]] 0 0] l (fun s=>decide (((pcK m 32:Nat):Int)/2+1≤(pcK s 32:Nat))) hl (fun s hss=>ylj s _ (hs s hss)) (fun _=>rfl) (fun _=>rfl)) (WkL.refl _) rfl ?_
 try refine xst ?_
 exact zbr rfl trivial (Wk.refl _)
theorem zoq (m:Nat) (l:List Nat) (k:Int) (hm:m<4294967296):Spec Tryz.prog 127 [eV m l,I .i64 k] [] (B (decide (0≤k∧k<16)&&zdb m k.toNat)) []:=by
 refine spB Tryz.func127 19 [.tmp 4] Tryz.results127 ?_
 try refine xst ?_
 refine zbr rfl trivial (Wk.of (congrArg B ?_))
 by_cases h:0≤k∧k<16
 ·obtain⟨K,rfl⟩:=Int.eq_ofNat_of_zero_le h.1
  have:=z43 m K hm (by omega)
  simp only[Int.toNat_natCast,this,h,decide_true,Bool.true_and,decide_eq_true h.1,decide_eq_true h.2,and_self]
 ·rw[decide_eq_false h]
  rcases Int.lt_or_le k 0 with h1|h1
  ·simp;omega
  ·simp;omega
theorem ym1 (m:Nat) (hm:m<4294967296):(m:Int).fdiv (2 ^ min 16 IntKind.u32.bits)=((m/65536:Nat):Int):=by
 have:=zz2 m 16 (by omega)
 simpa using this
theorem z8j (m k s:Nat) (hm:m<4294967296) (hs:s<4294967296) (hk:k<32) :
 (!decide (bits .andNot .u32 (s:Int) (m:Int)=0)||decide (bits .and .u32 ((s:Int).fdiv (2 ^ min k IntKind.u32.bits)) 1=1)||(!decide ((s:Int)=0)&&decide (bits .and .u32 ((m:Int).fdiv (2 ^ min k IntKind.u32.bits)) 1=0)))=z8k m k s:=by
 have e:decide (bits .and .u32 ((m:Int).fdiv (2 ^ min k IntKind.u32.bits)) 1=0) = !zdb m k:=by
  rw[zz2 m k hk]
  have h1:m/2 ^ k≤m:=Nat.div_le_self _ _
  have:=yaj (m/2 ^ k) 1 (by omega) (by omega)
  rw[show ((1:Nat):Int)=1 from rfl]at this
  rw[this,Nat.and_one_is_mod]
  unfold zdb
  rw[Bool.eq_iff_iff]
  simp only[decide_eq_true_eq,Bool.not_eq_true',beq_eq_false_iff_ne]
  omega
 rw[z43 s k hs hk,e,zn0 s m hs hm]
 unfold z8k
 rw[Bool.eq_iff_iff]
 simp
theorem zvr (m:Nat) (l:List Nat):decide (0≤ybm m l)=(zn2 m l).isSome:=by
 unfold ybm zkm zn2
 have e:(fun s=>decide (((pcK m 32:Nat):Int)/2+1≤(pcK s 32:Nat)))=z87 m:=by
  funext s;unfold z87;rw[Bool.eq_iff_iff];simp only[decide_eq_true_eq];omega
 rw[e]
 cases l.findIdx? (z87 m)<;>simp
theorem z33 (m:Nat) (l:List Nat) (hm:m<4294967296) (hl:l.length≤9223372036854775807) (hs:∀s∈l,s<4294967296):Spec Tryz.prog 74 [eV m l] [] (I .i64 (zba m l)) []:=by
 have e16:=ym1 m hm
 refine spB Tryz.func74 54 [.tmp 2] Tryz.results74 ?_
 try refine xst ?_
 refine cI (fun h1 => ?_) fun h1 => ?_
 ·have h':m=0∨65535<m:=by omega
  have e:zba m l=1:=by unfold zba;rw[if_pos h']
  try refine xst ?_
  exact zbr rfl trivial (Wk.of (by rw[e];rfl))
 ·have h':¬(m=0∨65535<m):=by omega
  try refine xst ?_
  refine cI (fun h2 => ?_) fun h2 => ?_
  ·have e:zba m l=4:=by unfold zba;rw[if_neg h',if_pos (by omega)]
   try refine xst ?_
   exact zbr rfl trivial (Wk.of (by rw[e];rfl))
  ·have h2':l.length=16:=by omega
   try refine xst ?_
   refine za3 (fun k:Nat=>⟨[(21,I .i64 k),(20,I .i64 l.length),(19,.c (.sl 1 (l.map zjp))),(1,.ptr 0 0 0)],[(0,.blk 38 [I .u32 m,.c (.sl 1 (l.map zjp))])],1⟩) (fun k:Nat=>k≤16∧∀j,j<k→z8k m j (l.getD j 0)=false) (fun k:Nat=>16-k) (0) (⟨by omega,fun j h=>by omega⟩) (To.mk [0] rfl rfl (by decide) ?_ ?_) ?_
   ·simp(etaStruct := .none)only[push_cast,zab,seval]
   ·simp(etaStruct := .none)only[push_cast,zab,seval]
   rintro k ⟨hk,hn⟩
   try refine xst ?_
   refine za1 (fun h3 => ?_) (fun h3 => ?_)
   ·(try replace h3:=xhh h3)
    have hlt:k<l.length:=by omega
    have hsk:l[k]<4294967296:=hs _ (List.getElem_mem hlt)
    have hbt:=z8j m k l[k] hm hsk (by omega)
    iterate 2(try simp(etaStruct := .none)only[push_cast,zab,seval,zcs _ _ _ hlt,zjp];try refine xsu ?_)
    rw[hbt]
    refine cI (fun h4 => ?_) fun h4 => ?_
    ·have hany:(List.range 16).any (fun k=>z8k m k (l.getD k 0))=true:=List.any_eq_true.2 ⟨k,by simp;omega,by rw[zty _ _ _ hlt];exact h4⟩
     have e:zba m l=4:=by unfold zba;rw[if_neg h',if_neg (by omega),if_pos hany]
     iterate 2(try simp(etaStruct := .none)only[push_cast,zab,seval,zcs _ _ _ hlt,zjp];try refine xsu ?_)
     exact zbr rfl trivial (Wk.of (by rw[e];rfl))
    ·iterate 2(try simp(etaStruct := .none)only[push_cast,zab,seval,zcs _ _ _ hlt,zjp];try refine xsu ?_)
     refine⟨k+1,⟨by omega,fun j hj=>by
 by_cases e:j=k
 ·subst e;rw[zty _ _ _ hlt];exact h4
 ·exact hn j (by omega)⟩, by omega, To.mk [0] rfl rfl (by decide) ?_ ?_⟩
     ·(iterate 2((try simp(etaStruct := .none)only[push_cast,zab,seval,zcs _ _ _ hlt,zjp]);(try(refine xsu ?_;try exact xtI))))
     ·(iterate 2((try simp(etaStruct := .none)only[push_cast,zab,seval,zcs _ _ _ hlt,zjp]);(try(refine xsu ?_;try exact xtI))))
   ·(try replace h3:=xhh h3)
    have hge:k=16:=by omega
    subst hge
    have hbad:¬((List.range 16).any (fun k=>z8k m k (l.getD k 0))=true):=by
     simp only[Bool.not_eq_true,List.any_eq_false]
     intro j hj
     rw[hn j (by simpa using hj)]
    have hon:=zvr m l
    try refine xst ?_
    refine caP (zja m l hm hl hs) ?_
    try refine xst ?_
    rw[hon]
    refine cI (fun h5 => ?_) fun h5 => ?_
    ·have e:zba m l=4:=by unfold zba;rw[if_neg h',if_neg (by omega),if_neg hbad,if_pos h5]
     try refine xst ?_
     exact zbr rfl trivial (Wk.of (by rw[e];rfl))
    ·have e:zba m l=0:=by unfold zba;rw[if_neg h',if_neg (by omega),if_neg hbad,if_neg (by rw[h5];decide)]
     try refine xst ?_
     exact zbr rfl trivial (Wk.of (by rw[e];rfl))
def zi6 (f:Nat→Nat) (i:Nat) (g:List Nat):List Nat:=(g.take i).map f++g.drop i
theorem zlk (f:Nat→Nat) (i:Nat) (g:List Nat):(zi6 f i g).length=g.length:=by simp[zi6];omega
theorem yfv (f:Nat→Nat) (g:List Nat):zi6 f 0 g=g:=by simp[zi6]
theorem z09 (f:Nat→Nat) (i:Nat) (g:List Nat) (h:g.length≤i):zi6 f i g=g.map f:=by simp[zi6,List.take_of_length_le h,List.drop_of_length_le h]
theorem z58 (f:Nat→Nat) (i:Nat) (g:List Nat) (h:i<g.length):(zi6 f i g)[i]'(by rw[zlk];exact h)=g[i]:=by
 unfold zi6
 rw[List.getElem_append_right (by simp;omega)]
 simp[Nat.min_eq_left (Nat.le_of_lt h)]
theorem z08 (f:Nat→Nat) (i:Nat) (g:List Nat) (h:i<g.length):(zi6 f i g).set i (f g[i])=zi6 f (i+1) g:=by
 unfold zi6
 rw[List.set_append_right _ _ (by simp;omega)]
 rw[List.length_map,List.length_take,Nat.min_eq_left (Nat.le_of_lt h),Nat.sub_self,List.drop_eq_getElem_cons h,List.set_cons_zero,List.take_succ_eq_append_getElem h,List.map_append,List.append_assoc]
 rfl
theorem zs1 (l:List Nat) (i:Nat) (x:Int) (n:Nat) (h:x=n):(l.map zjp).set i [.v (.int .u32 x)]=(l.set i n).map zjp:=by rw[h,List.map_set];rfl
theorem z30 (n k:Nat) (hn:n<4294967296) (hk:k<32):bits .andNot .u32 (n:Int) (IntKind.u32.wrap (1*2 ^ min k IntKind.u32.bits))=(clr n k:Nat):=by
 have:=zyh k hk
 rw[z80 k hk,zn0 n (2 ^ k) hn (by omega),z4m n k hn hk]
theorem ydq (l:List Nat) (hl:l.length≤1000000000) (h0:l ≠ []):Spec Tryz.prog 72 [.c (.sl 1 (l.map zjp))] [] (.own 0) [.row 35 1 (l.map zjp)]:=by
 refine spB Tryz.func72 8 [.tmp 2] Tryz.results72 ?_
 try refine xst ?_
 intro b hb
 try refine xst ?_
 refine za1 (fun h => ?_) (fun h => ?_)
 ·exact absurd (List.map_eq_nil_iff.1 (hb h)) h0
 ·try refine xst ?_
  refine zbc [1] rfl rfl (by decide) ⟨?_,trivial⟩ trivial ?_
  ·simp(etaStruct := .none)only[push_cast,zab,seval]
  ·simp(etaStruct := .none)only[push_cast,zab,seval]
theorem ycg (m k:Nat) (l:List Nat) (hm:m<4294967296) (hk:k<16) (hkl:k<l.length) (hl:l.length≤1000000000) (hs:∀s∈l,s<4294967296) :
 Spec Tryz.prog 128 [.ptr 0 0 0,I .i64 k] [.blk 38 [I .u32 m,.own 1],.row 35 1 (l.map zjp)] .undef [.blk 38 [I .u32 (clr m k:Nat),.own 1],.row 35 1 ((lv l k).map zjp)]:=by
 refine spB Tryz.func128 40 [] Tryz.results128 ?_
 try refine xz1 (z30 m k hm (by omega)) ?_
 have hlen:(l.set k 0).length=l.length:=by simp
 refine za3 (fun i:Nat=>⟨[(25,I .i64 i),(24,I .i64 l.length),(1,I .i64 k),(0,.ptr 0 0 0)],[(0,.blk 38 [I .u32 (clr m k:Nat),.own 1]),(1,.row 35 1 ((zi6 (clr · k) i (l.set k 0)).map zjp))],2⟩) (fun i=>i≤l.length) (fun i=>l.length-i) 0 (Nat.zero_le _) (To.mk [0,1] rfl rfl (by decide) ?_ ?_) ?_
 ·simp(etaStruct := .none)only[push_cast,zab,seval,yfv]
  exact zs1 l k 0 0 rfl
 ·(iterate 2((try simp(etaStruct := .none)only[push_cast,zab,seval,List.length_set]);(try(refine xsu ?_;try exact xtI))))
 ·rintro i hi
  have hg:∀s∈l.set k 0,s<4294967296:=fun s hh=>by rcases List.mem_or_eq_of_mem_set hh with h|h;exact hs s h;omega
  try refine xst ?_
  refine za1 (fun h => ?_) (fun h => ?_)
  ·have hlt:i<(l.set k 0).length:=by simpa using h
   have hlp:i<(zi6 (clr · k) i (l.set k 0)).length:=by rw[zlk];exact hlt
   have hu:=z30 (l.set k 0)[i] k (hg _ (List.getElem_mem hlt)) (by omega)
   iterate 2(try simp(etaStruct := .none)only[push_cast,zab,seval,zcs _ _ _ hlp,zjp,zlk,z58 _ i _ hlt,hu];try refine xsu ?_)
   refine⟨i+1,by omega,by omega,To.mk [0,1] rfl rfl (by decide) ?_ ?_⟩
   ·try refine xst ?_
    rw[zs1 _ _ _ _ rfl,z08 _ i _ hlt]
   ·(try(refine xst ?_;try exact xtI))
  ·have hge:i=l.length:=by simp at h;omega
   try refine xst ?_
   refine zbc [0,1] rfl rfl (by decide) ⟨?_,?_,trivial⟩ trivial ?_
   ·(try(refine xst ?_;try exact xtI))
   ·iterate 2(try simp(etaStruct := .none)only[push_cast,zab,seval,z09 _ _ _ (show (l.set k 0).length≤i by omega)];try refine xsu ?_)
    unfold lv
    rfl
   ·try refine xst ?_
    exact Wk.undef _
theorem ztn (m:Nat) (b:Int) (hm:m<65536):(decide (0≤b∧b<16)&&zdb m b.toNat)=zhx m b:=by
 by_cases h:0≤b∧b<16
 ·obtain⟨k,rfl⟩:=Int.eq_ofNat_of_zero_le h.1
  rw[ztx m k (by omega),decide_eq_true h];rfl
 ·rw[ztw m b hm h,decide_eq_false h];rfl
theorem z6d (m:Nat) (l:List Nat) (k:Nat) (h:zn2 m l=some k):ybm m l=k:=by
 have e:(fun s=>decide (((pcK m 32:Nat):Int)/2+1≤(pcK s 32:Nat)))=z87 m:=by
  funext s;unfold z87;rw[Bool.eq_iff_iff];simp only[decide_eq_true_eq];omega
 unfold ybm zkm
 unfold zn2 at h
 rw[e,h]
theorem ybl (m:Nat) (l:List Nat) (h:zn2 m l=none):ybm m l<0:=by
 have:=zvr m l
 rw[h]at this
 simpa using this
theorem z2w (m:Nat) (b:Int) (hm:m<65536) (h:zhx m b=true):∃k:Nat,b=k∧k<16∧zdb m k=true:=by
 by_cases hb:0≤b∧b<16
 ·obtain⟨k,rfl⟩:=Int.eq_ofNat_of_zero_le hb.1
  exact⟨k,rfl,by omega,by rw[←ztx m k (by omega)];exact h⟩
 ·rw[ztw m b hm hb]at h;simp at h
theorem yhs {m:Nat} {g:List Nat} {b a:Int} (h:zba m g≠0):zcv m g b a=((0,[]),false,zba m g):=by unfold zcv;rw[if_pos h]
theorem yhr {m:Nat} {g:List Nat} {b a:Int} (h:zba m g=0) (h2:(zhx m b&&zhx m a)=false):zcv m g b a=((0,[]),false,7):=by unfold zcv;rw[if_neg (fun x=>x h),if_pos h2]
theorem yhp {m:Nat} {g:List Nat} {b a:Int} (h:zba m g=0) (h2:¬(zhx m b&&zhx m a)=false) (h3:b=a):zcv m g b a=((0,[]),false,1):=by unfold zcv;rw[if_neg (fun x=>x h),if_neg h2,if_pos h3]
theorem yhq {m:Nat} {g:List Nat} {b a:Int} (h:zba m g=0) (h2:¬(zhx m b&&zhx m a)=false) (h3:b≠a) (h4:zdb (g.getD a.toNat 0) b.toNat=true):zcv m g b a=((0,[]),false,8):=by unfold zcv;rw[if_neg (fun x=>x h),if_neg h2,if_neg h3,if_pos h4]
theorem yho {m:Nat} {g:List Nat} {b a:Int} (h:zba m g=0) (h2:¬(zhx m b&&zhx m a)=false) (h3:b≠a) (h4:¬zdb (g.getD a.toNat 0) b.toNat=true):zcv m g b a=(zml 16 m (g.set a.toNat (g.getD a.toNat 0+2 ^ b.toNat)),!zdb (zml 16 m (g.set a.toNat (g.getD a.toNat 0+2 ^ b.toNat))).1 a.toNat,0):=by unfold zcv;rw[if_neg (fun x=>x h),if_neg h2,if_neg h3,if_neg h4]
theorem yhn (m:Nat) (l:List Nat) (b a:Int) (hm:m<4294967296) (hl:l.length≤9223372036854775807) (hs:∀s∈l,s<4294967296) :
 Spec Tryz.prog 79 [eV m l,I .i64 b,I .i64 a] [] (.tup [eV (zcv m l b a).1.1 (zcv m l b a).1.2,B (zcv m l b a).2.1,I .i64 (zcv m l b a).2.2]) []:=by
 refine spB Tryz.func79 71 [.cell 6 38,.tmp 7,.tmp 8] Tryz.results79 ?_
 try refine xst ?_
 refine zem (z33 m l hm hl hs) (WkL.refl _) ?_
 try refine xst ?_
 refine za1 (fun h => ?_) (fun h => ?_)
 ·have h1:zba m l≠0:=by simpa using h
  try refine xst ?_
  refine za1 (fun _ => ?_) (fun h'=>absurd (h.symm.trans h') (by decide))
  try refine xst ?_
  rw[yhs h1]
  exact zbr rfl ⟨rfl,trivial⟩ (Wk.tup ⟨Wk.agg ⟨Wk.refl _,Wk.nil 1,trivial⟩,Wk.refl _,Wk.refl _,trivial⟩)
 have h1:zba m l=0:=by simpa using h
 obtain⟨⟨r1,r2⟩,r3,r4,r5⟩:=zi4 m l h1
 try refine xst ?_
 refine zem (zoq m l b hm) (WkL.refl _) ?_
 try refine xst ?_
 rw[ztn m b (by omega)]
 refine zwr (fun _=>zoq m l a hm) (WkL.refl _) (fun hc => ?_) ?_
 ·have hx:zhx m b=true:=by simpa using hc
  rw[←ztn m b (by omega)]at hx
  (try simp(etaStruct := .none)only[push_cast,zab,seval])
  simpa using hx
 rw[ztn m a (by omega)]
 try refine xst ?_
 have fin:∀(v:Int) (_:v≠0),True:=fun _ _=>trivial
 refine za1 (fun h => ?_) (fun h => ?_)
 ·have h2:(zhx m b&&zhx m a)=false:=by revert h;cases zhx m b<;>cases zhx m a<;>decide
  try refine xst ?_
  refine za1 (fun _ => ?_) (fun h'=>absurd h' (by decide))
  try refine xst ?_
  rw[yhr h1 h2]
  exact zbr rfl ⟨rfl,trivial⟩ (Wk.tup ⟨Wk.agg ⟨Wk.refl _,Wk.nil 1,trivial⟩,Wk.refl _,Wk.refl _,trivial⟩)
 have h2:zhx m b=true∧zhx m a=true:=by revert h;cases zhx m b<;>cases zhx m a<;>decide
 have h2':¬(zhx m b&&zhx m a)=false:=by rw[h2.1,h2.2];decide
 obtain⟨B',rfl,hB,bB⟩:=z2w m b (by omega) h2.1
 obtain⟨A',rfl,hA,bA⟩:=z2w m a (by omega) h2.2
 try refine xst ?_
 refine za1 (fun h => ?_) (fun h => ?_)
 ·have h3:(B':Int)=(A':Int):=by simpa using h
  try refine xst ?_
  refine za1 (fun _ => ?_) (fun h'=>absurd h' (by decide))
  try refine xst ?_
  rw[yhp h1 h2' h3]
  exact zbr rfl ⟨rfl,trivial⟩ (Wk.tup ⟨Wk.agg ⟨Wk.refl _,Wk.nil 1,trivial⟩,Wk.refl _,Wk.refl _,trivial⟩)
 have h3:(B':Int)≠(A':Int):=by simpa using h
 have hlt:A'<l.length:=by omega
 have hg:l[A']<4294967296:=hs _ (List.getElem_mem hlt)
 have hgd:l.getD A' 0=l[A']:=zty _ _ _ hlt
 iterate 2(try simp(etaStruct := .none)only[push_cast,zab,seval,zcs _ _ _ hlt,zjp,z43 l[A'] B' hg (by omega)];try refine xsu ?_)
 refine za1 (fun h => ?_) (fun h => ?_)
 ·try refine xst ?_
  refine za1 (fun _ => ?_) (fun h'=>absurd h' (by decide))
  try refine xst ?_
  rw[yhq h1 h2' h3 (by rw[Int.toNat_natCast,Int.toNat_natCast,hgd];exact h)]
  exact zbr rfl ⟨rfl,trivial⟩ (Wk.tup ⟨Wk.agg ⟨Wk.refl _,Wk.nil 1,trivial⟩,Wk.refl _,Wk.refl _,trivial⟩)
 obtain⟨o1,o2⟩:=z1h l[A'] B' hg (by omega) h
 have hp:=zyh B' (by omega)
 rw[yho h1 h2' h3 (by rw[Int.toNat_natCast,Int.toNat_natCast,hgd,h];decide)]
 rw[Int.toNat_natCast,Int.toNat_natCast,hgd]
 try refine xst ?_
 refine za1 (fun h'=>absurd h' (by simp[h1])) (fun _ => ?_)
 try refine xst ?_
 refine zcb [] (ydq l (by omega) (by intro e;rw[e]at r3;simp at r3)) (WkL.refl _) rfl List.nodup_nil (by simp[zay]) ?_
 have hor:bits .or .u32 (l[A']:Int) ((2:Int) ^ B')=(l[A']:Int)+2 ^ B':=by
  have:=yl2 l[A'] (2 ^ B') hg (show 2 ^ B'<4294967296 by omega)
  rw[o1]at this
  push_cast at this
  exact this
 iterate 2(try simp(etaStruct := .none)only[push_cast,zab,seval,zcs _ _ _ hlt,zjp,z80 B' (show B'<32 by omega),hor];try refine xsu ?_)
 rw[zs1 l A' _ (l[A']+2 ^ B') (by push_cast;rfl)]
 have hgl:(l.set A' (l[A']+2 ^ B')).length=16:=by rw[List.length_set];exact r3
 have hgs:∀s∈l.set A' (l[A']+2 ^ B'),s<4294967296:=fun s hh=>by
  rcases List.mem_or_eq_of_mem_set hh with h|h
  ·exact hs s h
  ·rw[h];exact o2
 generalize l.set A' (l[A']+2 ^ B')=g0 at hgl hgs ⊢
 refine zcw (zja m g0 hm (by omega) hgs) (WkL.refl _) rfl ?_
 try refine xst ?_
 refine za3 (fun p:Nat × List Nat=>⟨[(10,I .i64 (ybm p.1 p.2)),(3,.ptr 0 0 0),(6,.ptr 1 0 0),(2,I .i64 A')],[(0,.blk 38 [I .u32 p.1,.own 2]),(1,.blk 38 [I .u32 0,.c (.v (.slice none 0 0))]),(2,.row 35 1 (p.2.map zjp))],3⟩) (fun p=>(p.1≤m∧p.2.length=16∧∀s∈p.2,s<4294967296)∧∃n,nz p.2≤n∧zml 16 m g0=zml n p.1 p.2) (fun p=>nz p.2) (m,g0) ⟨⟨Nat.le_refl _,hgl,hgs⟩,16,by rw[←hgl];exact yf7 g0,rfl⟩ (To.mk [0,1,2] rfl rfl (by decide) ?_ ?_) ?_
 ·simp(etaStruct := .none)only[push_cast,zab,seval]
 ·simp(etaStruct := .none)only[push_cast,zab,seval]
 rintro⟨m',g⟩ ⟨⟨q1,q2,q3⟩,n,q4,q5⟩
 simp only at q1 q2 q3 q4
 try refine xst ?_
 cases hT:zn2 m' g with
 | none =>
  have hn:=ybl m' g hT
  refine za1 (fun h=>absurd h (by simp;omega)) (fun _ => ?_)
  rw[z5w _ _ _ hT]at q5
  rw[q5]
  try refine xst ?_
  refine zcw (zoq m' g A' (by omega)) (WkL.refl _) rfl ?_
  have mm:(decide (0≤(A':Int)∧(A':Int)<16)&&zdb m' (A':Int).toNat)=zdb m' A':=by rw[Int.toNat_natCast,decide_eq_true (by omega)];rfl
  rw[mm]
  try refine xst ?_
  (try refine⟨by kernel_rfl,?_⟩)
  exact zbr rfl ⟨rfl,trivial⟩ (Wk.refl _)
 | some k =>
  have hk:=z6d m' g k hT
  obtain⟨k1,k2,k3⟩:=zh3 m' g k hT
  obtain⟨n',j1,j2⟩:=z5v n m' g k hT q4
  rw[hk]
  refine za1 (fun _ => ?_) (fun h=>absurd h (by simp))
  try refine xst ?_
  refine zcb [0,2] (ycg m' k g (by omega) (by omega) k1 (by omega) q3) (WkL.refl _) rfl (by decide) (by simp[zay]) ?_
  try refine xst ?_
  have hc:=znr m' k
  have hls:∀s∈lv g k,s<4294967296:=fun s hh=>by
   unfold lv at hh
   obtain⟨u,hu,rfl⟩:=List.mem_map.1 hh
   have hu2:u<4294967296:=by
    rcases List.mem_or_eq_of_mem_set hu with h|h
    ·exact q3 u h
    ·omega
   exact Nat.lt_of_le_of_lt (znr u k) hu2
  refine zcw (zja (clr m' k) (lv g k) (by omega) (by rw[zv6];omega) hls) (WkL.refl _) rfl ?_
  try refine xst ?_
  refine⟨(clr m' k,lv g k),⟨⟨by simp only;omega,by simp only;rw[zv6];omega,hls⟩,n',j1,by rw[q5,j2]⟩,z6j g k k1 k3,To.mk [0,1,2] rfl rfl (by decide) ?_ ?_⟩
  ·simp(etaStruct := .none)only[push_cast,zab,seval]
  ·simp(etaStruct := .none)only[push_cast,zab,seval]
end Go.Proofs.YtmjbgbmegbkmhaaGreat
namespace Go.Proofs.YtmjbgbmegbkmhaaGreat
set_option linter.all false
open Go.RowKit
set_option maxRecDepth 100000
set_option maxHeartbeats 1000000
structure Hst where
 sty:Sty
 seats:List Sea
 m:Nat
 ag:List Nat
 most:Int
deriving Inhabited
abbrev zzq (h:Hst):List AV := [I .i64 h.sty.start.f.w,I .i64 h.sty.start.f.h,.c (.sl 1 (h.sty.start.f.p.map zae)),.c (.sl 2 (h.sty.start.bases.map zbb)),.c (.sl 1 (h.sty.start.stocks.map zae)),.c (.sl 1 (h.sty.start.mines.map zae)),.c (.sl 7 (h.sty.start.troops.map za2)),I .i64 h.sty.start.next,I .i64 h.sty.start.now,.c (.sl 1 (h.sty.turns.map zdv)),.c (.sl 3 (h.seats.map zb5)),I .u32 h.m,.c (.sl 1 (h.ag.map zjp)),I .i64 h.most]
abbrev ztu (h:Hst):AV := .agg (zzq h)
structure HstL (h : Hst) : Prop where
 s:StyL h.sty
 l:h.seats.length≤9223372036854775807
 a:∀s∈h.seats,zgi s
 m:h.m<4294967296
 g:h.ag.length≤9223372036854775807
 e:∀s∈h.ag,s<4294967296
def zg3 (h:Hst) (i:Nat):Bool:=decide ((h.seats.getD i default).gone = !zdb h.m i)
def zsl (WR:Cel→List Int) (h:Hst):Int:=if zps WR h.sty≠0 then zps WR h.sty else if za9 h.seats≠0 then za9 h.seats else if zba h.m h.ag≠0 then zba h.m h.ag else if ¬(1≤h.most∧h.most≤100)then 1 else
 if h.seats.length≠h.sty.start.bases.length∨h.m/2 ^ h.seats.length≠0 then 4 else if (List.range h.seats.length).all (zg3 h)then 0 else 4
theorem ztv (n:Int):Spec Tryz.prog 27 [I .i64 n] [] (B (decide (1≤n)&&decide (n≤100))) []:=by
 refine spB Tryz.func27 9 [.tmp 2] Tryz.results27 ?_
 try refine xst ?_
 exact xrz rfl
theorem ye1 (m k:Nat) (hm:m<4294967296) (hk:k<32):decide (bits .and .u32 ((m:Int).fdiv (2 ^ min k IntKind.u32.bits)) 1=0) = !zdb m k:=by
 rw[zz2 m k hk]
 have h1:m/2 ^ k≤m:=Nat.div_le_self _ _
 have:=yaj (m/2 ^ k) 1 (by omega) (by omega)
 rw[show ((1:Nat):Int)=1 from rfl]at this
 rw[this,Nat.and_one_is_mod]
 unfold zdb
 rw[Bool.eq_iff_iff]
 simp only[decide_eq_true_eq,Bool.not_eq_true',beq_eq_false_iff_ne]
 omega
theorem ye0 (m k:Nat) (hm:m<4294967296) (hk:k<32):(m:Int).fdiv (2 ^ min k IntKind.u32.bits)=((m/2 ^ k:Nat):Int):=zz2 m k hk
theorem zkp (h:Hst) (WR:Cel→List Int) (hWR:∀a,zat h.sty.start.f [a] (WR a)) (hl:HstL h):Spec Tryz.prog 31 [ztu h] [] (I .i64 (zsl WR h)) []:=by
 have S1:=zqk h.sty WR hWR hl.s
 have S2:=zd9 h.seats hl.l hl.a
 have S3:=z33 h.m h.ag hl.m hl.g hl.e
 have eH:zsl WR h=if zps WR h.sty≠0 then zps WR h.sty else if za9 h.seats≠0 then za9 h.seats else if zba h.m h.ag≠0 then zba h.m h.ag else if ¬(1≤h.most∧h.most≤100)then 1 else if h.seats.length≠h.sty.start.bases.length∨h.m/2 ^ h.seats.length≠0 then 4 else if (List.range h.seats.length).all (zg3 h)then 0 else 4:=rfl
 have h8:za9 h.seats=0→h.seats.length≤8:=fun h0=>(zco h0).2.1
 have hm:=hl.m
 generalize zsl WR h=E at *
 generalize zps WR h.sty=e1 at *
 generalize za9 h.seats=e2 at *
 generalize zba h.m h.ag=e3 at *
 refine spB Tryz.func31 66 [.tmp 2] Tryz.results31 ?_
 (iterate 2((try simp(etaStruct := .none)only[push_cast,seval]);(try(refine xsu ?_;try exact xtI))))
 refine zbw [some 7,some 8,some 9,some 10,some 11,some 12,some 13,some 14,some 15,some 16,some 17] rfl ?_
 intro Oq lq Rq hlq hdq hRq
 subst hlq
 iterate 2(refine za6 fun rq hrq => ?_;(iterate 2((try simp(etaStruct := .none)only[push_cast,seval,hdq,id]);(try(refine xsu ?_;try exact xtI))));subst hrq)
 refine za6 fun rq hrq => ?_
 (iterate 2((try simp(etaStruct := .none)only[push_cast,seval,hdq,id]);(try(refine xsu ?_;try exact xtI))))
 refine caP (S1) ?_
 (iterate 2((try simp(etaStruct := .none)only[push_cast,seval,hdq,id]);(try(refine xsu ?_;try exact xtI))))
 subst hrq
 iterate 2(refine za6 fun rq hrq => ?_;(iterate 2((try simp(etaStruct := .none)only[push_cast,seval,hdq,id]);(try(refine xsu ?_;try exact xtI))));subst hrq)
 refine za6 fun rq hrq => ?_
 (iterate 2((try simp(etaStruct := .none)only[push_cast,seval,hdq,id]);(try(refine xsu ?_;try exact xtI))))
 refine caP (S2) ?_
 (iterate 2((try simp(etaStruct := .none)only[push_cast,seval,hdq,id]);(try(refine xsu ?_;try exact xtI))))
 subst hrq
 iterate 2(refine za6 fun rq hrq => ?_;(iterate 2((try simp(etaStruct := .none)only[push_cast,seval,hdq,id]);(try(refine xsu ?_;try exact xtI))));subst hrq)
 refine za6 fun rq hrq => ?_
 (iterate 2((try simp(etaStruct := .none)only[push_cast,seval,hdq,id]);(try(refine xsu ?_;try exact xtI))))
 refine caP (S3) ?_
 (iterate 2((try simp(etaStruct := .none)only[push_cast,seval,hdq,id]);(try(refine xsu ?_;try exact xtI))))
 subst hrq
 iterate 2(refine za6 fun rq hrq => ?_;(iterate 2((try simp(etaStruct := .none)only[push_cast,seval,hdq,id]);(try(refine xsu ?_;try exact xtI))));subst hrq)
 refine zmu ?_
 subst hRq
 clear hdq Oq
 refine zmt (by kernel_rfl) ?_
 (iterate 2((try simp(etaStruct := .none)only[push_cast,seval]);(try(refine xsu ?_;try exact xtI))))
 refine za3 (fun k:Nat=>⟨[(17,I .i64 k),(16,.agg [I .i64 e1,I .i64 e2,I .i64 e3]),(1,.ptr 0 0 0)],[(0,.blk 40 (zzq h))],1⟩) (fun k:Nat=>k≤3∧(1≤k→e1=0)∧(2≤k→e2=0)∧(3≤k→e3=0)) (fun k:Nat=>3-k) (0) (⟨by omega,by omega,by omega,by omega⟩) (To.mk [0] rfl rfl (by decide) ?_ ?_) ?_
 ·simp(etaStruct := .none)only[push_cast,zab,seval]
 ·simp(etaStruct := .none)only[push_cast,zab,seval]
 rintro k ⟨hk,k1,k2,k3⟩
 (iterate 2((try simp(etaStruct := .none)only[push_cast,seval]);(try(refine xsu ?_;try exact xtI))))
 refine cI (fun h1 => ?_) fun h1 => ?_
 ·obtain⟨e,hx,he⟩:∃e:Int,([I .i64 e1,I .i64 e2,I .i64 e3]:List AV)[k]? = some (I .i64 e)∧(k=0∧e=e1∨k=1∧e=e2∨k=2∧e=e3):=by
   have:k=0∨k=1∨k=2:=by omega
   rcases this with rfl|rfl|rfl
   ·exact⟨e1,rfl,by omega⟩
   ·exact⟨e2,rfl,by omega⟩
   ·exact⟨e3,rfl,by omega⟩
  (iterate 2((try simp(etaStruct := .none)only[push_cast,seval,hx,Int.toNat_natCast,Nat.mul_one]);(try(refine xsu ?_;try exact xtI))))
  refine cI (fun h2 => ?_) fun h2 => ?_
  ·have eE:E=e:=by
    rw[eH]
    rcases he with ⟨a,rfl⟩|⟨a,rfl⟩|⟨a,rfl⟩
    ·rw[if_pos h2]
    ·rw[if_neg (fun x=>x (k1 (by omega))),if_pos h2]
    ·rw[if_neg (fun x=>x (k1 (by omega))),if_neg (fun x=>x (k2 (by omega))),if_pos h2]
   (iterate 2((try simp(etaStruct := .none)only[push_cast,seval,hx,Int.toNat_natCast,Nat.mul_one]);(try(refine xsu ?_;try exact xtI))))
   exact zbr rfl trivial (Wk.of (by rw[eE];rfl))
  ·(iterate 2((try simp(etaStruct := .none)only[push_cast,seval,hx,Int.toNat_natCast,Nat.mul_one]);(try(refine xsu ?_;try exact xtI))))
   refine⟨k+1,⟨by omega,fun _=>by omega,fun _=>by omega,fun _=>by omega⟩,by omega,To.mk [0] rfl rfl (by decide) ?_ ?_⟩
   ·(iterate 2((try simp(etaStruct := .none)only[push_cast,seval,hx,Int.toNat_natCast,Nat.mul_one]);(try(refine xsu ?_;try exact xtI))))
   ·(iterate 2((try simp(etaStruct := .none)only[push_cast,seval,hx,Int.toNat_natCast,Nat.mul_one]);(try(refine xsu ?_;try exact xtI))))
 ·have z1:=k1 (by omega)
  have z2:=k2 (by omega)
  have z3:=k3 (by omega)
  have h8:=h8 z2
  rw[if_neg (fun x=>x z1),if_neg (fun x=>x z2),if_neg (fun x=>x z3)]at eH
  have hsh:=ye0 h.m h.seats.length hm (by omega)
  (iterate 2((try simp(etaStruct := .none)only[push_cast,seval]);(try(refine xsu ?_;try exact xtI))))
  refine caP (ztv h.most) ?_
  (iterate 2((try simp(etaStruct := .none)only[push_cast,seval]);(try(refine xsu ?_;try exact xtI))))
  refine cI (fun h3 => ?_) fun h3 => ?_
  ·have eE:E=1:=by rw[eH,if_pos (by omega)]
   (iterate 2((try simp(etaStruct := .none)only[push_cast,seval]);(try(refine xsu ?_;try exact xtI))))
   exact zbr rfl trivial (Wk.of (by rw[eE];rfl))
  ·rw[if_neg (by omega)]at eH
   (iterate 2((try simp(etaStruct := .none)only[push_cast,seval]);(try(refine xsu ?_;try exact xtI))))
   refine cI (fun h4 => ?_) fun h4 => ?_
   ·have eE:E=4:=by
     rw[eH,if_pos]
     have:=Int.natCast_eq_zero (n:=h.m/2 ^ h.seats.length)
     generalize h.m/2 ^ h.seats.length=z at *
     omega
    (iterate 2((try simp(etaStruct := .none)only[push_cast,seval]);(try(refine xsu ?_;try exact xtI))))
    exact zbr rfl trivial (Wk.of (by rw[eE];rfl))
   ·rw[if_neg (by generalize h.m/2 ^ h.seats.length=z at *;omega)]at eH
    (iterate 2((try simp(etaStruct := .none)only[push_cast,seval]);(try(refine xsu ?_;try exact xtI))))
    refine za3 (fun k:Nat=>⟨[(50,I .i64 k),(49,I .i64 h.seats.length),(48,.c (.sl 3 (h.seats.map zb5))),(1,.ptr 0 0 0)],[(0,.blk 40 (zzq h))],1⟩) (fun k:Nat=>k≤h.seats.length∧∀j,j<k→zg3 h j=true) (fun k:Nat=>h.seats.length-k) (0) (⟨Nat.zero_le _,fun j hj=>by omega⟩) (To.mk [0] rfl rfl (by decide) ?_ ?_) ?_
    ·simp(etaStruct := .none)only[push_cast,zab,seval]
    ·simp(etaStruct := .none)only[push_cast,zab,seval]
    rintro k ⟨hk2,hn⟩
    (iterate 2((try simp(etaStruct := .none)only[push_cast,seval]);(try(refine xsu ?_;try exact xtI))))
    refine cI (fun h5 => ?_) fun h5 => ?_
    ·have hlt:k<h.seats.length:=by omega
     have hub:=ye1 h.m k hm (by omega)
     (iterate 2((try simp(etaStruct := .none)only[push_cast,seval,zaa _ _ _ hlt,zb5,hub]);(try(refine xsu ?_;try exact xtI))))
     refine zbw [some 55,some 56,some 57,some 58,some 59,some 60,some 61,some 62,some 63,some 64] rfl ?_
     intro Oq lq Rq hlq hdq hRq
     subst hlq
     iterate 10(refine za6 fun rq hrq => ?_;(iterate 2((try simp(etaStruct := .none)only[push_cast,seval,hdq,id,zaa _ _ _ hlt,zb5,hub]);(try(refine xsu ?_;try exact xtI))));subst hrq)
     refine zmu ?_
     subst hRq
     clear hdq Oq
     refine zmt (by kernel_rfl) ?_
     (iterate 2((try simp(etaStruct := .none)only[push_cast,seval,zaa _ _ _ hlt,zb5,hub]);(try(refine xsu ?_;try exact xtI))))
     refine cI (fun h6 => ?_) fun h6 => ?_
     ·have eE:E=4:=by
       rw[eH,if_neg]
       intro ha
       have hx:=List.all_eq_true.1 ha k (List.mem_range.2 hlt)
       unfold zg3 at hx
       exact h6 (of_decide_eq_true hx)
      (iterate 2((try simp(etaStruct := .none)only[push_cast,seval,zaa _ _ _ hlt,zb5,hub]);(try(refine xsu ?_;try exact xtI))))
      exact zbr rfl trivial (Wk.of (by rw[eE];rfl))
     ·have hnn:∀j,j<k+1→zg3 h j=true:=fun j hj=>by
       rcases Nat.lt_or_ge j k with hx|hx
       ·exact hn j hx
       ·rw[show j=k by omega];unfold zg3;rw[decide_eq_true h6]
      (iterate 2((try simp(etaStruct := .none)only[push_cast,seval,zaa _ _ _ hlt,zb5,hub]);(try(refine xsu ?_;try exact xtI))))
      refine⟨k+1,⟨by omega,hnn⟩,by omega,To.mk [0] rfl rfl (by decide) ?_ ?_⟩
      ·(iterate 2((try simp(etaStruct := .none)only[push_cast,seval,zaa _ _ _ hlt,zb5,hub]);(try(refine xsu ?_;try exact xtI))))
      ·simp(etaStruct := .none)only[push_cast,zab,seval]
    ·have eE:E=0:=by
      rw[eH,if_pos]
      rw[List.all_eq_true]
      intro j hj
      exact hn j (by have:=List.mem_range.1 hj;omega)
     (iterate 2((try simp(etaStruct := .none)only[push_cast,seval]);(try(refine xsu ?_;try exact xtI))))
     exact zbr rfl trivial (Wk.of (by rw[eE];rfl))
end Go.Proofs.YtmjbgbmegbkmhaaGreat
namespace Go.Proofs.YtmjbgbmegbkmhaaGreat
set_option linter.all false
open Go.RowKit
set_option maxRecDepth 100000
set_option maxHeartbeats 2000000
structure HstB (h : Hst) : Prop where
 p:h.sty.start.f.p.length≤17592186044415
 b:h.sty.start.bases.length≤8796093022207
 s:h.sty.start.stocks.length≤17592186044415
 m:h.sty.start.mines.length≤17592186044415
 t:h.sty.start.troops.length≤2513169434916
 u:∀l∈h.sty.turns,l.length≤2932031007402
 n:h.sty.turns.length≤5864062014800
 w:∀s∈h.seats,s.waits.length≤2932031007402
 l:h.seats.length≤3518437208780
 g:h.ag.length≤35184372088831
theorem z45 (l:List Nat) (hl:l.length≤35184372088831):Spec Tryz.prog 72 [.c (.sl 1 (l.map zjp))] [] (.c (.sl 1 (l.map zjp))) []:=by
 refine spB Tryz.func72 8 [.tmp 2] Tryz.results72 ?_
 try refine xst ?_
 intro b hb
 try refine xst ?_
 refine za1 (fun h => ?_) (fun h => ?_)
 ·try refine xst ?_
  exact zbr rfl trivial (by rw[hb h];exact Wk.nil _)
 ·try refine xst ?_
  exact zbr rfl trivial (Wk.refl _)
abbrev ycw:List AV := [I .i64 0,I .i64 0,.c (.v (.slice none 0 0)),.c (.v (.slice none 0 0)),.c (.v (.slice none 0 0)),.c (.v (.slice none 0 0)),.c (.v (.slice none 0 0)),I .i64 0,I .i64 0,.c (.v (.slice none 0 0)),.c (.v (.slice none 0 0)),I .u32 0,.c (.v (.slice none 0 0)),I .i64 0]
theorem ziq (h:Hst) (hb:HstB h):Spec Tryz.prog 30 [ztu h] [] (ztu h) []:=by
 refine spB Tryz.func30 105 [.cell 2 40] Tryz.results30 ?_
 have hbn:=hb.n
 have hbl:=hb.l
 (iterate 2((try simp(etaStruct := .none)only[push_cast,seval]);(try(refine xsu ?_;try exact xtI))))
 refine zbw [some 12,some 13,some 14,some 15,some 16,some 17,some 18,some 19,some 20,some 21,some 22,some 23,some 24,some 25,some 26,some 27,some 28,some 29,some 30,some 31,some 32,some 33,none,some 34,some 35,none,some 36,some 37,none] rfl ?_
 intro Oq lq Rq hlq hdq hRq
 subst hlq
 iterate 8(refine za6 fun rq hrq => ?_;(iterate 2((try simp(etaStruct := .none)only[push_cast,seval,hdq,id]);(try(refine xsu ?_;try exact xtI))));subst hrq)
 refine za6 fun rq hrq => ?_
 (iterate 2((try simp(etaStruct := .none)only[push_cast,seval,hdq,id]);(try(refine xsu ?_;try exact xtI))))
 refine caP (zbn h.sty.start.f.p hb.p) ?_
 (iterate 2((try simp(etaStruct := .none)only[push_cast,seval,hdq,id]);(try(refine xsu ?_;try exact xtI))))
 subst hrq
 iterate 4(refine za6 fun rq hrq => ?_;(iterate 2((try simp(etaStruct := .none)only[push_cast,seval,hdq,id]);(try(refine xsu ?_;try exact xtI))));subst hrq)
 refine za6 fun rq hrq => ?_
 (iterate 2((try simp(etaStruct := .none)only[push_cast,seval,hdq,id]);(try(refine xsu ?_;try exact xtI))))
 refine caP (zpl h.sty.start.bases hb.b) ?_
 (iterate 2((try simp(etaStruct := .none)only[push_cast,seval,hdq,id]);(try(refine xsu ?_;try exact xtI))))
 subst hrq
 iterate 4(refine za6 fun rq hrq => ?_;(iterate 2((try simp(etaStruct := .none)only[push_cast,seval,hdq,id]);(try(refine xsu ?_;try exact xtI))));subst hrq)
 refine za6 fun rq hrq => ?_
 (iterate 2((try simp(etaStruct := .none)only[push_cast,seval,hdq,id]);(try(refine xsu ?_;try exact xtI))))
 refine caP (zbn h.sty.start.stocks hb.s) ?_
 (iterate 2((try simp(etaStruct := .none)only[push_cast,seval,hdq,id]);(try(refine xsu ?_;try exact xtI))))
 subst hrq
 iterate 10(refine za6 fun rq hrq => ?_;(iterate 2((try simp(etaStruct := .none)only[push_cast,seval,hdq,id]);(try(refine xsu ?_;try exact xtI))));subst hrq)
 refine zmu ?_
 subst hRq
 clear hdq Oq
 refine zmt (by kernel_rfl) ?_
 (iterate 2((try simp(etaStruct := .none)only[push_cast,seval]);(try(refine xsu ?_;try exact xtI))))
 refine zbw [some 38,some 39,some 40,some 41,some 42,some 43,some 44,some 45,some 46,some 47,some 48,some 49,some 50,some 51,none,some 52,some 53,none] rfl ?_
 intro Oq lq Rq hlq hdq hRq
 subst hlq
 iterate 6(refine za6 fun rq hrq => ?_;(iterate 2((try simp(etaStruct := .none)only[push_cast,seval,hdq,id]);(try(refine xsu ?_;try exact xtI))));subst hrq)
 refine za6 fun rq hrq => ?_
 (iterate 2((try simp(etaStruct := .none)only[push_cast,seval,hdq,id]);(try(refine xsu ?_;try exact xtI))))
 refine caP (zbn h.sty.start.mines hb.m) ?_
 (iterate 2((try simp(etaStruct := .none)only[push_cast,seval,hdq,id]);(try(refine xsu ?_;try exact xtI))))
 subst hrq
 iterate 4(refine za6 fun rq hrq => ?_;(iterate 2((try simp(etaStruct := .none)only[push_cast,seval,hdq,id]);(try(refine xsu ?_;try exact xtI))));subst hrq)
 refine za6 fun rq hrq => ?_
 (iterate 2((try simp(etaStruct := .none)only[push_cast,seval,hdq,id]);(try(refine xsu ?_;try exact xtI))))
 refine caP (zur h.sty.start.troops hb.t) ?_
 (iterate 2((try simp(etaStruct := .none)only[push_cast,seval,hdq,id]);(try(refine xsu ?_;try exact xtI))))
 subst hrq
 iterate 6(refine za6 fun rq hrq => ?_;(iterate 2((try simp(etaStruct := .none)only[push_cast,seval,hdq,id]);(try(refine xsu ?_;try exact xtI))));subst hrq)
 refine zmu ?_
 subst hRq
 clear hdq Oq
 refine zmt (by kernel_rfl) ?_
 (iterate 2((try simp(etaStruct := .none)only[push_cast,seval]);(try(refine xsu ?_;try exact xtI))))
 refine za3 (fun k:Nat=>⟨[(63,I .i64 k),(62,I .i64 h.sty.turns.length),(61,.c (.sl 1 (h.sty.turns.map zdv))),(4,.own 2),(2,.ptr 1 0 0),(1,.ptr 0 0 0)],[(0,.blk 40 (zzq h)),(1,.blk 40 ycw),(2,.row 53 1 ((h.sty.turns.take k).map zdv))],3⟩) (fun k:Nat=>k≤h.sty.turns.length) (fun k:Nat=>h.sty.turns.length-k) (0) (Nat.zero_le _) (To.mk [0,1,190] rfl rfl (by decide) ?_ ?_) ?_
 ·simp(etaStruct := .none)only[push_cast,zab,seval,List.take_zero,List.map_nil]
 ·simp(etaStruct := .none)only[push_cast,zab,seval]
 rintro k hk
 (iterate 2((try simp(etaStruct := .none)only[push_cast,seval]);(try(refine xsu ?_;try exact xtI))))
 refine cI (fun h1 => ?_) fun h1 => ?_
 ·have hlt:k<h.sty.turns.length:=by omega
  have ts:=zas h.sty.turns k hlt
  have hlk:(h.sty.turns.take k).length=k:=by rw[List.length_take];omega
  have hln:=hb.u (h.sty.turns.getD k default) (zbj _ _ hlt)
  (iterate 2((try simp(etaStruct := .none)only[push_cast,seval,zaa _ _ _ hlt,zdv]);(try(refine xsu ?_;try exact xtI))))
  refine caP (zih (h.sty.turns.getD k default) hln) ?_
  (iterate 2((try simp(etaStruct := .none)only[push_cast,seval,zaa _ _ _ hlt,zdv]);(try(refine xsu ?_;try exact xtI))))
  refine⟨k+1,by omega,by omega,To.mk [0,1,4] rfl rfl (by decide) ?_ ?_⟩
  ·(iterate 2((try simp(etaStruct := .none)only[push_cast,seval,ts,List.map_append,zdv]);(try(refine xsu ?_;try exact xtI))))
  ·(iterate 2((try simp(etaStruct := .none)only[push_cast,seval,zaa _ _ _ hlt,zdv]);(try(refine xsu ?_;try exact xtI))))
 ·obtain rfl:k=h.sty.turns.length:=by omega
  (iterate 2((try simp(etaStruct := .none)only[push_cast,seval,List.take_length]);(try(refine xsu ?_;try exact xtI))))
  refine za3 (fun k:Nat=>⟨[(80,I .i64 k),(79,I .i64 h.seats.length),(78,.c (.sl 3 (h.seats.map zb5))),(7,.own 3),(4,.own 2),(2,.ptr 1 0 0),(1,.ptr 0 0 0)],[(0,.blk 40 (zzq h)),(1,.blk 40 ycw),(2,.row 53 1 (h.sty.turns.map zdv)),(3,.row 169 3 ((h.seats.take k).map zb5))],4⟩) (fun k:Nat=>k≤h.seats.length) (fun k:Nat=>h.seats.length-k) (0) (Nat.zero_le _) (To.mk [0,1,2,3] rfl rfl (by decide) ?_ ?_) ?_
  ·simp(etaStruct := .none)only[push_cast,zab,seval,List.take_length,List.take_zero,List.map_nil]
  ·simp(etaStruct := .none)only[push_cast,zab,seval]
  rintro k hk2
  (iterate 2((try simp(etaStruct := .none)only[push_cast,seval,List.take_length]);(try(refine xsu ?_;try exact xtI))))
  refine cI (fun h2 => ?_) fun h2 => ?_
  ·have hlt:k<h.seats.length:=by omega
   have ts:=zas h.seats k hlt
   have hlk:(h.seats.take k).length=k:=by rw[List.length_take];omega
   have hln:=hb.w (h.seats.getD k default) (zbj _ _ hlt)
   (iterate 2((try simp(etaStruct := .none)only[push_cast,seval,List.take_length,zaa _ _ _ hlt,zb5]);(try(refine xsu ?_;try exact xtI))))
   refine caP (zih (h.seats.getD k default).waits hln) ?_
   (iterate 2((try simp(etaStruct := .none)only[push_cast,seval,List.take_length,zaa _ _ _ hlt,zb5]);(try(refine xsu ?_;try exact xtI))))
   refine⟨k+1,by omega,by omega,To.mk [0,1,2,6] rfl rfl (by decide) ?_ ?_⟩
   ·(iterate 2((try simp(etaStruct := .none)only[push_cast,seval,ts,List.map_append,zb5]);(try(refine xsu ?_;try exact xtI))))
   ·(iterate 2((try simp(etaStruct := .none)only[push_cast,seval,List.take_length,zaa _ _ _ hlt,zb5]);(try(refine xsu ?_;try exact xtI))))
  ·obtain rfl:k=h.seats.length:=by omega
   (iterate 2((try simp(etaStruct := .none)only[push_cast,seval,List.take_length,List.take_length]);(try(refine xsu ?_;try exact xtI))))
   refine caP (z45 h.ag hb.g) ?_
   (iterate 2((try simp(etaStruct := .none)only[push_cast,seval,List.take_length,List.take_length]);(try(refine xsu ?_;try exact xtI))))
   exact xrz rfl
end Go.Proofs.YtmjbgbmegbkmhaaGreat
namespace Go.Proofs.YtmjbgbmegbkmhaaGreat
set_option linter.all false
open Go.RowKit
set_option maxRecDepth 100000
set_option maxHeartbeats 1000000
def ya7 (s:Sea):List PV := [.undef,pI s.late,pB s.gone]
theorem ylr (s:Sea):ya7 s = [.undef,pI s.late,pB s.gone]:=rfl
def waP (s:Sea):List (List PV):=s.waits.map zed
theorem yex (l:List Sea) (i:Nat) (hi:i<l.length):(l.map waP).getD i []=(l.getD i default).waits.map zed:=by simp[waP,hi]
theorem yai (l:List Sea) (i:Nat) (w:List Ord) (hi:i<l.length):unN 0 6 (l.map ya7) ((l.map waP).set i (w.map zed))=(l.set i ⟨w,(l.getD i default).late,(l.getD i default).gone⟩).map zb5:=by
 apply List.ext_getElem?
 intro j
 unfold unN
 rw[List.getElem?_zipWith,List.getElem?_map,List.getElem?_map,List.getElem?_set,List.getElem?_set]
 by_cases hij:i=j
 ·subst hij
  simp[hi,ya7,zb5]
 ·rw[if_neg hij,if_neg hij,List.getElem?_map]
  cases l[j]? <;> simp[ya7,zb5,waP]
def zqm (l:List Sea) (o:Ord):Int :=
 if za9 l≠0 then za9 l else if ze5 o≠0 then ze5 o else if (l.length:Int)≤o.by_ then 7 else if (l.getD o.by_.toNat default).gone=true then 9 else if (l.getD o.by_.toNat default).waits.length=50 then 6 else 0
def zu9 (l:List Sea) (o:Ord):List Sea:=l.set o.by_.toNat ⟨(l.getD o.by_.toNat default).waits ++ [o],(l.getD o.by_.toNat default).late,(l.getD o.by_.toNat default).gone⟩
def zhd (l:List Sea) (p:Int):List Sea:=l.set p.toNat ⟨[],0,true⟩
def PvLe (p q:PV):Prop:=p=q∨(p = .v (.slice none 0 0)∧∃s,q = .sl s [])
inductive RowLe : List PV → List PV → Prop where
 | nil:RowLe [] []
 | cons {p q:PV} {r s:List PV} : PvLe p q→RowLe r s→RowLe (p::r) (q::s)
inductive RowsLe : List (List PV) → List (List PV) → Prop where
 | nil:RowsLe [] []
 | cons {p q:List PV} {r s:List (List PV)} : RowLe p q→RowsLe r s→RowsLe (p::r) (q::s)
theorem RowLe.len {a b:List PV} (h:RowLe a b):a.length=b.length:=by
 induction h with
 | nil=>rfl
 | cons _ _ ih=>simp[ih]
theorem RowsLe.len {a b:List (List PV)} (h:RowsLe a b):a.length=b.length:=by
 induction h with
 | nil=>rfl
 | cons _ _ ih=>simp[ih]
theorem PvLe.run {w:World} {F:Nat→Prop} {p q:PV} {u:Value} (h:PvLe p q) (hr:RelP w F p u):RelP w F q u:=by
 rcases h with rfl|⟨rfl,s,rfl⟩
 ·exact hr
 ·simp only[RelP]at hr ⊢
  exact⟨none,0,hr.1,Nat.le_refl _,Nat.zero_le _,.inl trivial⟩
theorem RowLe.run {w:World} {F:Nat→Prop} {b:Nat} {xs ys:List PV} (h:RowLe xs ys):∀ {o:Nat},RelC w F b o xs→RelC w F b o ys:=by
 induction h with
 | nil=>intro o hr;exact hr
 | cons hp _ ih =>
  intro o hr
  simp only[RelC]at hr ⊢
  obtain⟨⟨u,h1,h2⟩,h3⟩:=hr
  exact⟨⟨u,h1,hp.run h2⟩,ih h3⟩
theorem RowsLe.run {w:World} {F:Nat→Prop} {b sz:Nat} {xs ys:List (List PV)} (h:RowsLe xs ys):∀ {o:Nat},RelE w F b sz o xs→RelE w F b sz o ys:=by
 induction h with
 | nil=>intro o hr;exact hr
 | cons hp _ ih =>
  intro o hr
  simp only[RelE]at hr ⊢
  exact⟨by rw[←hp.len];exact hr.1,hp.run hr.2.1,ih hr.2.2⟩
theorem Wk.rows {sz:Nat} {xs ys:List (List PV)} (h:RowsLe xs ys):Wk (.c (.sl sz xs)) (.c (.sl sz ys)):=fun _ _ _ _ v hv=>by
 simp only[RelA,RelP]at hv ⊢
 obtain⟨a,c,rfl,h1,h2,h3⟩:=hv
 rw[h.len]at h1 ⊢
 refine⟨a,c,rfl,h1,h2,?_⟩
 rcases h3 with rfl|⟨b,o,rfl,hb,hE⟩
 ·exact .inl (List.eq_nil_of_length_eq_zero h.len.symm)
 ·exact .inr ⟨b,o,rfl,hb,h.run hE⟩
theorem RowsLe.rep {x y:List PV} (h:RowLe x y):∀n,RowsLe (List.replicate n x) (List.replicate n y)
 | 0 => .nil
 | n+1=>by rw[List.replicate_succ,List.replicate_succ];exact .cons h (RowsLe.rep h n)
theorem z5o:RowLe [.v (.slice none 0 0),.v (.int .i64 0),.v (.bool false)] (zb5 ⟨[],0,false⟩) := .cons (.inr ⟨rfl,6,rfl⟩) (.cons (.inl rfl) (.cons (.inl rfl) .nil))
theorem RowLe.refl:∀a:List PV,RowLe a a
 | [] => .nil
 | _::r => .cons (.inl rfl) (RowLe.refl r)
theorem RowsLe.refl:∀a:List (List PV),RowsLe a a
 | [] => .nil
 | _::r => .cons (RowLe.refl _) (RowsLe.refl r)
theorem RowsLe.set {x y:List PV} (h:RowLe x y):∀(l:List (List PV)) (i:Nat),RowsLe (l.set i x) (l.set i y)
 | [],_ => .nil
 | _::r,0 => .cons h (RowsLe.refl r)
 | _::r,i+1 => .cons (RowLe.refl _) (RowsLe.set h r i)
theorem z5p:RowLe [.v (.slice none 0 0),.v (.int .i64 0),.v (.bool true)] (zb5 ⟨[],0,true⟩) := .cons (.inr ⟨rfl,6,rfl⟩) (.cons (.inl rfl) (.cons (.inl rfl) .nil))
theorem zyw (l:List Sea) (p:Int):(zhd l p).map zb5=(l.map zb5).set p.toNat (zb5 ⟨[],0,true⟩):=by unfold zhd;rw[List.map_set]
theorem yfc (n:Int) (h:1≤n∧n≤8):Spec Tryz.prog 28 [I .i64 n] [] (.tup [.c (.sl 3 ((List.replicate n.toNat (⟨[],0,false⟩:Sea)).map zb5)),I .i64 0]) []:=by
 refine spB Tryz.func28 12 [.tmp 2,.tmp 3] Tryz.results28 ?_
 try refine xst ?_
 refine cI (fun h1 => ?_) fun h1 => ?_
 ·omega
 ·try refine xst ?_
  refine zbr rfl (by repeat' (first|exact trivial|exact rfl|omega|refine⟨?_,?_⟩)) (Wk.tup ⟨?_,?_,trivial⟩)
  ·refine Wk.rows ?_
   simp only[List.map_replicate]
   exact RowsLe.rep z5o _
  ·exact Wk.refl _
theorem yfb (l:List Sea) (hl:l.length≤100000) (hs:∀s∈l,zgi s) (i:Nat) (hi:i<l.length):Spec Tryz.prog 76 [.c (.sl 3 (l.map zb5))] [] (.own 0) [.nst 169 3 0 48 6 (l.map ya7) (l.map waP) (some (i,1)),.row 48 6 ((l.getD i default).waits.map zed)]:=by
 refine spB Tryz.func76 25 [.tmp 2] Tryz.results76 ?_
 iterate 2(try simp(etaStruct := .none)only[push_cast,zab,seval,List.length_take,List.length_map];try refine xsu ?_)
 refine za3 (fun k:Nat=>⟨[(11,I .i64 k),(10,I .i64 l.length),(9,.c (.sl 3 (l.map zb5))),(3,.own 0)],[(0,.nst 169 3 0 48 6 ((l.take k).map ya7) ((l.take k).map waP) none)],1⟩) (fun k:Nat=>k≤l.length) (fun k:Nat=>l.length-k) (0) (Nat.zero_le _) ((To.nst 0 169 3 0 48 6 [] rfl (by decide) (by simp)).trans (To.mk [0] rfl rfl (by decide) ?_ ?_)) ?_
 ·simp(etaStruct := .none)only[push_cast,zab,seval]
 ·simp(etaStruct := .none)only[push_cast,zab,seval]
 rintro k hk
 iterate 2(try simp(etaStruct := .none)only[push_cast,zab,seval,List.length_take,List.length_map];try refine xsu ?_)
 refine cI (fun h1 => ?_) fun h1 => ?_
 ·have hlt:k<l.length:=by omega
  iterate 2(try simp(etaStruct := .none)only[push_cast,zab,seval,List.length_take,List.length_map,zaa _ _ _ hlt,zb5];try refine xsu ?_)
  have ts:=zas l k hlt
  refine caM [] ((z1f (l.getD k default).waits (hs _ (by rw[zag _ _ hlt];exact List.getElem_mem hlt))).keep) ?_
  iterate 2(try simp(etaStruct := .none)only[push_cast,zab,seval,List.length_take,List.length_map,zaa _ _ _ hlt,zb5];try refine xsu ?_)
  refine⟨k+1,by omega,by omega,To.mk [4] rfl rfl (by decide) ?_ ?_⟩
  ·(iterate 2((try simp(etaStruct := .none)only[push_cast,zab,seval,ts,List.map_append,ya7,waP]);(try(refine xsu ?_;try exact xtI))))
  ·(iterate 2((try simp(etaStruct := .none)only[push_cast,zab,seval,List.length_take,List.length_map,zaa _ _ _ hlt,zb5]);(try(refine xsu ?_;try exact xtI))))
 ·obtain rfl:k=l.length:=by omega
  iterate 2(try simp(etaStruct := .none)only[push_cast,zab,seval,List.length_take,List.length_map];try refine xsu ?_)
  refine zoe (To.open 0 i 169 3 0 48 6 _ _ rfl (by simpa using hi)) (zbc [0,1] rfl rfl (by decide) ⟨?_,?_,trivial⟩ trivial ?_)
  ·simp(etaStruct := .none)only[push_cast,zab,seval,List.take_length]
  ·simp(etaStruct := .none)only[push_cast,zab,seval,List.take_length,yex l i hi]
  ·simp(etaStruct := .none)only[push_cast,zab,seval]
theorem yau (l:List Sea) (o:Ord) (hl:l.length≤9223372036854775807) (hs:∀s∈l,zgi s) (h:zqm l o=0):Spec Tryz.prog 32 [.c (.sl 3 (l.map zb5)),zpt o] [] (.tup [.c (.sl 3 ((zu9 l o).map zb5)),I .i64 0]) []:=by
 have SC:=zd9 l hl hs
 have OC:=zft o
 unfold zqm at h
 split at h
 ·rename_i h';exact absurd h h'
 rename_i hE
 have hE:za9 l=0:=by simpa using hE
 split at h
 ·rename_i h';exact absurd h h'
 rename_i hO
 have hO:ze5 o=0:=by simpa using hO
 split at h
 ·simp at h
 rename_i hby
 split at h
 ·simp at h
 rename_i hg
 split at h
 ·simp at h
 rename_i hw
 have hb0:=(zfs hO).1.1
 have hlt:o.by_.toNat<l.length:=by omega
 have hl8:=(zco hE).2.1
 have hwl:(l.getD o.by_.toNat default).waits.length≤50:=(zco hE).2.2.1 _ (by rw[zag _ _ hlt];exact List.getElem_mem hlt)
 rw[hE]at SC
 rw[hO]at OC
 refine spB Tryz.func32 58 [.tmp 4,.tmp 5] Tryz.results32 ?_
 try refine xst ?_
 refine caP (SC) ?_
 try refine xst ?_
 refine cI (fun h1 => ?_) fun h1 => ?_
 ·try refine xst ?_
  refine caP (OC) ?_
  try refine xst ?_
  refine cI (fun h2 => ?_) fun h2 => ?_
  ·simp at h2
  ·try refine xst ?_
   refine cI (fun h3 => ?_) fun h3 => ?_
   ·omega
   ·try refine xz2 (gd hlt) zct ?_
    refine cI (fun h4 => ?_) fun h4 => ?_
    ·exact absurd h4 hg
    ·try refine xz2 (gd hlt) zct ?_
     refine cI (fun h5 => ?_) fun h5 => ?_
     ·omega
     ·try refine xz2 (gd hlt) zct ?_
      refine cI (fun h6 => ?_) fun h6 => ?_
      ·simp at h6
      ·try refine xz2 (gd hlt) zct ?_
       refine caM [] (yfb l (by omega) hs o.by_.toNat hlt) ?_
       try refine xz2 (gd hlt) zct ?_
       (try(refine⟨by kernel_rfl,?_⟩))
       try refine xz2 (gd hlt) zct ?_
       refine zoe (To.close 1 _ _ _ _ _ _ _ _ _ _ rfl rfl) (zoe (To.frzN 1 _ _ _ _ _ _ _ rfl) (zbr rfl (by repeat' (first|exact trivial|exact rfl|omega|refine⟨?_,?_⟩)) (Wk.tup ⟨Wk.of ?_,Wk.refl _,trivial⟩)))
       have ha:∀x,x=zed o→(l.getD o.by_.toNat default).waits.map zed ++ [x]=((l.getD o.by_.toNat default).waits ++ [o]).map zed:=by rintro _ rfl;simp
       show AV.c (.sl 3 _)=_
       rw[ha]
       ·rw[yai l _ _ hlt];rfl
       ·rfl
 ·simp at h1
theorem zx1 (l:List Sea) (o:Ord):zqm l o=0∨(za9 l≠0∧zqm l o=za9 l)∨(za9 l=0∧ze5 o≠0∧zqm l o=ze5 o)∨(za9 l=0∧ze5 o=0∧(l.length:Int)≤o.by_∧zqm l o=7) ∨
 (za9 l=0∧ze5 o=0∧¬(l.length:Int)≤o.by_∧(l.getD o.by_.toNat default).gone=true∧zqm l o=9) ∨
 (za9 l=0∧ze5 o=0∧¬(l.length:Int)≤o.by_∧(l.getD o.by_.toNat default).gone=false∧(l.getD o.by_.toNat default).waits.length=50∧zqm l o=6):=by
 unfold zqm
 split
 ·rename_i h;exact .inr (.inl ⟨h,rfl⟩)
 rename_i h1
 split
 ·rename_i h;exact .inr (.inr (.inl ⟨by simpa using h1,h,rfl⟩))
 rename_i h2
 split
 ·rename_i h;exact .inr (.inr (.inr (.inl ⟨by simpa using h1,by simpa using h2,h,rfl⟩)))
 rename_i h3
 split
 ·rename_i h;exact .inr (.inr (.inr (.inr (.inl ⟨by simpa using h1,by simpa using h2,h3,h,rfl⟩))))
 rename_i h4
 split
 ·rename_i h;exact .inr (.inr (.inr (.inr (.inr ⟨by simpa using h1,by simpa using h2,h3,by simpa using h4,h,rfl⟩))))
 ·exact .inl rfl
theorem yaz (l:List Sea) (o:Ord) (hl:l.length≤9223372036854775807) (hs:∀s∈l,zgi s) (h:za9 l≠0):Spec Tryz.prog 32 [.c (.sl 3 (l.map zb5)),zpt o] [] (.tup [.c (.sl 3 (([]:List Sea).map zb5)),I .i64 (za9 l)]) []:=by
 have SC:=zd9 l hl hs
 refine spB Tryz.func32 58 [.tmp 4,.tmp 5] Tryz.results32 ?_
 try refine xst ?_
 refine caP (SC) ?_
 try refine xst ?_
 refine cI (fun h1 => ?_) fun h1 => ?_
 ·exact absurd h1 h
 ·try refine xst ?_
  refine cI (fun h2 => ?_) fun h2 => ?_
  ·try refine xst ?_
   refine cI (fun h3 => ?_) fun h3 => ?_
   ·try refine xst ?_
    exact xrz rfl
   ·exact absurd h3 h
  ·exact absurd h2 h
theorem yay (l:List Sea) (o:Ord) (hl:l.length≤9223372036854775807) (hs:∀s∈l,zgi s) (hE:za9 l=0) (h:ze5 o≠0):Spec Tryz.prog 32 [.c (.sl 3 (l.map zb5)),zpt o] [] (.tup [.c (.sl 3 (([]:List Sea).map zb5)),I .i64 (ze5 o)]) []:=by
 have SC:=zd9 l hl hs
 have OC:=zft o
 rw[hE]at SC
 refine spB Tryz.func32 58 [.tmp 4,.tmp 5] Tryz.results32 ?_
 try refine xst ?_
 refine caP (SC) ?_
 try refine xst ?_
 refine cI (fun h1 => ?_) fun h1 => ?_
 ·try refine xst ?_
  refine caP (OC) ?_
  try refine xst ?_
  refine cI (fun h2 => ?_) fun h2 => ?_
  ·try refine xst ?_
   refine cI (fun h3 => ?_) fun h3 => ?_
   ·try refine xst ?_
    exact xrz rfl
   ·exact absurd h3 h
  ·exact absurd h2 h
 ·simp at h1
theorem yax (l:List Sea) (o:Ord) (hl:l.length≤9223372036854775807) (hs:∀s∈l,zgi s) (hE:za9 l=0) (hO:ze5 o=0) (h:(l.length:Int)≤o.by_):Spec Tryz.prog 32 [.c (.sl 3 (l.map zb5)),zpt o] [] (.tup [.c (.sl 3 (([]:List Sea).map zb5)),I .i64 7]) []:=by
 have SC:=zd9 l hl hs
 have OC:=zft o
 rw[hE]at SC
 rw[hO]at OC
 refine spB Tryz.func32 58 [.tmp 4,.tmp 5] Tryz.results32 ?_
 try refine xst ?_
 refine caP (SC) ?_
 try refine xst ?_
 refine cI (fun h1 => ?_) fun h1 => ?_
 ·try refine xst ?_
  refine caP (OC) ?_
  try refine xst ?_
  refine cI (fun h2 => ?_) fun h2 => ?_
  ·simp at h2
  ·try refine xst ?_
   refine cI (fun h3 => ?_) fun h3 => ?_
   ·try refine xst ?_
    refine cI (fun h4 => ?_) fun h4 => ?_
    ·try refine xst ?_
     exact xrz rfl
    ·simp at h4
   ·omega
 ·simp at h1
theorem yaw (l:List Sea) (o:Ord) (hl:l.length≤9223372036854775807) (hs:∀s∈l,zgi s) (hE:za9 l=0) (hO:ze5 o=0) (h:¬(l.length:Int)≤o.by_) (hg:(l.getD o.by_.toNat default).gone=true):Spec Tryz.prog 32 [.c (.sl 3 (l.map zb5)),zpt o] [] (.tup [.c (.sl 3 (([]:List Sea).map zb5)),I .i64 9]) []:=by
 have SC:=zd9 l hl hs
 have OC:=zft o
 rw[hE]at SC
 rw[hO]at OC
 have hb0:=(zfs hO).1.1
 have hlt:o.by_.toNat<l.length:=by omega
 refine spB Tryz.func32 58 [.tmp 4,.tmp 5] Tryz.results32 ?_
 try refine xst ?_
 refine caP (SC) ?_
 try refine xst ?_
 refine cI (fun h1 => ?_) fun h1 => ?_
 ·try refine xst ?_
  refine caP (OC) ?_
  try refine xst ?_
  refine cI (fun h2 => ?_) fun h2 => ?_
  ·simp at h2
  ·try refine xst ?_
   refine cI (fun h3 => ?_) fun h3 => ?_
   ·omega
   ·try refine xz2 (gd hlt) zct ?_
    refine cI (fun h4 => ?_) fun h4 => ?_
    ·try refine xz2 (gd hlt) zct ?_
     refine cI (fun h5 => ?_) fun h5 => ?_
     ·try refine xz2 (gd hlt) zct ?_
      exact xrz rfl
     ·simp at h5
    ·rw[hg]at h4;simp at h4
 ·simp at h1
theorem yav (l:List Sea) (o:Ord) (hl:l.length≤9223372036854775807) (hs:∀s∈l,zgi s) (hE:za9 l=0) (hO:ze5 o=0) (h:¬(l.length:Int)≤o.by_) (hg:(l.getD o.by_.toNat default).gone=false) (hw:(l.getD o.by_.toNat default).waits.length=50):Spec Tryz.prog 32 [.c (.sl 3 (l.map zb5)),zpt o] [] (.tup [.c (.sl 3 (([]:List Sea).map zb5)),I .i64 6]) []:=by
 have SC:=zd9 l hl hs
 have OC:=zft o
 rw[hE]at SC
 rw[hO]at OC
 have hb0:=(zfs hO).1.1
 have hlt:o.by_.toNat<l.length:=by omega
 refine spB Tryz.func32 58 [.tmp 4,.tmp 5] Tryz.results32 ?_
 try refine xst ?_
 refine caP (SC) ?_
 try refine xst ?_
 refine cI (fun h1 => ?_) fun h1 => ?_
 ·try refine xst ?_
  refine caP (OC) ?_
  try refine xst ?_
  refine cI (fun h2 => ?_) fun h2 => ?_
  ·simp at h2
  ·try refine xst ?_
   refine cI (fun h3 => ?_) fun h3 => ?_
   ·omega
   ·try refine xz2 (gd hlt) zct ?_
    refine cI (fun h4 => ?_) fun h4 => ?_
    ·rw[hg]at h4;simp at h4
    ·try refine xz2 (gd hlt) zct ?_
     refine cI (fun h5 => ?_) fun h5 => ?_
     ·try refine xz2 (gd hlt) zct ?_
      refine cI (fun h6 => ?_) fun h6 => ?_
      ·try refine xz2 (gd hlt) zct ?_
       exact xrz rfl
      ·simp at h6
     ·omega
 ·simp at h1
theorem yfa (l:List Sea) (o:Ord) (hl:l.length≤9223372036854775807) (hs:∀s∈l,zgi s):Spec Tryz.prog 32 [.c (.sl 3 (l.map zb5)),zpt o] [] (.tup [.c (.sl 3 ((if zqm l o=0 then zu9 l o else []).map zb5)),I .i64 (zqm l o)]) []:=by
 rcases zx1 l o with h|⟨h1,h⟩|⟨h1,h2,h⟩|⟨h1,h2,h3,h⟩|⟨h1,h2,h3,h4,h⟩|⟨h1,h2,h3,h4,h5,h⟩
 ·rw[if_pos h];rw[h];exact yau l o hl hs h
 ·rw[if_neg (by omega),h];exact yaz l o hl hs h1
 ·rw[if_neg (by omega),h];exact yay l o hl hs h1 h2
 ·rw[if_neg (by omega),h];exact yax l o hl hs h1 h2 h3
 ·rw[if_neg (by omega),h];exact yaw l o hl hs h1 h2 h3 h4
 ·rw[if_neg (by omega),h];exact yav l o hl hs h1 h2 h3 h4 h5
theorem z0o (l:List Sea) (p:Int) (hl:l.length≤9223372036854775807) (hs:∀s∈l,zgi s) (hE:za9 l=0) (hp:¬(p<0∨(l.length:Int)≤p)) (hg:(l.getD p.toNat default).gone=false):Spec Tryz.prog 80 [.c (.sl 3 (l.map zb5)),I .i64 p] [] (.tup [.c (.sl 3 ((zhd l p).map zb5)),I .i64 0]) []:=by
 have SC:=zd9 l hl hs
 rw[hE]at SC
 have hl8:=(zco hE).2.1
 have hlt:p.toNat<l.length:=by omega
 refine spB Tryz.func80 37 [.tmp 4,.tmp 5] Tryz.results80 ?_
 try refine xst ?_
 refine caP (SC) ?_
 try refine xst ?_
 refine cI (fun h1 => ?_) fun h1 => ?_
 ·simp at h1
 ·try refine xst ?_
  refine cI (fun h2 => ?_) fun h2 => ?_
  ·omega
  ·try refine xz2 (gd hlt) zct ?_
   refine cI (fun h3 => ?_) fun h3 => ?_
   ·rw[hg]at h3;simp at h3
   ·try refine xz2 (gd hlt) zct ?_
    refine cI (fun h4 => ?_) fun h4 => ?_
    ·simp at h4
    ·try refine xz2 (gd hlt) zct ?_
     refine caM [] (z9b l (by omega) hs) ?_
     try refine xz2 (gd hlt) zct ?_
     refine zbr rfl (by repeat' (first|exact trivial|exact rfl|omega|refine⟨?_,?_⟩)) (Wk.tup ⟨?_,Wk.refl _,trivial⟩)
     show Wk (AV.c (.sl 3 _)) _
     rw[zyw]
     exact Wk.rows (RowsLe.set z5p _ _)
theorem ztc {s:ByteArray} {n:Int} {U:Nat→Prop} {w:World} {F:Nat→Prop} {β : Nat→Option Bind} : RelA U w F β (.tup [S s,I .i64 n]) (.tuple #[.string s,.int .i64 n]):=by
 simp only[RelA]
 refine⟨_,rfl,?_⟩
 simp[RelL,RelA,RelP,Value.oneCell']
theorem z9h {w:World} {U F:Nat→Prop} {β : Nat→Option Bind} {x:Value} {vs:List Value} (h:RelL U w F β [.c (.v x)] vs):vs = [x]:=by
 obtain⟨u,rfl,hu⟩:=zvg h
 simp only[RelP]at hu
 rw[hu.1]
theorem zmc:∀xs:List Int,xs.flatMap z7r=xs.map (Value.int .i64)
 | []=>rfl
 | a::r=>by simp[z7r,zmc r]
theorem z5g {P:Program} {f:FuncId} (hf:zfn P f) (x:Value) (xs:List Int) (e:Int) (T:TypeId) (h:∀w:World,Calls P f #[x] w fun en w'=>(∃v,en = .returned (.tuple #[v,.int .i64 e])∧∃n,w'.ownsRow w.heap.size T 1 v n (xs.flatMap z7r))∧Below w.heap.size w w'):Spec P f [.c (.v x)] [] (.tup [.c (.sl 1 (xs.map zae)),I .i64 e]) []:=by
 refine⟨hf,Nat.le_refl _,fun w F β vs M hv => ?_⟩
 obtain rfl:=z9h hv
 refine(h w).mono ?_
 rintro en w' ⟨⟨v,rfl,n,hlen,hrow⟩,hb⟩
 have hn:n=xs.length:=by
  rw[zmc,List.length_map]at hlen
  omega
 subst hn
 have go:∀G:Nat→Prop,(∀b,G b→w.heap.size≤b∧b<w'.heap.size)→RelP w' (fun b=>F b∨G b) (.sl 1 (xs.map zae)) v→∃v_1 F' β',Ending.returned (.tuple #[v,.int .i64 e]) = .returned v_1∧MemOk w (inB β) (· < ([]:List Chunk).length) F' β' (nth []) w'∧RelA (· < ([]:List Chunk).length) w' F' β' (.tup [.c (.sl 1 (xs.map zae)),I .i64 e]) v_1∧(∀b,F b→F' b)∧(∀b,F' b→F b∨w.heap.size≤b∨inB β b)∧∀i bd,i<([]:List Chunk).length → β' i=some bd→∃bs,β i=some ⟨bd.v,bd.b,bd.n,bd.sz,bs⟩:=by
  intro G hG hr
  obtain⟨S1,S2⟩:=M.step (w':=w') (h':=nth []) (β' := β) (F':=fun b=>F b∨G b) (U':=(· < 0)) (fun _=>False) (fun _ _=>rfl) (fun _ _=>rfl) hb.os hb.tape hb.output hb.size (fun b h _=>hb.block b h) (fun _ h=>h) (fun _ h => .inl h)
   (fun b h=>by
    rcases h with h|h
    ·exact⟨Nat.lt_of_lt_of_le (M.fin b h) hb.size,.inl h⟩
    ·exact⟨(hG b h).2,.inr (.inl (hG b h).1)⟩) (fun _ _ h=>h.elim) (fun _ _ h=>h.elim) (fun _ _ _ _ _ h=>h.elim) (fun _ _ h=>h.elim)
  refine⟨_,fun b=>F b∨G b,β,rfl,S1,?_,fun _ h => .inl h,fun b h => ?_,fun _ _ _ h=>⟨_,h⟩⟩
  ·simp only[RelA]
   refine⟨_,rfl,?_⟩
   simp only[RelL,RelA]
   exact⟨v,_,rfl,hr,_,_,rfl,by simp[RelP,Value.oneCell'],rfl⟩
  ·rcases h with h|h
   ·exact .inl h
   ·exact .inr (.inl (hG b h).1)
 rcases hrow with ⟨rfl,h0⟩|⟨g,cap,cur,rfl,h1,h2,h3,h4,h5,h6⟩
 ·refine go (fun _=>False) (fun _ h=>h.elim) ?_
  obtain rfl:xs = []:=List.eq_nil_of_length_eq_zero h0
  simp only[RelP]
  exact⟨none,0,rfl,Nat.le_refl _,Nat.zero_le _,.inl rfl⟩
 ·refine go (fun b=>b=g) (fun b hbg=>by subst hbg;exact⟨h1,(Array.getElem?_eq_some_iff.1 h2).1⟩) ?_
  simp only[RelP]
  refine⟨some ⟨g,0,none⟩,cap,by rw[List.length_map],by rwa [List.length_map],h4,.inr ⟨g,0,rfl,.inr rfl,RelE.of fun i cs hi => ?_⟩⟩
  rw[List.getElem?_map]at hi
  cases hx:xs[i]? with
  | none=>rw[hx]at hi;simp at hi
  | some z =>
   rw[hx]at hi
   have hi':zae z=cs:=by simpa using hi
   subst hi'
   refine⟨rfl,?_⟩
   unfold zae
   simp only[RelC,and_true,Nat.mul_one,Nat.zero_add,RelP]
   refine⟨_,?_,rfl,rfl⟩
   have hlt:i<xs.length:=(List.getElem?_eq_some_iff.1 hx).1
   have e1:(cur.toList.take (xs.length*1))[i]? = some (.int .i64 z):=by
    rw[h6]
    rw[zmc,List.getElem?_map,hx];rfl
   rw[List.getElem?_take,if_pos (by omega)]at e1
   unfold World.cell?
   simp only[h2]
   simpa using e1
theorem ydo (s:ByteArray) (hs:s.size≤140737488351232):Spec Tryz.prog 35 [S s] [] (.tup [S (zc9 s).1,I .i64 (zc9 s).2]) [] :=
 zu3 (zgn Tryz.func35 (by kernel_rfl) rfl) _ _ (.tuple #[.string (zc9 s).1,.int .i64 (zc9 s).2]) (fun _ _ _ _=>ztc) fun w F β vs hF hv=>by
  obtain rfl:=z9h hv
  exact z6f s w hs
theorem z7h (s:ByteArray) (hs:s.size≤140737488351232):Spec Tryz.prog 36 [S s] [] (.tup [.c (.sl 1 ((gaR s).1.map zae)),I .i64 (gaR s).2]) [] :=
 z5g (zgn Tryz.func36 (by kernel_rfl) rfl) _ _ _ 3 fun w=>zy3 s w hs
theorem zym (s:ByteArray):(zc9 s).1.size≤s.size:=by
 unfold zc9
 split
 ·exact Nat.zero_le _
 ·split
  ·simp only[ByteArray.size_extract];omega
  ·exact Nat.zero_le _
theorem z3j:∀(n:Nat) (s:ByteArray) (out:List Int),(gaF n s out).1.length≤out.length+n
 | 0,s,out=>by unfold gaF;split<;>simp
 | n+1,s,out=>by
  unfold gaF
  split
  ·have:=z3j n (zgy s).2.1 (out ++ [z42 (zgy s).1]);simp at this;omega
  ·simp
theorem z3i (s:ByteArray):(gaR s).1.length≤1000:=by
 unfold gaR
 split
 ·split
  ·rename_i h;have:=z3j (zgy s).1 (zgy s).2.1 [];simp at this;omega
  ·simp
 ·simp
def zyl (o:Ord):List Int := [o.by_,o.kind,o.who,o.c.x,o.c.y,o.what]
def zdf (l:List Ord):List Int:=l.flatMap zyl
theorem zff:∀l:List Ord,(zdf l).length=6*l.length
 | []=>rfl
 | o::r=>by
  have:=zff r
  unfold zdf at this ⊢
  rw[List.flatMap_cons,List.length_append,this,List.length_cons]
  simp only[zyl,List.length_cons,List.length_nil];omega
theorem zyk (l:List Ord) (k:Nat) (h:k<l.length):zdf (l.take (k+1))=zdf (l.take k)++zyl (l.getD k default):=by
 unfold zdf
 rw[zas l k h,List.flatMap_append];simp
theorem zvs:∀(l:List Ord) (k j:Nat),k<l.length→j<6→(zdf l)[6*k+j]? = (zyl (l.getD k default))[j]?
 | [],k,j,h,_=>by simp at h
 | o::r,0,j,_,hj=>by
  unfold zdf
  rw[List.flatMap_cons,Nat.mul_zero,Nat.zero_add,List.getElem?_append_left (by simp[zyl];omega)];rfl
 | o::r,k+1,j,h,hj=>by
  have ih:=zvs r k j (by simpa using h) hj
  unfold zdf at ih ⊢
  rw[List.flatMap_cons,List.getElem?_append_right (by simp[zyl];omega)]
  rw[show 6*(k+1)+j-(zyl o).length=6*k+j from by simp[zyl];omega,ih]
  simp
theorem ybo {o:Ord} (h:ze5 o=0):∀x∈zyl o,I64 x:=by
 obtain⟨h1,h2,h3,h4,h5,_⟩:=zfs h
 intro x hx
 simp only[zyl,List.mem_cons,List.not_mem_nil,or_false]at hx
 unfold I64
 rcases hx with rfl|rfl|rfl|rfl|rfl|rfl<;>omega
theorem zvt {l:List Ord} (h:∀o∈l,ze5 o=0):∀x∈zdf l,I64 x:=by
 intro x hx
 unfold zdf at hx
 obtain⟨o,ho,hx⟩:=List.mem_flatMap.1 hx
 exact ybo (h o ho) x hx
def zc6 (l:List Ord):ByteArray:=zhj ⟨(paK (zdf l) (6*l.length)).toArray⟩
def zh0 (l:List Ord):ByteArray × Int:=if zdn l≠0 then (⟨#[]⟩,zdn l)else (zc6 l,0)
theorem z6a {l:List Ord} (h:l.length≤100):paR (zdf l)=(⟨(paK (zdf l) (6*l.length)).toArray⟩,0):=by
 unfold paR
 rw[zff,if_neg (by omega)]
theorem zku (l:List Ord) (h:l.length≤100):(zc6 l).size≤10000:=by
 unfold zc6
 rw[zm3,zpn]
 have:=zlm (zdf l) (6*l.length)
 omega
theorem ydm (s:ByteArray) (hs:s.size≤140737488351232):Spec Tryz.prog 63 [S s] [] (S (zhj s)) [] :=
 zh7 (zgn Tryz.func63 (by kernel_rfl) rfl) [.string s] (.string (zhj s)) rfl fun w=>zoa s w hs
theorem z6c (l:List Ord) (hl:l.length≤9223372036854775807):Spec Tryz.prog 19 [.c (.sl 6 (l.map zed))] [] (.tup [S (zh0 l).1,I .i64 (zh0 l).2]) []:=by
 have OA:=zvv l hl
 by_cases h0:zdn l=0
 ·obtain⟨hl100,hok⟩:=zgu h0
  have hV:zh0 l=(zc6 l,0):=if_neg (by simp[h0])
  have PA:=zvk (zdf l) (zvt hok) (by rw[zff];omega)
  rw[z6a hl100]at PA
  have hsz:=zlm (zdf l) (6*l.length)
  have CS:=ydm ⟨(paK (zdf l) (6*l.length)).toArray⟩ (by rw[zpn];omega)
  have hw:zhj ⟨(paK (zdf l) (6*l.length)).toArray⟩=zc6 l:=rfl
  rw[hw]at CS
  rw[hV]
  rw[h0]at OA
  clear hV hsz hw
  simp only at PA
  generalize (⟨(paK (zdf l) (6*l.length)).toArray⟩:ByteArray)=T at *
  refine spB Tryz.func19 49 [.tmp 2,.tmp 3] Tryz.results19 ?_
  try refine xst ?_
  refine caP (OA) ?_
  try refine xst ?_
  refine cI (fun h1 => ?_) fun h1 => ?_
  ·simp at h1
  ·try refine xst ?_
   refine za3 (fun k:Nat=>⟨[(17,I .i64 k),(16,I .i64 l.length),(15,.c (.sl 6 (l.map zed))),(5,.own 0)],[(0,.row 3 1 ((zdf (l.take k)).map zae))],1⟩) (fun k:Nat=>k≤l.length) (fun k:Nat=>l.length-k) (0) (Nat.zero_le _) ((To.nil 5 3 1 rfl).trans (To.mk [0] rfl rfl (by decide) ?_ ?_)) ?_
   ·simp(etaStruct := .none)only[push_cast,zab,seval,zdf,List.take_zero,List.flatMap_nil,List.map_nil]
   ·simp(etaStruct := .none)only[push_cast,zab,seval]
   rintro k hk
   try refine xst ?_
   refine cI (fun h2 => ?_) fun h2 => ?_
   ·have hlt:k<l.length:=by omega
    have hS:=zyk l k hlt
    have hSl:=zff (l.take k)
    have hSk:(l.take k).length≤k:=List.length_take_le _ _
    try refine xz2 (gd hlt) zcf ?_
    refine⟨k+1,by omega,by omega,To.mk [3] rfl rfl (by decide) ?_ ?_⟩
    ·(iterate 2((try simp(etaStruct := .none)only[push_cast,zab,seval,hS,List.map_append,zyl,List.map_cons,List.map_nil,zae]);(try(refine xsu ?_;try exact xtI))))
    ·(try(refine xz2 (gd hlt) zcf ?_;try exact xtI))
   ·obtain rfl:k=l.length:=by omega
    iterate 2(try simp(etaStruct := .none)only[push_cast,zab,seval,List.take_length];try refine xsu ?_)
    refine zcw (PA) (WkL.refl _) rfl ?_
    iterate 2(try simp(etaStruct := .none)only[push_cast,zab,seval,List.take_length];try refine xsu ?_)
    refine cI (fun h3 => ?_) fun h3 => ?_
    ·simp at h3
    ·iterate 2(try simp(etaStruct := .none)only[push_cast,zab,seval,List.take_length];try refine xsu ?_)
     refine caP (CS) ?_
     iterate 2(try simp(etaStruct := .none)only[push_cast,zab,seval,List.take_length];try refine xsu ?_)
     exact xrz rfl
 ·have hV:zh0 l=(⟨#[]⟩,zdn l):=if_pos h0
  rw[hV]
  generalize zdn l=e at *
  refine spB Tryz.func19 49 [.tmp 2,.tmp 3] Tryz.results19 ?_
  try refine xst ?_
  refine caP (OA) ?_
  try refine xst ?_
  refine cI (fun h1 => ?_) fun h1 => ?_
  ·try refine xst ?_
   exact xrz rfl
  ·exact absurd h1 h0
end Go.Proofs.YtmjbgbmegbkmhaaGreat
namespace Go.Proofs.YtmjbgbmegbkmhaaGreat
set_option linter.all false
open Go.RowKit
set_option maxRecDepth 100000
set_option maxHeartbeats 800000
theorem z5s (l:List Sea) (most:Int) (hl:l.length≤9223372036854775807) (hs:∀s∈l,zgi s) (h0:za9 l=0) (hm:1≤most∧most≤100) :
 Spec Tryz.prog 77 [.c (.sl 3 (l.map zb5)),I .i64 most] [] (.tup [.c (.sl 3 ((zde most l).2.map zb5)),.c (.sl 6 ((zde most l).1.map zed)),I .i64 0]) []:=by
 obtain⟨h1,h8,hw50,hr⟩:=zco h0
 have hlate:∀k,k<l.length→0≤(l.getD k default).late∧(l.getD k default).late≤1000000:=fun k hk=>(zs5 (hr k hk)).1
 have CS:=zd9 l hl hs
 rw[h0]at CS
 refine spB Tryz.func77 102 [.tmp 4,.tmp 5,.tmp 6] Tryz.results77 ?_
 try refine xst ?_
 refine caP (CS) ?_
 try refine xst ?_
 refine cI (fun h1 => ?_) fun h1 => ?_
 ·simp at h1
 ·try refine xst ?_
  refine cI (fun h2 => ?_) fun h2 => ?_
  ·omega
  ·try refine xst ?_
   refine caM [] (z9b l (by omega) hs) ?_
   try refine xst ?_
   refine za3 (fun k:Nat=>⟨[(29,I .i64 k),(28,I .i64 l.length),(1,I .i64 most),(0,.own 0)],[(0,.row 169 3 ((zg6 zbz k l).map zb5))],1⟩) (fun k:Nat=>k≤l.length) (fun k:Nat=>l.length-k) (0) (Nat.zero_le _) (To.mk [0] rfl rfl (by decide) ?_ ?_) ?_
   ·simp(etaStruct := .none)only[push_cast,zab,seval,ybk]
   ·simp(etaStruct := .none)only[push_cast,zab,seval]
   rintro k hk
   try refine xst ?_
   refine cI (fun h3 => ?_) fun h3 => ?_
   ·have hlt:k<l.length:=by omega
    have hltp:k<(zg6 zbz k l).length:=by rw[zcz];exact hlt
    have pg:=zyi zbz k l hlt
    have hla:=hlate k hlt
    iterate 2(try simp(etaStruct := .none)only[push_cast,zab,seval,zaa _ _ _ hltp,zcz,pg,zb5];try refine xsu ?_)
    refine cI (fun h4 => ?_) fun h4 => ?_
    ·have e:zbz (l.getD k default)=⟨(l.getD k default).waits,0,(l.getD k default).gone⟩:=by unfold zbz;rw[if_pos (by omega)]
     iterate 2(try simp(etaStruct := .none)only[push_cast,zab,seval,zaa _ _ _ hltp,zcz,pg,zb5];try refine xsu ?_)
     refine⟨k+1,by omega,by omega,To.mk [0] rfl rfl (by decide) ?_ ?_⟩
     ·try refine xst ?_
      first
      | (rw[zi7 _ _ _ hlt,List.map_set,e];rfl)
      | rw[zi8 _ _ _ hlt e]
     ·(iterate 2((try simp(etaStruct := .none)only[push_cast,zab,seval,zaa _ _ _ hltp,zcz,pg,zb5]);(try(refine xsu ?_;try exact xtI))))
    ·iterate 2(try simp(etaStruct := .none)only[push_cast,zab,seval,zaa _ _ _ hltp,zcz,pg,zb5];try refine xsu ?_)
     refine cI (fun h5 => ?_) fun h5 => ?_
     ·have e:zbz (l.getD k default)=⟨(l.getD k default).waits,min ((l.getD k default).late+1) 1000000,(l.getD k default).gone⟩:=by unfold zbz;rw[if_neg (by omega),if_neg (by rw[h5];simp)]
      have em:(if 1000000<(l.getD k default).late+1 then 1000000 else (l.getD k default).late+1)=min ((l.getD k default).late+1) 1000000:=by split<;>omega
      iterate 2(try simp(etaStruct := .none)only[push_cast,zab,seval,zaa _ _ _ hltp,zcz,pg,zb5,em];try refine xsu ?_)
      refine⟨k+1,by omega,by omega,To.mk [0] rfl rfl (by decide) ?_ ?_⟩
      ·try refine xst ?_
       first
       | (rw[zi7 _ _ _ hlt,List.map_set,e];rfl)
       | rw[zi8 _ _ _ hlt e]
      ·(iterate 2((try simp(etaStruct := .none)only[push_cast,zab,seval,zaa _ _ _ hltp,zcz,pg,zb5,em]);(try(refine xsu ?_;try exact xtI))))
     ·have e:zbz (l.getD k default)=l.getD k default:=by unfold zbz;rw[if_neg (by omega),if_pos h5]
      iterate 2(try simp(etaStruct := .none)only[push_cast,zab,seval,zaa _ _ _ hltp,zcz,pg,zb5];try refine xsu ?_)
      refine⟨k+1,by omega,by omega,To.mk [0] rfl rfl (by decide) ?_ ?_⟩
      ·try refine xst ?_
       first
       | (rw[zi7 _ _ _ hlt,List.map_set,e];rfl)
       | rw[zi8 _ _ _ hlt e]
      ·(iterate 2((try simp(etaStruct := .none)only[push_cast,zab,seval,zaa _ _ _ hltp,zcz,pg,zb5]);(try(refine xsu ?_;try exact xtI))))
   ·obtain rfl:k=l.length:=by omega
    have S0L:(l.map zbz).length=l.length:=by simp
    have S0s:∀s∈l.map zbz,zgi s:=fun s hh=>by obtain⟨t,ht,rfl⟩:=List.mem_map.1 hh;exact hs t ht
    iterate 2(try simp(etaStruct := .none)only[push_cast,zab,seval,zbo];try refine xsu ?_)
    refine za3 (fun x:(List Ord × List Sea) × Bool=>⟨[(11,B x.2),(10,.own 1),(1,I .i64 most),(0,.own 0)],[(0,.row 169 3 (x.1.2.map zb5)),(1,.row 48 6 (x.1.1.map zed))],2⟩) (fun x:(List Ord × List Sea) × Bool=>(∃n,x.1=itS most n ([],l.map zbz))∧x.1.1.length≤100∧x.1.2.length=l.length∧(∀s∈x.1.2,zgi s)∧(x.2=false→tkS most x.1.1 x.1.2=x.1)) (fun x:(List Ord × List Sea) × Bool=>yef x.1.2+(if x.2 then 1 else 0)) ((([],l.map zbz),true)) (⟨⟨0,rfl⟩,by simp,by simp,S0s,fun h=>by simp at h⟩) ((To.nil 10 48 6 rfl).trans (To.mk [0,1] rfl rfl (by decide) ?_ ?_)) ?_
    ·simp(etaStruct := .none)only[push_cast,zab,seval]
    ·simp(etaStruct := .none)only[push_cast,zab,seval]
    rintro⟨⟨out,S⟩,again⟩ ⟨⟨n,hit⟩,q1,q2,q3,q4⟩
    simp only at hit q1 q2 q3 q4
    iterate 2(try simp(etaStruct := .none)only[push_cast,zab,seval,zbo];try refine xsu ?_)
    refine za1 (fun h6 => ?_) (fun h6 => ?_)
    ·(try replace h6:=xhh h6)
     obtain rfl:again=true:=h6
     iterate 2(try simp(etaStruct := .none)only[push_cast,zab,seval,zbo,q2];try refine xsu ?_)
     refine za3 (fun y:Nat × (List Ord × List Sea) × Bool=>⟨[(64,I .i64 y.1),(63,I .i64 l.length),(11,B y.2.2),(10,.own 1),(1,I .i64 most),(0,.own 0)],[(0,.row 169 3 (y.2.1.2.map zb5)),(1,.row 48 6 (y.2.1.1.map zed))],2⟩) (fun y:Nat × (List Ord × List Sea) × Bool=>y.1≤l.length∧y.2.1.2.length=l.length∧tkS most out S=((tkS most y.2.1.1 (y.2.1.2.drop y.1)).1,y.2.1.2.take y.1++(tkS most y.2.1.1 (y.2.1.2.drop y.1)).2)∧y.2.2=decide (out.length<y.2.1.1.length)∧out.length≤y.2.1.1.length∧y.2.1.1.length≤100∧∀s∈y.2.1.2,zgi s) (fun y:Nat × (List Ord × List Sea) × Bool=>l.length-y.1) ((0,(out,S),false)) (⟨Nat.zero_le _,q2,by simp,by simp,Nat.le_refl _,q1,q3⟩) (To.mk [0,1] rfl rfl (by decide) ?_ ?_) ?_
     ·simp(etaStruct := .none)only[push_cast,zab,seval]
     ·simp(etaStruct := .none)only[push_cast,zab,seval]
     rintro⟨i,⟨o,R⟩,ag⟩ ⟨p1,p2,p3,p4,p5,p6,p7⟩
     simp only at p1 p2 p3 p4 p5 p6 p7
     iterate 2(try simp(etaStruct := .none)only[push_cast,zab,seval,zbo,q2];try refine xsu ?_)
     refine za1 (fun h7 => ?_) (fun h7 => ?_)
     ·(try replace h7:=xhh h7)
      have hlt:i<R.length:=by omega
      have hw:=p7 _ (zbj R i hlt)
      have dr:=ydc R i hlt
      iterate 2(try simp(etaStruct := .none)only[push_cast,zab,seval,zbo,q2,zaa _ _ _ hlt,zb5];try refine xsu ?_)
      refine za1 (fun h8 => ?_) (fun h8 => ?_)
      ·(try replace h8:=xhh h8)
       have hw0:0<(R.getD i default).waits.length:=by omega
       have ed:List.drop 1 (List.map zed (R.getD i default).waits)=((R.getD i default).waits.drop 1).map zed:=by rw[List.map_drop]
       iterate 2(try simp(etaStruct := .none)only[push_cast,zab,seval,zbo,q2,zaa _ _ _ hlt,zb5,zaa _ _ _ hw0,zed,ed];try refine xsu ?_)
       (try(refine⟨by kernel_rfl,?_⟩))
       iterate 2(try simp(etaStruct := .none)only[push_cast,zab,seval,zbo,q2,zaa _ _ _ hlt,zb5,zaa _ _ _ hw0,zed,ed];try refine xsu ?_)
       refine⟨(i+1,(o ++ [(R.getD i default).waits.getD 0 default],R.set i ⟨(R.getD i default).waits.drop 1,(R.getD i default).late,(R.getD i default).gone⟩),true),⟨by simp only;omega,by simp only[List.length_set];exact p2,by
 simp only
 rw[p3,dr,List.drop_set_of_lt (by omega),List.take_set,zas R i hlt]
 simp only[tkS]
 rw[if_pos ⟨hw0,by omega⟩,List.set_append_right _ _ (by simp;omega)]
 simp [Nat.min_eq_left (Nat.le_of_lt hlt)], by simp; omega, by simp; omega, by simp; omega, z5r p7 (by unfold zgi at hw ⊢; simp only [List.length_drop]; omega)⟩, by simp only; omega, To.mk [0, 38] rfl rfl (by decide) ?_ ?_⟩
       ·iterate 2(try simp(etaStruct := .none)only[push_cast,zab,seval,List.map_set,List.map_append];try refine xsu ?_)
        exact⟨rfl,rfl⟩
       ·(iterate 2((try simp(etaStruct := .none)only[push_cast,zab,seval,zbo,q2,zaa _ _ _ hlt,zb5,zaa _ _ _ hw0,zed,ed]);(try(refine xsu ?_;try exact xtI))))
      ·(try replace h8:=xhh h8)
       iterate 2(try simp(etaStruct := .none)only[push_cast,zab,seval,zbo,q2,zaa _ _ _ hlt,zb5];try refine xsu ?_)
       refine⟨(i+1,(o,R),ag),⟨by simp only;omega,p2,by
 simp only
 have hc:¬(0<(R.getD i default).waits.length∧(o.length:Int)<most):=by omega
 rw[p3,dr,zas R i hlt]
 simp only[tkS]
 rw[if_neg hc]
 simp, p4, p5, p6, p7⟩, by simp only; omega, To.mk [0, 1] rfl rfl (by decide) ?_ ?_⟩
       ·(iterate 2((try simp(etaStruct := .none)only[push_cast,zab,seval,zbo,q2,zaa _ _ _ hlt,zb5]);(try(refine xsu ?_;try exact xtI))))
       ·(iterate 2((try simp(etaStruct := .none)only[push_cast,zab,seval,zbo,q2,zaa _ _ _ hlt,zb5]);(try(refine xsu ?_;try exact xtI))))
     ·(try replace h7:=xhh h7)
      obtain rfl:i=l.length:=by omega
      have pe:tkS most out S=(o,R):=by
       rw[p3,List.drop_eq_nil_of_le (by omega),List.take_of_length_le (by omega)];simp[tkS]
      iterate 2(try simp(etaStruct := .none)only[push_cast,zab,seval,zbo,q2];try refine xsu ?_)
      refine⟨((o,R),ag),⟨⟨n+1,by rw[zkn,←hit];exact pe.symm⟩,p6,p2,p7,fun ha=>by
 have hlen:o.length=out.length:=by
  simp only at ha
  rw[p4]at ha
  have:=of_decide_eq_false ha
  omega
 have:=zuv most S out (by rw[pe];exact hlen)
 rw[pe]at this
 obtain⟨rfl,rfl⟩:=Prod.mk.inj this
 exact pe⟩,by
 have hsum:=zsz most S out
 rw[pe]at hsum
 simp only at hsum ⊢
 rw[p4]
 by_cases hh:out.length<o.length
 ·rw[decide_eq_true hh];simp;omega
 ·rw [decide_eq_false hh]; simp; omega, To.mk [0, 1] rfl rfl (by decide) ?_ ?_⟩
      ·(iterate 2((try simp(etaStruct := .none)only[push_cast,zab,seval,zbo,q2]);(try(refine xsu ?_;try exact xtI))))
      ·(iterate 2((try simp(etaStruct := .none)only[push_cast,zab,seval,zbo,q2]);(try(refine xsu ?_;try exact xtI))))
    ·(try replace h6:=xhh h6)
     have hz:=q4 h6
     have ec:zde most l=(out,S):=by
      have h9:tkS most (itS most n ([],l.map zbz)).1 (itS most n ([],l.map zbz)).2=itS most n ([],l.map zbz):=by rw[←hit];exact hz
      rw[z8b hw50 h9,←hit]
     iterate 2(try simp(etaStruct := .none)only[push_cast,zab,seval,zbo];try refine xsu ?_)
     exact zbr rfl trivial (by rw[ec];exact Wk.refl _)
end Go.Proofs.YtmjbgbmegbkmhaaGreat
namespace Go.Proofs.YtmjbgbmegbkmhaaGreat
set_option linter.all false
open Go.RowKit
set_option maxRecDepth 100000
def zrb (w:Wld) (n:Int):Int:=if zaw w≠0 then zaw w else if w.bases.length=0∨¬(1≤n∧n≤100)then 1 else 0
def zsj (w:Wld) (n:Int):Hst:=if zrb w n=0 then ⟨⟨w,[]⟩,List.replicate w.bases.length ⟨[],0,false⟩,2 ^ w.bases.length-1,List.replicate 16 0,n⟩else default
def zcy (h:Hst):List Ord:=(zde h.most h.seats).1
def zh8 (WR:Cel→List Int) (h:Hst):Int:=if zf8 WR h.sty (zcy h)≠0 then zf8 WR h.sty (zcy h)else (zh0 (zcy h)).2
def zn8 (WR:Cel→List Int) (h:Hst):ByteArray:=if zf8 WR h.sty (zcy h)≠0 then ⟨#[]⟩else (zh0 (zcy h)).1
def zj5 (WR:Cel→List Int) (h:Hst):Hst:=if zf8 WR h.sty (zcy h)≠0 then h else { h with seats:=(zde h.most h.seats).2,sty:=zg8 WR h.sty (zcy h) }
def zry (m m':Nat) (k:Nat):Bool:=zdb m k && !zdb m' k
def zck (m m':Nat) (l:List Sea):Nat→List Sea
 | 0=>l
 | k+1=>if zry m m' k then zhd (zck m m' l k) k else zck m m' l k
def zuf (h:Hst) (b a:Int):Int:=(zcv h.m h.ag b a).2.2
def zue (h:Hst) (b a:Int):Hst:=if zuf h b a≠0 then h else { h with seats:=zck h.m (zcv h.m h.ag b a).1.1 h.seats h.seats.length,m:=(zcv h.m h.ag b a).1.1,ag:=(zcv h.m h.ag b a).1.2 }
theorem zdq (m m':Nat) (l:List Sea):∀k,(zck m m' l k).length=l.length
 | 0=>rfl
 | k+1=>by
  unfold zck
  split
  ·unfold zhd;rw[List.length_set,zdq m m' l k]
  ·exact zdq m m' l k
theorem zrn (m m':Nat) (l:List Sea) (j:Nat):∀k,k≤j→(zck m m' l k).getD j default=l.getD j default
 | 0,_=>rfl
 | k+1,h=>by
  have ih:=zrn m m' l j k (by omega)
  unfold zck
  split
  ·unfold zhd
   rw[List.getD_eq_getElem?_getD,List.getElem?_set_ne (by omega),←List.getD_eq_getElem?_getD];exact ih
  ·exact ih
theorem z5q (i:Int):zqj ⟨[],0,true⟩ i=true:=by simp[zqj,zm4,zaj]
theorem zxz {l:List Sea} (h:za9 l=0) (p:Nat) (hp:p<l.length):za9 (zhd l p)=0:=by
 obtain⟨h1,h2,h3,h4⟩:True∧(1≤l.length∧l.length≤8)∧(∀s∈l,s.waits.length≤50)∧∀i,i<l.length→zqj (l.getD i default) i=true:=by
  unfold za9 at h
  split at h
  ·omega
  split at h
  ·omega
  split at h
  ·rename_i a1 a2 a3
   refine⟨trivial,by omega,fun s hs => ?_,fun i hi=>List.all_eq_true.1 a3 i (List.mem_range.2 hi)⟩
   exact Nat.not_lt.1 fun hx=>a2 (List.any_eq_true.2 ⟨s,hs,decide_eq_true hx⟩)
  ·omega
 unfold za9 zhd
 rw[List.length_set,if_neg (by omega),if_neg,if_pos]
 ·rw[List.all_eq_true]
  intro i hi
  have hi:=List.mem_range.1 hi
  rw[List.getD_eq_getElem?_getD,List.getElem?_set]
  by_cases hpi:(p:Int).toNat=i
  ·rw[if_pos hpi,if_pos (by rw[hpi];exact hi)];exact z5q _
  ·rw[if_neg hpi,←List.getD_eq_getElem?_getD];exact h4 i hi
 ·rw[List.any_eq_true]
  rintro⟨s,hs,hx⟩
  rw[decide_eq_true_iff]at hx
  rcases List.mem_or_eq_of_mem_set hs with e|e
  ·have:=h3 s e;omega
  ·subst e;simp at hx
theorem zex {m m':Nat} {l:List Sea} (h:za9 l=0):∀k,k≤l.length→za9 (zck m m' l k)=0
 | 0,_=>h
 | k+1,hk=>by
  have ih:=zex (m:=m) (m':=m') h k (by omega)
  unfold zck
  split
  ·exact zxz ih k (by rw[zdq];omega)
  ·exact ih
theorem yfg {l:List Sea} (h:za9 l=0):∀s∈l,zgi s:=fun s hs=>by
 unfold zgi
 have:=(zco h).2.2.1 s hs;omega
end Go.Proofs.YtmjbgbmegbkmhaaGreat
namespace Go.Proofs.YtmjbgbmegbkmhaaGreat
set_option linter.all false
open Go.RowKit
set_option maxRecDepth 100000
set_option maxHeartbeats 2000000
theorem yki (b:Nat) (h8:b≤8):IntKind.u32.wrap (IntKind.u32.wrap (2 ^ min b IntKind.u32.bits)-1)=((2 ^ b-1:Nat):Int):=by
 have:b=0∨b=1∨b=2∨b=3∨b=4∨b=5∨b=6∨b=7∨b=8:=by omega
 rcases this with rfl|rfl|rfl|rfl|rfl|rfl|rfl|rfl|rfl<;>decide
theorem ycx (w:Wld) (n:Int) (WR:Cel→List Int) (hWR:∀a,zat w.f [a] (WR a)) (hl:zf7 w) (hE:zrb w n=0) (hw:Right w) (h0:0<w.bases.length) (h8:w.bases.length≤8) (hn:1≤n∧n≤100):Spec Tryz.prog 7 [zdi w,I .i64 n] [] (.tup [ztu (zsj w n),I .i64 0]) []:=by
 have V:=zjv w [] WR hWR hl (fun _ h=>by simp at h)
 have v0:zdm WR [] w=0:=by unfold zdm;rw[if_neg (by simp),if_neg (fun hn=>hn hw.e)];rfl
 rw[v0,show zg4 WR [] w=w from if_pos v0]at V
 have eH:zsj w n=⟨⟨w,[]⟩,List.replicate w.bases.length ⟨[],0,false⟩,2 ^ w.bases.length-1,List.replicate 16 0,n⟩:=if_pos hE
 rw[eH]
 refine spB Tryz.func7 49 [.cell 4 40,.tmp 5] Tryz.results7 ?_
 (iterate 2((try simp(etaStruct := .none)only[push_cast,seval]);(try(refine xsu ?_;try exact xtI))))
 refine zem (V) (by exact⟨Wk.refl _,Wk.nil _,trivial⟩) ?_
 (iterate 2((try simp(etaStruct := .none)only[push_cast,seval]);(try(refine xsu ?_;try exact xtI))))
 refine cI (fun h1 => ?_) fun h1 => ?_
 ·simp at h1
 ·(iterate 2((try simp(etaStruct := .none)only[push_cast,seval]);(try(refine xsu ?_;try exact xtI))))
  refine gcP (fun hcc=>ztv n) ?_
  (iterate 2((try simp(etaStruct := .none)only[push_cast,seval]);(try(refine xsu ?_;try exact xtI))))
  refine cI (fun h2 => ?_) fun h2 => ?_
  ·omega
  ·(iterate 2((try simp(etaStruct := .none)only[push_cast,seval]);(try(refine xsu ?_;try exact xtI))))
   refine caP (yfc w.bases.length (by omega)) ?_
   (iterate 2((try simp(etaStruct := .none)only[push_cast,seval]);(try(refine xsu ?_;try exact xtI))))
   refine zbw [some 38,some 39,some 40,some 41,some 42,some 11,none] rfl ?_
   intro Oq lq Rq hlq hdq hRq
   subst hlq
   iterate 7(refine za6 fun rq hrq => ?_;(iterate 2((try simp(etaStruct := .none)only[push_cast,seval,hdq,id]);(try(refine xsu ?_;try exact xtI))));subst hrq)
   refine zmu ?_
   subst hRq
   clear hdq Oq
   refine zmt (by kernel_rfl) ?_
   (iterate 2((try simp(etaStruct := .none)only[push_cast,seval]);(try(refine xsu ?_;try exact xtI))))
   refine zbr rfl (by repeat' (first|exact trivial|exact rfl|refine⟨?_,?_⟩)) (Wk.tup ⟨Wk.agg ⟨Wk.refl _,Wk.refl _,Wk.refl _,Wk.refl _,Wk.refl _,Wk.refl _,Wk.refl _,Wk.refl _,Wk.refl _,Wk.nil _,Wk.of ?_,Wk.of ?_,Wk.of ?_,Wk.refl _,trivial⟩,Wk.refl _,trivial⟩)
   ·rfl
   ·show AV.c (.v (.int .u32 (IntKind.u32.wrap (IntKind.u32.wrap (1*2 ^ min w.bases.length IntKind.u32.bits)-1))))=_
    rw[Int.one_mul,yki w.bases.length h8]
   ·rfl
theorem yfd (h:Hst) (WR:Cel→List Int) (hWR:∀a,zat h.sty.start.f [a] (WR a)) (hl:HstL h) (h0:za9 h.seats=0) (hm:1≤h.most∧h.most≤100) (hlen:(zcy h).length≤9223372036854775807):Spec Tryz.prog 33 [.ptr 0 0 0] [.blk 40 (zzq h)] (.tup [S (zn8 WR h),I .i64 (zh8 WR h)]) [.blk 40 (zzq (zj5 WR h))]:=by
 have C1:=z5s h.seats h.most hl.l hl.a h0 hm
 have C2:=ya2 h.sty (zcy h) WR hWR hl.s hlen
 have C3:=z6c (zcy h) hlen
 refine spB Tryz.func33 48 [.tmp 2,.tmp 3] Tryz.results33 ?_
 (iterate 2((try simp(etaStruct := .none)only[push_cast,seval]);(try(refine xsu ?_;try exact xtI))))
 refine zbw [some 9,some 10,some 11,some 12,some 13,some 14,some 15,some 16,some 17,some 8,some 18,some 19,some 20,some 4,some 5,some 6] rfl ?_
 intro Oq lq Rq hlq hdq hRq
 subst hlq
 iterate 8(refine za6 fun rq hrq => ?_;(iterate 2((try simp(etaStruct := .none)only[push_cast,seval,hdq,id]);(try(refine xsu ?_;try exact xtI))));subst hrq)
 refine za6 fun rq hrq => ?_
 (iterate 2((try simp(etaStruct := .none)only[push_cast,seval,hdq,id]);(try(refine xsu ?_;try exact xtI))))
 refine caP (C1) ?_
 (iterate 2((try simp(etaStruct := .none)only[push_cast,seval,hdq,id]);(try(refine xsu ?_;try exact xtI))))
 subst hrq
 iterate 7(refine za6 fun rq hrq => ?_;(iterate 2((try simp(etaStruct := .none)only[push_cast,seval,hdq,id]);(try(refine xsu ?_;try exact xtI))));subst hrq)
 refine zmu ?_
 subst hRq
 clear hdq Oq
 refine zmt (by kernel_rfl) ?_
 (iterate 2((try simp(etaStruct := .none)only[push_cast,seval]);(try(refine xsu ?_;try exact xtI))))
 refine cI (fun h1 => ?_) fun h1 => ?_
 ·simp at h1
 ·(iterate 2((try simp(etaStruct := .none)only[push_cast,seval]);(try(refine xsu ?_;try exact xtI))))
  refine caP (C2) ?_
  (iterate 2((try simp(etaStruct := .none)only[push_cast,seval]);(try(refine xsu ?_;try exact xtI))))
  refine cI (fun h2 => ?_) fun h2 => ?_
  ·have eT:zn8 WR h=⟨#[]⟩:=by unfold zn8;rw[if_pos h2]
   have eE:zh8 WR h=zf8 WR h.sty (zcy h):=by unfold zh8;rw[if_pos h2]
   have eH:zj5 WR h=h:=by unfold zj5;rw[if_pos h2]
   rw[eT,eE,eH]
   (iterate 2((try simp(etaStruct := .none)only[push_cast,seval]);(try(refine xsu ?_;try exact xtI))))
   refine zbc [0] rfl rfl (by decide) ⟨?_,trivial⟩ (by repeat' (first|exact trivial|exact rfl|refine⟨?_,?_⟩)) ?_<;>first|exact Wk.refl _|exact wkc|(try simp(etaStruct := .none)only[push_cast,zab,seval])
  ·have eT:zn8 WR h=(zh0 (zcy h)).1:=by unfold zn8;rw[if_neg (by simpa using h2)]
   have eE:zh8 WR h=(zh0 (zcy h)).2:=by unfold zh8;rw[if_neg (by simpa using h2)]
   have eH:zj5 WR h = { h with seats:=(zde h.most h.seats).2,sty:=zg8 WR h.sty (zcy h) }:=by unfold zj5;rw[if_neg (by simpa using h2)]
   rw[eT,eE,eH]
   (iterate 2((try simp(etaStruct := .none)only[push_cast,seval]);(try(refine xsu ?_;try exact xtI))))
   refine zbw [some 36,some 37,some 38,some 39,some 40,some 41,none,some 42,some 43,none] rfl ?_
   intro Oq lq Rq hlq hdq hRq
   subst hlq
   iterate 10(refine za6 fun rq hrq => ?_;(iterate 2((try simp(etaStruct := .none)only[push_cast,seval,hdq,id]);(try(refine xsu ?_;try exact xtI))));subst hrq)
   refine zmu ?_
   subst hRq
   clear hdq Oq
   refine zmt (by kernel_rfl) ?_
   (iterate 2((try simp(etaStruct := .none)only[push_cast,seval]);(try(refine xsu ?_;try exact xtI))))
   refine caP (C3) ?_
   (iterate 2((try simp(etaStruct := .none)only[push_cast,seval]);(try(refine xsu ?_;try exact xtI))))
   refine zbc [0] rfl rfl (by decide) ⟨?_,trivial⟩ (by repeat' (first|exact trivial|exact rfl|refine⟨?_,?_⟩)) ?_<;>first|exact Wk.refl _|exact wkc|(try simp(etaStruct := .none)only[push_cast,zab,seval])
theorem yg4 (w:Wld) (n:Int) (WR:Cel→List Int) (hWR:∀a,zat w.f [a] (WR a)) (hl:zf7 w) (h:zaw w≠0):Spec Tryz.prog 7 [zdi w,I .i64 n] [] (.tup [ztu default,I .i64 (zaw w)]) []:=by
 have V:=zjv w [] WR hWR hl (fun _ h=>by simp at h)
 have v0:zdm WR [] w=zaw w:=by unfold zdm;rw[if_neg (by simp),if_pos h]
 rw[v0]at V
 refine spB Tryz.func7 49 [.cell 4 40,.tmp 5] Tryz.results7 ?_
 (iterate 2((try simp(etaStruct := .none)only[push_cast,seval]);(try(refine xsu ?_;try exact xtI))))
 refine zem (V) (by exact⟨Wk.refl _,Wk.nil _,trivial⟩) ?_
 (iterate 2((try simp(etaStruct := .none)only[push_cast,seval]);(try(refine xsu ?_;try exact xtI))))
 refine cI (fun h1 => ?_) fun h1 => ?_
 ·(iterate 2((try simp(etaStruct := .none)only[push_cast,seval]);(try(refine xsu ?_;try exact xtI))))
  exact xrz rfl
 ·exact absurd h1 h
theorem yg5 (w:Wld) (n:Int) (WR:Cel→List Int) (hWR:∀a,zat w.f [a] (WR a)) (hl:zf7 w) (hw:Right w) (h:w.bases.length=0∨¬(1≤n∧n≤100)):Spec Tryz.prog 7 [zdi w,I .i64 n] [] (.tup [ztu default,I .i64 1]) []:=by
 have V:=zjv w [] WR hWR hl (fun _ h=>by simp at h)
 have v0:zdm WR [] w=0:=by unfold zdm;rw[if_neg (by simp),if_neg (fun hn=>hn hw.e)];rfl
 rw[v0,show zg4 WR [] w=w from if_pos v0]at V
 refine spB Tryz.func7 49 [.cell 4 40,.tmp 5] Tryz.results7 ?_
 (iterate 2((try simp(etaStruct := .none)only[push_cast,seval]);(try(refine xsu ?_;try exact xtI))))
 refine zem (V) (by exact⟨Wk.refl _,Wk.nil _,trivial⟩) ?_
 (iterate 2((try simp(etaStruct := .none)only[push_cast,seval]);(try(refine xsu ?_;try exact xtI))))
 refine cI (fun h1 => ?_) fun h1 => ?_
 ·simp at h1
 ·(iterate 2((try simp(etaStruct := .none)only[push_cast,seval]);(try(refine xsu ?_;try exact xtI))))
  refine gcP (fun hcc=>ztv n) ?_
  (iterate 2((try simp(etaStruct := .none)only[push_cast,seval]);(try(refine xsu ?_;try exact xtI))))
  refine cI (fun h2 => ?_) fun h2 => ?_
  ·(iterate 2((try simp(etaStruct := .none)only[push_cast,seval]);(try(refine xsu ?_;try exact xtI))))
   exact xrz rfl
  ·omega
theorem z2u (w:Wld) (n:Int) (WR:Cel→List Int) (hWR:∀a,zat w.f [a] (WR a)) (hl:zf7 w):Spec Tryz.prog 7 [zdi w,I .i64 n] [] (.tup [ztu (zsj w n),I .i64 (zrb w n)]) []:=by
 by_cases h:zaw w=0
 ·have hw:=zea h
  by_cases h2:w.bases.length=0∨¬(1≤n∧n≤100)
  ·have e:zrb w n=1:=by unfold zrb;rw[if_neg (fun x=>x h),if_pos h2]
   have e2:zsj w n=default:=by unfold zsj;rw[e];rfl
   rw[e,e2]
   exact yg5 w n WR hWR hl hw h2
  ·have e:zrb w n=0:=by unfold zrb;rw[if_neg (fun x=>x h),if_neg h2]
   have:=ycx w n WR hWR hl e hw (by omega) hw.nb (by omega)
   rwa [e]
 ·have e:zrb w n=zaw w:=by unfold zrb;rw[if_pos h]
  have e2:zsj w n=default:=by unfold zsj;rw[e,if_neg h]
  rw[e,e2]
  exact yg4 w n WR hWR hl h
theorem zmh (n k:Nat):zdb n k=n.testBit k:=by
 unfold zdb
 rw[Nat.testBit_eq_decide_div_mod_eq,Bool.eq_iff_iff]
 simp
theorem z24 (m n k:Nat) (hm:m<4294967296) (hn:n<4294967296) (hk:k<32):decide (bits .and .u32 ((bits .andNot .u32 (m:Int) (n:Int)).fdiv (2 ^ min k IntKind.u32.bits)) 1=1)=zry m n k:=by
 rw[zn0 m n hm hn]
 have hle:m &&& (4294967295-n)≤m:=Nat.and_le_left
 rw[z43 _ k (by omega) hk]
 unfold zry
 rw[zmh,zmh,zmh,Nat.testBit_and]
 have h2:=Nat.testBit_two_pow_sub_succ (n:=32) (x:=n) (by omega) k
 rw[show (2 ^ 32-(n+1):Nat)=4294967295-n by omega]at h2
 rw[h2,decide_eq_true (by omega),Bool.true_and]
theorem z9d:∀(n m:Nat) (g:List Nat),(zml n m g).1≤m
 | 0,_,_=>Nat.le_refl _
 | n+1,m,g=>by
  unfold zml
  split
  ·exact Nat.le_refl _
  ·exact Nat.le_trans (z9d n _ _) (znr _ _)
theorem zxc (m:Nat) (g:List Nat) (b a:Int):(zcv m g b a).1.1≤m:=by
 unfold zcv
 repeat' split
 all_goals first|exact Nat.zero_le _|exact z9d _ _ _
theorem yc1 (h:Hst) (b a:Int) (hl:HstL h) (h0:za9 h.seats=0) (hg:∀i,i<h.seats.length→zg3 h i=true):Spec Tryz.prog 34 [.ptr 0 0 0,I .i64 b,I .i64 a] [.blk 40 (zzq h)] (I .i64 (zuf h b a)) [.blk 40 (zzq (zue h b a))]:=by
 have C:=yhn h.m h.ag b a hl.m hl.g hl.e
 have hv:=zxc h.m h.ag b a
 have hm:=hl.m
 have h8:=(zco h0).2.1
 unfold zue zuf
 generalize zcv h.m h.ag b a=V at *
 obtain⟨⟨m',g'⟩,x,e⟩:=V
 simp only at hv C ⊢
 refine spB Tryz.func34 62 [.tmp 6] Tryz.results34 ?_
 (iterate 2((try simp(etaStruct := .none)only[push_cast,seval]);(try(refine xsu ?_;try exact xtI))))
 refine caP (C) ?_
 (iterate 2((try simp(etaStruct := .none)only[push_cast,seval]);(try(refine xsu ?_;try exact xtI))))
 refine cI (fun h1 => ?_) fun h1 => ?_
 ·rw[if_pos h1]
  (iterate 2((try simp(etaStruct := .none)only[push_cast,seval]);(try(refine xsu ?_;try exact xtI))))
  refine zbc [0] rfl rfl (by decide) ⟨?_,trivial⟩ (by repeat' (first|exact trivial|exact rfl|refine⟨?_,?_⟩)) ?_<;>first|exact Wk.refl _|exact wkc|(try simp(etaStruct := .none)only[push_cast,zab,seval])
 ·have h1':e=0:=by simpa using h1
  subst h1'
  rw[if_neg (fun x=>x rfl)]
  have l0:zck h.m m' h.seats 0=h.seats:=rfl
  (iterate 2((try simp(etaStruct := .none)only[push_cast,seval]);(try(refine xsu ?_;try exact xtI))))
  refine za3 (fun k:Nat=>⟨[(30,I .i64 k),(29,I .i64 h.seats.length),(7,.ptr 1 0 0),(0,.ptr 0 0 0)],[(0,.blk 40 (zzq { h with seats:=zck h.m m' h.seats k })),(1,.blk 38 [I .u32 m',.c (.sl 1 (g'.map zjp))])],2⟩) (fun k:Nat=>k≤h.seats.length) (fun k:Nat=>h.seats.length-k) (0) (Nat.zero_le _) (To.mk [0,1] rfl rfl (by decide) ?_ ?_) ?_
  ·simp(etaStruct := .none)only[push_cast,zab,seval,l0]
  ·simp(etaStruct := .none)only[push_cast,zab,seval]
  rintro k hk
  (iterate 2((try simp(etaStruct := .none)only[push_cast,seval]);(try(refine xsu ?_;try exact xtI))))
  refine cI (fun h2 => ?_) fun h2 => ?_
  ·have hlt:k<h.seats.length:=by omega
   have hgt:=z24 h.m m' k hm (by omega) (by omega)
   have hlk:=zdq h.m m' h.seats k
   have hr:=zex (m:=h.m) (m':=m') h0 k (by omega)
   (iterate 2((try simp(etaStruct := .none)only[push_cast,seval,hgt]);(try(refine xsu ?_;try exact xtI))))
   refine zbw [some 33,some 34,some 35,some 36,some 37,some 38,some 39,some 40,some 41,some 42,some 43,some 44] rfl ?_
   intro Oq lq Rq hlq hdq hRq
   subst hlq
   iterate 12(refine za6 fun rq hrq => ?_;(iterate 2((try simp(etaStruct := .none)only[push_cast,seval,hdq,id,hgt]);(try(refine xsu ?_;try exact xtI))));subst hrq)
   refine zmu ?_
   subst hRq
   clear hdq Oq
   refine zmt (by kernel_rfl) ?_
   (iterate 2((try simp(etaStruct := .none)only[push_cast,seval,hgt]);(try(refine xsu ?_;try exact xtI))))
   refine cI (fun h3 => ?_) fun h3 => ?_
   ·have hbk:zdb h.m k=true:=by
     have h3':=h3
     unfold zry at h3'
     rw[Bool.and_eq_true]at h3'
     exact h3'.1
    have hgn:((zck h.m m' h.seats k).getD k default).gone=false:=by
     rw[zrn _ _ _ _ _ (Nat.le_refl _)]
     have hx:=hg k hlt
     unfold zg3 at hx
     rw[of_decide_eq_true hx,hbk];rfl
    have hs:zck h.m m' h.seats (k+1)=zhd (zck h.m m' h.seats k) k:=if_pos h3
    (iterate 2((try simp(etaStruct := .none)only[push_cast,seval,hgt]);(try(refine xsu ?_;try exact xtI))))
    refine caP (z0o (zck h.m m' h.seats k) k (by omega) (yfg hr) hr (by omega) (by rw[Int.toNat_natCast];exact hgn)) ?_
    (iterate 2((try simp(etaStruct := .none)only[push_cast,seval,hgt]);(try(refine xsu ?_;try exact xtI))))
    refine⟨k+1,by omega,by omega,To.mk [0,1] rfl rfl (by decide) ?_ ?_⟩
    ·(iterate 2((try simp(etaStruct := .none)only[push_cast,seval,hs]);(try(refine xsu ?_;try exact xtI))))
    ·(iterate 2((try simp(etaStruct := .none)only[push_cast,seval,hgt]);(try(refine xsu ?_;try exact xtI))))
   ·have hs:zck h.m m' h.seats (k+1)=zck h.m m' h.seats k:=if_neg (by rw[h3];decide)
    (iterate 2((try simp(etaStruct := .none)only[push_cast,seval,hgt]);(try(refine xsu ?_;try exact xtI))))
    refine⟨k+1,by omega,by omega,To.mk [0,1] rfl rfl (by decide) ?_ ?_⟩
    ·(iterate 2((try simp(etaStruct := .none)only[push_cast,seval,hs]);(try(refine xsu ?_;try exact xtI))))
    ·(iterate 2((try simp(etaStruct := .none)only[push_cast,seval,hgt]);(try(refine xsu ?_;try exact xtI))))
  ·obtain rfl:k=h.seats.length:=by omega
   (iterate 2((try simp(etaStruct := .none)only[push_cast,seval]);(try(refine xsu ?_;try exact xtI))))
   refine zbc [0] rfl rfl (by decide) ⟨?_,trivial⟩ (by repeat' (first|exact trivial|exact rfl|refine⟨?_,?_⟩)) ?_<;>first|exact Wk.refl _|exact wkc|(try simp(etaStruct := .none)only[push_cast,zab,seval])
structure Clq where
 kind:Int
 o:Ord
 by_:Int
 at_:Int
deriving Inhabited
abbrev yhl (c:Clq):AV := .agg [I .i64 c.kind,I .i64 c.o.by_,I .i64 c.o.kind,I .i64 c.o.who,I .i64 c.o.c.x,I .i64 c.o.c.y,I .i64 c.o.what,I .i64 c.by_,I .i64 c.at_]
def doV (WR:Cel→List Int) (h:Hst) (c:Clq):Hst × ByteArray × Int :=
 if c.kind=1 then (if zqm h.seats c.o=0 then ({ h with seats:=zu9 h.seats c.o },⟨#[]⟩,0)else (h,⟨#[]⟩,zqm h.seats c.o))
 else if c.kind=2 then (if zh8 WR h=0 then (zj5 WR h,zn8 WR h,0)else (h,⟨#[]⟩,zh8 WR h))
 else if c.kind=3 then (if zuf h c.by_ c.at_=0 then (zue h c.by_ c.at_,⟨#[]⟩,0)else (h,⟨#[]⟩,zuf h c.by_ c.at_))
 else (h,⟨#[]⟩,1)
abbrev doA (r:Hst × ByteArray × Int):AV := .tup [ztu r.1,S r.2.1,I .i64 r.2.2]
theorem yk6 (h:Hst) (c:Clq) (WR:Cel→List Int) (hWR:∀a,zat h.sty.start.f [a] (WR a)) (hl:HstL h) (hb:HstB h) (hE:zsl WR h=0) (hk:c.kind=1):Spec Tryz.prog 9 [ztu h,yhl c] [] (doA (doV WR h c)) []:=by
 have C:=zkp h WR hWR hl
 have D:=yfa h.seats c.o hl.l hl.a
 have eV:doV WR h c=if zqm h.seats c.o=0 then ({ h with seats:=zu9 h.seats c.o },⟨#[]⟩,0)else (h,⟨#[]⟩,zqm h.seats c.o):=by unfold doV;rw[if_pos hk]
 rw[hE]at C
 rw[eV]
 refine spB Tryz.func9 51 [.cell 4 40,.tmp 5,.tmp 6] Tryz.results9 ?_
 try refine xst ?_
 refine caP (ziq h hb) ?_
 try refine xst ?_
 refine caP (C) ?_
 try refine xst ?_
 refine cI (fun h1 => ?_) fun h1 => ?_
 ·simp at h1
 ·try refine xst ?_
  refine cI (fun h2 => ?_) fun h2 => ?_
  ·try refine xst ?_
   refine caP (D) ?_
   try refine xst ?_
   refine cI (fun h3 => ?_) fun h3 => ?_
   ·rw[if_neg h3]
    try refine xst ?_
    exact xrz rfl
   ·rw[if_pos h3,if_pos h3]
    try refine xst ?_
    exact xrz rfl
  ·exact absurd hk h2
theorem yk5 (h:Hst) (c:Clq) (WR:Cel→List Int) (hWR:∀a,zat h.sty.start.f [a] (WR a)) (hl:HstL h) (hb:HstB h) (hE:zsl WR h=0) (h0:za9 h.seats=0) (hm:1≤h.most∧h.most≤100) (hlen:(zcy h).length≤9223372036854775807) (hk:c.kind=2):Spec Tryz.prog 9 [ztu h,yhl c] [] (doA (doV WR h c)) []:=by
 have C:=zkp h WR hWR hl
 have D:=yfd h WR hWR hl h0 hm hlen
 have eV:doV WR h c=if zh8 WR h=0 then (zj5 WR h,zn8 WR h,0)else (h,⟨#[]⟩,zh8 WR h):=by unfold doV;rw[if_neg (by omega),if_pos hk]
 rw[hE]at C
 rw[eV]
 refine spB Tryz.func9 51 [.cell 4 40,.tmp 5,.tmp 6] Tryz.results9 ?_
 try refine xst ?_
 refine caP (ziq h hb) ?_
 try refine xst ?_
 refine caP (C) ?_
 try refine xst ?_
 refine cI (fun h1 => ?_) fun h1 => ?_
 ·simp at h1
 ·try refine xst ?_
  refine cI (fun h2 => ?_) fun h2 => ?_
  ·omega
  ·try refine xst ?_
   refine cI (fun h3 => ?_) fun h3 => ?_
   ·try refine xst ?_
    refine caM [3] (D) ?_
    try refine xst ?_
    refine cI (fun h4 => ?_) fun h4 => ?_
    ·rw[if_neg h4]
     try refine xst ?_
     exact xrz rfl
    ·rw[if_pos h4]
     try refine xst ?_
     exact xrz rfl
   ·exact absurd hk h3
theorem yk4 (h:Hst) (c:Clq) (WR:Cel→List Int) (hWR:∀a,zat h.sty.start.f [a] (WR a)) (hl:HstL h) (hb:HstB h) (hE:zsl WR h=0) (h0:za9 h.seats=0) (hg:∀i,i<h.seats.length→zg3 h i=true) (hk:c.kind=3):Spec Tryz.prog 9 [ztu h,yhl c] [] (doA (doV WR h c)) []:=by
 have C:=zkp h WR hWR hl
 have D:=yc1 h c.by_ c.at_ hl h0 hg
 have eV:doV WR h c=if zuf h c.by_ c.at_=0 then (zue h c.by_ c.at_,⟨#[]⟩,0)else (h,⟨#[]⟩,zuf h c.by_ c.at_):=by unfold doV;rw[if_neg (by omega),if_neg (by omega),if_pos hk]
 rw[hE]at C
 rw[eV]
 refine spB Tryz.func9 51 [.cell 4 40,.tmp 5,.tmp 6] Tryz.results9 ?_
 try refine xst ?_
 refine caP (ziq h hb) ?_
 try refine xst ?_
 refine caP (C) ?_
 try refine xst ?_
 refine cI (fun h1 => ?_) fun h1 => ?_
 ·simp at h1
 ·try refine xst ?_
  refine cI (fun h2 => ?_) fun h2 => ?_
  ·omega
  ·try refine xst ?_
   refine cI (fun h3 => ?_) fun h3 => ?_
   ·omega
   ·try refine xst ?_
    refine cI (fun h4 => ?_) fun h4 => ?_
    ·try refine xst ?_
     refine caM [3] (D) ?_
     try refine xst ?_
     refine cI (fun h5 => ?_) fun h5 => ?_
     ·rw[if_neg h5]
      try refine xst ?_
      exact xrz rfl
     ·rw[if_pos h5]
      try refine xst ?_
      exact xrz rfl
    ·exact absurd hk h4
theorem yk3 (h:Hst) (c:Clq) (WR:Cel→List Int) (hWR:∀a,zat h.sty.start.f [a] (WR a)) (hl:HstL h) (hb:HstB h) (hE:zsl WR h=0) (hk:¬(1≤c.kind∧c.kind≤3)):Spec Tryz.prog 9 [ztu h,yhl c] [] (doA (doV WR h c)) []:=by
 have C:=zkp h WR hWR hl
 have eV:doV WR h c=(h,⟨#[]⟩,1):=by unfold doV;rw[if_neg (by omega),if_neg (by omega),if_neg (by omega)]
 rw[hE]at C
 rw[eV]
 refine spB Tryz.func9 51 [.cell 4 40,.tmp 5,.tmp 6] Tryz.results9 ?_
 try refine xst ?_
 refine caP (ziq h hb) ?_
 try refine xst ?_
 refine caP (C) ?_
 try refine xst ?_
 refine cI (fun h1 => ?_) fun h1 => ?_
 ·simp at h1
 ·try refine xst ?_
  refine cI (fun h2 => ?_) fun h2 => ?_
  ·omega
  ·try refine xst ?_
   refine cI (fun h3 => ?_) fun h3 => ?_
   ·omega
   ·try refine xst ?_
    refine cI (fun h4 => ?_) fun h4 => ?_
    ·omega
    ·try refine xst ?_
     refine cI (fun h5 => ?_) fun h5 => ?_
     ·try refine xst ?_
      exact xrz rfl
     ·simp at h5
end Go.Proofs.YtmjbgbmegbkmhaaGreat
namespace Go.Proofs.YtmjbgbmegbkmhaaGreat
set_option linter.all false
open Go.RowKit
set_option maxRecDepth 100000
set_option maxHeartbeats 1000000
theorem zns (most:Int) (l:List Sea) (n:Nat):(itS most n ([],l.map zbz)).2.length=l.length∧((itS most n ([],l.map zbz)).1.length:Int)≤max most 0∧((∀s∈l,zgi s)→∀s∈(itS most n ([],l.map zbz)).2,zgi s):=by
 have tkl:∀(m:List Sea) (out:List Ord),(∀s∈m,zgi s)→∀s∈(tkS most out m).2,zgi s:=by
  intro m
  induction m with
  | nil=>intro out _ s hs;simp[tkS]at hs
  | cons x r ih =>
   intro out hm s hs
   unfold tkS at hs
   split at hs
   ·rcases List.mem_cons.1 hs with rfl|hs
    ·have:=hm x (by simp);unfold zgi at this ⊢;simp only[List.length_drop];omega
    ·exact ih _ (fun s h=>hm s (by simp[h])) s hs
   ·rcases List.mem_cons.1 hs with rfl|hs
    ·exact hm _ (by simp)
    ·exact ih _ (fun s h=>hm s (by simp[h])) s hs
 induction n with
 | zero=>exact⟨by simp[itS],by simp[itS];omega,fun h s hs=>by simp only[itS]at hs;obtain⟨t,ht,rfl⟩:=List.mem_map.1 hs;exact h t ht⟩
 | succ n ih =>
  rw[zkn]
  exact⟨by rw[z0a];exact ih.1,z0b most _ _ ih.2.1,fun h=>tkl _ _ (ih.2.2 h)⟩
end Go.Proofs.YtmjbgbmegbkmhaaGreat
namespace Go.Proofs.YtmjbgbmegbkmhaaGreat
set_option linter.all false
open Go.RowKit
set_option maxRecDepth 100000
set_option maxHeartbeats 2000000
theorem z0s:∀(n m:Nat) (g:List Nat),(zml n m g).2.length=g.length
 | 0,_,_=>rfl
 | n+1,m,g=>by
  rw[zml]
  split
  ·rfl
  ·rw[z0s n,zv6]
theorem z8d (m:Nat) (xs:List Nat) (b a:Int):(zcv m xs b a).1.2.length≤xs.length:=by
 unfold zcv
 repeat' split
 all_goals(first|(simp;done)|(rw[z0s];simp))
theorem ztt {WR:Cel→List Int} {h:Hst} (hE:zsl WR h=0):za9 h.seats=0∧(1≤h.most∧h.most≤100)∧∀i,i<h.seats.length→zg3 h i=true:=by
 unfold zsl at hE
 split at hE
 ·rename_i x;exact absurd hE x
 split at hE
 ·rename_i x;exact absurd hE x
 rename_i h2
 split at hE
 ·rename_i x;exact absurd hE x
 split at hE
 ·omega
 rename_i h4
 split at hE
 ·omega
 split at hE
 ·rename_i ha
  exact⟨by simpa using h2,by omega,fun i hi=>List.all_eq_true.1 ha i (List.mem_range.2 hi)⟩
 ·omega
theorem zqg (h:Hst) (hm:h.most≤100):(zcy h).length≤100:=by
 have:=(zns h.most h.seats 50).2.1
 unfold zcy zde
 omega
theorem zph (most:Int) (l:List Sea):(zde most l).2.length=l.length∧((∀s∈l,zgi s)→∀s∈(zde most l).2,zgi s):=by
 have h:=zns most l 50
 unfold zde
 exact⟨h.1,h.2.2⟩
structure HstS (h : Hst) : Prop where
 s:StyL h.sty
 l:h.seats.length≤9223372036854775807
 a:∀s∈h.seats,zgi s
 g:h.ag.length≤9223372036854775807
theorem HstL.s' {h:Hst} (hl:HstL h):HstS h:=⟨hl.s,hl.l,hl.a,hl.g⟩
theorem ygb (w:Wld) (n:Int) (hl:zf7 w) (hb:w.bases.length≤9223372036854775807):HstS (zsj w n):=by
 unfold zsj
 split
 ·refine⟨⟨hl,fun l h=>by simp at h,Nat.zero_le _⟩,by simp only[List.length_replicate];exact hb,fun s hs => ?_,by simp only[List.length_replicate];omega⟩
  rw[(List.mem_replicate.1 hs).2];exact Nat.zero_le _
 ·exact⟨z89,Nat.zero_le _,fun s hs=>by exact absurd hs List.not_mem_nil,Nat.zero_le _⟩
theorem ylc {WR:Cel→List Int} {h:Hst} (c:Clq) (hl:HstL h) (hE:zsl WR h=0):HstS (doV WR h c).1:=by
 obtain⟨h0,hm,-⟩:=ztt hE
 have h50:=(zco h0).2.2.1
 have h8:=(zco h0).2.1
 unfold doV
 split
 ·split
  ·refine⟨hl.s,by simp only[zu9,List.length_set];omega,fun s hs => ?_,hl.g⟩
   rcases List.mem_or_eq_of_mem_set hs with e|e
   ·exact hl.a s e
   ·subst e
    unfold zgi
    simp only[List.length_append,List.length_cons,List.length_nil]
    by_cases hi:c.o.by_.toNat<h.seats.length
    ·have:=h50 _ (zbj h.seats c.o.by_.toNat hi)
     omega
    ·have:(h.seats.getD c.o.by_.toNat default)=default:=by rw[List.getD_eq_getElem?_getD,List.getElem?_eq_none (by omega)];rfl
     rw[this];decide
  ·exact hl.s'
 split
 ·split
  ·unfold zj5
   split
   ·exact hl.s'
   ·have hcl:=zph h.most h.seats
    have hml:=yb4 h.sty (zcy h) WR hl.s (by have:=zqg h hm.2;omega)
    generalize zde h.most h.seats=V at *
    generalize zg8 WR h.sty (zcy h)=M at *
    exact⟨hml,by rw[hcl.1];omega,hcl.2 hl.a,hl.g⟩
  ·exact hl.s'
 split
 ·split
  ·unfold zue
   split
   ·exact hl.s'
   ·refine⟨hl.s,by show (zck _ _ _ _).length≤_;rw[zdq];omega,yfg (zex h0 _ (Nat.le_refl _)),?_⟩
    exact Nat.le_trans (z8d _ _ _ _) hl.g
  ·exact hl.s'
 ·exact hl.s'
theorem ycy (h:Hst) (c:Clq) (WR:Cel→List Int) (hWR:∀a,zat h.sty.start.f [a] (WR a)) (hl:HstL h) (hb:HstB h) (hE:zsl WR h=0):Spec Tryz.prog 9 [ztu h,yhl c] [] (doA (doV WR h c)) []:=by
 obtain⟨h0,hm,hg⟩:=ztt hE
 have hlen:(zcy h).length≤9223372036854775807:=by have:=zqg h hm.2;omega
 by_cases k1:c.kind=1
 ·exact yk6 h c WR hWR hl hb hE k1
 by_cases k2:c.kind=2
 ·exact yk5 h c WR hWR hl hb hE h0 hm hlen k2
 by_cases k3:c.kind=3
 ·exact yk4 h c WR hWR hl hb hE h0 hg k3
 ·exact yk3 h c WR hWR hl hb hE (by omega)
end Go.Proofs.YtmjbgbmegbkmhaaGreat
namespace Go.Proofs.YtmjbgbmegbkmhaaGreat
set_option linter.all false
open Go.RowKit
set_option maxRecDepth 100000
set_option maxHeartbeats 1000000
theorem z0r {s:Sea} {i:Int} (h1:0≤s.late∧s.late≤1000000) (h2:s.gone=true→s.late=0∧s.waits.length=0) (h3:∀o∈s.waits,o.by_=i∧ze5 o=0):zqj s i=true:=by
 unfold zqj zm4
 simp only[Bool.and_eq_true,Bool.not_eq_true',Bool.or_eq_false_iff,Bool.not_eq_false',within_iff,List.any_eq_false]
 refine⟨⟨h1,?_⟩,fun o ho => ?_⟩
 ·cases hg:s.gone with
  | false=>rfl
  | true =>
   obtain⟨a,b⟩:=h2 hg
   simp[a,b]
 ·obtain⟨a,b⟩:=h3 o ho
  unfold zjy
  simp[a,b]
def SubS (s t:Sea):Prop:=t.late=s.late∧t.gone=s.gone∧t.waits.length≤s.waits.length∧∀o∈t.waits,o∈s.waits
theorem SubS.refl (s:Sea):SubS s s:=⟨rfl,rfl,Nat.le_refl _,fun _ h=>h⟩
theorem SubS.trans {a b c:Sea} (h:SubS a b) (k:SubS b c):SubS a c:=⟨k.1.trans h.1,k.2.1.trans h.2.1,Nat.le_trans k.2.2.1 h.2.2.1,fun o ho=>h.2.2.2 o (k.2.2.2 o ho)⟩
theorem zs0 (most:Int):∀(l:List Sea) (out:List Ord) (k:Nat),SubS (l.getD k default) ((tkS most out l).2.getD k default)
 | [],_,_=>SubS.refl _
 | s::r,out,k=>by
  unfold tkS
  split
  ·cases k with
   | zero=>exact⟨rfl,rfl,by simp,fun o ho=>List.mem_of_mem_drop ho⟩
   | succ k=>exact zs0 most r _ k
  ·cases k with
   | zero=>exact SubS.refl _
   | succ k=>exact zs0 most r _ k
theorem z2k (most:Int):∀(n:Nat) (x:List Ord × List Sea) (k:Nat),SubS (x.2.getD k default) ((itS most n x).2.getD k default)
 | 0,_,_=>SubS.refl _
 | n+1,x,k=>by rw[itS];exact(zs0 most x.2 x.1 k).trans (z2k most n _ k)
theorem ych (l:List Sea) (k:Nat) (hk:k<l.length):(l.map zbz).getD k default=zbz (l.getD k default):=by
 simp[hk]
theorem zsc (most:Int) (l:List Sea) (k:Nat) (hk:k<l.length):SubS (zbz (l.getD k default)) ((zde most l).2.getD k default):=by
 have:=z2k most 50 ([],l.map zbz) k
 rw[show (([],l.map zbz):List Ord × List Sea).2=l.map zbz from rfl,ych l k hk]at this
 exact this
theorem zub {most:Int} {l:List Sea} (h:za9 l=0):za9 (zde most l).2=0:=by
 obtain⟨h1,h2,h3,h4⟩:=zco h
 have hl:=(zph most l).1
 have CS:=zsc most l
 generalize zde most l=V at *
 unfold za9
 rw[if_neg (by omega),if_neg,if_pos]
 ·rw[List.all_eq_true]
  intro i hi
  have hi:=List.mem_range.1 hi
  have hi':i<l.length:=by omega
  obtain⟨a,b,c,d⟩:=CS i hi'
  obtain⟨r1,r2,r3⟩:=zs5 (h4 i hi')
  refine z0r ?_ ?_ ?_
  ·rw[a];unfold zbz;simp only
   split
   ·decide
   ·split
    ·exact r1
    ·omega
  ·intro hg
   rw[b]at hg
   obtain⟨q1,q2⟩:=r2 hg
   have hg':(l.getD i default).gone=true:=hg
   have hw:(zbz (l.getD i default)).waits.length=0:=q2
   refine⟨?_,by omega⟩
   rw[a];unfold zbz;simp only
   rw[if_neg (by omega),if_pos hg'];exact q1
  ·intro o ho
   exact r3 o (d o ho)
 ·rw[List.any_eq_true]
  rintro⟨s,hs,hx⟩
  rw[decide_eq_true_iff]at hx
  obtain⟨i,hi,rfl⟩:=List.getElem_of_mem hs
  have hi':i<l.length:=by omega
  obtain⟨a,b,c,d⟩:=CS i hi'
  have hc:V.2.getD i default=V.2[i]:=zag _ _ hi
  rw[hc]at c
  have h5:(zbz (l.getD i default)).waits.length≤50:=h3 (l.getD i default) (zbj l i hi')
  omega
theorem zze (most:Int) (l:List Sea) (k:Nat) (hk:k<l.length):((zde most l).2.getD k default).gone=(l.getD k default).gone:=(zsc most l k hk).2.1
theorem zme (n k j:Nat) (hn:n<4294967296) (hk:k<32) (hj:j<32):zdb (clr n k) j=(zdb n j && !decide (j=k)):=by
 rw[←z4m n k hn hk,zg1,zg1,Nat.testBit_and,show 4294967295-2 ^ k=2 ^ 32-(2 ^ k+1)from by omega,Nat.testBit_two_pow_sub_succ (by have:=(zyh k hk).2;omega),Nat.testBit_two_pow,decide_eq_true hj,Bool.true_and]
 congr 2
 rw[decide_eq_decide];omega
structure VInv (m : Nat) (g : List Nat) : Prop where
 p:0<m
 l:m≤65535
 n:g.length=16
 e:∀s∈g,s<4294967296
 b:∀k j,k<16→j<32→zdb (g.getD k 0) j=true→zdb m k=true∧zdb m j=true∧j≠k
theorem znm {g:List Nat} (h:∀s∈g,s<4294967296) (k:Nat):g.getD k 0<4294967296:=by
 rcases Nat.lt_or_ge k g.length with hk|hk
 ·rw[List.getD_eq_getElem?_getD,List.getElem?_eq_getElem hk];exact h _ (List.getElem_mem _)
 ·rw[List.getD_eq_getElem?_getD,List.getElem?_eq_none hk];decide
theorem yad {m:Nat} {g:List Nat} (h:zba m g=0) (hg:∀s∈g,s<4294967296):VInv m g:=by
 obtain⟨h1,h2,h3,h4⟩:=zi4 m g h
 refine⟨h1.1,h1.2,h2,hg,fun k j hk hj hb => ?_⟩
 have hs:=znm hg k
 have hn:=not_congr (z4j m k (g.getD k 0) (by omega) hs (by omega))
 rw[h3 k hk]at hn
 have hx:=hn.1 (by decide)
 have hr:yeo m k (g.getD k 0) j=false:=by
  rcases hq:yeo m k (g.getD k 0) j with _|_
  ·rfl
  ·exact absurd ⟨j,hj,hq⟩ hx
 unfold yeo at hr
 rw[hb]at hr
 simp only[Bool.true_and,Bool.or_eq_false_iff,Bool.not_eq_false',decide_eq_false_iff_not]at hr
 exact⟨hr.1.1,hr.1.2,hr.2⟩
theorem ybz {m:Nat} {g:List Nat} (h:VInv m g) (ht:zn2 m g=none):zba m g=0:=by
 unfold zba
 rw[if_neg (by have:=h.p;have:=h.l;omega),if_neg (fun x=>x h.n),if_neg,if_neg]
 ·rw[ht];decide
 ·rw[List.any_eq_true]
  rintro⟨k,hk,hb⟩
  have hk:=List.mem_range.1 hk
  obtain⟨j,hj,hr⟩:=(z4j m k (g.getD k 0) (by have:=h.l;omega) (znm h.e k) (by omega)).1 hb
  unfold yeo at hr
  rw[Bool.and_eq_true]at hr
  obtain⟨a,b,c⟩:=h.b k j hk hj hr.1
  rw[a,b]at hr
  simp[c]at hr
theorem ygc {s:Nat} (h:s≠0) (hs:s<4294967296):∃j,j<32∧zdb s j=true:=by
 obtain⟨j,hj⟩:=Nat.exists_testBit_of_ne_zero h
 refine⟨j,?_,by rw[zg1];exact hj⟩
 rcases Nat.lt_or_ge j 32 with h|h
 ·exact h
 ·rw[Nat.testBit_lt_two_pow (Nat.lt_of_lt_of_le hs (show 2 ^ 32≤2 ^ j from Nat.pow_le_pow_right (by decide) h))]at hj
  exact absurd hj (by decide)
theorem ydz {s j:Nat} (h:zdb s j=true):0<s:=by
 rcases Nat.eq_zero_or_pos s with rfl|h1
 ·unfold zdb at h;simp at h
 ·exact h1
theorem ykr (g:List Nat) (k i:Nat):(lv g k).getD i 0=if i=k then 0 else clr (g.getD i 0) k:=by
 unfold lv
 rw[List.getD_eq_getElem?_getD,List.getElem?_map,List.getElem?_set]
 by_cases h:k=i
 ·rw[if_pos h,if_pos h.symm]
  split<;>simp[zpg]
 ·rw[if_neg h,if_neg (fun x=>h x.symm),List.getD_eq_getElem?_getD]
  cases g[i]? <;> simp[zpg]
theorem yae {m:Nat} {g:List Nat} {k:Nat} (h:VInv m g) (ht:zn2 m g=some k):VInv (clr m k) (lv g k):=by
 obtain⟨hk,_,h0⟩:=zh3 m g k ht
 have hk16:k<16:=by have:=h.n;omega
 have hm:m<4294967296:=by have:=h.l;omega
 have hgk:g.getD k 0=g[k]:=by rw[List.getD_eq_getElem?_getD,List.getElem?_eq_getElem hk];rfl
 obtain⟨j,hj,hb⟩:=ygc (s:=g.getD k 0) (by rw[hgk];exact h0) (znm h.e k)
 obtain⟨b1,b2,b3⟩:=h.b k j hk16 hj hb
 refine⟨?_,Nat.le_trans (znr _ _) h.l,by rw[zv6];exact h.n,fun s hs => ?_,fun i q hi hq hb => ?_⟩
 ·refine ydz (j:=j) ?_
  rw[zme m k j hm (by omega) hj,b2,decide_eq_false b3];rfl
 ·unfold lv at hs
  obtain⟨t,ht,rfl⟩:=List.mem_map.1 hs
  refine Nat.lt_of_le_of_lt (znr _ _) ?_
  rcases List.mem_or_eq_of_mem_set ht with e|e
  ·exact h.e t e
  ·rw[e];decide
 ·rw[ykr]at hb
  split at hb
  ·unfold zdb at hb;simp at hb
  ·rename_i hik
   rw[zme _ k q (znm h.e i) (by omega) hq,Bool.and_eq_true]at hb
   obtain⟨c1,c2⟩:=hb
   have c2:¬q=k:=by simpa using c2
   obtain⟨d1,d2,d3⟩:=h.b i q hi hq c1
   rw[zme m k i hm (by omega) (by omega),zme m k q hm (by omega) hq,d1,d2,decide_eq_false hik,decide_eq_false c2]
   exact⟨rfl,rfl,d3⟩
theorem zun:∀(n m:Nat) (g:List Nat),VInv m g→nz g≤n→VInv (zml n m g).1 (zml n m g).2∧zn2 (zml n m g).1 (zml n m g).2=none∧∀j,j<32→zdb (zml n m g).1 j=true→zdb m j=true
 | 0,m,g,h,hn=>by
  refine⟨h,?_,fun j _ hj=>hj⟩
  show zn2 m g=none
  cases ht:zn2 m g with
  | none=>rfl
  | some k =>
   obtain⟨hk,_,h0⟩:=zh3 m g k ht
   have:=z6j g k hk h0
   omega
 | n+1,m,g,h,hn=>by
  rw[zml]
  cases ht:zn2 m g with
  | none=>exact⟨h,ht,fun j _ hj=>hj⟩
  | some k =>
   obtain⟨hk,_,h0⟩:=zh3 m g k ht
   have hz:=z6j g k hk h0
   have hk16:k<16:=by have:=h.n;omega
   obtain⟨a,b,c⟩:=zun n (clr m k) (lv g k) (yae h ht) (by omega)
   refine⟨a,b,fun j hj hb => ?_⟩
   have:=c j hj hb
   rw[zme m k j (by have:=h.l;omega) (by omega) hj,Bool.and_eq_true]at this
   exact this.1
theorem ybp {n k j:Nat} (hn:n<4294967296) (hk:k<32) (hb:zdb n k=false) (h:zdb (n+2 ^ k) j=true):zdb n j=true∨j=k:=by
 rw[←(z1h n k hn hk hb).1,zg1,Nat.testBit_or,Nat.testBit_two_pow,Bool.or_eq_true,decide_eq_true_iff]at h
 rw[zg1]
 rcases h with h|h
 ·exact .inl h
 ·exact .inr h.symm
theorem z4z {m:Nat} {g:List Nat} {a b:Nat} (h:VInv m g) (ha:a<16) (hb:b<32) (hma:zdb m a=true) (hmb:zdb m b=true) (hne:b≠a) (h0:zdb (g.getD a 0) b=false):VInv m (g.set a (g.getD a 0+2 ^ b)):=by
 refine⟨h.p,h.l,by rw[List.length_set];exact h.n,fun s hs => ?_,fun k j hk hj hb' => ?_⟩
 ·rcases List.mem_or_eq_of_mem_set hs with e|e
  ·exact h.e s e
  ·rw[e];exact(z1h _ b (znm h.e a) hb h0).2
 ·rw[List.getD_eq_getElem?_getD,List.getElem?_set]at hb'
  by_cases hka:a=k
  ·rw[if_pos hka,if_pos (by rw[h.n];exact ha)]at hb'
   subst hka
   rcases ybp (znm h.e a) hb h0 hb' with x|x
   ·exact h.b a j hk hj x
   ·subst x;exact⟨hma,hmb,hne⟩
  ·rw[if_neg hka,←List.getD_eq_getElem?_getD]at hb'
   exact h.b k j hk hj hb'
theorem z2x {m:Nat} {a:Int} (hm:m≤65535) (h:zhx m a=true):∃k:Nat,k<16∧a=(k:Int)∧zdb m k=true:=by
 by_cases h1:0≤a∧a<16
 ·refine⟨a.toNat,by omega,by omega,?_⟩
  rw[←ztx m a.toNat (by omega),show ((a.toNat:Nat):Int)=a by omega];exact h
 ·rw[ztw m a (by omega) h1]at h
  exact absurd h (by decide)
theorem zzg {m:Nat} {g:List Nat} {b a:Int} (hg:∀s∈g,s<4294967296) (h:(zcv m g b a).2.2=0):zba (zcv m g b a).1.1 (zcv m g b a).1.2=0∧(zcv m g b a).1.1<4294967296∧(∀s∈(zcv m g b a).1.2,s<4294967296)∧(zcv m g b a).1.2.length=16∧∀j,j<32→zdb (zcv m g b a).1.1 j=true→zdb m j=true:=by
 unfold zcv at h ⊢
 split at h
 ·rename_i x;exact absurd h x
 rename_i h1
 have h1:zba m g=0:=by simpa using h1
 rw[if_neg (fun x=>x h1)]
 have I:=yad h1 hg
 split at h
 ·exact absurd h (by decide)
 rename_i h2
 rw[if_neg h2]
 have h2:(zhx m b&&zhx m a)=true:=by simpa using h2
 rw[Bool.and_eq_true]at h2
 obtain⟨kb,hkb,rfl,hb⟩:=z2x I.l h2.1
 obtain⟨ka,hka,rfl,ha⟩:=z2x I.l h2.2
 split at h
 ·exact absurd h (by decide)
 rename_i h3
 rw[if_neg h3]
 split at h
 ·exact absurd h (by decide)
 rename_i h4
 rw[if_neg h4]
 rw[Int.toNat_natCast,Int.toNat_natCast]at *
 have J:=z4z (a:=ka) (b:=kb) I hka (by omega) ha hb (by omega) (by simpa using h4)
 have hz:=yf7 (g.set ka (g.getD ka 0+2 ^ kb))
 rw[J.n]at hz
 obtain⟨a1,a2,a3⟩:=zun 16 m _ J hz
 exact⟨ybz a1 a2,Nat.lt_of_le_of_lt a1.l (by decide),a1.e,a1.n,a3⟩
theorem zko {WR:Cel→List Int} {h:Hst} (hE:zsl WR h=0):zps WR h.sty=0∧za9 h.seats=0∧zba h.m h.ag=0∧(1≤h.most∧h.most≤100)∧h.seats.length=h.sty.start.bases.length∧h.m/2 ^ h.seats.length=0∧∀i,i<h.seats.length→zg3 h i=true:=by
 have hE0:=hE
 unfold zsl at hE
 split at hE
 ·rename_i x;exact absurd hE x
 rename_i h1
 split at hE
 ·rename_i x;exact absurd hE x
 split at hE
 ·rename_i x;exact absurd hE x
 rename_i h3
 split at hE
 ·omega
 split at hE
 ·omega
 rename_i h5
 have hx:h.seats.length=h.sty.start.bases.length∧h.m/2 ^ h.seats.length=0:=by
  rw[not_or,Decidable.not_not,Decidable.not_not]at h5;exact h5
 obtain⟨a,b,c⟩:=ztt hE0
 exact⟨by simpa using h1,a,by simpa using h3,b,hx.1,hx.2,c⟩
theorem zo3 {WR:Cel→List Int} {h:Hst} (a:zps WR h.sty=0) (b:za9 h.seats=0) (c:zba h.m h.ag=0) (d:1≤h.most∧h.most≤100) (e:h.seats.length=h.sty.start.bases.length) (f:h.m/2 ^ h.seats.length=0) (g:∀i,i<h.seats.length→zg3 h i=true):zsl WR h=0:=by
 unfold zsl
 rw[if_neg (fun x=>x a),if_neg (fun x=>x b),if_neg (fun x=>x c),if_neg (fun x=>x d),if_neg (by rw[not_or,Decidable.not_not,Decidable.not_not];exact⟨e,f⟩),if_pos]
 rw[List.all_eq_true]
 exact fun i hi=>g i (List.mem_range.1 hi)
theorem znd {WR:Cel→List Int} {s:Sty} {l:List Ord} (h:zf8 WR s l=0):zps WR s=0∧s.turns.length≤199∧zb4 l (zfo WR s.turns s.start)=0∧zg8 WR s l=⟨s.start,s.turns ++ [l]⟩∧zps WR (zg8 WR s l)=0:=by
 have hs:zg8 WR s l=⟨s.start,s.turns ++ [l]⟩:=if_pos h
 unfold zf8 at h
 split at h
 ·rename_i x;exact absurd h x
 rename_i h1
 have h1:zps WR s=0:=by simpa using h1
 split at h
 ·omega
 rename_i h2
 rw[show zg4 WR s.turns s.start=zfo WR s.turns s.start from if_pos h1]at h
 refine⟨h1,by omega,h,hs,?_⟩
 rw[hs]
 obtain⟨k1,k2,k3⟩:=zer h1
 show zdm WR (s.turns ++ [l]) s.start=0
 unfold zdm
 rw[if_neg (by rw[List.length_append];simp;omega),if_neg (fun hn=>hn k2.e),zib,if_neg (fun x=>x k3),zg5,if_neg (fun x=>x h)]
 rfl
structure HOk (WR : Cel → List Int) (h : Hst) : Prop where
 e:zsl WR h=0
 l:HstL h
theorem ydl {a b k:Nat} (h:a≤b) (hb:b/2 ^ k=0):a/2 ^ k=0:=by
 have:=Nat.div_le_div_right (c:=2 ^ k) h
 exact Nat.le_zero.1 (Nat.le_trans this (Nat.le_of_eq hb))
theorem zl0 (m m':Nat) (l:List Sea) (j:Nat) (hj:j<l.length):∀k,k≤l.length→((zck m m' l k).getD j default).gone=if j<k∧zry m m' j=true then true else (l.getD j default).gone
 | 0,_=>by rw[if_neg (by omega)];rfl
 | k+1,hk=>by
  have ih:=zl0 m m' l j hj k (by omega)
  have hlen:=zdq m m' l k
  unfold zck
  split
  ·rename_i hg
   unfold zhd
   rw[List.getD_eq_getElem?_getD,List.getElem?_set,Int.toNat_natCast]
   by_cases h:k=j
   ·rw[if_pos h,if_pos (by omega),if_pos ⟨by omega,h▸hg⟩];rfl
   ·rw[if_neg h,←List.getD_eq_getElem?_getD,ih]
    by_cases h2:zry m m' j=true
    ·by_cases h3:j<k
     ·rw[if_pos ⟨h3,h2⟩,if_pos ⟨by omega,h2⟩]
     ·rw[if_neg (fun x=>h3 x.1),if_neg (fun x=>h3 (by omega))]
    ·rw[if_neg (fun x=>h2 x.2),if_neg (fun x=>h2 x.2)]
  ·rename_i hg
   rw[ih]
   by_cases h2:zry m m' j=true
   ·by_cases h3:j<k
    ·rw[if_pos ⟨h3,h2⟩,if_pos ⟨by omega,h2⟩]
    ·have:j≠k:=fun x=>hg (x▸h2)
     rw[if_neg (fun x=>h3 x.1),if_neg (fun x=>h3 (by omega))]
   ·rw[if_neg (fun x=>h2 x.2),if_neg (fun x=>h2 x.2)]
theorem z5n {l:List Sea} {o:Ord} (h:zqm l o=0):za9 (zu9 l o)=0∧(zu9 l o).length=l.length∧∀j,((zu9 l o).getD j default).gone=(l.getD j default).gone:=by
 have hl:(zu9 l o).length=l.length:=by unfold zu9;rw[List.length_set]
 have hg:∀j,((zu9 l o).getD j default).gone=(l.getD j default).gone:=fun j=>by
  unfold zu9
  rw[List.getD_eq_getElem?_getD,List.getElem?_set]
  by_cases hj:o.by_.toNat=j
  ·rw[if_pos hj]
   split
   ·subst hj;rfl
   ·rename_i hn;rw[List.getD_eq_getElem?_getD,List.getElem?_eq_none (by omega)]
  ·rw[if_neg hj,←List.getD_eq_getElem?_getD]
 refine⟨?_,hl,hg⟩
 unfold zqm at h
 split at h
 ·rename_i x;exact absurd h x
 rename_i h1
 have h1:za9 l=0:=by simpa using h1
 split at h
 ·rename_i x;exact absurd h x
 rename_i h2
 have h2:ze5 o=0:=by simpa using h2
 split at h
 ·omega
 rename_i h3
 split at h
 ·omega
 rename_i h4
 split at h
 ·omega
 rename_i h5
 obtain⟨s1,s2,s3,s4⟩:=zco h1
 have hb:=(zfs h2).1
 have hi:o.by_.toNat<l.length:=by omega
 have hw:(l.getD o.by_.toNat default).waits.length≤50:=s3 _ (zbj l _ hi)
 unfold za9
 rw[hl,if_neg (by omega),if_neg,if_pos]
 ·rw[List.all_eq_true]
  intro i hi2
  have hi2:=List.mem_range.1 hi2
  unfold zu9
  rw[List.getD_eq_getElem?_getD,List.getElem?_set]
  by_cases hj:o.by_.toNat=i
  ·rw[if_pos hj,if_pos (by omega)]
   obtain⟨r1,r2,r3⟩:=zs5 (s4 _ hi)
   refine z0r r1 (fun hg => ?_) (fun x hx => ?_)
   ·exact absurd hg h4
   ·rcases List.mem_append.1 hx with hx|hx
    ·have:=r3 x hx;rw[hj]at this;exact this
    ·rw[List.mem_singleton.1 hx];exact⟨by omega,h2⟩
  ·rw[if_neg hj,←List.getD_eq_getElem?_getD];exact s4 i hi2
 ·rw[List.any_eq_true]
  rintro⟨s,hs,hx⟩
  rw[decide_eq_true_iff]at hx
  unfold zu9 at hs
  rcases List.mem_or_eq_of_mem_set hs with e|e
  ·have:=s3 s e;omega
  ·subst e
   simp only[List.length_append,List.length_cons,List.length_nil]at hx
   omega
theorem HOk.step {WR:Cel→List Int} {h:Hst} (c:Clq) (H:HOk WR h):HOk WR (doV WR h c).1∧(doV WR h c).1.sty.start=h.sty.start:=by
 obtain⟨hE,hl⟩:=H
 obtain⟨e1,e2,e3,e4,e5,e6,e7⟩:=zko hE
 have L:=ylc (WR:=WR) c hl hE
 unfold doV at L ⊢
 split
 ·rename_i hk
  rw[if_pos hk]at L
  split
  ·rename_i h1
   rw[if_pos h1]at L
   obtain⟨s1,s2,s3⟩:=z5n h1
   refine⟨⟨zo3 e1 s1 e3 e4 (by rw[s2];exact e5) (by rw[s2];exact e6) (fun i hi => ?_),L.s,L.l,L.a,hl.m,L.g,hl.e⟩,rfl⟩
   have:=e7 i (by rw[←s2];exact hi)
   unfold zg3 at this ⊢
   simp only
   rw[s3];exact this
  ·exact⟨⟨hE,hl⟩,rfl⟩
 rename_i hk1
 rw[if_neg hk1]at L
 split
 ·rename_i hk
  rw[if_pos hk]at L
  split
  ·rename_i h1
   rw[if_pos h1]at L
   have hm:zf8 WR h.sty (zcy h)=0:=by
    unfold zh8 at h1
    split at h1
    ·exact h1
    ·rename_i x;simpa using x
   have eH:zj5 WR h = { h with seats:=(zde h.most h.seats).2,sty:=zg8 WR h.sty (zcy h) }:=by unfold zj5;rw[if_neg (fun x=>x hm)]
   obtain⟨m1,m2,m3,m4,m5⟩:=znd hm
   have hcl:=(zph h.most h.seats).1
   rw[eH]at L ⊢
   have hcr:=zub (most:=h.most) e2
   have hcg:=zze h.most h.seats
   generalize zde h.most h.seats=V at *
   refine⟨⟨zo3 m5 hcr e3 e4 ?_ ?_ (fun i hi => ?_),L.s,L.l,L.a,hl.m,L.g,hl.e⟩,?_⟩
   ·show V.2.length=(zg8 WR h.sty (zcy h)).start.bases.length
    rw[m4,hcl];exact e5
   ·show h.m/2 ^ V.2.length=0
    rw[hcl];exact e6
   ·have hi:i<h.seats.length:=by rw[←hcl];exact hi
    have:=e7 i hi
    unfold zg3 at this ⊢
    simp only
    rw[hcg i hi];exact this
   ·show (zg8 WR h.sty (zcy h)).start=_
    rw[m4]
  ·exact⟨⟨hE,hl⟩,rfl⟩
 rename_i hk2
 rw[if_neg hk2]at L
 split
 ·rename_i hk
  rw[if_pos hk]at L
  split
  ·rename_i h1
   rw[if_pos h1]at L
   have h1':(zcv h.m h.ag c.by_ c.at_).2.2=0:=h1
   obtain⟨v1,v2,v3,v4,v5⟩:=zzg hl.e h1'
   have hle:=zxc h.m h.ag c.by_ c.at_
   unfold zue at L ⊢
   rw[if_neg (fun x=>x h1)]at L ⊢
   generalize zcv h.m h.ag c.by_ c.at_=V at *
   have hln:=zdq h.m V.1.1 h.seats h.seats.length
   refine⟨⟨zo3 e1 (zex e2 _ (Nat.le_refl _)) v1 e4 ?_ ?_ (fun i hi => ?_),L.s,L.l,L.a,v2,L.g,v3⟩,rfl⟩
   ·show (zck h.m V.1.1 h.seats h.seats.length).length=_
    rw[hln];exact e5
   ·show V.1.1/2 ^ (zck h.m V.1.1 h.seats h.seats.length).length=0
    rw[hln];exact ydl hle e6
   ·have hi:i<h.seats.length:=by rw[←hln];exact hi
    have h8:=(zco e2).2.1
    have hx:=e7 i hi
    unfold zg3 at hx ⊢
    have hx:=of_decide_eq_true hx
    rw[decide_eq_true_iff]
    show ((zck h.m V.1.1 h.seats h.seats.length).getD i default).gone = !zdb V.1.1 i
    rw[zl0 h.m V.1.1 h.seats i hi _ (Nat.le_refl _)]
    have v5:=v5 i (by omega)
    unfold zry
    rw[hx]
    cases hb:zdb h.m i<;>cases hb':zdb V.1.1 i
    ·simp
    ·rw[hb,hb']at v5;exact absurd (v5 rfl) (by decide)
    ·simp[hi]
    ·simp
  ·exact⟨⟨hE,hl⟩,rfl⟩
 ·exact⟨⟨hE,hl⟩,rfl⟩
theorem HOk.b {WR:Cel→List Int} {h:Hst} (H:HOk WR h):HstB h:=by
 obtain⟨e1,e2,e3,e4,e5,e6,e7⟩:=zko H.e
 obtain⟨s1,s2,s3,s4⟩:=zco e2
 obtain⟨k1,k2,k3⟩:=zer e1
 have kl:=zia _ k3
 have hr:=k2
 obtain⟨v1,v2,-⟩:=zi4 _ _ e3
 obtain⟨l1,l2,l3,l4,l5⟩:=hr.l
 have hp:=hr.places
 have:=hr.ml
 have:=hr.sl
 have:=hr.nb
 have:=hr.nt
 exact⟨by omega,by omega,by omega,by omega,by omega,fun l hl=>by have:=kl l hl;omega,by omega,fun s hs=>by have:=s3 s hs;omega,by omega,by omega⟩
def z1g (c:List Int):Ord:=⟨c.getD 0 default,c.getD 1 default,c.getD 2 default,⟨c.getD 3 default,c.getD 4 default⟩,c.getD 5 default⟩
def zhb (ns:List Int) (k:Nat):List Ord:=(List.range k).map fun i=>z1g (zif ns 6 i)
theorem znb (ns:List Int) (k:Nat):(zhb ns k).length=k:=by simp[zhb]
def zeo (s:ByteArray):List Ord × Int :=
 if (zc9 s).2≠0 then ([],(zc9 s).2)
 else if (gaR (zc9 s).1).2≠0 then ([],(gaR (zc9 s).1).2)
 else if (gaR (zc9 s).1).1.length % 6≠0 then ([],4)
 else if zdn (zhb (gaR (zc9 s).1).1 ((gaR (zc9 s).1).1.length/6))≠0 then ([],zdn (zhb (gaR (zc9 s).1).1 ((gaR (zc9 s).1).1.length/6)))
 else (zhb (gaR (zc9 s).1).1 ((gaR (zc9 s).1).1.length/6),0)
theorem ydr (xs:List Int) (m:Nat) (hm:1≤m):Spec Tryz.prog 37 [.c (.sl 1 (xs.map zae)),I .i64 m] [] (.clo (.func 83) [] [.fel 1 [[.sl 1 (xs.map zae)]] 0 0,.fel 1 [[.v (.int .i64 m)]] 0 0]) []:=by
 refine spB Tryz.func37 9 [.tmp 4] Tryz.results37 ?_
 try refine xst ?_
 refine cI (fun h1 => ?_) fun h1 => ?_
 ·omega
 ·try refine xst ?_
  exact xrz rfl
theorem six {c:List Int} (h:c.length=6):∃a0 a1 a2 a3 a4 a5,c = [a0,a1,a2,a3,a4,a5]:=by
 match c,h with
 | [a0,a1,a2,a3,a4,a5],_=>exact⟨a0,a1,a2,a3,a4,a5,rfl⟩
theorem yft (s:ByteArray) (hs:s.size≤140737488351232):Spec Tryz.prog 10 [S s] [] (.tup [.c (.sl 6 ((zeo s).1.map zed)),I .i64 (zeo s).2]) []:=by
 obtain⟨r,hr⟩:∃r,r=zeo s:=⟨_,rfl⟩
 rw[←hr]
 have hsz:=zym s
 have hO:=ydo s hs
 unfold zeo at hr
 generalize zc9 s=o at *
 obtain⟨t,eo⟩:=o
 have hG:=z7h t (by simp at hsz;omega)
 have hgl:=z3i t
 simp only at hr hO
 generalize gaR t=g at *
 obtain⟨ns,eg⟩:=g
 simp only at hr hG hgl
 refine spB Tryz.func10 61 [.tmp 2,.tmp 3] Tryz.results10 ?_
 try refine xst ?_
 refine caP (hO) ?_
 try refine xst ?_
 refine cI (fun h1 => ?_) fun h1 => ?_
 ·rw[if_pos h1]at hr;subst hr
  try refine xst ?_
  exact xrz rfl
 ·rw[if_neg (fun hn=>hn h1)]at hr
  try refine xst ?_
  refine caP (hG) ?_
  try refine xst ?_
  refine cI (fun h2 => ?_) fun h2 => ?_
  ·rw[if_pos h2]at hr;subst hr
   try refine xst ?_
   exact xrz rfl
  ·rw[if_neg (fun hn=>hn h2)]at hr
   try refine xst ?_
   refine cI (fun h3 => ?_) fun h3 => ?_
   ·rw[if_pos (by omega)]at hr;subst hr
    try refine xst ?_
    exact xrz rfl
   ·rw[if_neg (by omega)]at hr
    have hq:ns.length=ns.length/6*6:=by omega
    try refine xst ?_
    refine caP (ydr ns 6 (by decide)) ?_
    try refine xst ?_
    refine ybf (by kernel_rfl) rfl (zzf ns 6 (ns.length/6) (by decide) (by decide) hq (by omega)) [(6,.ptr 0 0 0)] 1 2 (fun pre => [(0,.blk 53 [.own 1]),(1,.row 48 6 ((pre.map z1g).map zed))]) ((To.nilC 0 0 48 6 53 _ rfl rfl).trans (To.mk [0,1] rfl rfl (by decide) ?_ ?_)) (by decide) (by decide) (by decide) (fun pre=>by exact z1u rfl) (by kernel_rfl) (by decide) (by decide) (fun pre x hpl hpr hx => ?_) ?_
    ·simp(etaStruct := .none)only[push_cast,zab,seval,List.set_cons_zero,List.map_nil]
    ·simp(etaStruct := .none)only[push_cast,zab,seval]
    ·skip
     obtain⟨a0,a1,a2,a3,a4,a5,rfl⟩:=six hx
     simp only[List.length_map,List.length_range]at hpl
     iterate 2(try simp(etaStruct := .none)only[push_cast,zab,seval,z50,zae,List.map_cons,List.map_nil];try refine xsu ?_)
     (try(refine⟨by kernel_rfl,?_⟩))
     iterate 2(try simp(etaStruct := .none)only[push_cast,zab,seval,z50,zae,List.map_cons,List.map_nil];try refine xsu ?_)
     refine To.mk [0,90] rfl rfl (by decide) ?_ ?_
     ·(iterate 2((try simp(etaStruct := .none)only[push_cast,zab,seval,z50,List.map_append,List.map_cons,List.map_nil,zed,z1g,List.getD_cons_zero,List.getD_cons_succ]);(try(refine xsu ?_;try exact xtI))))
     ·(iterate 2((try simp(etaStruct := .none)only[push_cast,zab,seval,z50,zae,List.map_cons,List.map_nil]);(try(refine xsu ?_;try exact xtI))))
    simp only[show ((List.range (ns.length/6)).map (zif ns 6)).map z1g=zhb ns (ns.length/6)from by unfold zhb;rw[List.map_map];rfl]
    try refine xst ?_
    refine zcw (zvv (zhb ns (ns.length/6)) (by rw[znb];omega)) (WkL.refl _) rfl ?_
    try refine xst ?_
    refine cI (fun h4 => ?_) fun h4 => ?_
    ·rw[if_pos h4]at hr;subst hr;clear hq
     try refine xst ?_
     exact xrz rfl
    ·rw[if_neg (fun hn=>hn h4)]at hr;subst hr;clear hq
     try refine xst ?_
     exact xrz rfl
theorem z04 (s:ByteArray):(zeo s).1.length≤1000:=by
 unfold zeo
 have:=z3i (zc9 s).1
 repeat' split
 all_goals simp[znb]
 omega
end Go.Proofs.YtmjbgbmegbkmhaaGreat
