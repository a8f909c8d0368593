/- Lemmas for the proof of deskSays.proved. -/
import Derived.Test.YtgggemkjaccbhaaGreatDoorDSa4
import Derived.Test.YtgggemkjaccbhaaGreatDoorRows
import Derived.Deep.CondSized
import Derived.Lib.AppendIntMem
import Derived.Shelf.Strconv.Itoa3
namespace Go.Proofs.YtgggemkjaccbhaaGreatDoor
set_option linter.all false
open Go.RowKit Go.ChangeShapes Go.WideShapes Go.ChangeAt
theorem z8d {H:Type} {d:DataW H} {l:List (DataW H)} (h:d∈l):Rows.uptoBulk d≤Rows.uptoBulkAll l:=by
 induction l with
 | nil=>cases h
 | cons x r ih =>
  simp only[Rows.uptoBulkAll]
  cases List.mem_cons.1 h with
  | inl e=>subst e;omega
  | inr e=>have:=ih e;omega
theorem z3w {P:Program} {w:World} {H:Type} {eH:TypeId × Value→H} {T:TypeId} {s:ByteArray} {d:DataW H} {p:List MemPlace} {l:List (DataW H)}
 (h:DataW.Trod eH P w 0 (fun _=>true) true T (.string s) d p) (hT:P.underlying T=some .string) (hk:Rows.uptoSmall H l=true) (hd:d∈l):s.size≤1048576:=by
 obtain⟨fuel,hf⟩:=h
 obtain⟨s',hs',hd',_⟩:=DataW.trod_string hT hf
 simp only[pJ]at hd'
 obtain⟨rfl,_⟩:=hd'
 have hb:=z8d hd
 have hk':=of_decide_eq_true hk
 simp only[Value.cells,List.cons.injEq,Value.string.injEq,and_true]at hs'
 subst hs'
 have e:s.data.toList.length=s.size:=Array.length_toList
 simp only[Rows.uptoBulk]at hb
 omega
end Go.Proofs.YtgggemkjaccbhaaGreatDoor
namespace Go.Proofs.YtgggemkjaccbhaaGreatDoor
set_option linter.all false
open Go.RowKit
set_option maxRecDepth 100000
set_option maxHeartbeats 4000000
abbrev za5 (e:Int):Value := .iface 60 (.agg #[.int .i64 e])
theorem zk2:Spec Tryz.prog 47 [I .i64 0] [] (.tup []) []:=by
 refine spB Tryz.func47 7 [] Tryz.results47 ?_
 try refine xst ?_
 refine cI (fun h1=>?_) fun h1=>?_
 ·exact absurd h1 (by simp)
 ·try refine xst ?_
  exact xrz rfl
theorem zjh (e:Int) (h:e≠0):zc6 Tryz.prog 47 [I .i64 e] [] (.pan (za5 e) []):=by
 refine zdw (.pan (za5 e) []) [1] Tryz.func47 rfl rfl mix 7 rfl [] Tryz.results47 (Nat.le_of_ble_eq_true rfl) ?_
 try refine xst ?_
 refine cI (fun h1=>?_) fun h1=>?_
 ·try refine xst ?_
  refine zfn 3 ?_
  try refine xst ?_
  exact zfe yn7
 ·exact absurd h1 h
theorem zr5:Spec Tryz.prog 45 [B true] [] (.tup []) []:=by
 refine spB Tryz.func45 5 [] Tryz.results45 ?_
 try refine xst ?_
 refine cI (fun h1=>?_) fun h1=>?_
 ·exact absurd h1 (by simp)
 ·try refine xst ?_
  exact xrz rfl
theorem zlh:zc6 Tryz.prog 45 [B false] [] (.pan (za5 10) []):=by
 refine zdw (.pan (za5 10) []) [1] Tryz.func45 rfl rfl mix 5 rfl [] Tryz.results45 (Nat.le_of_ble_eq_true rfl) ?_
 try refine xst ?_
 refine cI (fun h1=>?_) fun h1=>?_
 ·try refine xst ?_
  refine zfn 0 ?_
  try refine xst ?_
  refine caN [] (zjh 10 (by decide)) ?_
  try refine xst ?_
  exact zfe yn7
 ·exact absurd h1 (by simp)
abbrev zi7 (ws:List ByteArray):Chunk := .blk 41 [.c (.sl 1 (ws.map zge))]
theorem zlg (s:ByteArray) (ws:List ByteArray) (hl:ws.length≤1048576):Spec Tryz.prog 44 [.ptr 0 0 0] [zi7 (s::ws)] (S s) [zi7 ws]:=by
 have hb:decide ((0:Int)<(ws.length:Int)+1)=true:=decide_eq_true (by omega)
 refine spB Tryz.func44 22 [.tmp 2] Tryz.results44 ?_
 try refine xz3 zaf hb Qa ?_
 refine caP (zr5) ?_
 try refine xz3 zaf hb Qa ?_
 refine zb9 [0] rfl rfl (by decide) ⟨?_,trivial⟩ trivial ?_
 ·exact xS1 zaf
 ·exact xS1 zaf
theorem z5u:zc6 Tryz.prog 44 [.ptr 0 0 0] [zi7 []] (.pan (za5 10) [.dead]):=by
 refine zdw (.pan (za5 10) [.dead]) [1] Tryz.func44 rfl rfl mix 22 rfl [.tmp 2] Tryz.results44 (Nat.le_of_ble_eq_true rfl) ?_
 try refine xst ?_
 refine zfn 5 ?_
 try refine xst ?_
 refine caN [] (zlh) ?_
 try refine xst ?_
 refine zfe (zfo [0] (ToK.refl _ _) rfl (by decide) (by decide) ⟨?_,trivial⟩)
 simp(etaStruct := .none)only[push_cast,zad,seval,zge]
def zah (l:List UInt8):ByteArray:=⟨l.toArray⟩
theorem zbe (a b:List UInt8):zah a++zah b=zah (a++b):=by
 apply ByteArray.ext
 simp[zah,ByteArray.data_append]
theorem ypi:(⟨#[10]⟩:ByteArray)=zah [10]:=rfl
theorem zaa (a:List UInt8):(zah a).size=a.length:=by
 show a.toArray.size=_
 simp
theorem zbo (l:List UInt8):(zah l).data.toList=l:=by simp[zah]
theorem zgd (l:List UInt8) (a b:Nat):(zah l).extract a b=zah ((l.take b).drop a):=by
 apply ByteArray.ext
 rw[ByteArray.data_extract]
 apply Array.ext'
 simp[zah,List.drop_take]
theorem zdp {P:Program} {f:FuncId} (hf:zhk P f) {args:List AV} {r:AV} (h:∀(w:World) (F:Nat→Prop) (β : Nat→Option Bind) (vs:List Value),Gl w F→(∀b,F b→b<w.heap.size)→RelL (· < 0) w F β args vs →
  Calls P f vs.toArray w fun e w'=>∃v,e = .returned v∧Below w.heap.size w w'∧∀U F' β',RelA U w' F' β' r v):Spec P f args [] r []:=by
 refine⟨hf,Nat.le_refl _,fun w F β vs M hv=>?_⟩
 refine(h w F β vs M.gl M.fin hv).mono ?_
 rintro e w' ⟨v,rfl,hb,hr⟩
 obtain⟨S1,S2⟩:=M.step (w':=w') (h':=nth []) (β' := β) (F':=F) (U':=(· < 0)) (fun _=>False) (fun _ _=>rfl) (fun _ _=>rfl) hb.os hb.tape hb.output hb.size (fun b h _=>hb.block b h) (fun _ h=>h) (fun _ h=>h)
  (fun b h=>⟨Nat.lt_of_lt_of_le (M.fin b h) hb.size,.inl h⟩) (fun _ _ h=>h.elim) (fun _ _ h=>h.elim) (fun _ _ _ _ _ h=>h.elim) (fun _ _ h=>h.elim)
 exact⟨v,F,β,rfl,S1,hr _ _ _,fun _ h=>h,fun _ h => .inl h,fun _ _ _ h=>⟨_,h⟩⟩
theorem yps : Tryz.prog.globalNamed "internal/strconv.uint64pow10" = some 3 := by kernel_rfl
theorem ydc {w : World} {F : Nat → Prop} (h : Gl w F) : Lib.TabIs Tryz.prog w "internal/strconv.uint64pow10" .u64 Lib.pow10Tab := by
 obtain⟨_,cs,ty,z,h1,h2⟩:=h (3,fun cs=>cs=(Lib.pow10Tab.map fun z=>Value.int .u64 z).toArray) (by simp[yh6])
 have h2:cs=(Lib.pow10Tab.map fun z=>Value.int .u64 z).toArray:=h2
 subst h2
 have h1:w.heap[3]? = _:=h1
 unfold Lib.TabIs World.var?
 simp only[yps,Option.bind_some,h1]
theorem z7e {w:World} {F:Nat→Prop} (h:Gl w F):∃m,w.cell? ⟨0,0,none⟩=some (.int .i64 m):=by
 obtain⟨_,cs,ty,z,h1,h2⟩:=h (0,fun cs=>∃m,cs = #[.int .i64 m]) (by simp[yh6])
 obtain⟨m,h2⟩:∃m,cs = #[.int .i64 m]:=h2
 subst h2
 have h1:w.heap[0]? = _:=h1
 exact⟨m,by simp[World.cell?,h1]⟩
theorem ydd {w:World} {F:Nat→Prop} (h:Gl w F) (b:Nat) (hb:b=6∨b=7):∃t p,w.cell? ⟨b,0,none⟩=some (.iface t p):=by
 obtain⟨_,cs,ty,z,h1,h2⟩:=h (b,fun cs=>∃t p,cs = #[.iface t p]) (by rcases hb with rfl|rfl<;>simp[yh6])
 obtain⟨t,p,h2⟩:∃t p,cs = #[.iface t p]:=h2
 subst h2
 have h1:w.heap[b]? = _:=h1
 exact⟨t,p,by simp[World.cell?,h1]⟩
theorem zz6 (n:Int) (h:zdu n):Spec Tryz.prog 17 [I .i64 n] [] (S (zah (Lib.itoa n))) [] :=
 zdp (zdi rfl rfl rfl) fun w F β vs g _ hv=>by
  simp only[RelL,RelA,RelP]at hv
  obtain⟨_,_,rfl,⟨rfl,_⟩,rfl⟩:=hv
  refine(Tryz.strconv_Itoa n h.1 h.2 w (ydc g)).mono ?_
  rintro e w' ⟨rfl,k,os,rfl⟩
  exact⟨_,rfl,Lib.below_grow _ _ (Nat.le_refl _) _ _,fun _ _ _=>relS.2 rfl⟩
theorem z95 {w:World} {F:Nat→Prop} {b o:Nat} {xs:List ByteArray} (h:RelE w F b 1 o (xs.map zge)):∀(j:Nat) (x:ByteArray),xs[j]? = some x→w.cell? ⟨b,o+j,none⟩=some (.string x):=fun j x hx=>by
 obtain⟨_,hC⟩:=h.at j (zge x) (by rw[List.getElem?_map,hx];rfl)
 obtain⟨u,hu,hr⟩:=hC.at 0 (.v (.string x)) rfl
 simp only[RelP]at hr
 rw[←hr.1];simpa using hu
theorem yc8 (xs:List ByteArray) (sep:ByteArray) (hN:xs.length≤1048576) (hl:(Lib.join (xs.map (·.data.toList)) sep.data.toList).length≤140737488355328):Spec Tryz.prog 18 [.c (.sl 1 (xs.map zge)),S sep] [] (S (zah (Lib.join (xs.map (·.data.toList)) sep.data.toList))) [] :=
 zdp (zdi rfl rfl rfl) fun w F β vs g fin hv=>by
  simp only[RelL,RelA,RelP]at hv
  obtain⟨_,_,rfl,⟨a,c,rfl,hc,_,hx⟩,_,_,rfl,⟨rfl,_⟩,rfl⟩:=hv
  rw[List.length_map]at hc ⊢
  rcases hx with hx|⟨b,o,rfl,hb,he⟩
  ·obtain rfl:xs = []:=List.map_eq_nil_iff.1 hx
   refine(Tryz.strings_Join_none a c sep w).mono ?_
   rintro e w' ⟨rfl,rfl⟩
   exact⟨_,rfl,Below.refl _ _,fun _ _ _=>relS.2 rfl⟩
  ·refine(Tryz.strings_Join b o c xs sep w (z95 he) (fin b hb) (by omega) hc hl).mono ?_
   rintro e w' ⟨rfl,hw⟩
   exact⟨_,rfl,hw,fun _ _ _=>relS.2 rfl⟩
theorem zww {U F:Nat→Prop} {w:World} {β : Nat→Option Bind} {a b:AV} {u v:Value} (h1:RelA U w F β a u) (h2:RelA U w F β b v):RelA U w F β (.tup [a,b]) (.tuple #[u,v]):=by
 simp only[RelA,RelL]
 exact⟨_,rfl,u,[v],rfl,h1,v,[],rfl,h2,rfl⟩
theorem zx5 (w:World) (e:TypeId) (s:ByteArray):Below w.heap.size w (Lib.bytesWorld w e s):=⟨rfl,rfl,rfl,by rw[Lib.bytesWorld_size];omega,fun b hb=>Lib.bytesWorld_at_old w e s b hb⟩
theorem zrw (s:ByteArray) (u:Nat) (hs:s.size≤1048576) (h:Lib.parseUintB 32 s.data.toList = .ok u):Spec Tryz.prog 121 [S s,I .i64 10,I .i64 32] [] (.tup [I .u64 u,.c (.v .nilIface)]) [] :=
 zdp (zdi rfl rfl rfl) fun w F β vs g _ hv=>by
  simp only[RelL,RelA,RelP]at hv
  obtain⟨_,_,rfl,⟨rfl,_⟩,_,_,rfl,⟨rfl,_⟩,_,_,rfl,⟨rfl,_⟩,rfl⟩:=hv
  refine(Tryz.strconv_ParseUint_10_at32_ok s (by omega) u h w).mono ?_
  rintro e w' ⟨rfl,hw⟩
  refine⟨_,rfl,?_,fun _ _ _=>zww (relI.2 rfl) (relC.2 ⟨rfl,rfl⟩)⟩
  rcases hw with rfl|rfl
  ·exact Below.refl _ _
  ·exact zx5 _ _ _
theorem z98 (s:ByteArray) (hs:s.size≤1048576) (h:∀u,Lib.parseUintB 32 s.data.toList ≠ .ok u):∃n,Spec Tryz.prog 121 [S s,I .i64 10,I .i64 32] [] (.tup [I .u64 n,.ifc 254 .undef]) []:=by
 match hp:Lib.parseUintB 32 s.data.toList with
 | .ok u=>exact absurd hp (h u)
 | Lib.NumEnd.syntax =>
  refine⟨0,zdp (zdi rfl rfl rfl) fun w F β vs g _ hv=>?_⟩
  simp only[RelL,RelA,RelP]at hv
  obtain⟨_,_,rfl,⟨rfl,_⟩,_,_,rfl,⟨rfl,_⟩,_,_,rfl,⟨rfl,_⟩,rfl⟩:=hv
  obtain⟨te,pe,hc⟩:=ydd g 6 (.inl rfl)
  refine(Tryz.strconv_ParseUint_10_at32_syntax s (by omega) hp _ w hc (.inr ⟨_,_,rfl⟩)).mono ?_
  rintro e w' ⟨N,rfl,_,_,hw⟩
  exact⟨_,rfl,hw,fun _ _ _=>zww (relI.2 rfl) (by simp only[RelA];exact⟨_,rfl,trivial⟩)⟩
 | .range =>
  refine⟨4294967295,zdp (zdi rfl rfl rfl) fun w F β vs g _ hv=>?_⟩
  simp only[RelL,RelA,RelP]at hv
  obtain⟨_,_,rfl,⟨rfl,_⟩,_,_,rfl,⟨rfl,_⟩,_,_,rfl,⟨rfl,_⟩,rfl⟩:=hv
  obtain⟨te,pe,hc⟩:=ydd g 7 (.inr rfl)
  refine(Tryz.strconv_ParseUint_10_at32_range s (by omega) hp _ w hc (.inr ⟨_,_,rfl⟩)).mono ?_
  rintro e w' ⟨N,rfl,_,_,hw⟩
  exact⟨_,rfl,hw,fun _ _ _=>zww (relI.2 rfl) (by simp only[RelA];exact⟨_,rfl,trivial⟩)⟩
end Go.Proofs.YtgggemkjaccbhaaGreatDoor
namespace Go.Proofs.YtgggemkjaccbhaaGreatDoor
set_option linter.all false
open Go.RowKit Go.Sort Go.Lib
set_option maxRecDepth 100000
set_option maxHeartbeats 6400000 in
set_option maxRecDepth 100000 in
theorem ynm (u : Nat) (hu64 : u < 18446744073709551616) (w : World) (htab : Lib.TabIs Tryz.prog w "internal/strconv.uint64pow10" .u64 Lib.pow10Tab) :
 Calls Tryz.prog 159 #[.int .u64 u,.int .i64 10] w fun e w'=>e = .returned (.string ⟨(Lib.decDigits u).toArray⟩)∧∃k os,w'=grow (w.drewN k) os:=by
 by_cases hs:u<100
 ·go_enter Tryz.func159,Tryz.ntmps159
  go_wp2_with fail
  refine(Tryz.internal_strconv_small u hs _).mono ?_
  rintro e w' ⟨rfl,rfl⟩
  go_wp2_with fail
  go_returns
  exact⟨rfl,0,#[],by simp[World.drewN_zero]⟩
 ·have hu1:1≤u:=by omega
  have hnd20:Lib.nDigits u≤20:=by have:=Lib.numDigits_eq u hu1 hu64;split at this<;>omega
  have hal:Tryz.prog.arrayLen 177=24:=by kernel_rfl
  have hsl1:∀W,(Instr.sliceAt 177 (.pointer (some ⟨w.heap.size,0,none⟩)) none (some (.int .i64 (Lib.nDigits u:Int))) none).run Tryz.prog W = .ok (.slice (some ⟨w.heap.size,0,none⟩) (Lib.nDigits u) 24) W:=fun W=>by
   rw[run_sliceAt_array_h W 177 ⟨w.heap.size,0,none⟩ (by kernel_rfl) .i64 (Lib.nDigits u:Int) (by omega) (by rw[hal];omega)]
   go_simp
  have hH0:=Lib.holds_zero0 w 177 (Lib.nDigits u) (by omega)
  have hfmt:=Tryz.internal_strconv_formatBase10 w.heap.size 0 24 u (Array.replicate (Lib.nDigits u) 0) (w.alloc (.cells Lib.zeros24 177)) hH0 (by rw[Array.size_replicate];exact Lib.lt_pow_nDigits u) hu64 (by rw[Array.size_replicate];omega)
  rw[Array.size_replicate]at hfmt
  have HH0:=Lib.hid hH0
  clear hH0 hal
  go_enter Tryz.func159,Tryz.ntmps159
  go_wp2_with fail
  refine(Tryz.internal_strconv_numDigits u hu1 hu64 _ (Lib.tabIs_alloc htab _)).mono ?_
  rintro e w' ⟨rfl,rfl⟩
  go_wp2_with fail
  refine hfmt.mono ?_
  rintro e w' ⟨rfl,k,v',dk,rfl,hF⟩
  have hcv:(convert 38 9 (.slice (some ⟨w.heap.size,0,none⟩) (Lib.nDigits u) 24)).run Tryz.prog ((putRow (fun (b:UInt8)=>Value.int .u8 (b.toNat:Int)) (w.alloc (.cells Lib.zeros24 177)) w.heap.size 0 dk).drewN k) = .ok (.string ⟨(Lib.decDigits u).toArray⟩) ((putRow (fun (b:UInt8)=>Value.int .u8 (b.toNat:Int)) (w.alloc (.cells Lib.zeros24 177)) w.heap.size 0 dk).drewN k):=by
   have h:=run_convert_bytes_back (P:=Tryz.prog) ((putRow (fun (b:UInt8)=>Value.int .u8 (b.toNat:Int)) (w.alloc (.cells Lib.zeros24 177)) w.heap.size 0 dk).drewN k) 38 9 5 ⟨w.heap.size,0,none⟩ 24 (Lib.decDigits u) Tryz.underlying38 Tryz.underlying5 Tryz.underlying9 (fun j hj=>by
    rw[Lib.row_is_numeral hF j hj,Lib.add_plain,World.cell?_drewN]
    exact cell?_putRow (fun (b:UInt8)=>Value.int .u8 (b.toNat:Int)) _ w.heap.size 0 _ dk HH0.out (by rw[hF.size,Array.size_replicate]) j (by rw[hF.size];rw[Lib.decDigits_length]at hj;exact hj))
   rw[Lib.decDigits_length]at h
   exact h
  go_wp2_with fail
  go_returns
  obtain⟨os,eo⟩:=Lib.fin_at w (.cells Lib.zeros24 177) dk k 0
  exact⟨rfl,k,os,eo⟩
theorem ybd (u:Nat) (h:u<18446744073709551616):Spec Tryz.prog 159 [I .u64 u,I .i64 10] [] (S (zah (Lib.decDigits u))) [] :=
 zdp (zdi rfl rfl rfl) fun w F β vs g _ hv=>by
  simp only[RelL,RelA,RelP]at hv
  obtain⟨_,_,rfl,⟨rfl,_⟩,_,_,rfl,⟨rfl,_⟩,rfl⟩:=hv
  refine(ynm u h w (ydc g)).mono ?_
  rintro e w' ⟨rfl,k,os,rfl⟩
  exact⟨_,rfl,Lib.below_grow _ _ (Nat.le_refl _) _ _,fun _ _ _=>relS.2 rfl⟩
theorem z7l (u:Nat) (h:u<18446744073709551616):Spec Tryz.prog 122 [I .u64 u,I .i64 10] [] (S (zah (Lib.decDigits u))) []:=by
 refine spB Tryz.func122 8 [.tmp 4] Tryz.results122 ?_
 try refine xst ?_
 refine caP (ybd u h) ?_
 try refine xst ?_
 exact xrz rfl
end Go.Proofs.YtgggemkjaccbhaaGreatDoor
namespace Go.Proofs.YtgggemkjaccbhaaGreatDoor
set_option linter.all false
open Go.RowKit
set_option maxRecDepth 100000
set_option maxHeartbeats 4000000
def zjp (s:ByteArray):Option Nat :=
 match Lib.parseUintB 32 s.data.toList with
 | .ok u=>if s.size≤9∧zah (Lib.decDigits u)=s then some u else none
 | _=>none
theorem zut {s:ByteArray} {u:Nat} (h:zjp s=some u):Lib.parseUintB 32 s.data.toList = .ok u∧s.size≤9∧zah (Lib.decDigits u)=s∧u≤4294967295:=by
 unfold zjp at h
 split at h
 ·rename_i v hv
  split at h
  ·rename_i hc
   cases h
   exact⟨hv,hc.1,hc.2,Lib.parseUintB_le hv⟩
  ·cases h
 ·cases h
theorem zus (s:ByteArray) (ws:List ByteArray) (u:Nat) (hl:ws.length≤1048576) (h:zjp s=some u):Spec Tryz.prog 84 [.ptr 0 0 0] [zi7 (s::ws)] (I .i64 u) [zi7 ws]:=by
 obtain⟨h1,h2,h3,h4⟩:=zut h
 have hlen:decide ((s.size:Int)≤9)=true:=decide_eq_true (by omega)
 refine spB Tryz.func84 29 [.tmp 2] Tryz.results84 ?_
 try refine xz2 hlen h3 ?_
 refine caM [0] (zlg s ws hl) ?_
 try refine xz2 hlen h3 ?_
 refine caP (zrw s u (by omega) h1) ?_
 try refine xz2 hlen h3 ?_
 refine gcP (fun hcc=>z7l u (by omega)) ?_
 try refine xz2 hlen h3 ?_
 refine caP (zr5) ?_
 try refine xz2 hlen h3 ?_
 refine zb9 [0] rfl rfl (by decide) ⟨?_,trivial⟩ trivial ?_
 ·exact xS1 zaf
 ·exact xS1 zaf
theorem z1u:zc6 Tryz.prog 84 [.ptr 0 0 0] [zi7 []] (.pan (za5 10) [.dead]):=by
 refine zdw (.pan (za5 10) [.dead]) [1] Tryz.func84 rfl rfl mix 29 rfl [.tmp 2] Tryz.results84 (Nat.le_of_ble_eq_true rfl) ?_
 try refine xst ?_
 refine zfn 1 ?_
 try refine xst ?_
 refine caN [0] (z5u) ?_
 try refine xst ?_
 exact zfe (zfo [0] (ToK.refl _ _) rfl (by decide) (by decide) ⟨trivial,trivial⟩)
theorem z1t (s:ByteArray) (ws:List ByteArray) (hl:ws.length≤1048576) (hs:s.size≤1048576) (h:∀u,Lib.parseUintB 32 s.data.toList ≠ .ok u):zc6 Tryz.prog 84 [.ptr 0 0 0] [zi7 (s::ws)] (.pan (za5 10) [.dead]):=by
 obtain⟨n,hp⟩:=z98 s hs h
 refine zdw (.pan (za5 10) [.dead]) [3] Tryz.func84 rfl rfl mix 29 rfl [.tmp 2] Tryz.results84 (Nat.le_of_ble_eq_true rfl) ?_
 try refine xst ?_
 refine caM [0] (zlg s ws hl) ?_
 try refine xst ?_
 refine caP (hp) ?_
 try refine xst ?_
 refine zfn 13 ?_
 try refine xst ?_
 refine zh5 ?_ ?_
 ·rfl
 try refine xst ?_
 refine caN [] (zlh) ?_
 try refine xst ?_
 exact zfe (zfo [0] (ToK.refl _ _) rfl (by decide) (by decide) ⟨trivial,trivial⟩)
theorem z1s (s:ByteArray) (ws:List ByteArray) (u:Nat) (hl:ws.length≤1048576) (hs:s.size≤1048576) (h1:Lib.parseUintB 32 s.data.toList = .ok u) (h:9<s.size):zc6 Tryz.prog 84 [.ptr 0 0 0] [zi7 (s::ws)] (.pan (za5 10) [.dead]):=by
 have hlen:decide ((s.size:Int)≤9)=false:=decide_eq_false (by omega)
 refine zdw (.pan (za5 10) [.dead]) [3] Tryz.func84 rfl rfl mix 29 rfl [.tmp 2] Tryz.results84 (Nat.le_of_ble_eq_true rfl) ?_
 try refine xz1 hlen ?_
 refine caM [0] (zlg s ws hl) ?_
 try refine xz1 hlen ?_
 refine caP (zrw s u hs h1) ?_
 try refine xz1 hlen ?_
 refine zfn 13 ?_
 try refine xz1 hlen ?_
 refine zh5 ?_ ?_
 ·rfl
 try refine xz1 hlen ?_
 refine caN [] (zlh) ?_
 try refine xz1 hlen ?_
 exact zfe (zfo [0] (ToK.refl _ _) rfl (by decide) (by decide) ⟨trivial,trivial⟩)
theorem z1r (s:ByteArray) (ws:List ByteArray) (u:Nat) (hl:ws.length≤1048576) (hs:s.size≤9) (h1:Lib.parseUintB 32 s.data.toList = .ok u) (h:zah (Lib.decDigits u)≠s):zc6 Tryz.prog 84 [.ptr 0 0 0] [zi7 (s::ws)] (.pan (za5 10) [.dead]):=by
 have hlen:decide ((s.size:Int)≤9)=true:=decide_eq_true (by omega)
 have heq:decide (zah (Lib.decDigits u)=s)=false:=decide_eq_false h
 have hu:=Lib.parseUintB_le h1
 refine zdw (.pan (za5 10) [.dead]) [3] Tryz.func84 rfl rfl mix 29 rfl [.tmp 2] Tryz.results84 (Nat.le_of_ble_eq_true rfl) ?_
 try refine xz2 hlen heq ?_
 refine caM [0] (zlg s ws hl) ?_
 try refine xz2 hlen heq ?_
 refine caP (zrw s u (by omega) h1) ?_
 try refine xz2 hlen heq ?_
 refine zfn 13 ?_
 try refine xz2 hlen heq ?_
 refine gcP (fun hcc=>z7l u (by omega)) ?_
 try refine xz2 hlen heq ?_
 refine caN [] (zlh) ?_
 try refine xz2 hlen heq ?_
 exact zfe (zfo [0] (ToK.refl _ _) rfl (by decide) (by decide) ⟨trivial,trivial⟩)
def z7m:List ByteArray→Option Nat
 | []=>none
 | s::_=>zjp s
theorem z5n (ws:List ByteArray) (hl:ws.length≤1048576) (hs:∀s∈ws,s.size≤1048576) (h:z7m ws=none):zc6 Tryz.prog 84 [.ptr 0 0 0] [zi7 ws] (.pan (za5 10) [.dead]):=by
 cases ws with
 | nil=>exact z1u
 | cons s ws =>
  have h1:zjp s=none:=h
  have hs1:=hs s (by simp)
  have hl1:ws.length≤1048576:=by simp only[List.length_cons]at hl;omega
  unfold zjp at h1
  split at h1
  ·rename_i u hu
   split at h1
   ·cases h1
   ·rename_i hc
    by_cases h9:s.size≤9
    ·exact z1r s ws u hl1 h9 hu fun e=>hc ⟨h9,e⟩
    ·exact z1s s ws u hl1 hs1 hu (by omega)
  ·rename_i hne
   exact z1t s ws hl1 hs1 fun u e=>hne u e
def nmP (u:Nat):List PV := [.v (.int .i64 u)]
theorem zas (u:Nat):nmP u=([.v (.int .i64 u)]:List PV):=rfl
def za8 (s:ByteArray):Nat:=(zjp s).getD 0
def zcm (n:Nat) (ws:List ByteArray):Prop:=ws.length=n∧∀s∈ws,zjp s≠none
theorem z3e {s:ByteArray} (h:zjp s≠none):zjp s=some (za8 s):=by
 unfold za8
 cases hn:zjp s with
 | none=>exact absurd hn h
 | some u=>rfl
theorem zdm (s:ByteArray):za8 s≤4294967295:=by
 unfold za8
 cases hn:zjp s with
 | none=>simp
 | some u=>exact(zut hn).2.2.2
theorem yjs {α : Type} (xs:List α) (k m:Nat) (z x : α) (h:xs.length=k) (hm:1≤m):(xs++List.replicate m z).set k x=xs ++ [x]++List.replicate (m-1) z:=by
 obtain⟨m,rfl⟩:∃j,m=j+1:=⟨m-1,by omega⟩
 subst h
 rw[List.set_append_right _ _ (Nat.le_refl _),Nat.sub_self,List.replicate_succ,List.set_cons_zero];simp
abbrev z4s (n k:Nat) (ws:List ByteArray):List (List PV):=(ws.take k).map (fun s=>nmP (za8 s))++List.replicate (n-k) [.v (.int .i64 0)]
theorem zy0 (n k:Nat) (ws:List ByteArray) (s:ByteArray) (hd:ws.drop k=s::ws.drop (k+1)) (hk:k<n):(z4s n k ws).set k [.v (.int .i64 (za8 s))]=z4s n (k+1) ws:=by
 have hlt:k<ws.length:=by
  have:=congrArg List.length hd
  simp only[List.length_drop,List.length_cons]at this;omega
 have hs:ws[k]=s:=by
  have:=List.drop_eq_getElem_cons hlt
  rw[hd]at this;exact(List.cons.inj this).1.symm
 have:=yjs ((ws.take k).map fun s=>nmP (za8 s)) k (n-k) [.v (.int .i64 0)] (nmP (za8 s)) (by rw[List.length_map,List.length_take];omega) (by omega)
 refine this.trans ?_
 unfold z4s
 rw[List.take_succ_eq_append_getElem hlt,List.map_append,hs,show n-(k+1)=n-k-1 from by omega];rfl
theorem zy1 (n k:Nat) (ws:List ByteArray) (h:k≤ws.length) (hk:k≤n):(z4s n k ws).length=n:=by
 unfold z4s;rw[List.length_append,List.length_map,List.length_take,List.length_replicate];omega
theorem zq3 {ws:List ByteArray} {k:Nat} (h:k<ws.length):∃s,ws.drop k=s::ws.drop (k+1)∧s∈ws:=⟨ws[k],List.drop_eq_getElem_cons h,List.getElem_mem h⟩
theorem zbn (n:Nat) (ws:List ByteArray) (hn:n≤100) (h:zcm n ws):Spec Tryz.prog 49 [.ptr 0 0 0,I .i64 n] [zi7 ws] (.c (.sl 1 (ws.map fun s=>nmP (za8 s)))) [zi7 []]:=by
 obtain⟨h1,h2⟩:=h
 refine spB Tryz.func49 27 [.tmp 4] Tryz.results49 ?_
 try refine xst ?_
 refine zay (fun k:Nat=>⟨[(11,I .i64 k),(10,I .i64 n),(5,.own 1),(0,.ptr 0 0 0)],[(0,zi7 (ws.drop k)),(1,.row 3 1 (z4s n k ws))],2⟩) (fun k:Nat=>k≤n) (fun k:Nat=>n-k) (0) (Nat.zero_le _) (To.mk [0,1] rfl rfl (by decide) ?_ ?_) ?_
 ·simp(etaStruct := .none)only[push_cast,zad,seval]
  simp[z4s]
 ·simp(etaStruct := .none)only[push_cast,zad,seval,List.length_replicate]
 rintro k hk
 try refine xst ?_
 refine cI (fun h1=>?_) fun h1=>?_
 ·have hlt:k<n:=by omega
  obtain⟨s,hd,hs⟩:=zq3 (ws:=ws) (k:=k) (by omega)
  have rl:=zy1 n k ws (by omega) (by omega)
  have rs:=zy0 n k ws s hd hlt
  have hv:=z3e (h2 s hs)
  have hdl:(ws.drop (k+1)).length≤1048576:=by rw[List.length_drop];omega
  try refine xz3 hd rl Qa ?_
  refine caM [0] (zus s (ws.drop (k+1)) (za8 s) hdl hv) ?_
  try refine xz3 hd rl Qa ?_
  refine⟨k+1,by omega,by omega,To.mk [0,1] rfl rfl (by decide) ?_ ?_⟩
  ·(try(refine xz1 rs ?_;try exact xtI))
  ·(try(refine xz3 hd rl Qa ?_;try exact xtI))
 ·obtain rfl:k=n:=by omega
  have hdn:ws.drop k = []:=List.drop_eq_nil_of_le (by omega)
  have hrn:z4s k k ws=ws.map fun s=>nmP (za8 s):=by unfold z4s;rw[List.take_of_length_le (by omega),Nat.sub_self];simp
  try refine xz3 hdn hrn Qb ?_
  refine caP (zr5) ?_
  try refine xz3 hdn hrn Qb ?_
  refine zb9 [0] rfl rfl (by decide) ⟨?_,trivial⟩ trivial ?_
  ·exact xS2 hdn Qb
  ·exact Wk.refl _
theorem z2c {l:List ByteArray} (h:z7m l≠none):∃s r,l=s::r∧zjp s≠none:=by
 cases l with
 | nil=>exact absurd rfl h
 | cons s r=>exact⟨s,r,rfl,h⟩
theorem zb6 (n:Nat) (ws:List ByteArray) (hn:n≤100) (hl:ws.length≤1048576) (hs:∀s∈ws,s.size≤1048576) (h:¬zcm n ws):zc6 Tryz.prog 49 [.ptr 0 0 0,I .i64 n] [zi7 ws] (.pan (za5 10) [.dead]):=by
 refine zdw (.pan (za5 10) [.dead]) [5,7] Tryz.func49 rfl rfl mix 27 rfl [.tmp 4] Tryz.results49 (Nat.le_of_ble_eq_true rfl) ?_
 try refine xst ?_
 refine zay (fun k:Nat=>⟨[(11,I .i64 k),(10,I .i64 n),(5,.own 1),(0,.ptr 0 0 0)],[(0,zi7 (ws.drop k)),(1,.row 3 1 (z4s n k ws))],2⟩) (fun k:Nat=>k≤n∧k≤ws.length∧∀s∈ws.take k,zjp s≠none) (fun k:Nat=>n-k) (0) (⟨Nat.zero_le _,Nat.zero_le _,fun s hs=>by simp at hs⟩) (To.mk [0,1] rfl rfl (by decide) ?_ ?_) ?_
 ·simp(etaStruct := .none)only[push_cast,zad,seval]
  simp[z4s]
 ·simp(etaStruct := .none)only[push_cast,zad,seval,List.length_replicate]
 rintro k ⟨hk,hkl,hg⟩
 try refine xst ?_
 refine cI (fun h1=>?_) fun h1=>?_
 ·have hlt:k<n:=by omega
  have rl:=zy1 n k ws hkl (by omega)
  have hdl:(ws.drop (k+1)).length≤1048576:=by rw[List.length_drop];omega
  try refine xst ?_
  by_cases hfr:z7m (ws.drop k)≠none
  ·skip
   obtain⟨s,r,hd,hv0⟩:=z2c hfr
   have hkw:k<ws.length:=by
    have:=congrArg List.length hd
    simp only[List.length_drop,List.length_cons]at this;omega
   obtain⟨s',hd',hsm⟩:=zq3 hkw
   obtain⟨rfl,rfl⟩:=List.cons.inj (hd.symm.trans hd')
   have rs:=zy0 n k ws s hd hlt
   have hv:=z3e hv0
   have tk:ws.take (k+1)=ws.take k ++ [s]:=by
    have h2:=List.drop_eq_getElem_cons hkw
    rw[hd]at h2
    rw[List.take_succ_eq_append_getElem hkw,←(List.cons.inj h2).1]
   refine ztl ?_
   try refine xz3 hd rl Qa ?_
   refine caM [0] (zus s (ws.drop (k+1)) (za8 s) hdl hv) ?_
   try refine xz3 hd rl Qa ?_
   refine⟨k+1,⟨by omega,by omega,fun z hz=>by rw[tk]at hz;rcases List.mem_append.1 hz with hz|hz;exact hg z hz;rw[List.mem_singleton.1 hz];exact hv0⟩,by omega,To.mk [0,1] rfl rfl (by decide) ?_ ?_⟩
   ·(try(refine xz1 rs ?_;try exact xtI))
   ·(try(refine xz3 hd rl Qa ?_;try exact xtI))
  ·skip
   refine zfn 3 ?_
   try refine xst ?_
   refine caN [0] (z5n (ws.drop k) (by rw[List.length_drop];omega) (fun z hz=>hs z (List.mem_of_mem_drop hz)) (Classical.not_not.1 hfr)) ?_
   try refine xst ?_
   exact zfe (zfo [0] (ToK.refl _ _) rfl (by decide) (by decide) ⟨trivial,trivial⟩)
 ·obtain rfl:k=n:=by omega
  have hz:decide (((ws.drop k).length:Int)=0)=false:=decide_eq_false fun e=>h ⟨by rw[List.length_drop]at e;omega,fun s hs=>hg s (by rw[List.take_of_length_le (by rw[List.length_drop]at e;omega)];exact hs)⟩
  try refine xz1 hz ?_
  refine zfn 5 ?_
  try refine xz1 hz ?_
  refine caN [] (zlh) ?_
  try refine xz1 hz ?_
  exact zfe (zfo [0] (ToK.refl _ _) rfl (by decide) (by decide) ⟨trivial,trivial⟩)
theorem zkp {α : Type} (p : α → Bool) (l:List α):decide (0≤zg6 p l)=l.any p:=by
 unfold zg6
 cases h:l.findIdx? p with
 | none =>
  have:=List.findIdx?_eq_none_iff.1 h
  simp only[show ¬(0:Int) ≤ -1 by omega,decide_false]
  symm;rw[List.any_eq_false];intro x hx;simp[this x hx]
 | some i =>
  obtain⟨hi,h1,_⟩:=List.findIdx?_eq_some_iff_getElem.1 h
  simp only[Int.natCast_nonneg,decide_true]
  symm;rw[List.any_eq_true];exact⟨_,List.getElem_mem hi,h1⟩
theorem yjd (F:FuncId) (a b:List AV) (l:List Int) (p:Int→Bool) (hl:l.length≤9223372036854775807) (hp:∀n∈l,Spec Tryz.prog F (a ++ [I .i64 n]++b) [] (B (p n)) []) (ha:∀h,cvL [] h a=a) (hb:∀h,cvL [] h b=b) :
 Spec Tryz.prog 179 [.c (.sl 1 (l.map zao)),.clo (.func F) a b] [] (I .i64 (zg6 p l)) []:=by
 refine spB Tryz.func179 19 [.tmp 4] Tryz.results179 ?_
 simp(etaStruct := .none)only[push_cast,zad,seval]
 refine zay (fun k:Nat=>⟨[(8,I .i64 k),(7,I .i64 l.length),(0,.c (.sl 1 (l.map zao))),(1,.clo (.func F) a b)],[],0⟩) (fun k=>k≤l.length∧∀j (hj:j<l.length),j<k→p l[j]=false) (fun k=>l.length-k) 0 ⟨Nat.zero_le _,fun j _ h=>by omega⟩ (To.mk [] rfl rfl List.nodup_nil trivial ?_) ?_
 ·exact xS2 ha hb
 ·rintro k ⟨hk,hn⟩
  simp(etaStruct := .none)only[push_cast,zad,seval]
  refine zcd (fun h=>?_) (fun h=>?_)
  ·have hlt:k<l.length:=by simpa using h
   simp(etaStruct := .none)only[push_cast,zad,seval,zsu _ _ _ hlt,zao]
   repeat with_reducible refine obA ?_
   refine zv0 (hp _ (List.getElem_mem hlt)) (by simp only[ziv,ha,hb,cvL,cv];exact WkL.refl _) ?_
   simp(etaStruct := .none)only[push_cast,zad,seval]
   refine zcd (fun h=>?_) (fun h=>?_)
   ·simp(etaStruct := .none)only[push_cast,zad,seval]
    exact zfm rfl trivial (Wk.of (by rw[zfw p l k hlt h hn];rfl))
   ·simp(etaStruct := .none)only[push_cast,zad,seval]
    refine⟨k+1,⟨by omega,fun j hj hjk=>?_⟩,by omega,To.mk [] rfl rfl List.nodup_nil trivial ?_⟩
    ·by_cases e:j=k
     ·subst e;exact h
     ·exact hn j hj (by omega)
    ·simp(etaStruct := .none)only[push_cast,zad,seval,ha,hb]
     simp(disch:=omega)only[zaj,za1,tdv,tmd]
  ·have hge:k=l.length:=by simp at h;omega
   subst hge
   simp(etaStruct := .none)only[push_cast,zad,seval]
   exact zfm rfl trivial (Wk.of (by rw[zer p l (fun j hj=>hn j hj hj)];rfl))
theorem yf7 (F:FuncId) (a b:List AV) (l:List Int) (p:Int→Bool) (hl:l.length≤9223372036854775807) (hp:∀n∈l,Spec Tryz.prog F (a ++ [I .i64 n]++b) [] (B (p n)) []) (ha:∀h,cvL [] h a=a) (hb:∀h,cvL [] h b=b) :
 Spec Tryz.prog 151 [.c (.sl 1 (l.map zao)),.clo (.func F) a b] [] (B (l.any p)) []:=by
 refine spB Tryz.func151 9 [.tmp 4] Tryz.results151 ?_
 simp(etaStruct := .none)only[push_cast,zad,seval]
 refine zv0 (yjd F a b l p hl hp ha hb) (by simp only[ha,hb,cvL,cv];exact WkL.refl _) ?_
 simp(etaStruct := .none)only[push_cast,zad,seval]
 exact zfm rfl trivial (Wk.of (by rw[zkp];rfl))
def zal (n a b:Int):Bool:=decide (a≤n)&&decide (n≤b)
theorem yko (n a b:Int):zal n a b=(decide (a≤n)&&decide (n≤b):Bool):=rfl
theorem within_iff {n a b:Int} : zal n a b=true↔a≤n∧n≤b:=by unfold zal;simp
theorem within_f {n a b:Int} : zal n a b=false↔¬(a≤n∧n≤b):=by unfold zal;simp
theorem zat (n a b:Int):Spec Tryz.prog 33 [I .i64 n,I .i64 a,I .i64 b] [] (B (zal n a b)) []:=by
 refine spB Tryz.func33 15 [.tmp 6] Tryz.results33 ?_
 try refine xst ?_
 exact zfm rfl trivial (Wk.of (congrArg B (by unfold zal;first|rfl|simp)))
def zds (f:Fld):Bool := !zal f.w 1 40 || !zal f.h 1 40
def zcb (f:Fld):Bool := !decide ((f.p.length:Int)=f.w*f.h)||f.p.any (fun p=>decide (p<0)||decide (4≤p))
def zbl (f:Fld):Int:=if zds f then 1 else if zcb f then 4 else 0
theorem yoe (f:Fld):zbl f=(if zds f then 1 else if zcb f then 4 else 0:Int):=rfl
theorem za4 {f:Fld} (h:zbl f=0):(1≤f.w∧f.w≤40)∧(1≤f.h∧f.h≤40)∧(f.p.length:Int)=f.w*f.h∧∀p∈f.p,0≤p∧p<4:=by
 unfold zbl at h
 split at h
 ·simp at h
 ·rename_i h1
  split at h
  ·simp at h
  ·rename_i h2
   simp only[zds,Bool.or_eq_true,Bool.not_eq_true',not_or,Bool.not_eq_false,within_iff]at h1
   simp only[zcb,Bool.or_eq_true,Bool.not_eq_true',decide_eq_false_iff_not,not_or,Decidable.not_not,List.any_eq_true,not_exists,not_and,decide_eq_true_eq]at h2
   exact⟨h1.1,h1.2,h2.1,fun p hp=>by have:=h2.2 p hp;omega⟩
theorem ycq (n:Int):Spec Tryz.prog 150 [I .i64 n] [] (B (zal n 1 40)) []:=by
 refine spB Tryz.func150 9 [.tmp 2] Tryz.results150 ?_
 try refine xst ?_
 exact zfm rfl trivial (Wk.of (congrArg B (by unfold zal;first|rfl|simp)))
theorem yjt (n:Int):Spec Tryz.prog 152 ([] ++ [I .i64 n] ++ []) [] (B (decide (n<0)||decide (4≤n))) []:=by
 refine spB Tryz.func152 9 [.tmp 2] Tryz.results152 ?_
 try refine xst ?_
 exact zfm rfl trivial (Wk.refl _)
theorem zm8 (f:Fld) (hl:f.p.length≤9223372036854775807):Spec Tryz.prog 118 [ziq f] [] (I .i64 (zbl f)) []:=by
 refine spB Tryz.func118 27 [.tmp 2] Tryz.results118 ?_
 try refine xst ?_
 refine zv0 (ycq f.w) (WkL.refl _) ?_
 try refine xst ?_
 refine z7j (fun hc=>ycq f.h) (WkL.refl _) xG ?_
 try refine xst ?_
 refine zcd (fun h1=>?_) (fun h1=>?_)
 ·try refine xst ?_
  (first|(refine zi1 rfl (Wk.of ?_);(try simp(etaStruct := .none)only[push_cast,zad,seval]);first|done|(simp[zbl,zds,zcb, *];done)|(simp_all[zbl,zds,zcb];done))|(refine zi1 rfl ?_;(try simp(etaStruct := .none)only[push_cast,zad,seval]);(try simp[zbl,zds,zcb, *]);(try exact wkc)))
 ·have hw:zal f.w 1 40=true∧zal f.h 1 40=true:=by simpa using h1
  obtain⟨h3,h4⟩:=hw
  rw[within_iff]at h3 h4
  have hm1:0≤f.w*f.h:=Int.mul_nonneg (by omega) (by omega)
  have hm2:f.w*f.h≤40*40:=Int.mul_le_mul h3.2 h4.2 (by omega) (by omega)
  try refine xst ?_
  refine z7j (fun hc=>yf7 _ [] [] f.p (fun p=>decide (p<0)||decide (4≤p)) hl (fun n _=>yjt n) (fun _=>rfl) (fun _=>rfl)) (WkL.refl _) xG ?_
  try refine xst ?_
  refine zcd (fun h2=>?_) (fun h2=>?_)
  ·try refine xst ?_
   (first|(refine zi1 rfl (Wk.of ?_);(try simp(etaStruct := .none)only[push_cast,zad,seval]);first|done|(simp[zbl,zds,zcb, *];done)|(simp_all[zbl,zds,zcb];done))|(refine zi1 rfl ?_;(try simp(etaStruct := .none)only[push_cast,zad,seval]);(try simp[zbl,zds,zcb, *]);(try exact wkc)))
  ·try refine xst ?_
   (first|(refine zi1 rfl (Wk.of ?_);(try simp(etaStruct := .none)only[push_cast,zad,seval]);first|done|(simp[zbl,zds,zcb, *];done)|(simp_all[zbl,zds,zcb];done))|(refine zi1 rfl ?_;(try simp(etaStruct := .none)only[push_cast,zad,seval]);(try simp[zbl,zds,zcb, *]);(try exact wkc)))
def inF (f:Fld) (c:Cel):Bool:=zal c.x 0 (f.w-1)&&zal c.y 0 (f.h-1)
theorem yne (f:Fld) (c:Cel):inF f c=(zal c.x 0 (f.w-1)&&zal c.y 0 (f.h-1):Bool):=rfl
theorem inF_iff {f:Fld} {c:Cel} : inF f c=true↔(0≤c.x∧c.x<f.w)∧(0≤c.y∧c.y<f.h):=by
 unfold inF;rw[bJ,within_iff,within_iff];omega
theorem inF_f {f:Fld} {c:Cel} : inF f c=false↔¬((0≤c.x∧c.x<f.w)∧(0≤c.y∧c.y<f.h)):=by
 rw[←inF_iff,Bool.not_eq_true]
def zar (f:Fld) (c:Cel):Int:=f.p.getD (c.y*f.w+c.x).toNat default
theorem zmt (f:Fld) (c:Cel):zar f c=(f.p.getD (c.y*f.w+c.x).toNat default:Int):=rfl
theorem zbb {f:Fld} {c:Cel} (h:zbl f=0) (hc:inF f c=true):0≤c.y*f.w∧c.y*f.w≤1600∧0≤c.y*f.w+c.x∧c.y*f.w+c.x<f.p.length∧f.p.length≤1600:=by
 obtain⟨h1,h2,h3,_⟩:=za4 h
 obtain⟨h4,h5⟩:=inF_iff.1 hc
 have a1:0≤c.y*f.w:=Int.mul_nonneg (by omega) (by omega)
 have a2:c.y*f.w≤(f.h-1)*f.w:=Int.mul_le_mul_of_nonneg_right (by omega) (by omega)
 have a3:(f.h-1)*f.w=f.w*f.h-f.w:=by rw[Int.sub_mul,Int.mul_comm f.h,Int.one_mul]
 have a4:f.w*f.h≤40*40:=Int.mul_le_mul h1.2 h2.2 (by omega) (by omega)
 omega
def atV (f:Fld) (c:Cel):Int × Int:=if zbl f≠0 then (0,zbl f)else if inF f c then (zar f c,0)else (0,7)
theorem yhl (f:Fld) (c:Cel):atV f c=(if zbl f≠0 then (0,zbl f)else if inF f c then (zar f c,0)else (0,7):Int × Int):=rfl
theorem z2n (f:Fld) (c:Cel) (hl:f.p.length≤9223372036854775807):Spec Tryz.prog 170 [ziq f,zeu c] [] (.tup [I .i64 (atV f c).1,I .i64 (atV f c).2]) []:=by
 refine spB Tryz.func170 46 [.tmp 4,.tmp 5] Tryz.results170 ?_
 try refine xst ?_
 refine caP (zm8 f hl) ?_
 try refine xst ?_
 refine cI (fun h1=>?_) fun h1=>?_
 ·try refine xst ?_
  exact znb yhl zmt rfl
 ·obtain⟨e1,e2,e3,e4⟩:=za4 h1
  try refine xst ?_
  refine cI (fun h2=>?_) fun h2=>?_
  ·have hc:inF f c=false:=inF_f.2 (by omega)
   try refine xst ?_
   exact znb yhl zmt rfl
  ·have hc:inF f c=true:=inF_iff.2 (by omega)
   obtain⟨i1,i2,i3,i4,i5⟩:=zbb h1 hc
   try refine xz2 (gd (show (c.y*f.w+c.x).toNat<f.p.length by omega)) zab ?_
   exact znb yhl zmt rfl
theorem z7n {f:Fld} (h1:zds f=false) {i:Nat} (hi:i<f.p.length) (h:zal (f.p.getD i default) 0 3=false):zbl f=4:=by
 have:zcb f=true:=by
  unfold zcb
  rw[Bool.or_eq_true]
  refine .inr (List.any_eq_true.2 ⟨_,List.getElem_mem hi,?_⟩)
  rw[zaq _ _ hi,within_f]at h
  simp;omega
 unfold zbl;rw[h1,this];rfl
theorem zvl {f:Fld} (h1:zds f=false) (h2:(f.p.length:Int)=f.w*f.h) (h:∀j,j<f.p.length→zal (f.p.getD j default) 0 3=true):zbl f=0:=by
 have:zcb f=false:=by
  unfold zcb
  rw[Bool.or_eq_false_iff,List.any_eq_false]
  refine⟨by simp[h2],fun p hp=>?_⟩
  obtain⟨i,hi,rfl⟩:=List.getElem_of_mem hp
  have:=h i hi
  rw[zaq _ _ hi,within_iff]at this
  simp;omega
 unfold zbl;rw[h1,this];rfl
theorem zsx (f:Fld) (hl:f.p.length≤9223372036854775807):Spec Tryz.prog 63 [ziq f] [] (I .i64 (zbl f)) []:=by
 refine spB Tryz.func63 35 [.tmp 2] Tryz.results63 ?_
 try refine xst ?_
 refine caP (zat f.w 1 40) ?_
 try refine xst ?_
 refine gcP (fun hcc=>zat f.h 1 40) ?_
 try refine xst ?_
 refine cI (fun h1=>?_) fun h1=>?_
 ·have hb:zds f=true:=by unfold zds;simpa using h1
  try refine xst ?_
  (first|(refine zi1 rfl (Wk.of ?_);(try simp(etaStruct := .none)only[push_cast,zad,seval]);first|done|(simp[zbl,zcb, *];done)|(simp_all[zbl,zcb];done))|(refine zi1 rfl ?_;(try simp(etaStruct := .none)only[push_cast,zad,seval]);(try simp[zbl,zcb, *]);(try exact wkc)))
 ·have hb:zds f=false:=by unfold zds;simpa using h1
  have hw:zal f.w 1 40=true∧zal f.h 1 40=true:=by simpa using h1
  obtain⟨h3,h4⟩:=hw
  rw[within_iff]at h3 h4
  have hm1:0≤f.w*f.h:=Int.mul_nonneg (by omega) (by omega)
  have hm2:f.w*f.h≤40*40:=Int.mul_le_mul h3.2 h4.2 (by omega) (by omega)
  try refine xst ?_
  refine cI (fun h2=>?_) fun h2=>?_
  ·try refine xst ?_
   (first|(refine zi1 rfl (Wk.of ?_);(try simp(etaStruct := .none)only[push_cast,zad,seval]);first|done|(simp[zbl,zcb, *];done)|(simp_all[zbl,zcb];done))|(refine zi1 rfl ?_;(try simp(etaStruct := .none)only[push_cast,zad,seval]);(try simp[zbl,zcb, *]);(try exact wkc)))
  ·try refine xst ?_
   refine zay (fun k:Nat=>⟨[(27,I .i64 k),(26,I .i64 f.p.length),(25,.c (.sl 1 (f.p.map zao)))],[],0⟩) (fun k:Nat=>k≤f.p.length∧∀j,j<k→zal (f.p.getD j default) 0 3=true) (fun k:Nat=>f.p.length-k) (0) (⟨Nat.zero_le _,fun j h=>by omega⟩) (To.mk [] rfl rfl List.nodup_nil trivial ?_) ?_
   ·exact xS
   rintro k ⟨hk,hn⟩
   try refine xst ?_
   refine cI (fun h3=>?_) fun h3=>?_
   ·have hlt:k<f.p.length:=by omega
    try refine xz2 (gd hlt) zab ?_
    refine caP (zat (f.p.getD k default) 0 3) ?_
    try refine xz2 (gd hlt) zab ?_
    refine cI (fun h4=>?_) fun h4=>?_
    ·try refine xz2 (gd hlt) zab ?_
     exact zfm rfl trivial (Wk.of (by rw[z7n hb hlt (by simpa using h4)];rfl))
    ·try refine xz2 (gd hlt) zab ?_
     refine⟨k+1,⟨by omega,fun j hj=>by rcases Nat.lt_or_ge j k with h|h;exact hn j h;rw[show j=k by omega];simpa using h4⟩,by omega,To.mk [] rfl rfl List.nodup_nil trivial ?_⟩
     ·(try(refine xz2 (gd hlt) zab ?_;try exact xtI))
   ·try refine xst ?_
    exact zfm rfl trivial (Wk.of (by rw[zvl hb (by omega) (fun j hj=>hn j (by omega))];rfl))
theorem yod (f:Fld) (c:Cel) (hw:0≤f.w∧f.w≤1000000) (hh:0≤f.h∧f.h≤1000000):Spec Tryz.prog 91 [ziq f,zeu c] [] (B (inF f c)) []:=by
 refine spB Tryz.func91 19 [.tmp 4] Tryz.results91 ?_
 try refine xst ?_
 refine caP (zat c.x 0 (f.w-1)) ?_
 try refine xst ?_
 refine gcP (fun hcc=>zat c.y 0 (f.h-1)) ?_
 try refine xst ?_
 exact zcw yne rfl
theorem zlf (f:Fld) (c:Cel) (h:zbl f=0) (hc:inF f c=true):Spec Tryz.prog 92 [ziq f,zeu c] [] (I .i64 (zar f c)) []:=by
 obtain⟨i1,i2,i3,i4,i5⟩:=zbb h hc
 have j1:=inF_iff.1 hc
 obtain⟨e1,e2,e3,e4⟩:=za4 h
 refine spB Tryz.func92 17 [.tmp 4] Tryz.results92 ?_
 try refine xz2 (gd (show (c.y*f.w+c.x).toNat<f.p.length by omega)) zab ?_
 exact zcw zmt rfl
theorem zc5 (a b:Cel):(decide (a.x=b.x)&&decide (a.y=b.y))=decide (a=b):=by
 rw[Bool.eq_iff_iff];cases a;cases b;simp
def zca (f:Fld) (c:Cel):Bool:=inF f c && !decide (zar f c=1)
theorem z69 (f:Fld) (c:Cel):zca f c=(inF f c && !decide (zar f c=1):Bool):=rfl
theorem zss (f:Fld) (c:Cel) (h:zbl f=0):Spec Tryz.prog 64 [ziq f,zeu c] [] (B (zca f c)) []:=by
 have hk:=za4 h
 refine spB Tryz.func64 14 [.tmp 4] Tryz.results64 ?_
 try refine xst ?_
 refine caP (yod f c (by omega) (by omega)) ?_
 try refine xst ?_
 refine gcP (fun hcc=>zlf f c h hcc) ?_
 try refine xst ?_
 exact zcw z69 rfl
structure Knd where
 life:Int
 blow:Int
 load:Int
 price:Int
 deriving DecidableEq, Inhabited
def zbx (k:Int):Knd:=if k=1 then ⟨10,1,1,5⟩else if k=2 then ⟨20,2,4,12⟩else ⟨0,0,0,0⟩
theorem zxf (k:Int):zbx k=(if k=1 then ⟨10,1,1,5⟩else if k=2 then ⟨20,2,4,12⟩else ⟨0,0,0,0⟩:Knd):=rfl
abbrev yob (k:Knd):AV := .agg [I .i64 k.life,I .i64 k.blow,I .i64 k.load,I .i64 k.price]
theorem zg4 (k:Int) (h:k=1∨k=2):Spec Tryz.prog 35 [I .i64 k] [] (yob (zbx k)) []:=by
 rcases h with rfl|rfl
 ·have e:zbx 1=⟨10,1,1,5⟩:=rfl
  rw[e]
  refine spB Tryz.func35 10 [.cell 2 91] Tryz.results35 ?_
  try refine xst ?_
  exact xrz rfl
 ·have e:zbx 2=⟨20,2,4,12⟩:=rfl
  rw[e]
  refine spB Tryz.func35 10 [.cell 2 91] Tryz.results35 ?_
  try refine xst ?_
  exact xrz rfl
def zdt (p:Nat→Bool):Nat→Bool
 | 0=>true
 | k+1=>zdt p k&&p k
theorem zb5 (p:Nat→Bool):∀n,zdt p n=true↔∀i,i<n→p i=true
 | 0=>by simp[zdt]
 | n+1=>by
  rw[zdt,bJ,zb5 p n]
  constructor
  ·rintro⟨a,b⟩ i hi
   rcases Nat.lt_or_ge i n with h|h
   ·exact a i h
   ·obtain rfl:i=n:=by omega
    exact b
  ·intro h
   exact⟨fun i hi=>h i (by omega),h n (by omega)⟩
def zi6 (w:Wld) (i:Nat):Bool:=zca w.f (w.bases.getD i default)&&zal (w.stocks.getD i default) 0 1000000&&zdt (fun j => !decide (w.bases.getD j default=w.bases.getD i default)) i
theorem ynu (w:Wld) (i:Nat):zi6 w i=(zca w.f (w.bases.getD i default)&&zal (w.stocks.getD i default) 0 1000000&&zdt (fun j => !decide (w.bases.getD j default=w.bases.getD i default)) i:Bool):=rfl
def zli (w:Wld) (i:Nat):Bool:=zal (w.mines.getD i default) 0 1000000&&(decide (w.mines.getD i default=0)||decide (w.f.p.getD i default=3))
def z80 (w:Wld) (t:Trp):Bool:=zal t.id 1 (w.next-1)&&zal t.owner 0 ((w.bases.length:Int)-1)&&zca w.f t.c&&zal t.life 1 (zbx t.kind).life&&zal t.load 0 (5*(2-t.kind))
theorem yn3 (w:Wld) (t:Trp):z80 w t=(zal t.id 1 (w.next-1)&&zal t.owner 0 ((w.bases.length:Int)-1)&&zca w.f t.c&&zal t.life 1 (zbx t.kind).life&&zal t.load 0 (5*(2-t.kind)):Bool):=rfl
def z3q (w:Wld) (i:Nat):Bool:=zdt (fun j=>decide ((w.troops.getD j default).id<(w.troops.getD i default).id) && !decide ((w.troops.getD j default).c=(w.troops.getD i default).c)) i
theorem yn2 (w:Wld) (i:Nat):z3q w i=(zdt (fun j=>decide ((w.troops.getD j default).id<(w.troops.getD i default).id) && !decide ((w.troops.getD j default).c=(w.troops.getD i default).c)) i:Bool):=rfl
def zdx (w:Wld) (i:Nat):Bool:=zal (w.troops.getD i default).kind 1 2&&(z80 w (w.troops.getD i default)&&z3q w i)
theorem yks (w:Wld) (i:Nat):zdx w i=(zal (w.troops.getD i default).kind 1 2&&(z80 w (w.troops.getD i default)&&z3q w i):Bool):=rfl
def zgb (w:Wld):Bool:=zdt (zi6 w) w.bases.length&&zdt (zli w) w.mines.length&&zdt (zdx w) w.troops.length
def zhd (w:Wld):Bool:=decide (w.stocks.length=w.bases.length)&&decide (w.mines.length=w.f.p.length)&&zal w.next 1 1000000&&zal w.now 0 1000000
def zap (w:Wld):Int:=if zbl w.f≠0 then zbl w.f else if 8<w.bases.length∨100<w.troops.length then 2 else if zhd w&&zgb w then 0 else 4
def zeo (c:Cel):Bool:=decide (-1000≤c.x∧c.x≤1000 ∧ -1000≤c.y∧c.y≤1000)
def lq (n m k:Nat):Nat:=(2*k*m+n)/(2*n)
def lr (n m k:Nat):Nat:=(2*k*m+n) % (2*n)
theorem zse (n m k:Nat) (hn:0<n) (hm:m≤n):(2*n≤lr n m k+2*m→lq n m (k+1)=lq n m k+1∧lr n m (k+1)=lr n m k+2*m-2*n)∧(lr n m k+2*m<2*n→lq n m (k+1)=lq n m k∧lr n m (k+1)=lr n m k+2*m):=by
 have e:2*(k+1)*m+n=(2*k*m+n)+2*m:=by rw[Nat.mul_add,Nat.add_mul];omega
 have hd:=Nat.div_add_mod (2*k*m+n) (2*n)
 have hlt:(2*k*m+n) % (2*n)<2*n:=Nat.mod_lt _ (by omega)
 unfold lq lr
 rw[e]
 constructor
 ·intro h
  have e2:2*k*m+n+2*m=((2*k*m+n) % (2*n)+2*m-2*n)+2*n*((2*k*m+n)/(2*n)+1):=by rw[Nat.mul_add];omega
  rw[e2,Nat.add_mul_div_left _ _ (by omega),Nat.add_mul_mod_self_left,Nat.div_eq_of_lt (by omega),Nat.mod_eq_of_lt (by omega)]
  omega
 ·intro h
  have e2:2*k*m+n+2*m=((2*k*m+n) % (2*n)+2*m)+2*n*((2*k*m+n)/(2*n)):=by omega
  rw[e2,Nat.add_mul_div_left _ _ (by omega),Nat.add_mul_mod_self_left,Nat.div_eq_of_lt (by omega),Nat.mod_eq_of_lt (by omega)]
  omega
theorem zsd (n m:Nat):lq n m 0=0:=by
 unfold lq
 rcases Nat.eq_zero_or_pos n with rfl|h
 ·simp
 ·rw[Nat.mul_zero,Nat.zero_mul,Nat.zero_add];exact Nat.div_eq_of_lt (by omega)
theorem yfl (n m:Nat):lr n m 0=n:=by
 unfold lr
 rcases Nat.eq_zero_or_pos n with rfl|h
 ·simp
 ·rw[Nat.mul_zero,Nat.zero_mul,Nat.zero_add];exact Nat.mod_eq_of_lt (by omega)
theorem ym3 (n m k:Nat) (h:0<n):lr n m k<2*n:=Nat.mod_lt _ (by omega)
theorem zu6 (n m k:Nat) (hn:0<n) (hk:k≤n):lq n m k≤m:=by
 unfold lq
 have:2*k*m≤2*n*m:=Nat.mul_le_mul_right _ (by omega)
 have:(2*k*m+n)/(2*n)<m+1:=(Nat.div_lt_iff_lt_mul (by omega)).2 (by rw[Nat.add_mul,Nat.mul_comm m];omega)
 omega
def lpt (a:Cel) (sx sy:Int) (X Y k:Nat):Cel:=if Y≤X then ⟨a.x+sx*k,a.y+sy*lq X Y k⟩else ⟨a.x+sx*lq Y X k,a.y+sy*k⟩
def z12 (a:Cel) (sx sy:Int) (X Y n:Nat):List Cel:=(List.range (n+1)).map (lpt a sx sy X Y)
theorem zgj {c:Cel} (h:zeo c=true) : -1000≤c.x∧c.x≤1000 ∧ -1000≤c.y∧c.y≤1000:=by simpa[zeo]using h
theorem zkl (a:Cel) (sx sy:Int) (X Y n:Nat):z12 a sx sy X Y (n+1)=z12 a sx sy X Y n ++ [lpt a sx sy X Y (n+1)]:=by simp[z12,List.range_succ]
theorem zau (a:Cel) (sx sy:Int) (X Y n:Nat):(z12 a sx sy X Y n).length=n+1:=by simp[z12]
theorem zm1 (a:Cel) (sx sy:Int) (X Y:Nat):lpt a sx sy X Y 0=a:=by simp[lpt,zsd]
theorem ya1 (a:Cel) (sx sy:Int) (X Y k:Nat) (h1:sx = -1∨sx=0∨sx=1) (h2:sy = -1∨sy=0∨sy=1) (hX:X≤2000) (hY:Y≤2000) (hk:k≤max X Y) (ha:zeo a=true) :
 -3000≤(lpt a sx sy X Y k).x∧(lpt a sx sy X Y k).x≤3000 ∧ -3000≤(lpt a sx sy X Y k).y∧(lpt a sx sy X Y k).y≤3000:=by
 have hn:=zgj ha
 have key:∀(s:Int) (q:Nat),(s = -1∨s=0∨s=1)→q≤2000 → -2000≤s*q∧s*q≤2000:=by
  intro s q hs hq
  rcases hs with rfl|rfl|rfl<;>omega
 unfold lpt
 split
 ·have hq:lq X Y k≤2000:=by
   rcases Nat.eq_zero_or_pos X with rfl|h
   ·obtain rfl:k=0:=by omega
    rw[zsd];omega
   ·have:=zu6 X Y k h (by omega);omega
  have a1:=key sx k h1 (by omega)
  have a2:=key sy _ h2 hq
  simp only;omega
 ·have hq:lq Y X k≤2000:=by have:=zu6 Y X k (by omega) (by omega);omega
  have a1:=key sx _ h1 hq
  have a2:=key sy k h2 (by omega)
  simp only;omega
theorem z6f (a:Cel) (sx sy:Int) (X Y k:Nat) (h:Y≤X) (h0:0<X):lpt a sx sy X Y (k+1)=⟨(lpt a sx sy X Y k).x+sx,if 2*X≤lr X Y k+2*Y then (lpt a sx sy X Y k).y+sy else (lpt a sx sy X Y k).y⟩:=by
 simp only[lpt,if_pos h]
 have hs:=zse X Y k h0 h
 have e1:a.x+sx*((k+1:Nat):Int)=a.x+sx*k+sx:=by rw[Int.natCast_add,Int.mul_add];omega
 rw[e1]
 by_cases hc:2*X≤lr X Y k+2*Y
 ·rw[if_pos hc,(hs.1 hc).1,Int.natCast_add,Int.mul_add];congr 1;omega
 ·rw[if_neg hc,(hs.2 (by omega)).1]
theorem z6e (a:Cel) (sx sy:Int) (X Y k:Nat) (h:X<Y):lpt a sx sy X Y (k+1)=⟨if 2*Y≤lr Y X k+2*X then (lpt a sx sy X Y k).x+sx else (lpt a sx sy X Y k).x,(lpt a sx sy X Y k).y+sy⟩:=by
 simp only[lpt,if_neg (show ¬Y≤X by omega)]
 have hs:=zse Y X k (by omega) (by omega)
 have e1:a.y+sy*((k+1:Nat):Int)=a.y+sy*k+sy:=by rw[Int.natCast_add,Int.mul_add];omega
 rw[e1]
 by_cases hc:2*Y≤lr Y X k+2*X
 ·rw[if_pos hc,(hs.1 hc).1,Int.natCast_add,Int.mul_add];congr 1;omega
 ·rw[if_neg hc,(hs.2 (by omega)).1]
theorem zgk (n:Nat) (y:Int) (N Y:Nat) (hn:n≤N) (hy : -(Y:Int)≤y∧y≤Y) : -((N*Y:Nat):Int)≤(n:Int)*y∧(n:Int)*y≤((N*Y:Nat):Int):=by
 have h1:(n:Int)*y≤(n:Int)*Y:=Int.mul_le_mul_of_nonneg_left hy.2 (by omega)
 have h2:(n:Int)*(-(Y:Int))≤(n:Int)*y:=Int.mul_le_mul_of_nonneg_left hy.1 (by omega)
 have h3:(n:Int)*Y≤((N*Y:Nat):Int):=by rw[Int.natCast_mul];exact Int.mul_le_mul_of_nonneg_right (by omega) (by omega)
 rw[Int.mul_neg]at h2
 omega
def z2t (n T t z1 z2:Int):Prop:=(n*z1-T).natAbs<(n*z2-T).natAbs∨((n*z1-T).natAbs=(n*z2-T).natAbs∧(z1-t).natAbs<(z2-t).natAbs)
theorem z2m (n m k:Nat) (f t s:Int) (hn:0<n) (_:m≤n) (hk:k≤n) (hs:s=1∨s = -1) (ht:t=f+s*m) (z:Int) (_:min f t≤z∧z≤max f t) (hne:z≠f+s*lq n m k) :
 z2t n (n*f+k*(t-f)) t (f+s*lq n m k) z:=by
 have hq:=zu6 n m k hn hk
 have hd:=Nat.div_add_mod (2*k*m+n) (2*n)
 have hlt:(2*k*m+n) % (2*n)<2*n:=Nat.mod_lt _ (by omega)
 have hq2:lq n m k=(2*k*m+n)/(2*n):=rfl
 rw[←hq2]at hd
 generalize (2*k*m+n) % (2*n)=r at hd hlt
 generalize lq n m k=q at *
 have hd2:2*((n:Int)*q)+r=2*((k:Int)*m)+n:=by
  have:((2*n*q+r:Nat):Int)=((2*k*m+n:Nat):Int):=by rw[hd]
  simp only[Int.natCast_add,Int.natCast_mul]at this
  rw[Int.mul_assoc,Int.mul_assoc]at this
  exact this
 obtain⟨e,he⟩:∃e:Int,z=f+s*q+e:=⟨z-(f+s*q),by omega⟩
 have he0:e≠0:=by intro h;apply hne;rw[he,h];omega
 have hE:(1≤e→(n:Int)≤n*e)∧(e ≤ -1→(n:Int)*e ≤ -n):=by
  constructor
  ·intro h
   have:=Int.mul_le_mul_of_nonneg_left (c:=(n:Int)) h (by omega)
   omega
  ·intro h
   have:=Int.mul_le_mul_of_nonneg_left (c:=(n:Int)) h (by omega)
   rw[Int.mul_neg]at this
   omega
 have e1:(n:Int)*z=n*f+n*(s*q)+n*e:=by rw[he,Int.mul_add,Int.mul_add]
 have e2:(n:Int)*(f+s*q)=n*f+n*(s*q):=by rw[Int.mul_add]
 unfold z2t
 rw[e1,e2]
 rcases hs with rfl|rfl
 ·simp only[Int.one_mul]at *
  have e3:(k:Int)*(t-f)=k*m:=by rw[ht];congr 1;omega
  rw[e3]
  generalize (n:Int)*q=A at *
  generalize (k:Int)*m=B at *
  generalize (n:Int)*e=E at *
  generalize (n:Int)*f=F at *
  omega
 ·have e4:(n:Int)*(-1*(q:Int)) = -(n*q):=by rw[Int.neg_one_mul,Int.mul_neg]
  have e3:(k:Int)*(t-f) = -(k*m):=by rw[ht,←Int.mul_neg];congr 1;omega
  rw[e3,e4]
  generalize (n:Int)*q=A at *
  generalize (k:Int)*m=B at *
  generalize (n:Int)*e=E at *
  generalize (n:Int)*f=F at *
  omega
theorem z2o (n T t Q f b y:Int) (A B C D:Nat) (hA:A=(n*y-T).natAbs) (hB:B=(n*b-T).natAbs) (hC:C=(y-t).natAbs) (hD:D=(b-t).natAbs) (HI:Q<y∨Q=f→b=Q) (HBy:y≠Q→z2t n T t Q y) (HBb:b≠Q→z2t n T t Q b) :
 ((A<B∨(A=B∧C<D))→(Q<y+1∨Q=f→y=Q))∧(¬(A<B∨(A=B∧C<D))→(Q<y+1∨Q=f→b=Q)):=by
 constructor
 ·intro h1 h2
  refine Classical.byContradiction fun hne=>?_
  obtain rfl:b=Q:=HI (by omega)
  have:=HBy hne
  unfold z2t at this
  omega
 ·intro h1 h2
  by_cases hq:Q<y∨Q=f
  ·exact HI hq
  ·refine Classical.byContradiction fun hne=>?_
   obtain rfl:Q=y:=by omega
   have:=HBb hne
   unfold z2t at this
   omega
theorem ztw (k X:Nat) (d s:Int) (hs:d.sign=s) (hn:d.natAbs=X) (hX:X≠0):((k:Int)*d).tdiv X=s*k:=by
 have e:d=s*X:=by rw[←hs,←hn];exact(Int.sign_mul_natAbs d).symm
 rw[e,←Int.mul_assoc,Int.mul_tdiv_cancel _ (by omega),Int.mul_comm]
theorem zrb (n m k:Nat) (f t s:Int) (hs:(t-f).sign=s) (hm:(t-f).natAbs=m):∃s',(s'=1∨s' = -1)∧t=f+s'*m∧s'*lq n m k=s*lq n m k:=by
 rcases Int.lt_trichotomy (t-f) 0 with h|h|h
 ·rw[Int.sign_eq_neg_one_of_neg h]at hs;subst hs;exact⟨-1,.inr rfl,by omega,rfl⟩
 ·have h0:m=0:=by omega
  subst h0
  have hq:lq n 0 k=0:=by
   unfold lq
   rcases Nat.eq_zero_or_pos n with rfl|hn
   ·simp
   ·rw[Nat.mul_zero,Nat.zero_add];exact Nat.div_eq_of_lt (by omega)
  exact⟨1,.inl rfl,by omega,by rw[hq];simp⟩
 ·rw[Int.sign_eq_one_of_pos h]at hs;subst hs;exact⟨1,.inl rfl,by omega,rfl⟩
theorem zzj (c:Cel) (hx:zdu c.x) (hy:zdu c.y):Spec Tryz.prog 211 [zeu c] [] (B (zeo c)) []:=by
 refine spB Tryz.func211 23 [.tmp 2] Tryz.results211 ?_
 try refine xst ?_
 refine zfm rfl trivial (Wk.of ?_)
 simp(etaStruct := .none)only[push_cast,zad,seval]
 simp only[I,B,AV.c.injEq,PV.v.injEq,Value.bool.injEq,zeo,IntKind.wrap_i64]
 rw[Bool.eq_iff_iff]
 simp only[bJ,decide_eq_true_eq]
 repeat' split
 all_goals omega
theorem zyv (n:Int) (hn:zdu n) (h:n ≠ -9223372036854775808):Spec Tryz.prog 212 [I .i64 n] [] (.tup [I .i64 n.sign,I .i64 n.natAbs]) []:=by
 refine spB Tryz.func212 13 [.tmp 2,.tmp 3] Tryz.results212 ?_
 try refine xst ?_
 refine cI (fun h1=>?_) fun h1=>?_
 ·have e1:n.sign = -1:=Int.sign_eq_neg_one_of_neg h1
  have e2:(n.natAbs:Int) = -n:=by omega
  try refine xz2 e1 e2 ?_
  exact xrz rfl
 ·try refine xst ?_
  refine cI (fun h2=>?_) fun h2=>?_
  ·have e1:n.sign=1:=Int.sign_eq_one_of_pos h2
   have e2:(n.natAbs:Int)=n:=by omega
   try refine xst ?_
   exact xrz rfl
  ·obtain rfl:n=0:=by omega
   try refine xst ?_
   exact xrz rfl
theorem z2k (c:Cel):Spec Tryz.prog 60 [zeu c] [] (B (zeo c)) []:=by
 refine spB Tryz.func60 11 [.tmp 2] Tryz.results60 ?_
 try refine xst ?_
 refine caP (zat c.x (-1000) 1000) ?_
 try refine xst ?_
 refine gcP (fun hcc=>zat c.y (-1000) 1000) ?_
 try refine xst ?_
 exact zfm rfl trivial (Wk.of (congrArg B (by unfold zeo zal;rw[Bool.eq_iff_iff];simp;omega)))
theorem zps (a b:Int) (ha : -4000000000000000000≤a∧a≤4000000000000000000) (hb : -4000000000000000000≤b∧b≤4000000000000000000):Spec Tryz.prog 99 [I .i64 a,I .i64 b] [] (I .i64 (a-b).natAbs) []:=by
 refine spB Tryz.func99 12 [.tmp 4] Tryz.results99 ?_
 try refine xst ?_
 refine zfm rfl trivial (Wk.of ?_)
 simp(etaStruct := .none)only[push_cast,zad,seval]
 simp only[I,AV.c.injEq,PV.v.injEq,Value.int.injEq,true_and]
 split<;>omega
theorem sg (d:Int):d.sign = -1∨d.sign=0∨d.sign=1:=by
 rcases Int.lt_trichotomy d 0 with h|h|h
 ·rw[Int.sign_eq_neg_one_of_neg h];omega
 ·rw[h];simp
 ·rw[Int.sign_eq_one_of_pos h];omega
def zkm (a b:Cel):List Cel:=z12 a (b.x-a.x).sign (b.y-a.y).sign (b.x-a.x).natAbs (b.y-a.y).natAbs (max (b.x-a.x).natAbs (b.y-a.y).natAbs)
theorem z8m (n m k:Nat) (f t s:Int) (hn:0<n) (hm:m≤n) (hk:k≤n) (hn2:n≤120) (hs:s=1∨s = -1) (ht:t=f+s*m) (hf : -1000≤f∧f≤1000) (htn : -1000≤t∧t≤1000) :
 Spec Tryz.prog 201 [I .i64 k,I .i64 n,I .i64 f,I .i64 t] [] (I .i64 (f+s*lq n m k)) []:=by
 have HB:=fun z hz hne=>z2m n m k f t s hn hm hk hs ht z hz hne
 obtain⟨Q,hQ⟩:∃Q,Q=f+s*lq n m k:=⟨_,rfl⟩
 obtain⟨T,hT⟩:∃T:Int,T=n*f+k*(t-f):=⟨_,rfl⟩
 rw[←hQ,←hT]at HB
 rw[←hQ]
 have HQ:min f t≤Q∧Q≤max f t:=by
  have hq:=zu6 n m k hn hk
  rw[hQ,ht]
  generalize lq n m k=q at *
  rcases hs with rfl|rfl<;>omega
 have hb1:=zgk n f 120 1000 hn2 (by omega)
 have hb2:=zgk k (t-f) 120 2000 (by omega) (by omega)
 clear hs ht hQ
 have E1:(if f>t then t else f)=min f t:=by simp only[Int.min_def];split<;>split<;>omega
 have E2:(if t>f then t else f)=max f t:=by simp only[Int.max_def];split<;>split<;>omega
 have E3:(if t<f then t else f)=min f t:=by simp only[Int.min_def];split<;>split<;>omega
 refine spB Tryz.func201 69 [.tmp 8] Tryz.results201 ?_
 try refine xz3 E1 E2 E3 ?_
 refine zay (fun p:Int × Int=>⟨[(10,I .i64 p.1),(9,I .i64 p.2),(3,I .i64 t),(2,I .i64 f),(1,I .i64 n),(0,I .i64 k)],[],0⟩) (fun p:Int × Int=>(min f t≤p.1∧p.1≤max f t+1)∧(min f t≤p.2∧p.2≤max f t)∧(Q<p.1∨Q=f→p.2=Q)) (fun p:Int × Int=>(max f t+1-p.1).toNat) ((min f t,f)) (⟨⟨by simp only;omega,by simp only;omega⟩,⟨by simp only;omega,by simp only;omega⟩,fun h=>by simp only at h ⊢;omega⟩) (To.mk [] rfl rfl List.nodup_nil trivial ?_) ?_
 ·exact xS
 rintro⟨y,b⟩ ⟨hy,hb,HI⟩
 simp only at hy hb HI
 try refine xz3 E1 E2 E3 ?_
 refine cI (fun h1=>?_) fun h1=>?_
 ·have hb3:=zgk n y 120 1000 hn2 (by omega)
  have hb4:=zgk n b 120 1000 hn2 (by omega)
  try refine xz3 E1 E2 E3 ?_
  have st:=z2o n T t Q f b y _ _ _ _ rfl rfl rfl rfl HI (fun h=>HB y (by omega) h) (fun h=>HB b (by omega) h)
  rw[hT]at st
  refine caP (zps (n*y) (n*f+k*(t-f)) (by omega) (by omega)) ?_
  try refine xz3 E1 E2 E3 ?_
  refine caP (zps (n*b) (n*f+k*(t-f)) (by omega) (by omega)) ?_
  try refine xz3 E1 E2 E3 ?_
  refine gcP (fun hcc=>zps y t (by omega) (by omega)) ?_
  try refine xz3 E1 E2 E3 ?_
  refine gcP (fun hcc=>zps b t (by omega) (by omega)) ?_
  try refine xz3 E1 E2 E3 ?_
  refine cI (fun h2=>?_) fun h2=>?_
  ·try refine xz3 E1 E2 E3 ?_
   refine⟨(y+1,y),⟨⟨by simp only;omega,by simp only;omega⟩,⟨by simp only;omega,by simp only;omega⟩,fun h=>st.1 (by omega) h⟩,by simp only;omega,To.mk [] rfl rfl List.nodup_nil trivial ?_⟩
   ·(try(refine xz3 E1 E2 E3 ?_;try exact xtI))
  ·try refine xz3 E1 E2 E3 ?_
   refine⟨(y+1,b),⟨⟨by simp only;omega,by simp only;omega⟩,⟨by simp only;omega,by simp only;omega⟩,fun h=>st.2 (by omega) h⟩,by simp only;omega,To.mk [] rfl rfl List.nodup_nil trivial ?_⟩
   ·(try(refine xz3 E1 E2 E3 ?_;try exact xtI))
 ·try refine xz3 E1 E2 E3 ?_
  exact zfm rfl trivial (Wk.of (by rw[←HI (by omega)];rfl))
def zhy (o:Ord):Bool := !zal o.by_ 0 7 || !zal o.kind 1 5 || !zal o.who 0 1000000 || !zeo o.c || !zal o.what 0 1000000
def zgz (o:Ord):Bool:=decide (o.kind=5∧o.who≠0)||decide (o.kind≠2∧o.kind≠3∧¬(o.c.x=0∧o.c.y=0))||decide (o.kind≠1∧o.kind≠5∧o.what≠0)
def zii (o:Ord):Int:=if zhy o then 1 else if zgz o then 4 else 0
theorem zqk (o:Ord):zii o=(if zhy o then 1 else if zgz o then 4 else 0:Int):=rfl
theorem zoj {o:Ord} (h:zii o=0):(0≤o.by_∧o.by_≤7)∧(1≤o.kind∧o.kind≤5)∧(0≤o.who∧o.who≤1000000)∧(-1000≤o.c.x∧o.c.x≤1000 ∧ -1000≤o.c.y∧o.c.y≤1000)∧(0≤o.what∧o.what≤1000000) ∧
 (o.kind=5→o.who=0)∧(o.kind≠2→o.kind≠3→o.c=⟨0,0⟩)∧(o.kind≠1→o.kind≠5→o.what=0):=by
 unfold zii at h
 split at h
 ·simp at h
 ·rename_i h1
  split at h
  ·simp at h
  ·rename_i h2
   simp only[zhy,Bool.or_eq_true,Bool.not_eq_true',not_or,Bool.not_eq_false,within_iff,zeo,decide_eq_true_eq]at h1
   simp only[zgz,Bool.or_eq_true,decide_eq_true_eq,not_or]at h2
   obtain⟨⟨⟨⟨a1,a2⟩,a3⟩,a4⟩,a5⟩:=h1
   refine⟨a1,a2,a3,a4,a5,fun h=>by omega,fun h h'=>?_,fun h h'=>by omega⟩
   have:o.c.x=0∧o.c.y=0:=by omega
   cases hc:o.c;rw[hc]at this;simp at this;rw[this.1,this.2]
def zfy:List Ord→Int
 | []=>0
 | o::r=>if zii o≠0 then zii o else zfy r
theorem zo5:∀(l:List Ord) (k:Nat),k<l.length→zfy (l.drop k)=if zii (l.getD k default)≠0 then zii (l.getD k default)else zfy (l.drop (k+1)):=by
 intro l k hk
 rw[List.drop_eq_getElem_cons hk,zaq _ _ hk];rfl
theorem zjv (l:List Ord):∀k,k≤l.length→(∀j,j<k→zii (l.getD j default)=0)→zfy l=zfy (l.drop k)
 | 0,_,_=>by simp
 | k+1,hk,h=>by
  rw[zjv l k (by omega) fun j hj=>h j (by omega),zo5 l k (by omega),if_neg (fun h'=>h' (h k (by omega)))]
theorem zvm:∀(l:List Ord),zfy l=0→∀o∈l,zii o=0
 | [],_,o,ho=>by simp at ho
 | a::r,h,o,ho=>by
  unfold zfy at h
  split at h
  ·rename_i h1;exact absurd h h1
  ·rename_i h1
   rcases List.mem_cons.1 ho with rfl|ho
   ·exact Decidable.not_not.1 h1
   ·exact zvm r h o ho
def zev (l:List Ord):Int:=if 100<l.length then 2 else zfy l
theorem zw5 (l:List Ord):zev l=(if 100<l.length then 2 else zfy l:Int):=rfl
theorem zrz {l:List Ord} (h:zev l=0):l.length≤100∧∀o∈l,zii o=0:=by
 unfold zev at h
 split at h
 ·simp at h
 ·rename_i h1;exact⟨by omega,zvm l h⟩
def zh9 (o:Ord):Ord:=⟨o.by_,o.kind,if o.kind=5 then 0 else o.who,if o.kind≠2∧o.kind≠3 then ⟨0,0⟩else o.c,if o.kind≠1∧o.kind≠5 then 0 else o.what⟩
theorem zh8 (o:Ord):zh9 o=(⟨o.by_,o.kind,if o.kind=5 then 0 else o.who,if o.kind≠2∧o.kind≠3 then ⟨0,0⟩else o.c,if o.kind≠1∧o.kind≠5 then 0 else o.what⟩:Ord):=rfl
theorem zed (a b:Ord):(decide (a.by_=b.by_)&&(decide (a.kind=b.kind)&&(decide (a.who=b.who)&&(decide (a.c.x=b.c.x)&&(decide (a.c.y=b.c.y)&&decide (a.what=b.what))))))=decide (a=b):=by
 rw[Bool.eq_iff_iff];obtain⟨_,_,_,⟨_,_⟩,_⟩:=a;obtain⟨_,_,_,⟨_,_⟩,_⟩:=b;simp[and_assoc]
theorem zcp (o:Ord):decide (zh9 o=o) = !zgz o:=by
 obtain⟨b,k,w,⟨x,y⟩,t⟩:=o
 unfold zh9 zgz
 rw[Bool.eq_iff_iff]
 simp only[decide_eq_true_eq,Bool.not_eq_true',Bool.or_eq_false_iff,decide_eq_false_iff_not,Ord.mk.injEq,true_and]
 constructor
 ·rintro⟨h1,h2,h3⟩
  refine⟨⟨fun h=>?_,fun h=>?_⟩,fun h=>?_⟩
  ·rw[if_pos h.1]at h1;omega
  ·rw[if_pos ⟨h.1,h.2.1⟩]at h2;simp at h2;omega
  ·rw[if_pos ⟨h.1,h.2.1⟩]at h3;omega
 ·rintro⟨⟨h1,h2⟩,h3⟩
  refine⟨?_,?_,?_⟩
  ·split<;>omega
  ·split
   ·simp;omega
   ·rfl
  ·split<;>omega
theorem zon (c:Cel):(!zal c.x (-1000) 1000 || !zal c.y (-1000) 1000) = !zeo c:=by
 unfold zal zeo
 rw[Bool.eq_iff_iff];simp;omega
theorem zgi (n a b:Int):Spec Tryz.prog 160 [I .i64 n,I .i64 a,I .i64 b] [] (B (zal n a b)) []:=by
 refine spB Tryz.func160 15 [.tmp 6] Tryz.results160 ?_
 try refine xst ?_
 exact zfm rfl trivial (Wk.of (congrArg B (by unfold zal;first|rfl|simp)))
theorem ykb (o:Ord):Spec Tryz.prog 161 [zmu o] [] (zmu (zh9 o)) []:=by
 refine spB Tryz.func161 27 [.cell 2 74] Tryz.results161 ?_
 try refine xst ?_
 refine cI (fun h1=>?_) fun h1=>?_
 ·try refine xst ?_
  refine cI (fun h2=>?_) fun h2=>?_
  ·try refine xst ?_
   refine cI (fun h3=>?_) fun h3=>?_
   ·try refine xst ?_
    exact zcw zh8 rfl
   ·have e2:¬(o.kind≠1∧o.kind≠5):=by omega
    try refine xst ?_
    exact zcw zh8 rfl
  ·have e1:¬(o.kind≠2∧o.kind≠3):=by omega
   try refine xst ?_
   refine cI (fun h4=>?_) fun h4=>?_
   ·try refine xst ?_
    exact zcw zh8 rfl
   ·have e2:¬(o.kind≠1∧o.kind≠5):=by omega
    try refine xst ?_
    exact zcw zh8 rfl
 ·try refine xst ?_
  refine cI (fun h5=>?_) fun h5=>?_
  ·try refine xst ?_
   refine cI (fun h6=>?_) fun h6=>?_
   ·try refine xst ?_
    exact zcw zh8 rfl
   ·have e2:o.kind=1:=by omega
    try refine xst ?_
    exact zcw zh8 rfl
  ·have e1:¬(o.kind≠2∧o.kind≠3):=by omega
   try refine xst ?_
   refine cI (fun h7=>?_) fun h7=>?_
   ·try refine xst ?_
    exact zcw zh8 rfl
   ·have e2:¬(o.kind≠1∧o.kind≠5):=by omega
    try refine xst ?_
    exact zcw zh8 rfl
theorem zmw (o:Ord):Spec Tryz.prog 123 [zmu o] [] (I .i64 (zii o)) []:=by
 refine spB Tryz.func123 43 [.tmp 2] Tryz.results123 ?_
 try refine xz2 (zed (zh9 o) o) (zcp o) ?_
 refine caP (zgi o.by_ 0 7) ?_
 try refine xz2 (zed (zh9 o) o) (zcp o) ?_
 refine gcP (fun hcc=>zgi o.kind 1 5) ?_
 try refine xz2 (zed (zh9 o) o) (zcp o) ?_
 refine gcP (fun hcc=>zgi o.who 0 1000000) ?_
 try refine xz2 (zed (zh9 o) o) (zcp o) ?_
 refine gcP (fun hcc=>zgi o.c.x (-1000) 1000) ?_
 try refine xz2 (zed (zh9 o) o) (zcp o) ?_
 refine gcP (fun hcc=>zgi o.c.y (-1000) 1000) ?_
 try refine xz2 (zed (zh9 o) o) (zcp o) ?_
 refine gcP (fun hcc=>zgi o.what 0 1000000) ?_
 try refine xz2 (zed (zh9 o) o) (zcp o) ?_
 refine cI (fun h1=>?_) fun h1=>?_
 ·have hb:zhy o=true:=by unfold zhy;rw[←zon];simpa[or_assoc]using h1
  try refine xz2 (zed (zh9 o) o) (zcp o) ?_
  exact znb zqk hb rfl
 ·have hb:zhy o=false:=by unfold zhy;rw[←zon];simpa[and_assoc]using h1
  try refine xz2 (zed (zh9 o) o) (zcp o) ?_
  refine caP (ykb o) ?_
  try refine xz2 (zed (zh9 o) o) (zcp o) ?_
  (try(refine⟨by kernel_rfl,?_⟩))
  try refine xz2 (zed (zh9 o) o) (zcp o) ?_
  refine cI (fun h2=>?_) fun h2=>?_
  ·try refine xz2 (zed (zh9 o) o) (zcp o) ?_
   exact znb zqk hb rfl
  ·try refine xz2 (zed (zh9 o) o) (zcp o) ?_
   exact znb zqk hb rfl
theorem zzd (o:Ord):Spec Tryz.prog 24 [zmu o] [] (I .i64 (zii o)) []:=by
 refine spB Tryz.func24 85 [.tmp 2] Tryz.results24 ?_
 try refine xst ?_
 refine caP (zat o.by_ 0 7) ?_
 try refine xst ?_
 refine gcP (fun hcc=>zat o.kind 1 5) ?_
 try refine xst ?_
 refine gcP (fun hcc=>zat o.who 0 1000000) ?_
 try refine xst ?_
 refine gcP (fun hcc=>z2k o.c) ?_
 try refine xst ?_
 refine gcP (fun hcc=>zat o.what 0 1000000) ?_
 try refine xst ?_
 refine cI (fun h1=>?_) fun h1=>?_
 ·have hb:zhy o=true:=by unfold zhy;simpa[or_assoc]using h1
  try refine xst ?_
  exact znb zqk hb rfl
 ·have hb:zhy o=false:=by unfold zhy;simpa[and_assoc]using h1
  try refine xst ?_
  refine cI (fun h2=>?_) fun h2=>?_
  ·have hc:zgz o=true:=by unfold zgz;simp;omega
   try refine xst ?_
   exact znb zqk hb rfl
  ·have hc:zgz o=false:=by unfold zgz;simp;omega
   try refine xst ?_
   exact znb zqk hb rfl
theorem yc0 (l:List Ord) (hl:l.length≤9223372036854775807):Spec Tryz.prog 162 [.c (.sl 6 (l.map zga))] [] (I .i64 (zev l)) []:=by
 refine spB Tryz.func162 21 [.tmp 2] Tryz.results162 ?_
 try refine xst ?_
 refine cI (fun h1=>?_) fun h1=>?_
 ·have h1':100<l.length:=by omega
  try refine xst ?_
  exact zcw zw5 rfl
 ·try refine xst ?_
  refine zay (fun k:Nat=>⟨[(11,I .i64 k),(10,I .i64 l.length),(9,.c (.sl 6 (l.map zga)))],[],0⟩) (fun k:Nat=>k≤l.length∧∀j,j<k→zii (l.getD j default)=0) (fun k:Nat=>l.length-k) (0) (⟨Nat.zero_le _,fun j h=>by omega⟩) (To.mk [] rfl rfl List.nodup_nil trivial ?_) ?_
  ·exact xS
  rintro k ⟨hk,hn⟩
  try refine xst ?_
  refine cI (fun h2=>?_) fun h2=>?_
  ·have hlt:k<l.length:=by omega
   try refine xz2 (gd hlt) zbi ?_
   refine caP (zmw (l.getD k default)) ?_
   try refine xz2 (gd hlt) zbi ?_
   refine cI (fun h3=>?_) fun h3=>?_
   ·have e:zev l=zii (l.getD k default):=by
     unfold zev
     rw[if_neg (by omega),zjv l k hk hn,zo5 l k hlt,if_pos h3]
    try refine xz2 (gd hlt) zbi ?_
    exact zcw e rfl
   ·try refine xz2 (gd hlt) zbi ?_
    refine⟨k+1,⟨by omega,fun j hj=>by rcases Nat.lt_or_ge j k with h|h;exact hn j h;rw[show j=k by omega];exact h3⟩,by omega,To.mk [] rfl rfl List.nodup_nil trivial ?_⟩
    ·(try(refine xz2 (gd hlt) zbi ?_;try exact xtI))
  ·have e:zev l=0:=by
    unfold zev
    rw[if_neg (by omega),zjv l k hk hn,List.drop_eq_nil_of_le (by omega)];rfl
   try refine xst ?_
   exact zcw e rfl
theorem zkf (l:List Ord) (hl:l.length≤9223372036854775807):Spec Tryz.prog 65 [.c (.sl 6 (l.map zga))] [] (I .i64 (zev l)) []:=by
 refine spB Tryz.func65 25 [.tmp 2] Tryz.results65 ?_
 try refine xst ?_
 refine cI (fun h1=>?_) fun h1=>?_
 ·have h1':100<l.length:=by omega
  try refine xst ?_
  exact zcw zw5 rfl
 ·have h1':¬100<l.length:=by omega
  try refine xst ?_
  refine zay (fun k:Nat=>⟨[(4,I .i64 ((k:Int)-1)),(3,I .i64 (zfy (l.drop k))),(0,.c (.sl 6 (l.map zga)))],[],0⟩) (fun k:Nat=>k≤l.length) (fun k:Nat=>k) (l.length) (Nat.le_refl _) (To.mk [] rfl rfl List.nodup_nil trivial ?_) ?_
  ·simp(etaStruct := .none)only[push_cast,zad,seval,List.drop_length,zfy]
  rintro k hk
  try refine xst ?_
  refine cI (fun h2=>?_) fun h2=>?_
  ·have hlt:k-1<l.length:=by omega
   have ek:((k:Int)-1).toNat=k-1:=by omega
   have ek2:((k-1:Nat):Int)=(k:Int)-1:=by omega
   have fe:=zo5 l (k-1) hlt
   rw[show k-1+1=k by omega]at fe
   try refine xz3 ek (gd hlt) zbi ?_
   refine caP (zzd (l.getD (k-1) default)) ?_
   try refine xz3 ek (gd hlt) zbi ?_
   refine cI (fun h3=>?_) fun h3=>?_
   ·rw[if_pos h3]at fe
    try refine xz3 ek (gd hlt) zbi ?_
    refine⟨k-1,by omega,by omega,To.mk [] rfl rfl List.nodup_nil trivial ?_⟩
    ·(try(refine xz2 fe ek2 ?_;try exact xtI))
   ·rw[if_neg (by simpa using h3)]at fe
    try refine xz3 ek (gd hlt) zbi ?_
    refine⟨k-1,by omega,by omega,To.mk [] rfl rfl List.nodup_nil trivial ?_⟩
    ·(try(refine xz2 fe ek2 ?_;try exact xtI))
  ·obtain rfl:k=0:=by omega
   try refine xst ?_
   exact zcw zw5 rfl
theorem z5g (l:List Ord) (hl:l.length≤2932031007402):Spec Tryz.prog 26 [.c (.sl 6 (l.map zga))] [] (.own 0) [.row 74 6 (l.map zga)]:=by
 refine spB Tryz.func26 8 [.tmp 2] Tryz.results26 ?_
 try refine xst ?_
 intro b hb
 try refine xst ?_
 refine zcd (fun h=>?_) (fun h=>?_)
 ·try refine xst ?_
  have e:=hb h
  refine zjn (To.nil 2 74 6 rfl) (zb9 [0] rfl rfl (by decide) ⟨?_,trivial⟩ trivial ?_)
  ·exact xS1 e
  ·exact xS
 ·try refine xst ?_
  refine zb9 [1] rfl rfl (by decide) ⟨?_,trivial⟩ trivial ?_
  ·exact xS
  ·exact xS
structure Sea where
 waits:List Ord
 late:Int
 gone:Bool
 deriving DecidableEq, Inhabited
def yi6 (s:Sea):Sea:=⟨s.waits,if 0<s.waits.length then 0 else if s.gone then s.late else min (s.late+1) 1000000,s.gone⟩
def zd4 (w:Wld):Prop:=w.f.p.length≤9223372036854775807∧w.bases.length≤9223372036854775807∧w.stocks.length≤9223372036854775807∧w.mines.length≤9223372036854775807∧w.troops.length≤9223372036854775807
abbrev zhe (w:Wld):List AV := [I .i64 w.f.w,I .i64 w.f.h,.c (.sl 1 (w.f.p.map zao)),.c (.sl 2 (w.bases.map zbk)),.c (.sl 1 (w.stocks.map zao)),.c (.sl 1 (w.mines.map zao)),.c (.sl 7 (w.troops.map zch)),I .i64 w.next,I .i64 w.now]
abbrev z3p (t:Trp):AV := .agg [I .i64 t.id,I .i64 t.owner,I .i64 t.kind,I .i64 t.c.x,I .i64 t.c.y,I .i64 t.life,I .i64 t.load]
abbrev ykr (t:Trp):List AV := [I .i64 t.id,I .i64 t.owner,I .i64 t.kind,I .i64 t.c.x,I .i64 t.c.y,I .i64 t.life,I .i64 t.load]
theorem zwe {w:Wld} (hf:zbl w.f=0) (hb:¬(8<w.bases.length∨100<w.troops.length)) (h:zhd w=false):zap w=4:=by
 unfold zap;rw[if_neg (by simp[hf]),if_neg hb,h];rfl
theorem zpy {w:Wld} (hf:zbl w.f=0) (hb:¬(8<w.bases.length∨100<w.troops.length)) (h:zgb w=false):zap w=4:=by
 unfold zap;rw[if_neg (by simp[hf]),if_neg hb,h];simp
theorem zne {w:Wld} (hf:zbl w.f=0) (hb:¬(8<w.bases.length∨100<w.troops.length)) (h1:zhd w=true) (h:zgb w=true):zap w=0:=by
 unfold zap;rw[if_neg (by simp[hf]),if_neg hb,h1,h];rfl
theorem zwf {w:Wld} {k:Nat} (hk:k<w.troops.length) (h:zal (w.troops.getD k default).kind 1 2=false):zgb w=false:=by
 have:zdt (zdx w) w.troops.length=false:=by
  rw[←Bool.not_eq_true,zb5];intro hh
  have:=hh k hk
  unfold zdx at this;rw[h]at this;simp at this
 unfold zgb;rw[this];simp
theorem zpe (a b:Cel):(!(decide (a.x=b.x)&&decide (a.y=b.y))) = !decide (a=b):=by rw[zc5]
theorem zia (w:Wld) (hl:zd4 w):Spec Tryz.prog 31 [zcf w] [] (I .i64 (zap w)) []:=by
 obtain⟨l1,l2,l3,l4,l5⟩:=hl
 refine spB Tryz.func31 213 [.tmp 2] Tryz.results31 ?_
 try refine xst ?_
 refine caP (zsx w.f l1) ?_
 try refine xst ?_
 refine cI (fun h1=>?_) fun h1=>?_
 ·have e:zap w=zbl w.f:=by unfold zap;rw[if_pos (by simpa using h1)]
  try refine xst ?_
  exact zcw e rfl
 ·have hf:zbl w.f=0:=by simpa using h1
  have hfo:=za4 hf
  try refine xst ?_
  refine cI (fun h2=>?_) fun h2=>?_
  ·have e:zap w=2:=by unfold zap;rw[if_neg (by simp[hf]),if_pos (by omega)]
   try refine xst ?_
   exact zcw e rfl
  ·have hb:¬(8<w.bases.length∨100<w.troops.length):=by omega
   try refine xst ?_
   refine gcP (fun hcc=>zat _ _ _) ?_
   try refine xst ?_
   refine gcP (fun hcc=>zat _ _ _) ?_
   try refine xst ?_
   refine cI (fun h3=>?_) fun h3=>?_
   ·have e:zap w=4:=by
     refine zwe hf hb ?_
     unfold zhd
     simp only[Bool.and_eq_false_iff,decide_eq_false_iff_not]
     rcases h3 with ((h|h)|h)|h
     ·exact .inl (.inl (.inl (by omega)))
     ·exact .inl (.inl (.inr (by omega)))
     ·exact .inl (.inr h)
     ·exact .inr h
    try refine xst ?_
    exact zcw e rfl
   ·have hwf:zhd w=true:=by
     unfold zhd
     simp only[bJ,decide_eq_true_eq]
     exact⟨⟨⟨by omega,by omega⟩,h3.1.2⟩,h3.2⟩
    have hnx:=within_iff.1 h3.1.2
    have hls:w.stocks.length=w.bases.length:=by omega
    have hlm:w.mines.length=w.f.p.length:=by omega
    try refine xst ?_
    refine zay (fun k:Nat=>⟨[(61,I .i64 k),(60,I .i64 w.bases.length),(4,B (zdt (zi6 w) k)),(1,.ptr 0 0 0)],[(0,.blk 32 (zhe w))],1⟩) (fun k:Nat=>k≤w.bases.length) (fun k:Nat=>w.bases.length-k) (0) (Nat.zero_le _) (To.mk [0] rfl rfl (by decide) ?_ ?_) ?_
    ·exact xS
    ·simp(etaStruct := .none)only[push_cast,zad,seval,zdt]
    rintro k hk
    try refine xst ?_
    refine cI (fun h4=>?_) fun h4=>?_
    ·have hlt:k<w.bases.length:=by omega
     have hlt2:k<w.stocks.length:=by omega
     try refine xz4 (gd hlt) zag (gd hlt2) zab ?_
     refine gcP (fun hcc=>zss w.f (w.bases.getD k default) hf) ?_
     try refine xz4 (gd hlt) zag (gd hlt2) zab ?_
     refine gcP (fun hcc=>zat (w.stocks.getD k default) 0 1000000) ?_
     try refine xz4 (gd hlt) zag (gd hlt2) zab ?_
     (try(refine⟨by kernel_rfl,?_⟩))
     try refine xz4 (gd hlt) zag (gd hlt2) zab ?_
     refine zay (fun j:Nat=>⟨[(84,I .i64 j),(83,I .i64 k),(61,I .i64 k),(60,I .i64 w.bases.length),(5,I .i64 k),(4,B (((zdt (zi6 w) k&&zca w.f (w.bases.getD k default))&&zal (w.stocks.getD k default) 0 1000000)&&zdt (fun j => !decide (w.bases.getD j default=w.bases.getD k default)) j)),(1,.ptr 0 0 0)],[(0,.blk 32 (zhe w))],1⟩) (fun j:Nat=>j≤k) (fun j:Nat=>k-j) (0) (Nat.zero_le _) (To.mk [0] rfl rfl (by decide) ?_ ?_) ?_
     ·exact xS
     ·simp(etaStruct := .none)only[push_cast,zad,seval,zdt,Bool.and_true]
     rintro j hj
     try refine xz4 (gd hlt) zag (gd hlt2) zab ?_
     refine cI (fun h5=>?_) fun h5=>?_
     ·have hltj:j<w.bases.length:=by omega
      try refine xz7 (gd hlt) zag (gd hlt2) zab (gd hltj) zpe zc5 ?_
      (try(refine⟨by kernel_rfl,?_⟩))
      try refine xz7 (gd hlt) zag (gd hlt2) zab (gd hltj) zpe zc5 ?_
      refine⟨j+1,by omega,by omega,To.mk [0] rfl rfl (by decide) ?_ ?_⟩
      ·(try(refine xz7 (gd hlt) zag (gd hlt2) zab (gd hltj) zpe zc5 ?_;try exact xtI))
      ·(iterate 2((try simp(etaStruct := .none)only[push_cast,zad,seval,zdt,←Bool.and_assoc]);(try(refine xsu ?_;try exact xtI))))
     ·obtain rfl:k=j:=by omega
      try refine xz4 (gd hlt) zag (gd hlt2) zab ?_
      refine⟨k+1,by omega,by omega,To.mk [0] rfl rfl (by decide) ?_ ?_⟩
      ·(try(refine xz4 (gd hlt) zag (gd hlt2) zab ?_;try exact xtI))
      ·(iterate 2((try simp(etaStruct := .none)only[push_cast,zad,seval,zdt,zi6,←Bool.and_assoc]);(try(refine xsu ?_;try exact xtI))))
    ·obtain rfl:k=w.bases.length:=by omega
     try refine xst ?_
     refine zay (fun k:Nat=>⟨[(106,I .i64 k),(105,I .i64 w.mines.length),(104,.c (.sl 1 (w.mines.map zao))),(4,B (zdt (zi6 w) w.bases.length&&zdt (zli w) k)),(1,.ptr 0 0 0)],[(0,.blk 32 (zhe w))],1⟩) (fun k:Nat=>k≤w.mines.length) (fun k:Nat=>w.mines.length-k) (0) (Nat.zero_le _) (To.mk [0] rfl rfl (by decide) ?_ ?_) ?_
     ·exact xS
     ·simp(etaStruct := .none)only[push_cast,zad,seval,zdt,Bool.and_true]
     rintro k hk
     try refine xst ?_
     refine cI (fun h6=>?_) fun h6=>?_
     ·have hlt:k<w.mines.length:=by omega
      have hlt2:k<w.f.p.length:=by omega
      try refine xz3 (gd hlt) (gd hlt2) zab ?_
      refine gcP (fun hcc=>zat (w.mines.getD k default) 0 1000000) ?_
      try refine xz3 (gd hlt) (gd hlt2) zab ?_
      refine⟨k+1,by omega,by omega,To.mk [0] rfl rfl (by decide) ?_ ?_⟩
      ·(try(refine xz3 (gd hlt) (gd hlt2) zab ?_;try exact xtI))
      ·(iterate 2((try simp(etaStruct := .none)only[push_cast,zad,seval,zdt,zli,←Bool.and_assoc]);(try(refine xsu ?_;try exact xtI))))
     ·obtain rfl:k=w.mines.length:=by omega
      try refine xst ?_
      refine zay (fun k:Nat=>⟨[(133,I .i64 k),(132,I .i64 w.troops.length),(131,.c (.sl 7 (w.troops.map zch))),(4,B ((zdt (zi6 w) w.bases.length&&zdt (zli w) w.mines.length)&&zdt (zdx w) k)),(1,.ptr 0 0 0)],[(0,.blk 32 (zhe w))],1⟩) (fun k:Nat=>k≤w.troops.length) (fun k:Nat=>w.troops.length-k) (0) (Nat.zero_le _) (To.mk [0] rfl rfl (by decide) ?_ ?_) ?_
      ·exact xS
      ·simp(etaStruct := .none)only[push_cast,zad,seval,zdt,Bool.and_true]
      rintro k hk
      try refine xst ?_
      refine cI (fun h7=>?_) fun h7=>?_
      ·have hlt:k<w.troops.length:=by omega
       try refine xz2 (gd hlt) zac ?_
       refine caP (zat (w.troops.getD k default).kind 1 2) ?_
       try refine xz2 (gd hlt) zac ?_
       refine cI (fun h8=>?_) fun h8=>?_
       ·have e:zap w=4:=zpy hf hb (zwf hlt (by simpa using h8))
        try refine xz2 (gd hlt) zac ?_
        exact zcw e rfl
       ·have hkd0:zal (w.troops.getD k default).kind 1 2=true:=by simpa using h8
        have hkd:=within_iff.1 hkd0
        have lk:(List.take k (List.map zch w.troops)).length=k:=by rw[List.length_take,List.length_map];omega
        have hkd2:(w.troops.getD k default).kind=1∨(w.troops.getD k default).kind=2:=by omega
        try refine xz2 (gd hlt) zac ?_
        refine gcP (fun hcc=>zat (w.troops.getD k default).id 1 (w.next-1)) ?_
        try refine xz2 (gd hlt) zac ?_
        refine gcP (fun hcc=>zat (w.troops.getD k default).owner 0 ((w.bases.length:Int)-1)) ?_
        try refine xz2 (gd hlt) zac ?_
        refine gcP (fun hcc=>zss w.f (w.troops.getD k default).c hf) ?_
        try refine xz2 (gd hlt) zac ?_
        refine gcP (fun hcc=>zg4 (w.troops.getD k default).kind hkd2) ?_
        try refine xz2 (gd hlt) zac ?_
        refine gcP (fun hcc=>zat (w.troops.getD k default).life 1 (zbx (w.troops.getD k default).kind).life) ?_
        try refine xz2 (gd hlt) zac ?_
        refine gcP (fun hcc=>zat (w.troops.getD k default).load 0 (5*(2-(w.troops.getD k default).kind))) ?_
        try refine xz2 (gd hlt) zac ?_
        (try(refine⟨by kernel_rfl,?_⟩))
        try refine xz2 (gd hlt) zac ?_
        refine zay (fun j:Nat=>⟨[(190,I .i64 j),(189,I .i64 k),(188,.c (.sl 7 ((w.troops.map zch).take k))),(133,I .i64 k),(132,I .i64 w.troops.length),(131,.c (.sl 7 (w.troops.map zch))),(10,.ptr 1 0 0),(4,B (((zdt (zi6 w) w.bases.length&&zdt (zli w) w.mines.length)&&(zdt (zdx w) k&&z80 w (w.troops.getD k default)))&&zdt (fun j=>decide ((w.troops.getD j default).id<(w.troops.getD k default).id) && !decide ((w.troops.getD j default).c=(w.troops.getD k default).c)) j)),(1,.ptr 0 0 0)],[(0,.blk 32 (zhe w)),(1,.blk 89 (ykr (w.troops.getD k default)))],2⟩) (fun j:Nat=>j≤k) (fun j:Nat=>k-j) (0) (Nat.zero_le _) (To.mk [0,1] rfl rfl (by decide) ?_ ?_) ?_
        ·exact xS
        ·simp(etaStruct := .none)only[push_cast,zad,seval,zdt,lk,z80,Bool.and_true,←Bool.and_assoc]
        rintro j hj
        try refine xz2 (gd hlt) zac ?_
        refine cI (fun h9=>?_) fun h9=>?_
        ·have hltj:j<w.troops.length:=by omega
         have hltk:j<(w.troops.take k).length:=by rw[List.length_take];omega
         have et:(w.troops.map zch).take k=(w.troops.take k).map zch:=by rw[List.map_take]
         have eg:(w.troops.take k).getD j default=w.troops.getD j default:=by simp[List.getD_eq_getElem?_getD,List.getElem?_take,show j<k by omega]
         try refine xz8 (gd hlt) zac et (gd hltk) eg zac zpe zc5 ?_
         refine⟨j+1,by omega,by omega,To.mk [0,1] rfl rfl (by decide) ?_ ?_⟩
         ·(try(refine xz8 (gd hlt) zac et (gd hltk) eg zac zpe zc5 ?_;try exact xtI))
         ·(iterate 2((try simp(etaStruct := .none)only[push_cast,zad,seval,zdt,←Bool.and_assoc]);(try(refine xsu ?_;try exact xtI))))
        ·obtain rfl:k=j:=by omega
         try refine xz2 (gd hlt) zac ?_
         refine⟨k+1,by omega,by omega,To.mk [0] rfl rfl (by decide) ?_ ?_⟩
         ·(try(refine xz2 (gd hlt) zac ?_;try exact xtI))
         ·(iterate 2((try simp(etaStruct := .none)only[push_cast,zad,seval,zdt,zdx,z3q,hkd0,Bool.true_and,←Bool.and_assoc]);(try(refine xsu ?_;try exact xtI))))
      ·obtain rfl:k=w.troops.length:=by omega
       try refine xst ?_
       refine cI (fun h10=>?_) fun h10=>?_
       ·have e:zap w=4:=zpy hf hb (by unfold zgb;simpa only[Bool.and_eq_false_iff]using h10)
        try refine xst ?_
        exact zcw e rfl
       ·have e:zap w=0:=zne hf hb hwf (by unfold zgb;simpa using h10)
        try refine xst ?_
        exact zcw e rfl
theorem z79 (l:List Cel) (v:Cel) (hl:l.length≤9223372036854775807):Spec Tryz.prog 202 [.c (.sl 2 (l.map zbk)),zeu v] [] (I .i64 (zg6 (fun x=>decide (v=x)) l)) []:=by
 refine spB Tryz.func202 19 [.tmp 4] Tryz.results202 ?_
 try refine xst ?_
 refine zay (fun k:Nat=>⟨[(8,I .i64 k),(7,I .i64 l.length),(3,.ptr 0 0 0),(0,.c (.sl 2 (l.map zbk)))],[(0,.blk 72 [I .i64 v.x,I .i64 v.y])],1⟩) (fun k:Nat=>k≤l.length∧∀j (hj:j<l.length),j<k→decide (v=l[j])=false) (fun k:Nat=>l.length-k) (0) (⟨Nat.zero_le _,fun j _ h=>by omega⟩) (To.mk [0] rfl rfl (by decide) ?_ ?_) ?_
 ·exact xS
 ·exact xS
 rintro k ⟨hk,hn⟩
 try refine xst ?_
 refine zcd (fun h1=>?_) (fun h1=>?_)
 ·(try replace h1:=xhh h1)
  have hlt:k<l.length:=by omega
  try refine xz3 (gd hlt) zag zc5 ?_
  (try(refine⟨by kernel_rfl,?_⟩))
  try refine xz3 (gd hlt) zag zc5 ?_
  refine cI (fun h2=>?_) fun h2=>?_
  ·try refine xz3 (gd hlt) zag zc5 ?_
   exact zfm rfl trivial (Wk.of (by rw[zfw (fun x=>decide (v=x)) l k hlt (by rw[←zaq _ _ hlt];simpa using h2) hn];rfl))
  ·try refine xz3 (gd hlt) zag zc5 ?_
   refine⟨k+1,⟨by omega,fun j hj hjk=>by
 rcases Nat.lt_or_ge j k with h|h
 ·simpa using hn j hj h
 ·obtain rfl:j=k:=by omega
  rw[←zaq _ _ hj];simpa using h2⟩,by omega,To.mk [0] rfl rfl (by decide) ?_ ?_⟩
   ·(try(refine xz3 (gd hlt) zag zc5 ?_;try exact xtI))
   ·(try(refine xz3 (gd hlt) zag zc5 ?_;try exact xtI))
 ·(try replace h1:=xhh h1)
  try refine xst ?_
  exact zfm rfl trivial (Wk.of (by rw[zer (fun x=>decide (v=x)) l (fun j hj=>hn j hj (by omega))];rfl))
theorem zvz (l:List Cel) (v:Cel) (hl:l.length≤9223372036854775807):Spec Tryz.prog 181 [.c (.sl 2 (l.map zbk)),zeu v] [] (B (l.any (fun x=>decide (v=x)))) []:=by
 refine spB Tryz.func181 9 [.tmp 4] Tryz.results181 ?_
 iterate 2(try simp(etaStruct := .none)only[push_cast,zad,seval,zkp];try refine xsu ?_)
 refine caP (z79 l v hl) ?_
 iterate 2(try simp(etaStruct := .none)only[push_cast,zad,seval,zkp];try refine xsu ?_)
 exact xrz rfl
theorem znp (f:Fld) (c:Cel) (h:zbl f=0) (hl:f.p.length≤9223372036854775807):Spec Tryz.prog 180 [ziq f,zeu c] [] (B (zca f c)) []:=by
 refine spB Tryz.func180 19 [.tmp 4] Tryz.results180 ?_
 try refine xst ?_
 refine caP (z2n f c hl) ?_
 try refine xst ?_
 exact zfm rfl trivial (Wk.of (congrArg B (by unfold atV zca;rw[if_neg (by simp[h])];cases inF f c<;>simp)))
theorem zcg (n a b:Int):Spec Tryz.prog 182 [I .i64 n,I .i64 a,I .i64 b] [] (B (zal n a b)) []:=by
 refine spB Tryz.func182 15 [.tmp 6] Tryz.results182 ?_
 try refine xst ?_
 exact zfm rfl trivial (Wk.of (congrArg B (by unfold zal;first|rfl|simp)))
def zeg (k:Int):Int:=if k=1∨k=2 then 0 else 1
theorem zxg (k:Int):zeg k=(if k=1∨k=2 then 0 else 1:Int):=rfl
theorem zf2 (k:Int):Spec Tryz.prog 85 [I .i64 k] [] (.tup [yob (zbx k),I .i64 (zeg k)]) []:=by
 refine spB Tryz.func85 12 [.cell 2 91,.tmp 3] Tryz.results85 ?_
 try refine xst ?_
 refine cI (fun h1=>?_) fun h1=>?_
 ·try refine xst ?_
  exact znb zxf zxg rfl
 ·try refine xst ?_
  refine cI (fun h2=>?_) fun h2=>?_
  ·try refine xst ?_
   exact znb zxf zxg rfl
  ·try refine xst ?_
   exact znb zxf zxg rfl
theorem ycc (w:Wld) (i:Nat) (hi:i<w.bases.length):((w.bases.take i).any fun x=>decide (w.bases.getD i default=x)) = !zdt (fun j => !decide (w.bases.getD j default=w.bases.getD i default)) i:=by
 rw[Bool.eq_iff_iff,Bool.not_eq_true',←Bool.not_eq_true,zb5,List.any_eq_true]
 constructor
 ·rintro⟨x,hx,h⟩ hh
  obtain⟨j,hj,rfl⟩:=List.getElem_of_mem hx
  rw[List.length_take]at hj
  have:=hh j (by omega)
  rw[List.getElem_take]at h
  rw[zaq _ _ (by omega)]at this
  simp only[decide_eq_true_eq]at h
  simp only[Bool.not_eq_true',decide_eq_false_iff_not]at this
  exact this h.symm
 ·intro hh
  apply Classical.byContradiction
  intro hn
  apply hh
  intro j hj
  simp only[Bool.not_eq_true',decide_eq_false_iff_not]
  intro he
  apply hn
  refine⟨w.bases.getD j default,?_,decide_eq_true he.symm⟩
  rw[zaq _ _ (by omega)]
  exact List.mem_take_iff_getElem.2 ⟨j,by omega,rfl⟩
def ze3 (w:Wld):Bool:=decide (w.stocks.length=w.bases.length)&&zdt (zi6 w) w.bases.length
def zkj (w:Wld):Bool:=decide (w.mines.length=w.f.p.length)&&zdt (zli w) w.mines.length
def zea (w:Wld):Bool:=zal w.next 1 1000000&&zal w.now 0 1000000&&zdt (zdx w) w.troops.length
theorem ptm (w:Wld):(ze3 w&&zkj w&&zea w)=(zhd w&&zgb w):=by
 unfold ze3 zkj zea zhd zgb
 cases decide (w.stocks.length=w.bases.length)<;>cases decide (w.mines.length=w.f.p.length)<;>cases zal w.next 1 1000000<;>cases zal w.now 0 1000000<;>simp
theorem zna {p:Nat→Bool} {n k:Nat} (h:k<n) (hp:p k=false):zdt p n=false:=by
 rw[←Bool.not_eq_true,zb5];intro hh
 have:=hh k h
 rw[hp]at this;simp at this
theorem z09 (w:Wld) (hl:zd4 w) (hf:zbl w.f=0):Spec Tryz.prog 154 [zcf w] [] (B (ze3 w)) []:=by
 obtain⟨l1,l2,l3,l4,l5⟩:=hl
 refine spB Tryz.func154 43 [.tmp 2] Tryz.results154 ?_
 try refine xst ?_
 refine cI (fun h1=>?_) fun h1=>?_
 ·have e:ze3 w=false:=by unfold ze3;rw[decide_eq_false (by omega)];rfl
  try refine xst ?_
  exact zcw e rfl
 ·have hls:w.stocks.length=w.bases.length:=by omega
  try refine xst ?_
  refine zay (fun k:Nat=>⟨[(15,I .i64 k),(14,I .i64 w.bases.length),(13,.c (.sl 2 (w.bases.map zbk))),(1,.ptr 0 0 0)],[(0,.blk 32 (zhe w))],1⟩) (fun k:Nat=>k≤w.bases.length∧zdt (zi6 w) k=true) (fun k:Nat=>w.bases.length-k) (0) (⟨Nat.zero_le _,rfl⟩) (To.mk [0] rfl rfl (by decide) ?_ ?_) ?_
  ·exact xS
  ·exact xS
  rintro k ⟨hk,hn⟩
  try refine xst ?_
  refine cI (fun h2=>?_) fun h2=>?_
  ·have hlt:k<w.bases.length:=by omega
   have hlt2:k<w.stocks.length:=by omega
   have et:(w.bases.map zbk).take k=(w.bases.take k).map zbk:=by rw[List.map_take]
   have ba:=ycc w k hlt
   try refine xz5 (gd hlt) zag (gd hlt2) zab et ?_
   refine caP (znp w.f (w.bases.getD k default) hf l1) ?_
   try refine xz5 (gd hlt) zag (gd hlt2) zab et ?_
   refine gcP (fun hcc=>zvz (w.bases.take k) (w.bases.getD k default) (by rw[List.length_take];omega)) ?_
   try refine xz5 (gd hlt) zag (gd hlt2) zab et ?_
   refine gcP (fun hcc=>zcg (w.stocks.getD k default) 0 1000000) ?_
   try refine xz5 (gd hlt) zag (gd hlt2) zab et ?_
   (try(refine⟨by kernel_rfl,?_⟩))
   try refine xz5 (gd hlt) zag (gd hlt2) zab et ?_
   refine cI (fun h3=>?_) fun h3=>?_
   ·have e0:zi6 w k=false:=by
     unfold zi6
     rw[ba]at h3
     rcases h3 with (h|h)|h
     ·rw[h];rfl
     ·have h':zdt (fun j => !decide (w.bases.getD j default=w.bases.getD k default)) k=false:=by simpa using h
      rw[h'];simp
     ·rw[h];simp
    have e:ze3 w=false:=by unfold ze3;rw[zna hlt e0];simp
    try refine xz5 (gd hlt) zag (gd hlt2) zab et ?_
    exact zcw e rfl
   ·have e0:zi6 w k=true:=by
     unfold zi6
     rw[ba]at h3
     rw[h3.1.1,h3.2]
     simpa using h3.1.2
    try refine xz5 (gd hlt) zag (gd hlt2) zab et ?_
    refine⟨k+1,⟨by omega,by rw[zdt,hn,e0];rfl⟩,by omega,To.mk [0] rfl rfl (by decide) ?_ ?_⟩
    ·(try(refine xz5 (gd hlt) zag (gd hlt2) zab et ?_;try exact xtI))
    ·(try(refine xz5 (gd hlt) zag (gd hlt2) zab et ?_;try exact xtI))
  ·obtain rfl:k=w.bases.length:=by omega
   have e:ze3 w=true:=by unfold ze3;rw[decide_eq_true hls,hn];rfl
   try refine xst ?_
   exact zcw e rfl
theorem z9f (w:Wld) (hl:zd4 w):Spec Tryz.prog 155 [zcf w] [] (B (zkj w)) []:=by
 obtain⟨l1,l2,l3,l4,l5⟩:=hl
 refine spB Tryz.func155 38 [.tmp 2] Tryz.results155 ?_
 try refine xst ?_
 refine cI (fun h1=>?_) fun h1=>?_
 ·have e:zkj w=false:=by unfold zkj;rw[decide_eq_false (by omega)];rfl
  try refine xst ?_
  exact zcw e rfl
 ·have hls:w.mines.length=w.f.p.length:=by omega
  try refine xst ?_
  refine zay (fun k:Nat=>⟨[(16,I .i64 k),(15,I .i64 w.mines.length),(14,.c (.sl 1 (w.mines.map zao))),(1,.ptr 0 0 0)],[(0,.blk 32 (zhe w))],1⟩) (fun k:Nat=>k≤w.mines.length∧zdt (zli w) k=true) (fun k:Nat=>w.mines.length-k) (0) (⟨Nat.zero_le _,rfl⟩) (To.mk [0] rfl rfl (by decide) ?_ ?_) ?_
  ·exact xS
  ·exact xS
  rintro k ⟨hk,hn⟩
  try refine xst ?_
  refine cI (fun h2=>?_) fun h2=>?_
  ·have hlt:k<w.mines.length:=by omega
   have hlt2:k<w.f.p.length:=by omega
   try refine xz3 (gd hlt) (gd hlt2) zab ?_
   refine caP (zcg (w.mines.getD k default) 0 1000000) ?_
   try refine xz3 (gd hlt) (gd hlt2) zab ?_
   refine cI (fun h3=>?_) fun h3=>?_
   ·have e0:zli w k=false:=by
     unfold zli
     rcases h3 with h|⟨h,h'⟩
     ·rw[h];rfl
     ·rw[decide_eq_false (by omega),decide_eq_false (by omega)];simp
    have e:zkj w=false:=by unfold zkj;rw[zna hlt e0];simp
    try refine xz3 (gd hlt) (gd hlt2) zab ?_
    exact zcw e rfl
   ·have e0:zli w k=true:=by
     unfold zli
     rw[h3.1]
     have:=within_iff.1 h3.1
     simp only[Bool.true_and,Bool.or_eq_true,decide_eq_true_eq]
     omega
    try refine xz3 (gd hlt) (gd hlt2) zab ?_
    refine⟨k+1,⟨by omega,by rw[zdt,hn,e0];rfl⟩,by omega,To.mk [0] rfl rfl (by decide) ?_ ?_⟩
    ·(try(refine xz3 (gd hlt) (gd hlt2) zab ?_;try exact xtI))
    ·(try(refine xz3 (gd hlt) (gd hlt2) zab ?_;try exact xtI))
  ·obtain rfl:k=w.mines.length:=by omega
   have e:zkj w=true:=by unfold zkj;rw[decide_eq_true hls,hn];rfl
   try refine xst ?_
   exact zcw e rfl
def zjs (w:Wld) (i:Nat):Int:=if i=0 then 0 else (w.troops.getD (i-1) default).id
theorem yfv (w:Wld):zjs w 0=0:=rfl
theorem yfu (w:Wld) (k:Nat):zjs w (k+1)=(w.troops.getD k default).id:=by simp[zjs]
def zlc (w:Wld) (k:Nat) (c:Cel):Bool := !zdt (fun j => !decide ((w.troops.getD j default).c=c)) k
theorem yef (w:Wld) (c:Cel):zlc w 0 c=false:=rfl
theorem z1f (w:Wld) (k:Nat) (c:Cel):zlc w (k+1) c=(zlc w k c||decide ((w.troops.getD k default).c=c)):=by
 unfold zlc;rw[zdt];simp[Bool.not_and]
theorem ztc (p q:Nat→Bool):∀n,zdt (fun j=>p j&&q j) n=(zdt p n&&zdt q n)
 | 0=>rfl
 | n+1=>by
  rw[zdt,zdt,zdt,ztc p q n]
  cases zdt p n<;>cases zdt q n<;>cases p n<;>cases q n<;>rfl
theorem zz3 {w:Wld} {k:Nat} (h:zdt (zdx w) k=true) (t:Trp):0≤zjs w k∧(zjs w k<t.id↔1≤t.id∧zdt (fun j=>decide ((w.troops.getD j default).id<t.id)) k=true):=by
 have hh:=(zb5 _ _).1 h
 cases k with
 | zero=>simp[zjs,zdt];omega
 | succ k =>
  have hk:=hh k (by omega)
  unfold zdx z80 z3q at hk
  simp only[bJ,ztc,within_iff]at hk
  have h2:=(zb5 _ _).1 hk.2.2.1
  have el:zjs w (k+1)=(w.troops.getD k default).id:=by simp[zjs]
  rw[el,zb5]
  refine⟨by omega,fun h3=>⟨by omega,fun j hj=>?_⟩,fun h3=>?_⟩
  ·rw[decide_eq_true_eq]
   rcases Nat.lt_or_ge j k with h4|h4
   ·have:=h2 j h4
    rw[decide_eq_true_eq]at this;omega
   ·rw[show j=k by omega];exact h3
  ·have:=h3.2 k (by omega)
   rwa [decide_eq_true_eq]at this
theorem ztt {w:Wld} {k:Nat} (h:zdt (zdx w) k=true):zdx w k=(zal (w.troops.getD k default).kind 1 2&&zal (w.troops.getD k default).id (zjs w k+1) (w.next-1)&&zal (w.troops.getD k default).owner 0 ((w.bases.length:Int)-1)&&zca w.f (w.troops.getD k default).c&&zal (w.troops.getD k default).life 1 (zbx (w.troops.getD k default).kind).life&&zal (w.troops.getD k default).load 0 (5*(2-(w.troops.getD k default).kind)) && !zlc w k (w.troops.getD k default).c):=by
 obtain⟨_,h2⟩:=zz3 h (w.troops.getD k default)
 unfold zdx z80 z3q zlc
 rw[ztc,Bool.not_not]
 have e:zal (w.troops.getD k default).id (zjs w k+1) (w.next-1)=(zal (w.troops.getD k default).id 1 (w.next-1)&&zdt (fun j=>decide ((w.troops.getD j default).id<(w.troops.getD k default).id)) k):=by
  rw[Bool.eq_iff_iff,bJ,within_iff,within_iff]
  constructor
  ·rintro⟨a,b⟩
   have:=h2.1 (by omega)
   exact⟨⟨this.1,b⟩,this.2⟩
  ·rintro⟨⟨a,b⟩,c⟩
   have:=h2.2 ⟨a,c⟩
   exact⟨by omega,b⟩
 rw[e]
 cases zal (w.troops.getD k default).kind 1 2<;>cases zal (w.troops.getD k default).id 1 (w.next-1)<;>cases zal (w.troops.getD k default).owner 0 ((w.bases.length:Int)-1)<;>cases zca w.f (w.troops.getD k default).c<;>cases zal (w.troops.getD k default).life 1 (zbx (w.troops.getD k default).kind).life<;>cases zal (w.troops.getD k default).load 0 (5*(2-(w.troops.getD k default).kind))<;>simp
theorem yi9 {k:Int} (h:¬zeg k=0):zal k 1 2=false:=by
 rw[within_f];unfold zeg at h;split at h<;>omega
theorem yi8 {k:Int} (h:zeg k=0):zal k 1 2=true:=by
 rw[within_iff];unfold zeg at h;split at h<;>omega
theorem zvc {k:Int} (h:zal k 1 2=true):5*(2-k)=if k=1 then 5 else 0:=by
 rw[within_iff]at h;split<;>omega
def zwn (c:Cel):List Int := [c.x,c.y]
theorem tkeyC_inj {a b:Cel} : zwn a=zwn b↔a=b:=by
 cases a;cases b;simp[zwn]
theorem z3n (w:Wld) (hl:zd4 w) (hf:zbl w.f=0) (hn1:zal w.next 1 1000000=true) (hn2:zal w.now 0 1000000=true):Spec Tryz.prog 156 [zcf w] [] (B (zea w)) []:=by
 obtain⟨l1,l2,l3,l4,l5⟩:=hl
 have hnx:=within_iff.1 hn1
 refine spB Tryz.func156 96 [.tmp 2] Tryz.results156 ?_
 try refine xz1 Qo ?_
 refine zay (fun x:Nat × List (List Int × Int)=>⟨[(14,I .i64 x.1),(13,I .i64 w.troops.length),(12,.c (.sl 7 (w.troops.map zch))),(4,.map 1),(3,I .i64 (zjs w x.1)),(1,.ptr 0 0 0)],[(0,.blk 32 (zhe w)),(1,.mp true 2 x.2)],2⟩) (fun x:Nat × List (List Int × Int)=>x.1≤w.troops.length∧zdt (zdx w) x.1=true∧(∀c:Cel,zd6 (zwn c) x.2=if zlc w x.1 c then 1 else 0)) (fun x:Nat × List (List Int × Int)=>w.troops.length-x.1) ((0,[])) (⟨Nat.zero_le _,rfl,fun c=>by rw[yef];rfl⟩) (To.mk [0,1] rfl rfl (by decide) ?_ ?_) ?_
 ·exact xS
 ·exact xS1 yfv
 rintro⟨k,es⟩ ⟨hk,hn,hm⟩
 simp only at hk hn hm
 try refine xz1 Qo ?_
 refine zcd (fun h1=>?_) (fun h1=>?_)
 ·(try replace h1:=xhh h1)
  have hlt:k<w.troops.length:=by omega
  have hla:=(zz3 hn (w.troops.getD k default)).1
  have hla2:zjs w k≤1000000:=by
   unfold zjs
   split
   ·omega
   ·have:=(zb5 _ _).1 hn (k-1) (by omega)
    unfold zdx z80 at this
    simp only[bJ,within_iff]at this
    omega
  try refine xz3 (gd hlt) zac Qo ?_
  refine caP (zf2 (w.troops.getD k default).kind) ?_
  try refine xz3 (gd hlt) zac Qo ?_
  refine zf1 (fun _u:Unit=>⟨[(14,I .i64 k),(13,I .i64 w.troops.length),(12,.c (.sl 7 (w.troops.map zch))),(9,I .i64 (if (w.troops.getD k default).kind=1 then 5 else 0)),(8,I .i64 (zeg (w.troops.getD k default).kind)),(7,.ptr 3 0 0),(6,.ptr 2 0 0),(4,.map 1),(3,I .i64 (zjs w k)),(1,.ptr 0 0 0)],[(0,.blk 32 (zhe w)),(1,.mp true 2 es),(2,.blk 89 (ykr (w.troops.getD k default))),(3,.blk 91 [I .i64 (zbx (w.troops.getD k default).kind).life,I .i64 (zbx (w.troops.getD k default).kind).blow,I .i64 (zbx (w.troops.getD k default).kind).load,I .i64 (zbx (w.troops.getD k default).kind).price])],4⟩) (fun _u:Unit=>Tr) (fun h2=>?_) (fun h2=>?_) ?_
  ·(try replace h2:=xhh h2)
   try refine xz3 (gd hlt) zac Qo ?_
   refine⟨(),trI,To.mk [0,1,2,3] rfl rfl (by decide) ?_ ?_⟩
   ·(try(refine xz3 (gd hlt) zac Qo ?_;try exact xtI))
   ·(iterate 2((try simp(etaStruct := .none)only[push_cast,zad,seval,if_pos h2]);(try(refine xsu ?_;try exact xtI))))
  ·(try replace h2:=xhh h2)
   try refine xz3 (gd hlt) zac Qo ?_
   refine⟨(),trI,To.mk [0,1,2,3] rfl rfl (by decide) ?_ ?_⟩
   ·(try(refine xz3 (gd hlt) zac Qo ?_;try exact xtI))
   ·(iterate 2((try simp(etaStruct := .none)only[push_cast,zad,seval,if_neg h2]);(try(refine xsu ?_;try exact xtI))))
  ·rintro _ _
   try refine xz3 (gd hlt) zac Qo ?_
   refine gcP (fun hcc=>zcg (w.troops.getD k default).id (zjs w k+1) (w.next-1)) ?_
   try refine xz3 (gd hlt) zac Qo ?_
   refine gcP (fun hcc=>zcg (w.troops.getD k default).owner 0 ((w.bases.length:Int)-1)) ?_
   try refine xz3 (gd hlt) zac Qo ?_
   refine gcP (fun hcc=>znp w.f (w.troops.getD k default).c hf l1) ?_
   try refine xz3 (gd hlt) zac Qo ?_
   refine gcP (fun hcc=>zcg (w.troops.getD k default).life 1 (zbx (w.troops.getD k default).kind).life) ?_
   try refine xz3 (gd hlt) zac Qo ?_
   refine gcP (fun hcc=>zcg (w.troops.getD k default).load 0 (if (w.troops.getD k default).kind=1 then 5 else 0)) ?_
   try refine xz3 (gd hlt) zac Qo ?_
   refine cI (fun h3=>?_) fun h3=>?_
   ·have e0:zdx w k=false:=by
     rw[ztt hn]
     rcases h3 with ((((h|h)|h)|h)|h)|h
     ·rw[yi9 h];rfl
     ·rw[h];simp
     ·rw[h];simp
     ·rw[h];simp
     ·rw[h];simp
     ·cases hkk:zal (w.troops.getD k default).kind 1 2 with
      | false=>rfl
      | true=>rw[zvc hkk,h];simp
    have e:zea w=false:=by unfold zea;rw[zna hlt e0];simp
    try refine xz3 (gd hlt) zac Qo ?_
    exact zcw e rfl
   ·have hkk:=yi8 h3.1.1.1.1.1
    have e0:zdx w k = !zlc w k (w.troops.getD k default).c:=by
     rw[ztt hn,hkk,zvc hkk,h3.1.1.1.1.2,h3.1.1.1.2,h3.1.1.2,h3.1.2,h3.2];rfl
    have hg:zd6 [(w.troops.getD k default).c.x,(w.troops.getD k default).c.y] es=if zlc w k (w.troops.getD k default).c=true then 1 else 0:=hm (w.troops.getD k default).c
    have hg2:0≤zd6 [(w.troops.getD k default).c.x,(w.troops.getD k default).c.y] es∧zd6 [(w.troops.getD k default).c.x,(w.troops.getD k default).c.y] es≤1:=by rw[hg];split<;>omega
    obtain⟨es',hes'⟩:∃es',es'=zij [(w.troops.getD k default).c.x,(w.troops.getD k default).c.y] (zd6 [(w.troops.getD k default).c.x,(w.troops.getD k default).c.y] es+1) es:=⟨_,rfl⟩
    have hp1:=zzr [(w.troops.getD k default).c.x,(w.troops.getD k default).c.y] (zd6 [(w.troops.getD k default).c.x,(w.troops.getD k default).c.y] es+1) es
    have hp2:=fun c=>zc1 [(w.troops.getD k default).c.x,(w.troops.getD k default).c.y] (zwn c) (zd6 [(w.troops.getD k default).c.x,(w.troops.getD k default).c.y] es+1) es
    rw[←hes']at hp1 hp2
    have hmp:=zop [(w.troops.getD k default).c.x,(w.troops.getD k default).c.y] es
    try refine xz6 (gd hlt) zac zav hes'.symm hp1 Qo ?_
    (try(refine⟨by kernel_rfl,?_⟩))
    try refine xz6 (gd hlt) zac zav hes'.symm hp1 Qo ?_
    refine cI (fun h4=>?_) fun h4=>?_
    ·have hs:zlc w k (w.troops.getD k default).c=true:=by
      cases hs:zlc w k (w.troops.getD k default).c with
      | true=>rfl
      | false=>rw[hg,hs]at h4;simp at h4
     have e:zea w=false:=by unfold zea;rw[zna hlt (by rw[e0,hs];rfl)];simp
     try refine xz6 (gd hlt) zac zav hes'.symm hp1 Qo ?_
     exact zcw e rfl
    ·have hs:zlc w k (w.troops.getD k default).c=false:=by
      cases hs:zlc w k (w.troops.getD k default).c with
      | false=>rfl
      | true=>rw[hg,hs]at h4;simp at h4
     try refine xz6 (gd hlt) zac zav hes'.symm hp1 Qo ?_
     refine⟨(k+1,es'),⟨by simp only;omega,by simp only;rw[zdt,hn,e0,hs];rfl,fun c=>by
 simp only
 rw[hp2 c,z1f,hg,hs]
 by_cases hc:(w.troops.getD k default).c=c
 ·rw[if_pos (show zwn c = [(w.troops.getD k default).c.x,(w.troops.getD k default).c.y]from tkeyC_inj.2 hc.symm),decide_eq_true hc];simp
 ·rw [if_neg (show ¬ zwn c = [(w.troops.getD k default).c.x, (w.troops.getD k default).c.y] from fun h => hc (tkeyC_inj.1 h).symm), decide_eq_false hc, hm c, Bool.or_false]⟩, by simp only; omega, To.mk [0, 1] rfl rfl (by decide) ?_ ?_⟩
     ·(try(refine xz6 (gd hlt) zac zav hes'.symm hp1 Qo ?_;try exact xtI))
     ·(try(refine xz1 yfu ?_;try exact xtI))
 ·(try replace h1:=xhh h1)
  obtain rfl:k=w.troops.length:=by omega
  have e:zea w=true:=by unfold zea;rw[hn1,hn2,hn];rfl
  try refine xz1 Qo ?_
  refine caP (zcg w.next 1 1000000) ?_
  try refine xz1 Qo ?_
  refine gcP (fun hcc=>zcg w.now 0 1000000) ?_
  try refine xz1 Qo ?_
  exact zfm rfl trivial (Wk.of (by rw[e,hn1,hn2];rfl))
theorem zwj (w:Wld) (hl:zd4 w) (hf:zbl w.f=0) (hb:(zal w.next 1 1000000&&zal w.now 0 1000000)=false):Spec Tryz.prog 156 [zcf w] [] (B (zea w)) []:=by
 obtain⟨l1,l2,l3,l4,l5⟩:=hl
 have e:zea w=false:=by unfold zea;rw[hb];rfl
 refine spB Tryz.func156 96 [.tmp 2] Tryz.results156 ?_
 try refine xz1 Qo ?_
 refine zay (fun x:Nat × Int × List (List Int × Int)=>⟨[(14,I .i64 x.1),(13,I .i64 w.troops.length),(12,.c (.sl 7 (w.troops.map zch))),(4,.map 1),(3,I .i64 x.2.1),(1,.ptr 0 0 0)],[(0,.blk 32 (zhe w)),(1,.mp true 2 x.2.2)],2⟩) (fun x:Nat × Int × List (List Int × Int)=>x.1≤w.troops.length) (fun x:Nat × Int × List (List Int × Int)=>w.troops.length-x.1) ((0,0,[])) (Nat.zero_le _) (To.mk [0,1] rfl rfl (by decide) ?_ ?_) ?_
 ·exact xS
 ·exact xS
 rintro⟨k,last,es⟩ hk
 simp only at hk
 try refine xz1 Qo ?_
 refine cI (fun h1=>?_) fun h1=>?_
 ·have hlt:k<w.troops.length:=by omega
  try refine xz3 (gd hlt) zac Qo ?_
  refine caP (zf2 (w.troops.getD k default).kind) ?_
  try refine xz3 (gd hlt) zac Qo ?_
  refine zf1 (fun m:Int=>⟨[(14,I .i64 k),(13,I .i64 w.troops.length),(12,.c (.sl 7 (w.troops.map zch))),(9,I .i64 m),(8,I .i64 (zeg (w.troops.getD k default).kind)),(7,.ptr 3 0 0),(6,.ptr 2 0 0),(4,.map 1),(3,I .i64 last),(1,.ptr 0 0 0)],[(0,.blk 32 (zhe w)),(1,.mp true 2 es),(2,.blk 89 (ykr (w.troops.getD k default))),(3,.blk 91 [I .i64 (zbx (w.troops.getD k default).kind).life,I .i64 (zbx (w.troops.getD k default).kind).blow,I .i64 (zbx (w.troops.getD k default).kind).load,I .i64 (zbx (w.troops.getD k default).kind).price])],4⟩) (fun m:Int=>Tr) (fun h2=>?_) (fun h2=>?_) ?_
  ·(try replace h2:=xhh h2)
   try refine xz3 (gd hlt) zac Qo ?_
   refine⟨5,trI,To.mk [0,1,2,3] rfl rfl (by decide) ?_ ?_⟩
   ·(try(refine xz3 (gd hlt) zac Qo ?_;try exact xtI))
   ·(try(refine xz3 (gd hlt) zac Qo ?_;try exact xtI))
  ·(try replace h2:=xhh h2)
   try refine xz3 (gd hlt) zac Qo ?_
   refine⟨0,trI,To.mk [0,1,2,3] rfl rfl (by decide) ?_ ?_⟩
   ·(try(refine xz3 (gd hlt) zac Qo ?_;try exact xtI))
   ·(try(refine xz3 (gd hlt) zac Qo ?_;try exact xtI))
  ·rintro m _
   try refine xz3 (gd hlt) zac Qo ?_
   refine gcP (fun hcc=>zcg (w.troops.getD k default).id _ _) ?_
   try refine xz3 (gd hlt) zac Qo ?_
   refine gcP (fun hcc=>zcg (w.troops.getD k default).owner 0 ((w.bases.length:Int)-1)) ?_
   try refine xz3 (gd hlt) zac Qo ?_
   refine gcP (fun hcc=>znp w.f (w.troops.getD k default).c hf l1) ?_
   try refine xz3 (gd hlt) zac Qo ?_
   refine gcP (fun hcc=>zcg (w.troops.getD k default).life 1 (zbx (w.troops.getD k default).kind).life) ?_
   try refine xz3 (gd hlt) zac Qo ?_
   refine gcP (fun hcc=>zcg (w.troops.getD k default).load 0 m) ?_
   try refine xz3 (gd hlt) zac Qo ?_
   refine cI (fun h3=>?_) fun h3=>?_
   ·try refine xz3 (gd hlt) zac Qo ?_
    exact zcw e rfl
   ·have hmp:=zop [(w.troops.getD k default).c.x,(w.troops.getD k default).c.y] es
    try refine xz4 (gd hlt) zac zav Qo ?_
    (try(refine⟨by kernel_rfl,?_⟩))
    try refine xz4 (gd hlt) zac zav Qo ?_
    refine cI (fun h4=>?_) fun h4=>?_
    ·try refine xz4 (gd hlt) zac zav Qo ?_
     exact zcw e rfl
    ·try refine xz4 (gd hlt) zac zav Qo ?_
     refine⟨(k+1,(w.troops.getD k default).id,zij [(w.troops.getD k default).c.x,(w.troops.getD k default).c.y] (IntKind.i64.wrap (zd6 [(w.troops.getD k default).c.x,(w.troops.getD k default).c.y] es+1)) es),by simp only;omega,by simp only;omega,To.mk [0,1] rfl rfl (by decide) ?_ ?_⟩
     ·(try(refine xz4 (gd hlt) zac zav Qo ?_;try exact xtI))
     ·(try(refine xz4 (gd hlt) zac zav Qo ?_;try exact xtI))
 ·try refine xz1 Qo ?_
  refine caP (zcg w.next 1 1000000) ?_
  try refine xz1 Qo ?_
  refine gcP (fun hcc=>zcg w.now 0 1000000) ?_
  try refine xz1 Qo ?_
  exact zfm rfl trivial (Wk.of (by rw[e,hb];rfl))
theorem zwk (w:Wld) (hl:zd4 w) (hf:zbl w.f=0):Spec Tryz.prog 156 [zcf w] [] (B (zea w)) []:=by
 cases hb:(zal w.next 1 1000000&&zal w.now 0 1000000)with
 | false=>exact zwj w hl hf hb
 | true=>rw[bJ]at hb;exact z3n w hl hf hb.1 hb.2
theorem zeh (w:Wld) (hl:zd4 w):Spec Tryz.prog 120 [zcf w] [] (I .i64 (zap w)) []:=by
 refine spB Tryz.func120 33 [.tmp 2] Tryz.results120 ?_
 try refine xst ?_
 refine caP (zm8 w.f hl.1) ?_
 try refine xst ?_
 refine cI (fun h1=>?_) fun h1=>?_
 ·have e:zap w=zbl w.f:=by unfold zap;rw[if_pos (by simpa using h1)]
  try refine xst ?_
  exact zcw e rfl
 ·have hf:zbl w.f=0:=by simpa using h1
  try refine xst ?_
  refine cI (fun h2=>?_) fun h2=>?_
  ·have e:zap w=2:=by unfold zap;rw[if_neg (by simp[hf]),if_pos (by omega)]
   try refine xst ?_
   exact zcw e rfl
  ·have hb:¬(8<w.bases.length∨100<w.troops.length):=by omega
   try refine xst ?_
   refine caP (z09 w hl hf) ?_
   try refine xst ?_
   refine gcP (fun hcc=>z9f w hl) ?_
   try refine xst ?_
   refine gcP (fun hcc=>zwk w hl hf) ?_
   try refine xst ?_
   refine cI (fun h3=>?_) fun h3=>?_
   ·have e:zap w=4:=by
     unfold zap;rw[if_neg (by simp[hf]),if_neg hb,if_neg]
     rw[←ptm]
     rcases h3 with (h|h)|h<;>rw[h]<;>simp
    try refine xst ?_
    exact zcw e rfl
   ·have e:zap w=0:=by
     unfold zap;rw[if_neg (by simp[hf]),if_neg hb,if_pos]
     rw[←ptm,h3.1.1,h3.1.2,h3.2];rfl
    try refine xst ?_
    exact zcw e rfl
def zcy (n:Int):List PV := [.v (.string (zah (Lib.itoa n)))]
theorem zxj (n:Int):zcy n=([.v (.string (zah (Lib.itoa n)))]:List PV):=rfl
theorem zno (l:List Int) (hl:∀n∈l,zdu n) (hn:l.length≤1048576):Spec Tryz.prog 54 [.c (.sl 1 (l.map zao))] [] (.c (.sl 1 (l.map zcy))) []:=by
 refine spB Tryz.func54 19 [.tmp 2] Tryz.results54 ?_
 try refine xst ?_
 refine zay (fun k:Nat=>⟨[(8,I .i64 k),(7,I .i64 l.length),(6,.c (.sl 1 (l.map zao))),(3,.own 0)],[(0,.row 9 1 ((l.take k).map zcy))],1⟩) (fun k:Nat=>k≤l.length) (fun k:Nat=>l.length-k) (0) (Nat.zero_le _) ((To.nil 3 9 1 rfl).trans (To.mk [0] rfl rfl (by decide) ?_ ?_)) ?_
 ·exact xS
 ·exact xS
 rintro k hk
 try refine xst ?_
 refine cI (fun h1=>?_) fun h1=>?_
 ·have hlt:k<l.length:=by omega
  have sn:=zak l k hlt
  have tl:(l.take k).length=k:=by rw[List.length_take];omega
  try refine xz2 (gd hlt) zab ?_
  refine caP (zz6 (l.getD k default) (hl _ (zax l k hlt))) ?_
  try refine xz2 (gd hlt) zab ?_
  refine⟨k+1,by omega,by omega,To.mk [2] rfl rfl (by decide) ?_ ?_⟩
  ·(try(refine xz3 sn zxj QB0 ?_;try exact xtI))
  ·(try(refine xz2 (gd hlt) zab ?_;try exact xtI))
 ·obtain rfl:k=l.length:=by omega
  rw[List.take_length]
  try refine xst ?_
  exact xrz rfl
abbrev za9 (w:Wld) (i:Nat):Chunk := .blk 35 [I .i64 w.f.w,I .i64 w.f.h,.c (.sl 1 (w.f.p.map zao)),.c (.sl 2 (w.bases.map zbk)),.c (.sl 1 (w.stocks.map zao)),.c (.sl 1 (w.mines.map zao)),.c (.sl 7 (w.troops.map zch)),I .i64 w.next,I .i64 w.now,.own i]
abbrev zbc (l:List Ord):Chunk := .row 74 6 (l.map zga)
theorem zq7 (w0 w:Wld) (l:List Ord) (hl:zd4 w) (h:zap w=0):Spec Tryz.prog 83 [.ptr 0 0 0,zcf w] [za9 w0 1,zbc l] (.tup []) [za9 w 1,zbc l]:=by
 have C:=zeh w hl
 rw[h]at C
 refine spB Tryz.func83 11 [] Tryz.results83 ?_
 try refine xst ?_
 refine caP (C) ?_
 try refine xst ?_
 refine caP (zk2) ?_
 try refine xst ?_
 refine zb9 [0,1] rfl rfl (by decide) ⟨?_,?_,trivial⟩ trivial ?_
 ·exact xS1 QB1
 ·exact xS
 ·exact xS
theorem zq8 (w0 w:Wld) (l:List Ord) (hl:zd4 w) (h:zap w≠0):zc6 Tryz.prog 83 [.ptr 0 0 0,zcf w] [za9 w0 1,zbc l] (.pan (za5 (zap w)) [za9 w0 1,zbc l]):=by
 have C:=zeh w hl
 generalize zap w=e at *
 refine zdw (.pan (za5 e) [za9 w0 1,zbc l]) [1] Tryz.func83 rfl rfl mix 11 rfl [] Tryz.results83 (Nat.le_of_ble_eq_true rfl) ?_
 try refine xst ?_
 refine zfn 2 ?_
 try refine xst ?_
 refine caP (C) ?_
 try refine xst ?_
 refine caN [] (zjh e h) ?_
 try refine xst ?_
 refine zfe (zfo [0,1] (ToK.refl _ _) rfl (Nat.le_refl _) (by decide) ⟨?_,?_,trivial⟩)
 ·exact xS
 ·exact xS
theorem zcr {w:Wld} (h:zap w=0):zbl w.f=0∧w.bases.length≤8∧w.troops.length≤100∧zhd w=true∧zgb w=true:=by
 unfold zap at h
 split at h
 ·rename_i h1;exact absurd h h1
 ·rename_i h1
  split at h
  ·simp at h
  ·rename_i h2
   split at h
   ·rename_i h3
    rw[bJ]at h3
    exact⟨Decidable.not_not.1 h1,by omega,by omega,h3.1,h3.2⟩
   ·simp at h
theorem ztn {w:Wld} (h:zhd w=true):w.stocks.length=w.bases.length∧w.mines.length=w.f.p.length∧(1≤w.next∧w.next≤1000000)∧0≤w.now∧w.now≤1000000:=by
 unfold zhd at h
 simp only[bJ,decide_eq_true_eq,within_iff]at h
 exact⟨h.1.1.1,h.1.1.2,h.1.2,h.2⟩
structure TrpOk (w : Wld) (t : Trp) : Prop where
 kind:t.kind=1∨t.kind=2
 id:1≤t.id∧t.id≤w.next-1
 owner:0≤t.owner∧t.owner≤(w.bases.length:Int)-1
 at_:zca w.f t.c=true
 x:0≤t.c.x∧t.c.x<w.f.w
 y:0≤t.c.y∧t.c.y<w.f.h
 life:1≤t.life∧t.life≤(zbx t.kind).life
 load:0≤t.load∧t.load≤5*(2-t.kind)
theorem ground_iff {f:Fld} {c:Cel} : zca f c=true↔inF f c=true∧zar f c≠1:=by unfold zca;simp
theorem zgt {w:Wld} (h:zap w=0) {k:Nat} (hk:k<w.troops.length):TrpOk w (w.troops.getD k default)∧z3q w k=true:=by
 obtain⟨_,_,_,_,h5⟩:=zcr h
 unfold zgb at h5
 simp only[bJ]at h5
 have:=(zb5 _ _).1 h5.2 k hk
 unfold zdx z80 at this
 simp only[bJ,within_iff]at this
 obtain⟨a,⟨⟨⟨⟨b,c⟩,d⟩,e⟩,f⟩,g⟩:=this
 have hi:=inF_iff.1 (ground_iff.1 d).1
 exact⟨⟨by omega,b,c,d,hi.1,hi.2,e,f⟩,g⟩
theorem zgc {w:Wld} (h:zap w=0) {t:Trp} (ht:t∈w.troops):TrpOk w t:=by
 obtain⟨i,hi,rfl⟩:=List.getElem_of_mem ht
 have:=(zgt h hi).1
 rwa [zaq _ _ hi]at this
theorem zja (F:FuncId) (a b:List AV) (l:List Trp) (p:Trp→Bool) (hl:l.length≤9223372036854775807) (hp:∀n∈l,Spec Tryz.prog F (a ++ [z3p n]++b) [] (B (p n)) []) (ha:∀h,cvL [] h a=a) (hb:∀h,cvL [] h b=b) :
 Spec Tryz.prog 139 [.c (.sl 7 (l.map zch)),.clo (.func F) a b] [] (I .i64 (zg6 p l)) []:=by
 refine spB Tryz.func139 19 [.tmp 4] Tryz.results139 ?_
 simp(etaStruct := .none)only[push_cast,zad,seval]
 refine zay (fun k:Nat=>⟨[(8,I .i64 k),(7,I .i64 l.length),(0,.c (.sl 7 (l.map zch))),(1,.clo (.func F) a b)],[],0⟩) (fun k=>k≤l.length∧∀j (hj:j<l.length),j<k→p l[j]=false) (fun k=>l.length-k) 0 ⟨Nat.zero_le _,fun j _ h=>by omega⟩ (To.mk [] rfl rfl List.nodup_nil trivial ?_) ?_
 ·exact xS2 ha hb
 ·rintro k ⟨hk,hn⟩
  simp(etaStruct := .none)only[push_cast,zad,seval]
  refine zcd (fun h=>?_) (fun h=>?_)
  ·have hlt:k<l.length:=by simpa using h
   simp(etaStruct := .none)only[push_cast,zad,seval,zsu _ _ _ hlt,zch]
   repeat with_reducible refine obA ?_
   refine zv0 (hp _ (List.getElem_mem hlt)) (by simp only[ziv,ha,hb,cvL,cv];exact WkL.refl _) ?_
   simp(etaStruct := .none)only[push_cast,zad,seval]
   refine zcd (fun h=>?_) (fun h=>?_)
   ·simp(etaStruct := .none)only[push_cast,zad,seval]
    exact zfm rfl trivial (Wk.of (by rw[zfw p l k hlt h hn];rfl))
   ·simp(etaStruct := .none)only[push_cast,zad,seval]
    refine⟨k+1,⟨by omega,fun j hj hjk=>?_⟩,by omega,To.mk [] rfl rfl List.nodup_nil trivial ?_⟩
    ·by_cases e:j=k
     ·subst e;exact h
     ·exact hn j hj (by omega)
    ·simp(etaStruct := .none)only[push_cast,zad,seval,ha,hb]
     simp(disch:=omega)only[zaj,za1,tdv,tmd]
  ·have hge:k=l.length:=by simp at h;omega
   subst hge
   simp(etaStruct := .none)only[push_cast,zad,seval]
   exact zfm rfl trivial (Wk.of (by rw[zer p l (fun j hj=>hn j hj hj)];rfl))
theorem yf4 {α : Type} (p : α → Bool) (l:List α) : -1≤zg6 p l∧zg6 p l<l.length:=by
 unfold zg6
 cases h:l.findIdx? p with
 | none=>simp;omega
 | some i =>
  obtain⟨hi,_⟩:=List.findIdx?_eq_some_iff_getElem.1 h
  simp only;omega
theorem zxt {α : Type} [Inhabited α] (p : α → Bool) (l:List α) (k:Nat) (h:k<l.length):(l.take (k+1)).filter p=if p (l.getD k default)then (l.take k).filter p ++ [l.getD k default]else (l.take k).filter p:=by
 rw[zak l k h,List.filter_append,List.filter_cons,List.filter_nil]
 split<;>simp
theorem zbm (l:List Int) (hl:l.length≤17592186044415):Spec Tryz.prog 30 [.c (.sl 1 (l.map zao))] [] (.own 0) [.row 3 1 (l.map zao)]:=by
 refine spB Tryz.func30 8 [.tmp 2] Tryz.results30 ?_
 try refine xst ?_
 intro b hb
 try refine xst ?_
 refine zcd (fun h=>?_) (fun h=>?_)
 ·try refine xst ?_
  have e:=hb h
  refine zjn (To.nil 2 3 1 rfl) (zb9 [0] rfl rfl (by decide) ⟨?_,trivial⟩ trivial ?_)
  ·exact xS1 e
  ·exact xS
 ·try refine xst ?_
  refine zb9 [1] rfl rfl (by decide) ⟨?_,trivial⟩ trivial ?_
  ·exact xS
  ·exact xS
theorem zm5 (l:List Int) (hl:l.length≤17592186044415):Spec Tryz.prog 30 [.c (.sl 1 (l.map zao))] [] (.c (.sl 1 (l.map zao))) []:=by
 refine spB Tryz.func30 8 [.tmp 2] Tryz.results30 ?_
 try refine xst ?_
 intro b hb
 try refine xst ?_
 refine zcd (fun h=>?_) (fun h=>?_)
 ·try refine xst ?_
  exact zfm rfl trivial (by rw[hb h];exact Wk.nil _)
 ·try refine xst ?_
  exact zfm rfl trivial (Wk.refl _)
theorem zk3 (l:List Cel) (hl:l.length≤8796093022207):Spec Tryz.prog 29 [.c (.sl 2 (l.map zbk))] [] (.own 0) [.row 72 2 (l.map zbk)]:=by
 refine spB Tryz.func29 8 [.tmp 2] Tryz.results29 ?_
 try refine xst ?_
 intro b hb
 try refine xst ?_
 refine zcd (fun h=>?_) (fun h=>?_)
 ·try refine xst ?_
  have e:=hb h
  refine zjn (To.nil 2 72 2 rfl) (zb9 [0] rfl rfl (by decide) ⟨?_,trivial⟩ trivial ?_)
  ·exact xS1 e
  ·exact xS
 ·try refine xst ?_
  refine zb9 [1] rfl rfl (by decide) ⟨?_,trivial⟩ trivial ?_
  ·exact xS
  ·exact xS
theorem z01 (l:List Cel) (hl:l.length≤8796093022207):Spec Tryz.prog 29 [.c (.sl 2 (l.map zbk))] [] (.c (.sl 2 (l.map zbk))) []:=by
 refine spB Tryz.func29 8 [.tmp 2] Tryz.results29 ?_
 try refine xst ?_
 intro b hb
 try refine xst ?_
 refine zcd (fun h=>?_) (fun h=>?_)
 ·try refine xst ?_
  exact zfm rfl trivial (by rw[hb h];exact Wk.nil _)
 ·try refine xst ?_
  exact zfm rfl trivial (Wk.refl _)
theorem zcl (l:List Trp) (hl:l.length≤2513169434916):Spec Tryz.prog 34 [.c (.sl 7 (l.map zch))] [] (.own 0) [.row 89 7 (l.map zch)]:=by
 refine spB Tryz.func34 8 [.tmp 2] Tryz.results34 ?_
 try refine xst ?_
 intro b hb
 try refine xst ?_
 refine zcd (fun h=>?_) (fun h=>?_)
 ·try refine xst ?_
  have e:=hb h
  refine zjn (To.nil 2 89 7 rfl) (zb9 [0] rfl rfl (by decide) ⟨?_,trivial⟩ trivial ?_)
  ·exact xS1 e
  ·exact xS
 ·try refine xst ?_
  refine zb9 [1] rfl rfl (by decide) ⟨?_,trivial⟩ trivial ?_
  ·exact xS
  ·exact xS
theorem z9d (l:List Trp) (hl:l.length≤2513169434916):Spec Tryz.prog 34 [.c (.sl 7 (l.map zch))] [] (.c (.sl 7 (l.map zch))) []:=by
 refine spB Tryz.func34 8 [.tmp 2] Tryz.results34 ?_
 try refine xst ?_
 intro b hb
 try refine xst ?_
 refine zcd (fun h=>?_) (fun h=>?_)
 ·try refine xst ?_
  exact zfm rfl trivial (by rw[hb h];exact Wk.nil _)
 ·try refine xst ?_
  exact zfm rfl trivial (Wk.refl _)
abbrev zw7 (ns:List Nat):AV := .c (.sl 1 (ns.map nmP))
def zdj (w:Wld) (x y s:Int):Wld:={ w with bases:=w.bases ++ [⟨x,y⟩],stocks:=w.stocks ++ [s] }
theorem yhh (w:Wld) (l:List Ord) (a b c:Nat) (ha:a≤4294967295∧b≤4294967295∧c≤4294967295) (hl:zd4 w) (hb:w.bases.length≤1000∧w.stocks.length≤1000) (h:zap (zdj w a b c)=0):Spec Tryz.prog 48 [.ptr 0 0 0,zw7 [a,b,c]] [za9 w 1,zbc l] (.c (.sl 1 ([(w.bases.length:Int)].map zcy))) [za9 (zdj w a b c) 1,zbc l]:=by
 have hl2:zd4 (zdj w a b c):=by unfold zd4 zdj at *;simp only[List.length_append,List.length_cons,List.length_nil];omega
 have T:=zno [(w.bases.length:Int)] (fun n hn=>by simp at hn;subst hn;exact⟨by omega,by omega⟩) (by simp)
 have B:=zq7 w (zdj w a b c) l hl2 h
 refine zdw (.ret (.c (.sl 1 ([(w.bases.length:Int)].map zcy))) [za9 (zdj w a b c) 1,zbc l]) [4] Tryz.func48 rfl rfl mix 41 rfl [.tmp 4] Tryz.results48 (Nat.le_of_ble_eq_true rfl) ?_
 try refine xz2 zas QB2 ?_
 refine zcn [] (zk3 w.bases (by omega)) (WkL.refl _) rfl (by decide) (by simp[za6,zdf,zjc]) ?_
 try refine xz2 zas QB2 ?_
 (try(refine⟨by kernel_rfl,?_⟩))
 try refine xz2 zas QB2 ?_
 refine zcn [] (zbm w.stocks (by omega)) (WkL.refl _) rfl (by decide) (by simp[za6,zdf,zjc]) ?_
 try refine xz2 zas QB2 ?_
 (try(refine⟨by kernel_rfl,?_⟩))
 try refine xz2 zas QB2 ?_
 refine yn6 (To.frzB [47,87]) ?_
 try refine xz2 zas QB2 ?_
 refine zcn [0,1] (B) (by simp only[zcf,zdj,List.map_append,List.map_cons,List.map_nil,zbk,zao];exact WkL.refl _) rfl (by decide) (by simp[za6]) ?_
 try refine xz2 zas QB2 ?_
 refine zcn [99] (Spec.hand 0 T (Nat.zero_le _) rfl (by exact WkL.refl _) rfl) (WkL.refl _) rfl (by decide) (by simp[za6]) ?_
 try refine xz2 zas QB2 ?_
 refine zhg ?_
 refine zb9 [0,1] rfl rfl (by decide) ⟨?_,?_,trivial⟩ trivial ?_
 ·exact xS
 ·exact xS
 ·exact xS
theorem yhi (w:Wld) (l:List Ord) (a b c:Nat) (ha:a≤4294967295∧b≤4294967295∧c≤4294967295) (hl:zd4 w) (hb:w.bases.length≤1000∧w.stocks.length≤1000) (h:zap (zdj w a b c)≠0):zc6 Tryz.prog 48 [.ptr 0 0 0,zw7 [a,b,c]] [za9 w 1,zbc l] (.pan (za5 (zap (zdj w a b c))) [za9 w 1,zbc l]):=by
 have hl2:zd4 (zdj w a b c):=by unfold zd4 zdj at *;simp only[List.length_append,List.length_cons,List.length_nil];omega
 have B:=zq8 w (zdj w a b c) l hl2 h
 refine zdw (.pan (za5 (zap (zdj w a b c))) [za9 w 1,zbc l]) [4] Tryz.func48 rfl rfl mix 41 rfl [.tmp 4] Tryz.results48 (Nat.le_of_ble_eq_true rfl) ?_
 try refine xz2 zas QB2 ?_
 refine zcn [] (zk3 w.bases (by omega)) (WkL.refl _) rfl (by decide) (by simp[za6,zdf,zjc]) ?_
 try refine xz2 zas QB2 ?_
 (try(refine⟨by kernel_rfl,?_⟩))
 try refine xz2 zas QB2 ?_
 refine zcn [] (zbm w.stocks (by omega)) (WkL.refl _) rfl (by decide) (by simp[za6,zdf,zjc]) ?_
 try refine xz2 zas QB2 ?_
 (try(refine⟨by kernel_rfl,?_⟩))
 try refine xz2 zas QB2 ?_
 refine yin 2 (To.frzB [47,87]) ?_
 try refine xz2 zas QB2 ?_
 refine caN [0,1] (B) ?_ (hw:=by simp only[zcf,zdj,List.map_append,List.map_cons,List.map_nil,zbk,zao];exact WkL.refl _)
 try refine xz2 zas QB2 ?_
 refine zfe (zfo [0,1] (ToK.refl _ _) rfl (Nat.le_refl _) (by decide) ⟨?_,?_,trivial⟩)
 simp(etaStruct := .none)only[push_cast,zad,seval]
 simp(etaStruct := .none)only[push_cast,zad,seval]
def zb7 (w:Wld) (o k x y:Int):Wld:={ w with troops:=w.troops ++ [⟨w.next,o,k,⟨x,y⟩,(zbx k).life,0⟩],next:=w.next+1 }
theorem z7v (w:Wld) (l:List Ord) (a b c d:Nat) (ha:a≤4294967295∧b≤4294967295∧c≤4294967295∧d≤4294967295) (hl:zd4 w) (hb:w.troops.length≤1000∧0≤w.next∧w.next≤1000000) (hk:zeg b=0) (h:zap (zb7 w a b c d)=0):Spec Tryz.prog 50 [.ptr 0 0 0,zw7 [a,b,c,d]] [za9 w 1,zbc l] (.c (.sl 1 ([w.next].map zcy))) [za9 (zb7 w a b c d) 1,zbc l]:=by
 have hl2:zd4 (zb7 w a b c d):=by unfold zd4 zb7 at *;simp only[List.length_append,List.length_cons,List.length_nil];omega
 have T:=zno [w.next] (fun n hn=>by simp at hn;subst hn;exact⟨by omega,by omega⟩) (by simp)
 have B:=zq7 w (zb7 w a b c d) l hl2 h
 have K:=zf2 b
 rw[hk]at K
 refine zdw (.ret (.c (.sl 1 ([w.next].map zcy))) [za9 (zb7 w a b c d) 1,zbc l]) [6] Tryz.func50 rfl rfl mix 57 rfl [.tmp 4] Tryz.results50 (Nat.le_of_ble_eq_true rfl) ?_
 try refine xz2 zas QB3 ?_
 refine caP (K) ?_
 try refine xz2 zas QB3 ?_
 refine caP (zk2) ?_
 try refine xz2 zas QB3 ?_
 refine zcn [] (zcl w.troops (by omega)) (WkL.refl _) rfl (by decide) (by simp[za6,zdf,zjc]) ?_
 try refine xz2 zas QB3 ?_
 (try(refine⟨by kernel_rfl,?_⟩))
 try refine xz2 zas QB3 ?_
 refine yn6 (To.frzB [92]) ?_
 try refine xz2 zas QB3 ?_
 refine zcn [0,1] (B) (by simp only[zcf,zb7,List.map_append,List.map_cons,List.map_nil,zch];exact WkL.refl _) rfl (by decide) (by simp[za6]) ?_
 try refine xz2 zas QB3 ?_
 refine zcn [104] (Spec.hand 0 T (Nat.zero_le _) rfl (by exact WkL.refl _) rfl) (WkL.refl _) rfl (by decide) (by simp[za6]) ?_
 try refine xz2 zas QB3 ?_
 refine zhg ?_
 refine zb9 [0,1] rfl rfl (by decide) ⟨?_,?_,trivial⟩ trivial ?_
 ·exact xS
 ·exact xS
 ·exact xS
theorem z2g (w:Wld) (l:List Ord) (a b c d:Nat) (ha:a≤4294967295∧b≤4294967295∧c≤4294967295∧d≤4294967295) (hk:zeg b≠0):zc6 Tryz.prog 50 [.ptr 0 0 0,zw7 [a,b,c,d]] [za9 w 1,zbc l] (.pan (za5 (zeg b)) [za9 w 1,zbc l]):=by
 have K:=zf2 b
 generalize zeg b=e at *
 refine zdw (.pan (za5 e) [za9 w 1,zbc l]) [2] Tryz.func50 rfl rfl mix 57 rfl [.tmp 4] Tryz.results50 (Nat.le_of_ble_eq_true rfl) ?_
 try refine xz2 zas QB4 ?_
 refine caP (K) ?_
 try refine xz2 zas QB4 ?_
 refine zfn 1 ?_
 try refine xz2 zas QB4 ?_
 refine caN [] (zjh e hk) ?_
 try refine xz2 zas QB4 ?_
 refine zfe (zfo [0,1] (ToK.refl _ _) rfl (Nat.le_refl _) (by decide) ⟨?_,?_,trivial⟩)
 ·exact xS
 ·exact xS
theorem z2f (w:Wld) (l:List Ord) (a b c d:Nat) (ha:a≤4294967295∧b≤4294967295∧c≤4294967295∧d≤4294967295) (hl:zd4 w) (hb:w.troops.length≤1000∧0≤w.next∧w.next≤1000000) (hk:zeg b=0) (h:zap (zb7 w a b c d)≠0):zc6 Tryz.prog 50 [.ptr 0 0 0,zw7 [a,b,c,d]] [za9 w 1,zbc l] (.pan (za5 (zap (zb7 w a b c d))) [za9 w 1,zbc l]):=by
 have hl2:zd4 (zb7 w a b c d):=by unfold zd4 zb7 at *;simp only[List.length_append,List.length_cons,List.length_nil];omega
 have B:=zq8 w (zb7 w a b c d) l hl2 h
 have K:=zf2 b
 rw[hk]at K
 refine zdw (.pan (za5 (zap (zb7 w a b c d))) [za9 w 1,zbc l]) [6] Tryz.func50 rfl rfl mix 57 rfl [.tmp 4] Tryz.results50 (Nat.le_of_ble_eq_true rfl) ?_
 try refine xz2 zas QB3 ?_
 refine caP (K) ?_
 try refine xz2 zas QB3 ?_
 refine caP (zk2) ?_
 try refine xz2 zas QB3 ?_
 refine zcn [] (zcl w.troops (by omega)) (WkL.refl _) rfl (by decide) (by simp[za6,zdf,zjc]) ?_
 try refine xz2 zas QB3 ?_
 (try(refine⟨by kernel_rfl,?_⟩))
 try refine xz2 zas QB3 ?_
 refine yin 2 (To.frzB [92]) ?_
 try refine xz2 zas QB3 ?_
 refine caN [0,1] (B) ?_ (hw:=by simp only[zcf,zb7,List.map_append,List.map_cons,List.map_nil,zch];exact WkL.refl _)
 try refine xz2 zas QB3 ?_
 refine zfe (zfo [0,1] (ToK.refl _ _) rfl (Nat.le_refl _) (by decide) ⟨?_,?_,trivial⟩)
 ·exact xS
 ·exact xS
theorem zng (w:Wld) (l:List Ord) (o:Ord) (ho:zii o=0) (hl:l.length<100):Spec Tryz.prog 86 [.ptr 0 0 0,zmu o] [za9 w 1,zbc l] (.c (.sl 1 [])) [za9 w 2,.dead,zbc (l ++ [o])]:=by
 have C:=zmw o
 rw[ho]at C
 refine spB Tryz.func86 25 [.tmp 4] Tryz.results86 ?_
 try refine xst ?_
 refine caP (C) ?_
 try refine xst ?_
 refine caP (zk2) ?_
 try refine xst ?_
 refine cI (fun h1=>?_) fun h1=>?_
 ·omega
 ·try refine xst ?_
  (try(refine⟨by kernel_rfl,?_⟩))
  try refine xst ?_
  refine zb9 [0,1,31] rfl rfl (by decide) ⟨?_,?_,?_,trivial⟩ trivial ?_
  ·exact xS1 QB1
  ·exact xS
  ·exact xS2 zbi QB0
  ·exact Wk.nil _
theorem zj3 (w:Wld) (l:List Ord) (o:Ord) (ho:zii o≠0):zc6 Tryz.prog 86 [.ptr 0 0 0,zmu o] [za9 w 1,zbc l] (.pan (za5 (zii o)) [za9 w 1,zbc l]):=by
 have C:=zmw o
 generalize zii o=e at *
 refine zdw (.pan (za5 e) [za9 w 1,zbc l]) [1] Tryz.func86 rfl rfl mix 25 rfl [.tmp 4] Tryz.results86 (Nat.le_of_ble_eq_true rfl) ?_
 try refine xst ?_
 refine zfn 2 ?_
 try refine xst ?_
 refine caP (C) ?_
 try refine xst ?_
 refine caN [] (zjh e ho) ?_
 try refine xst ?_
 refine zfe (zfo [0,1] (ToK.refl _ _) rfl (Nat.le_refl _) (by decide) ⟨?_,?_,trivial⟩)
 ·exact xS
 ·exact xS
theorem zj2 (w:Wld) (l:List Ord) (o:Ord) (ho:zii o=0) (hl:l.length=100):zc6 Tryz.prog 86 [.ptr 0 0 0,zmu o] [za9 w 1,zbc l] (.pan (za5 2) [za9 w 1,zbc l]):=by
 have C:=zmw o
 rw[ho]at C
 refine zdw (.pan (za5 2) [za9 w 1,zbc l]) [3] Tryz.func86 rfl rfl mix 25 rfl [.tmp 4] Tryz.results86 (Nat.le_of_ble_eq_true rfl) ?_
 try refine xst ?_
 refine caP (C) ?_
 try refine xst ?_
 refine caP (zk2) ?_
 try refine xst ?_
 refine cI (fun h1=>?_) fun h1=>?_
 ·try refine xst ?_
  refine zfn 0 ?_
  try refine xst ?_
  refine caN [] (zjh 2 (by decide)) ?_
  try refine xst ?_
  refine zfe (zfo [0,1] (ToK.refl _ _) rfl (Nat.le_refl _) (by decide) ⟨?_,?_,trivial⟩)
  ·exact xS
  ·exact xS
 ·omega
def zmh (f:Fld):Wld:=⟨f,[],[],f.p.map fun p=>if p=3 then 10 else 0,[],1,0⟩
def zd5 (f:Fld) (k:Nat):List Int:=(f.p.take k).map (fun p=>if p=3 then 10 else 0)++List.replicate (f.p.length-k) 0
theorem zoq (f:Fld) (k:Nat) (h:k<f.p.length):zd5 f (k+1)=(zd5 f k).set k (if f.p.getD k default=3 then 10 else 0):=by
 unfold zd5
 rw[zak f.p k h,List.map_append]
 have:=yjs ((f.p.take k).map fun p=>if p=3 then (10:Int)else 0) k (f.p.length-k) (0:Int) (if f.p.getD k default=3 then 10 else 0) (by rw[List.length_map,List.length_take];omega) (by omega)
 rw[this,show f.p.length-(k+1)=f.p.length-k-1 from by omega];rfl
theorem zqo (f:Fld) (k:Nat) (h:k≤f.p.length):(zd5 f k).length=f.p.length:=by
 unfold zd5;rw[List.length_append,List.length_map,List.length_take,List.length_replicate];omega
theorem zux (f:Fld) (k:Nat) (h:k<f.p.length) (h3:f.p.getD k default≠3):zd5 f (k+1)=zd5 f k:=by
 unfold zd5
 rw[zak f.p k h,List.map_append,List.map_cons,List.map_nil,if_neg h3,show f.p.length-k=(f.p.length-(k+1))+1 from by omega,List.replicate_succ];simp
theorem zqp (f:Fld):zd5 f f.p.length=f.p.map fun p=>if p=3 then 10 else 0:=by unfold zd5;simp
theorem ygq (w:Wld) (l:List Ord) (f:Fld) (hl:f.p.length≤10000):Spec Tryz.prog 7 [.ptr 0 0 0,ziq f] [za9 w 1,zbc l] (.tup []) [za9 (zmh f) 2,.dead,zbc []]:=by
 refine spB Tryz.func7 36 [] Tryz.results7 ?_
 try refine xst ?_
 (try(refine⟨by kernel_rfl,?_⟩))
 try refine xst ?_
 refine zay (fun k:Nat=>⟨[(21,I .i64 k),(20,I .i64 f.p.length),(19,.c (.sl 1 (f.p.map zao))),(3,.ptr 2 0 0),(0,.ptr 0 0 0)],[(0,.blk 35 [I .i64 f.w,I .i64 f.h,.c (.sl 1 (f.p.map zao)),.c (.v (.slice none 0 0)),.c (.v (.slice none 0 0)),.own 3,.c (.v (.slice none 0 0)),I .i64 1,I .i64 0,.c (.v (.slice none 0 0))]),(1,.dead),(2,.blk 28 [I .i64 f.w,I .i64 f.h,.c (.sl 1 (f.p.map zao))]),(3,.row 3 1 ((zd5 f k).map zao))],4⟩) (fun k:Nat=>k≤f.p.length) (fun k:Nat=>f.p.length-k) (0) (Nat.zero_le _) (To.mk [0,1,2,23] rfl rfl (by decide) ?_ ?_) ?_
 ·simp(etaStruct := .none)only[push_cast,zad,seval]
  simp[zd5,zao]
 ·exact xS
 rintro k hk
 try refine xst ?_
 refine cI (fun h1=>?_) fun h1=>?_
 ·have hlt:k<f.p.length:=by omega
  have ml:=zqo f k hk
  have ms:=zoq f k hlt
  try refine xz3 (gd hlt) zab ml ?_
  refine cI (fun h2=>?_) fun h2=>?_
  ·have m1:((zd5 f k).map zao).set k [.v (.int .i64 10)]=(zd5 f (k+1)).map zao:=by rw[ms,if_pos h2,List.map_set];rfl
   try refine xz3 (gd hlt) zab ml ?_
   refine⟨k+1,by omega,by omega,To.mk [0,1,2,3] rfl rfl (by decide) ?_ ?_⟩
   ·(try(refine xz1 m1 ?_;try exact xtI))
   ·(try(refine xz3 (gd hlt) zab ml ?_;try exact xtI))
  ·have m2:=congrArg (List.map zao) (zux f k hlt h2)
   try refine xz3 (gd hlt) zab ml ?_
   refine⟨k+1,by omega,by omega,To.mk [0,1,2,3] rfl rfl (by decide) ?_ ?_⟩
   ·(try(refine xz1 m2 ?_;try exact xtI))
   ·(try(refine xz3 (gd hlt) zab ml ?_;try exact xtI))
 ·obtain rfl:k=f.p.length:=by omega
  have me:=zqp f
  try refine xst ?_
  refine zjn (To.nilC 0 9 74 6 35 _ rfl rfl) (zb9 [0,1,4] rfl rfl (by decide) ⟨?_,trivial,?_,trivial⟩ trivial ?_)
  ·simp(etaStruct := .none)only[push_cast,zad,seval,List.set_cons_succ,List.set_cons_zero,me]
   exact⟨Wk.refl _,Wk.refl _,Wk.refl _,Wk.nil _,Wk.nil _,Wk.refl _,Wk.nil _,Wk.refl _,Wk.refl _⟩
  ·exact xS
  ·exact xS
section
variable {α : Type} [Inhabited α] (key : α → Int)
def zeb (l:List α) (i j:Nat):List α := (l.set i (l.getD j default)).set j (l.getD i default)
theorem za7 (l:List α) (i j:Nat):(zeb l i j).length=l.length:=by simp[zeb]
theorem zct (l:List α) {i j k:Nat} (hi:i<l.length) (hj:j<l.length) (hk:k<l.length):(zeb l i j).getD k default=if k=j then l.getD i default else if k=i then l.getD j default else l.getD k default:=by
 unfold zeb
 rw[zaq _ _ (by simpa using hk),List.getElem_set,List.getElem_set]
 by_cases h1:j=k
 ·rw[if_pos h1,if_pos h1.symm]
 ·rw[if_neg h1,if_neg (Ne.symm h1)]
  by_cases h2:i=k
  ·rw[if_pos h2,if_pos h2.symm]
  ·rw[if_neg h2,if_neg (Ne.symm h2),zaq _ _ hk]
theorem mem_getD {l:List α} {x : α} : x∈l↔∃k,k<l.length∧l.getD k default=x:=by
 constructor
 ·intro h
  obtain⟨k,hk,e⟩:=List.getElem_of_mem h
  exact⟨k,hk,by rw[zaq _ _ hk];exact e⟩
 ·rintro⟨k,hk,rfl⟩
  exact zax l k hk
theorem znr (l:List α) {i j:Nat} (hi:i<l.length) (hj:j<l.length) (x : α):x∈zeb l i j↔x∈l:=by
 rw[mem_getD,mem_getD,za7]
 constructor
 ·rintro⟨k,hk,e⟩
  rw[zct l hi hj hk]at e
  split at e
  ·exact⟨i,hi,e⟩
  ·split at e
   ·exact⟨j,hj,e⟩
   ·exact⟨k,hk,e⟩
 ·rintro⟨k,hk,e⟩
  by_cases h1:k=i
  ·subst h1
   refine⟨j,hj,?_⟩
   rw[zct l hi hj hj,if_pos rfl];exact e
  ·by_cases h2:k=j
   ·subst h2
    refine⟨i,hi,?_⟩
    rw[zct l hi hj hi]
    by_cases h3:i=k
    ·exact absurd h3.symm h1
    ·rw[if_neg h3,if_pos rfl];exact e
   ·exact⟨k,hk,by rw[zct l hi hj hk,if_neg h2,if_neg h1];exact e⟩
def par (k:Nat):Nat:=(k-1)/2
theorem zfu (j:Nat):((j:Int)-1).tdiv 2=((par j:Nat):Int):=by
 cases j with
 | zero=>rfl
 | succ k =>
  rw[show ((k+1:Nat):Int)-1=(k:Int)from by omega,Int.tdiv_eq_ediv_of_nonneg (by omega)]
  simp[par]
def zpx (l:List α) (n:Nat):Prop:=∀k,0<k→k<n→key (l.getD (par k) default)≤key (l.getD k default)
def hup (l:List α) (j:Nat):List α := if par j=j∨¬key (l.getD j default)<key (l.getD (par j) default)then l else hup (zeb l (par j) j) (par j)
termination_by j
decreasing_by simp only[par,not_or]at *;omega
theorem yga (l:List α) (j:Nat):(hup key l j).length=l.length:=by
 induction j using Nat.strongRecOn generalizing l with
 | _ j ih =>
  rw[hup]
  split
  ·rfl
  ·rename_i h
   rw[ih (par j) (by simp only[par,not_or]at *;omega),za7]
theorem yf9 (l:List α) (j:Nat) (hj:j<l.length) (x : α):x∈hup key l j↔x∈l:=by
 induction j using Nat.strongRecOn generalizing l with
 | _ j ih =>
  rw[hup]
  split
  ·rfl
  ·rename_i h
   have:par j<j:=by simp only[par,not_or]at *;omega
   rw[ih (par j) this _ (by rw[za7];omega),znr _ (by omega) hj]
theorem ybe (l:List α) (j:Nat) (hj:j<l.length) (h1:∀k,0<k→k<l.length→k≠j→key (l.getD (par k) default)≤key (l.getD k default))
 (h2:0<j→∀k,0<k→k<l.length→par k=j→key (l.getD (par j) default)≤key (l.getD k default)):zpx key (hup key l j) l.length:=by
 induction j using Nat.strongRecOn generalizing l with
 | _ j ih =>
  rw[hup]
  split
  ·rename_i h
   intro k hk hkl
   by_cases e:k=j
   ·subst e
    rcases h with h|h
    ·simp only[par]at h;omega
    ·omega
   ·exact h1 k hk hkl e
  ·rename_i h
   rw[not_or,Decidable.not_not]at h
   obtain⟨e1,e2⟩:=h
   have lt:par j<j:=by simp only[par]at *;omega
   have hi:par j<l.length:=by omega
   have G:∀k,k<l.length→(zeb l (par j) j).getD k default=if k=j then l.getD (par j) default else if k=par j then l.getD j default else l.getD k default:=fun k hk=>zct l hi hj hk
   have:=ih (par j) lt (zeb l (par j) j) (by rw[za7];exact hi) (fun k hk hkl hne=>by
    rw[za7]at hkl
    rw[G k hkl,G (par k) (by simp only[par]at *;omega)]
    by_cases a:k=j
    ·subst a
     rw[if_neg (by omega),if_pos rfl,if_pos rfl];omega
    ·rw[if_neg a,if_neg hne]
     by_cases b:par k=j
     ·rw[if_pos b]
      exact h2 (by omega) k hk hkl b
     ·rw[if_neg b]
      by_cases c:par k=par j
      ·rw[if_pos c]
       have:=h1 k hk hkl a
       rw[c]at this;omega
      ·rw[if_neg c];exact h1 k hk hkl a) (fun hp k hk hkl hpk=>by
    rw[za7]at hkl
    have q1:par (par j)<par j:=by simp only[par]at *;omega
    have q2:=h1 (par j) hp hi (by omega)
    rw[G k hkl,G _ (by omega),if_neg (by omega),if_neg (by omega)]
    by_cases a:k=j
    ·rw[if_pos a];exact q2
    ·have:k≠par j:=by intro e;rw[e]at hpk;omega
     rw[if_neg a,if_neg this]
     have:=h1 k hk hkl a
     rw[hpk]at this;omega)
   rwa [za7]at this
def kid (l:List α) (i n:Nat):Nat:=if 2*i+2<n∧key (l.getD (2*i+2) default)<key (l.getD (2*i+1) default)then 2*i+2 else 2*i+1
theorem zvd (l:List α) (i n:Nat):i<kid key l i n:=by unfold kid;split<;>omega
theorem z6m (l:List α) (i n:Nat) (h:2*i+1<n):kid key l i n<n:=by unfold kid;split<;>omega
def hdn (l:List α) (i n:Nat):List α := if n≤2*i+1∨¬key (l.getD (kid key l i n) default)<key (l.getD i default)then l else hdn (zeb l i (kid key l i n)) (kid key l i n) n
termination_by n-i
decreasing_by
 rename_i h
 have h1:=zvd key l i n
 rw[not_or]at h
 omega
theorem zsq (l:List α) (i n:Nat):(hdn key l i n).length=l.length:=by
 induction hm:n-i using Nat.strongRecOn generalizing l i with
 | _ m ih =>
  rw[hdn]
  split
  ·rfl
  ·rename_i h
   have h1:=zvd key l i n
   rw[ih _ (by omega) _ _ rfl,za7]
theorem ygf (l:List α) (i n:Nat) (hn:n≤l.length) (x : α):x∈hdn key l i n↔x∈l:=by
 induction hm:n-i using Nat.strongRecOn generalizing l i with
 | _ m ih =>
  rw[hdn]
  split
  ·rfl
  ·rename_i h
   have h1:=zvd key l i n
   have h2:=z6m key l i n (by omega)
   rw[ih _ (by omega) _ _ (by rw[za7];exact hn) rfl,znr _ (by omega) (by omega)]
theorem yge (l:List α) (i n k:Nat) (hn:n≤l.length) (hk:n≤k) (hkl:k<l.length):(hdn key l i n).getD k default=l.getD k default:=by
 induction hm:n-i using Nat.strongRecOn generalizing l i with
 | _ m ih =>
  rw[hdn]
  split
  ·rfl
  ·rename_i h
   have h1:=zvd key l i n
   have h2:=z6m key l i n (by omega)
   rw[ih _ (by omega) _ _ (by rw[za7];exact hn) (by rw[za7];exact hkl) rfl,zct _ (by omega) (by omega) hkl,if_neg (by omega),if_neg (by omega)]
theorem ybf (l:List α) (i n:Nat) (hn:n≤l.length) (h1:∀k,0<k→k<n→par k≠i→key (l.getD (par k) default)≤key (l.getD k default))
 (h2:0<i→∀k,0<k→k<n→par k=i→key (l.getD (par i) default)≤key (l.getD k default)):zpx key (hdn key l i n) n:=by
 induction hm:n-i using Nat.strongRecOn generalizing l i with
 | _ m ih =>
  have kd:∀k,0<k→k<n→par k=i→key (l.getD (kid key l i n) default)≤key (l.getD k default):=by
   intro k hk hkn hp
   have:k=2*i+1∨k=2*i+2:=by simp only[par]at hp;omega
   unfold kid
   rcases this with e|e
   ·subst e
    split
    ·rename_i h;omega
    ·exact Int.le_refl _
   ·subst e
    split
    ·exact Int.le_refl _
    ·rename_i h
     by_cases h3:key (l.getD (2*i+2) default)<key (l.getD (2*i+1) default)
     ·exact absurd ⟨hkn,h3⟩ h
     ·omega
  rw[hdn]
  split
  ·rename_i h
   intro k hk hkn
   by_cases e:par k=i
   ·rcases h with h|h
    ·simp only[par]at e;omega
    ·have:=kd k hk hkn e
     rw[e];omega
   ·exact h1 k hk hkn e
  ·rename_i h
   rw[not_or,Decidable.not_not]at h
   have g1:=zvd key l i n
   have g2:=z6m key l i n (by omega)
   have gp:par (kid key l i n)=i:=by unfold kid;simp only[par];split<;>omega
   generalize kid key l i n=j at *
   have G:∀k,k<l.length→(zeb l i j).getD k default=if k=j then l.getD i default else if k=i then l.getD j default else l.getD k default:=fun k hk=>zct l (by omega) (by omega) hk
   refine ih (n-j) (by omega) (zeb l i j) j (by rw[za7];exact hn) (fun k hk hkn hpk=>?_) (fun hj k hk hkn hpk=>?_) rfl
   ·have hp:par k<k:=by simp only[par]at *;omega
    rw[G k (by omega),G (par k) (by omega)]
    by_cases a:k=j
    ·subst a
     rw[if_pos rfl,if_neg (by omega),if_pos gp];omega
    ·rw[if_neg a,if_neg hpk]
     by_cases b:k=i
     ·subst b
      rw[if_pos rfl,if_neg (by omega)]
      have:=h2 hk j (by omega) (by omega) gp
      exact this
     ·rw[if_neg b]
      by_cases c:par k=i
      ·rw[if_pos c];exact kd k hk hkn c
      ·rw[if_neg c];exact h1 k hk hkn c
   ·have hp:par k<k:=by simp only[par]at *;omega
    rw[G k (by omega),if_neg (by omega),if_neg (by omega),gp,G i (by omega),if_neg (by omega),if_pos rfl]
    have:=h1 k hk hkn (by omega)
    rw[hpk]at this;exact this
theorem zsp {l:List α} {n:Nat} (h:zpx key l n):∀k,k<n→key (l.getD 0 default)≤key (l.getD k default):=by
 intro k
 induction k using Nat.strongRecOn with
 | _ k ih =>
  intro hk
  rcases Nat.eq_zero_or_pos k with e|e
  ·subst e;exact Int.le_refl _
  ·have:=ih (par k) (by simp only[par];omega) (by simp only[par];omega)
   have:=h k e hk
   omega
def zew (l:List α) (x : α):List α := hup key (l ++ [x]) l.length
def zhh (l:List α):List α := (hdn key (zeb l 0 (l.length-1)) 0 (l.length-1)).take (l.length-1)
theorem zo3 (l:List α) (x : α) (k:Nat) (h:k<l.length):(l ++ [x]).getD k default=l.getD k default:=by
 rw[zaq _ _ (by simp;omega),zaq _ _ h,List.getElem_append_left h]
theorem zo2 (l:List α) (x : α):(zew key l x).length=l.length+1:=by unfold zew;rw[yga];simp
theorem zes (l:List α) (x y : α):y∈zew key l x↔y∈l∨y=x:=by
 unfold zew
 rw[yf9 _ _ _ (by simp)];simp
theorem zlq (l:List α) (x : α) (h:zpx key l l.length):zpx key (zew key l x) (zew key l x).length:=by
 rw[zo2]
 have:=ybe key (l ++ [x]) l.length (by simp) (fun k hk hkl hne=>by
  simp only[List.length_append,List.length_cons,List.length_nil]at hkl
  have:par k<k:=by simp only[par]at *;omega
  rw[zo3 _ _ _ (by omega),zo3 _ _ _ (by omega)];exact h k hk (by omega)) (fun _ k hk hkl hp=>by
  simp only[List.length_append,List.length_cons,List.length_nil,par]at *;omega)
 simpa[zew]using this
theorem ztx (l:List α) (n k:Nat) (h:k<n):(l.take n).getD k default=l.getD k default:=by
 simp only[List.getD_eq_getElem?_getD,List.getElem?_take,if_pos h]
theorem zin (l:List α):(zhh key l).length=l.length-1:=by unfold zhh;rw[List.length_take,zsq,za7];omega
theorem zkr (l:List α) (hl:0<l.length) (h:zpx key l l.length):zpx key (zhh key l) (zhh key l).length:=by
 rw[zin]
 have:=ybf key (zeb l 0 (l.length-1)) 0 (l.length-1) (by rw[za7];omega) (fun k hk hkn hp=>by
  have q:par k<k:=by simp only[par]at *;omega
  rw[zct _ (by omega) (by omega) (by omega),zct _ (by omega) (by omega) (by omega),if_neg (by omega),if_neg (by omega),if_neg (by omega),if_neg (by omega)]
  exact h k hk (by omega)) (fun h0=>absurd h0 (Nat.lt_irrefl _))
 intro k hk hkn
 unfold zhh
 rw[ztx _ _ _ hkn,ztx _ _ _ (by simp only[par]at *;omega)]
 exact this k hk hkn
theorem zvg (l:List α) (hl:0<l.length):(hdn key (zeb l 0 (l.length-1)) 0 (l.length-1)).getD (l.length-1) default=l.getD 0 default:=by
 rw[yge _ _ _ _ _ (by rw[za7];omega) (Nat.le_refl _) (by rw[za7];omega),zct _ hl (by omega) (by omega),if_pos rfl]
theorem zg8 (l:List α) (hl:0<l.length) (x : α):x∈l↔x=l.getD 0 default∨x∈zhh key l:=by
 have e:hdn key (zeb l 0 (l.length-1)) 0 (l.length-1)=zhh key l ++ [l.getD 0 default]:=by
  have h1:=zvg key l hl
  have h2:(hdn key (zeb l 0 (l.length-1)) 0 (l.length-1)).length=l.length-1+1:=by rw[zsq,za7];omega
  unfold zhh
  rw[←h1,←zak _ _ (by omega),List.take_of_length_le (by omega)]
 rw[←znr l hl (show l.length-1<l.length by omega),←ygf key _ 0 (l.length-1) (by rw[za7];omega),e]
 simp[or_comm]
end
def Adj (W p n:Nat):Prop:=n+W=p∨(n+1=p∧0<p % W)∨(p+1=n∧0<n % W)∨p+W=n
theorem Adj.symm {W p n:Nat} (h:Adj W p n):Adj W n p:=by
 rcases h with h|⟨h,h'⟩|⟨h,h'⟩|h
 ·exact .inr (.inr (.inr h))
 ·exact .inr (.inr (.inl ⟨h,h'⟩))
 ·exact .inr (.inl ⟨h,h'⟩)
 ·exact .inl h
theorem Adj.ne {W p n:Nat} (hW:0<W) (h:Adj W p n):p≠n:=by
 rcases h with h|⟨h,h'⟩|⟨h,h'⟩|h<;>omega
def zd3 (W H p:Nat):List Nat:=(if 0<p/W then [p-W]else [])++(if 0<p % W then [p-1]else [])++(if p % W+1<W then [p+1]else [])++(if p/W+1<H then [p+W]else [])
theorem zx7 (W H p:Nat):(zd3 W H p).length≤4:=by
 unfold zd3
 simp only[List.length_append]
 split<;>split<;>split<;>split<;>simp
theorem zyr {W:Nat} (hW:0<W) (p:Nat):(p+1) % W=if p % W+1=W then 0 else p % W+1:=by
 have h1:=Nat.div_add_mod p W
 have h2:=Nat.mod_lt p hW
 have e:p+1=W*(p/W)+(p % W+1):=by omega
 rw[e,Nat.mul_add_mod]
 split
 ·rename_i h;rw[h,Nat.mod_self]
 ·rename_i h;exact Nat.mod_eq_of_lt (by omega)
theorem zik {W H p n:Nat} (hW:0<W) (hp:p<W*H):n∈zd3 W H p↔n<W*H∧Adj W p n:=by
 have h1:=Nat.div_add_mod p W
 have h2:=Nat.mod_lt p hW
 have h3:p/W<H:=by rw[Nat.div_lt_iff_lt_mul hW,Nat.mul_comm];exact hp
 have h4:0<p/W↔W≤p:=by rw[Nat.div_pos_iff];exact⟨fun h=>h.2,fun h=>⟨hW,h⟩⟩
 have h5:p/W+1<H↔p+W<W*H:=by
  have:(p+W)/W=p/W+1:=Nat.add_div_right p hW
  rw[←this,Nat.div_lt_iff_lt_mul hW,Nat.mul_comm]
 have h6:=zyr hW p
 have h7:p % W+1<W→p+1<W*H:=by
  intro h
  have:W*(p/W)+W≤W*H:=by rw[←Nat.mul_succ];exact Nat.mul_le_mul_left _ h3
  omega
 unfold zd3 Adj
 simp only[List.mem_append]
 constructor
 ·rintro (((h|h)|h)|h)
  ·split at h
   ·rename_i g
    simp only[List.mem_singleton]at h
    have:=h4.1 g
    exact⟨by omega,.inl (by omega)⟩
   ·simp at h
  ·split at h
   ·rename_i g
    simp only[List.mem_singleton]at h
    have:0<p:=Nat.pos_of_ne_zero fun e=>by rw[e]at g;simp at g
    exact⟨by omega,.inr (.inl ⟨by omega,g⟩)⟩
   ·simp at h
  ·split at h
   ·rename_i g
    simp only[List.mem_singleton]at h
    rw[if_neg (by omega)]at h6
    have:=h7 g
    exact⟨by omega,.inr (.inr (.inl ⟨by omega,by rw[h,h6];omega⟩))⟩
   ·simp at h
  ·split at h
   ·rename_i g
    simp only[List.mem_singleton]at h
    have:=h5.1 g
    exact⟨by omega,.inr (.inr (.inr (by omega)))⟩
   ·simp at h
 ·rintro⟨hn,h|⟨h,h'⟩|⟨h,h'⟩|h⟩
  ·refine .inl (.inl (.inl ?_))
   rw[if_pos (h4.2 (by omega))];simp;omega
  ·refine .inl (.inl (.inr ?_))
   rw[if_pos h'];simp;omega
  ·refine .inl (.inr ?_)
   rw[if_pos]
   ·simp;omega
   ·rw[←h,h6]at h'
    split at h'
    ·omega
    ·omega
  ·refine .inr ?_
   rw[if_pos (h5.2 (by omega))];simp;omega
def kV (q:Int):Int:=if q=2 then 3 else 2
theorem zxi (q:Int):2≤kV q∧kV q≤3:=by unfold kV;split<;>omega
theorem zny {l:List Int} {i:Nat} (v:Int) (p:Nat) (hi:i<l.length):(l.set i v).getD p default=if p=i then v else l.getD p default:=by
 by_cases h:p=i
 ·subst h;rw[if_pos rfl,zaq _ _ (by simpa using hi)];simp
 ·rw[if_neg h]
  simp only[List.getD_eq_getElem?_getD,List.getElem?_set,if_neg (Ne.symm h)]
structure Flood (W : Nat) (pl : List Int) (s : List Nat) (far : List Int) : Prop where
 len:far.length=pl.length
 low:∀p,p<pl.length → -1≤far.getD p default
 src:∀p∈s,far.getD p default=0
 why:∀p,p<pl.length→0≤far.getD p default→(p∈s∧far.getD p default=0)∨∃n,n<pl.length∧Adj W p n∧pl.getD p default≠1∧0≤far.getD n default∧far.getD n default+kV (pl.getD p default)≤far.getD p default
 all:∀p n,p<pl.length→n<pl.length→Adj W p n→0≤far.getD p default→pl.getD n default≠1→0≤far.getD n default∧far.getD n default≤far.getD p default+kV (pl.getD n default)
theorem Flood.le {W:Nat} {pl:List Int} {s:List Nat} {f g:List Int} (hf:Flood W pl s f) (hg:Flood W pl s g):∀(N p:Nat),p<pl.length→0≤f.getD p default→f.getD p default≤N→0≤g.getD p default∧g.getD p default≤f.getD p default:=by
 intro N
 induction N using Nat.strongRecOn with
 | _ N ih =>
  intro p hp h0 hN
  rcases hf.why p hp h0 with ⟨h1,h2⟩|⟨n,hn,ha,hr,h3,h4⟩
  ·rw[hg.src p h1];omega
  ·have hk:=zxi (pl.getD p default)
   obtain⟨k,hk2⟩:=Int.eq_ofNat_of_zero_le h3
   have:=ih k (by omega) n hn h3 (by omega)
   have:=hg.all n p hn hp ha.symm this.1 hr
   omega
theorem Flood.uniq {W:Nat} {pl:List Int} {s:List Nat} {f g:List Int} (hf:Flood W pl s f) (hg:Flood W pl s g):f=g:=by
 refine List.ext_getElem (hf.len.trans hg.len.symm) fun p h1 h2=>?_
 rw[←zaq f p h1,←zaq g p h2]
 have hp:p<pl.length:=by rw[←hf.len];exact h1
 have l1:=hf.low p hp
 have l2:=hg.low p hp
 by_cases h:0≤f.getD p default
 ·obtain⟨k,hk⟩:=Int.eq_ofNat_of_zero_le h
  have a:=hf.le hg k p hp h (by omega)
  obtain⟨k',hk'⟩:=Int.eq_ofNat_of_zero_le a.1
  have b:=hg.le hf k' p hp a.1 (by omega)
  omega
 ·by_cases h':0≤g.getD p default
  ·obtain⟨k',hk'⟩:=Int.eq_ofNat_of_zero_le h'
   have b:=hg.le hf k' p hp h' (by omega)
   omega
  ·omega
def ziz (g:Int→Nat) (l:List Int):Nat:=(l.map g).sum
theorem zic (g:Int→Nat):∀(l:List Int) (i:Nat) (v:Int),i<l.length→ziz g (l.set i v)+g (l.getD i default)=ziz g l+g v
 | [],i,v,h=>by simp at h
 | a::r,0,v,_=>by simp[ziz];omega
 | a::r,i+1,v,h=>by
  have:=zic g r i v (by simpa using h)
  simp only[ziz,List.set_cons_succ,List.map_cons,List.sum_cons,List.getD_cons_succ]at this ⊢
  omega
theorem zhr (g:Int→Nat) (b:Nat) (hg:∀x,g x≤b):∀l:List Int,ziz g l≤b*l.length
 | []=>by simp[ziz]
 | a::r=>by
  have:=zhr g b hg r
  have:=hg a
  simp only[ziz,List.map_cons,List.sum_cons,List.length_cons,Nat.mul_add]at *
  omega
def zf3 (x:Int):Nat:=if 0≤x then 1 else 0
def zx6 (x:Int):Nat:=if 0≤x then x.toNat else 5000
theorem zhz (x:Int):zf3 x≤1:=by unfold zf3;split<;>omega
theorem zst (n p:Nat) (h:p<n):(List.replicate n (-1:Int)).getD p default = -1:=by rw[zaq _ _ (by simpa using h)];simp
structure Itm where
 place:Int
 far:Int
 deriving DecidableEq, Inhabited
structure Dj (W : Nat) (pl : List Int) (s : List Nat) (far : List Int) (q : List Itm) (done : Nat → Nat → Prop) : Prop where
 len:far.length=pl.length
 low:∀p,p<pl.length → -1≤far.getD p default
 heap:zpx Itm.far q q.length
 itm:∀x∈q,∃p:Nat,x.place=(p:Int)∧p<pl.length∧0≤x.far∧x.far≤3*ziz zf3 far∧(∀m,m<pl.length→far.getD m default≤x.far)∧((p∈s∧x.far=0)∨∃n,n<pl.length∧Adj W p n∧pl.getD p default≠1∧0≤far.getD n default∧x.far=far.getD n default+kV (pl.getD p default))
 src:∀p∈s,far.getD p default=0∨(far.getD p default<0∧∃x∈q,x.place=(p:Int)∧x.far=0)
 why:∀p,p<pl.length→0≤far.getD p default→(p∈s∧far.getD p default=0)∨∃n,n<pl.length∧Adj W p n∧pl.getD p default≠1∧0≤far.getD n default∧far.getD n default+kV (pl.getD p default)≤far.getD p default
 all:∀p n,p<pl.length→n<pl.length→Adj W p n→done p n→0≤far.getD p default→pl.getD n default≠1 →
  (0≤far.getD n default∧far.getD n default≤far.getD p default+kV (pl.getD n default))∨(far.getD n default<0∧∃x∈q,x.place=(n:Int)∧x.far≤far.getD p default+kV (pl.getD n default))
section
variable {W : Nat} {pl : List Int} {s : List Nat} {far : List Int} {q : List Itm} {done : Nat → Nat → Prop}
theorem Dj.flood (h:Dj W pl s far [] fun _ _=>True):Flood W pl s far:=by
 refine⟨h.len,h.low,fun p hp=>?_,h.why,fun p n hp hn ha h0 hr=>?_⟩
 ·rcases h.src p hp with h|⟨_,x,hx,_⟩
  ·exact h
  ·simp at hx
 ·rcases h.all p n hp hn ha trivial h0 hr with h|⟨_,x,hx,_⟩
  ·exact h
  ·simp at hx
theorem Dj.skip (h:Dj W pl s far q done) (hq:0<q.length) {p:Nat} (hp:(q.getD 0 default).place=(p:Int)) (h0:0≤far.getD p default):Dj W pl s far (zhh Itm.far q) done:=by
 have M:=zg8 Itm.far q hq
 refine⟨h.len,h.low,zkr _ _ hq h.heap,fun x hx=>h.itm x ((M x).2 (.inr hx)),fun p' hp'=>?_,h.why,fun p' n h1 h2 h3 h4 h5 h6=>?_⟩
 ·rcases h.src p' hp' with h7|⟨h7,x,hx,h8,h9⟩
  ·exact .inl h7
  ·refine .inr ⟨h7,x,?_,h8,h9⟩
   rcases (M x).1 hx with e|e
   ·subst e;rw[hp]at h8;have:p=p':=by omega
    subst this;omega
   ·exact e
 ·rcases h.all p' n h1 h2 h3 h4 h5 h6 with h7|⟨h7,x,hx,h8,h9⟩
  ·exact .inl h7
  ·refine .inr ⟨h7,x,?_,h8,h9⟩
   rcases (M x).1 hx with e|e
   ·subst e;rw[hp]at h8;have:p=n:=by omega
    subst this;omega
   ·exact e
theorem Dj.close (hW:0<W) (h:Dj W pl s far q fun _ _=>True) (hq:0<q.length) {p:Nat} (hp:(q.getD 0 default).place=(p:Int)) (h0:far.getD p default<0) :
 p<pl.length∧Dj W pl s (far.set p (q.getD 0 default).far) (zhh Itm.far q) (fun a _=>a≠p):=by
 have M:=zg8 Itm.far q hq
 have mem0:q.getD 0 default∈q:=(M _).2 (.inl rfl)
 obtain⟨p',e1,hpl,j0,jb,jm,jw⟩:=h.itm _ mem0
 obtain rfl:p'=p:=by omega
 have zh3:∀x∈q,(q.getD 0 default).far≤x.far:=fun x hx=>by
  obtain⟨k,hk,rfl⟩:=mem_getD.1 hx
  exact zsp _ h.heap k hk
 have hp'l:p'<far.length:=by rw[h.len];exact hpl
 generalize (q.getD 0 default).far=d at *
 have G:=fun k=>zny d k hp'l
 have cnt:ziz zf3 (far.set p' d)=ziz zf3 far+1:=by
  have:=zic zf3 far p' d hp'l
  simp only[zf3,if_neg (show ¬0≤far.getD p' default by omega),if_pos j0]at this;simpa[zf3]using this
 refine⟨hpl,by rw[List.length_set];exact h.len,fun k hk=>?_,zkr _ _ hq h.heap,fun x hx=>?_,fun k hk=>?_,fun k hk hk0=>?_,fun a n h1 h2 h3 h4 h5 h6=>?_⟩
 ·rw[G];split
  ·omega
  ·exact h.low k hk
 ·have hx':=(M x).2 (.inr hx)
  obtain⟨k,e2,hk,l0,lb,lm,lw⟩:=h.itm x hx'
  refine⟨k,e2,hk,l0,by rw[cnt];omega,fun m hm=>?_,?_⟩
  ·rw[G];split
   ·exact zh3 x hx'
   ·exact lm m hm
  ·rcases lw with lw|⟨n,n1,n2,n3,n4,n5⟩
   ·exact .inl lw
   ·refine .inr ⟨n,n1,n2,n3,?_⟩
    rw[G,if_neg (by intro e;subst e;omega)];exact⟨n4,n5⟩
 ·rw[G]
  rcases h.src k hk with h7|⟨h7,x,hx,h8,h9⟩
  ·rw[if_neg (by intro e;subst e;omega)];exact .inl h7
  ·by_cases e:k=p'
   ·subst e
    rw[if_pos rfl]
    have:=zh3 x hx
    exact .inl (by omega)
   ·rw[if_neg e]
    refine .inr ⟨h7,x,?_,h8,h9⟩
    rcases (M x).1 hx with e3|e3
    ·subst e3;omega
    ·exact e3
 ·rw[G]at hk0 ⊢
  by_cases e:k=p'
  ·subst e
   rw[if_pos rfl]
   rcases jw with jw|⟨n,n1,n2,n3,n4,n5⟩
   ·exact .inl jw
   ·refine .inr ⟨n,n1,n2,n3,?_⟩
    rw[G,if_neg (by intro e;subst e;omega)];omega
  ·rw[if_neg e]at hk0 ⊢
   rcases h.why k hk hk0 with jw|⟨n,n1,n2,n3,n4,n5⟩
   ·exact .inl jw
   ·refine .inr ⟨n,n1,n2,n3,?_⟩
    rw[G,if_neg (by intro e;subst e;omega)];exact⟨n4,n5⟩
 ·rw[G,if_neg h4]at h5
  rw[G,G,if_neg h4]
  rcases h.all a n h1 h2 h3 trivial h5 h6 with h7|⟨h7,x,hx,h8,h9⟩
  ·rw[if_neg (by intro e;subst e;omega)];exact .inl h7
  ·by_cases e:n=p'
   ·subst e
    rw[if_pos rfl]
    have:=zh3 x hx
    exact .inl ⟨j0,by omega⟩
   ·rw[if_neg e]
    refine .inr ⟨h7,x,?_,h8,h9⟩
    rcases (M x).1 hx with e3|e3
    ·subst e3;omega
    ·exact e3
theorem Dj.look {p n:Nat} (h:Dj W pl s far q done) (hn:n<pl.length) (hp:p<pl.length) (ha:Adj W p n) (h0:0≤far.getD p default) (top:∀m,m<pl.length→far.getD m default≤far.getD p default) (hb:far.getD p default+3≤3*ziz zf3 far) (done':Nat→Nat→Prop) (hd:∀a b,done' a b→done a b∨(a=p∧b=n))
 {q':List Itm} (hq':((pl.getD n default=1∨0≤far.getD n default)∧q'=q)∨(pl.getD n default≠1∧far.getD n default<0∧q'=zew Itm.far q ⟨(n:Int),far.getD p default+kV (pl.getD n default)⟩)):Dj W pl s far q' done':=by
 have sub:∀x∈q,x∈q':=fun x hx=>by
  rcases hq' with ⟨_,rfl⟩|⟨_,_,rfl⟩
  ·exact hx
  ·exact(zes _ _ _ _).2 (.inl hx)
 refine⟨h.len,h.low,?_,fun x hx=>?_,fun k hk=>?_,h.why,fun a b h1 h2 h3 h4 h5 h6=>?_⟩
 ·rcases hq' with ⟨_,rfl⟩|⟨_,_,rfl⟩
  ·exact h.heap
  ·exact zlq _ _ _ h.heap
 ·rcases hq' with ⟨_,rfl⟩|⟨g1,g2,rfl⟩
  ·exact h.itm x hx
  ·rcases (zes _ _ _ _).1 hx with e|e
   ·exact h.itm x e
   ·subst e
    have hk:=zxi (pl.getD n default)
    exact⟨n,rfl,hn,by simp only;omega,by simp only;omega,fun m hm=>by have:=top m hm;simp only;omega,.inr ⟨p,hp,ha.symm,g1,h0,rfl⟩⟩
 ·rcases h.src k hk with h7|⟨h7,x,hx,h8,h9⟩
  ·exact .inl h7
  ·exact .inr ⟨h7,x,sub x hx,h8,h9⟩
 ·rcases hd a b h4 with h4|⟨rfl,rfl⟩
  ·rcases h.all a b h1 h2 h3 h4 h5 h6 with h7|⟨h7,x,hx,h8,h9⟩
   ·exact .inl h7
   ·exact .inr ⟨h7,x,sub x hx,h8,h9⟩
  ·rcases hq' with ⟨g|g,rfl⟩|⟨g1,g2,rfl⟩
   ·exact absurd g h6
   ·have hk:=zxi (pl.getD b default)
    have:=top b hn
    exact .inl ⟨g,by omega⟩
   ·exact .inr ⟨g2,_,(zes _ _ _ _).2 (.inr rfl),rfl,Int.le_refl _⟩
theorem Dj.start (hs:∀p∈s,p<pl.length) (hh:zpx Itm.far q q.length) (h1:∀x∈q,∃p∈s,x.place=(p:Int)∧x.far=0) (h2:∀p∈s,∃x∈q,x.place=(p:Int)∧x.far=0):Dj W pl s (List.replicate pl.length (-1)) q fun _ _=>True:=by
 have G:=fun p hp=>zst pl.length p hp
 refine⟨by simp,fun p hp=>by rw[G p hp];omega,hh,fun x hx=>?_,fun p hp => .inr ⟨by rw[G p (hs p hp)];omega,h2 p hp⟩,fun p hp h0=>?_,fun p n hp _ _ _ h0 _=>?_⟩
 ·obtain⟨p,hp,e1,e2⟩:=h1 x hx
  exact⟨p,e1,hs p hp,by omega,by omega,fun m hm=>by rw[G m hm];omega,.inl ⟨hp,e2⟩⟩
 ·rw[G p hp]at h0;omega
 ·rw[G p hp]at h0;omega
end
structure Bf (W : Nat) (pl : List Int) (s : List Nat) (far : List Int) : Prop where
 len:far.length=pl.length
 low:∀p,p<pl.length → -1≤far.getD p default
 src:∀p∈s,far.getD p default=0
 why:∀p,p<pl.length→0≤far.getD p default→(p∈s∧far.getD p default=0)∨∃n,n<pl.length∧Adj W p n∧pl.getD p default≠1∧0≤far.getD n default∧far.getD n default+kV (pl.getD p default)≤far.getD p default
 top:∀p,p<pl.length→far.getD p default≤3*ziz zf3 far
def z2y (pl far:List Int) (i n:Nat):Prop:=pl.getD i default=1∨far.getD n default<0∨(0≤far.getD i default∧far.getD i default≤far.getD n default+kV (pl.getD i default))
section
variable {W : Nat} {pl : List Int} {s : List Nat} {far : List Int}
theorem Bf.flood (h:Bf W pl s far) (hf:∀i n,i<pl.length→n<pl.length→Adj W i n→z2y pl far i n):Flood W pl s far:=by
 refine⟨h.len,h.low,h.src,h.why,fun p n hp hn ha h0 hr=>?_⟩
 rcases hf n p hn hp ha.symm with h1|h1|h1
 ·exact absurd h1 hr
 ·omega
 ·exact h1
theorem Bf.better (h:Bf W pl s far) (hl:pl.length≤1600) {i n:Nat} (hi:i<pl.length) (hn:n<pl.length) (ha:Adj W i n) (hne:i≠n) (hf:¬z2y pl far i n) :
 Bf W pl s (far.set i (far.getD n default+kV (pl.getD i default)))∧ziz zx6 (far.set i (far.getD n default+kV (pl.getD i default)))<ziz zx6 far:=by
 unfold z2y at hf
 rw[not_or,not_or]at hf
 obtain⟨f1,f2,f3⟩:=hf
 have hk:=zxi (pl.getD i default)
 have hil:i<far.length:=by rw[h.len];exact hi
 have top:=h.top n hn
 have c1:=zhr zf3 1 zhz far
 rw[h.len]at c1
 obtain⟨d,hd⟩:∃d,d=far.getD n default+kV (pl.getD i default):=⟨_,rfl⟩
 rw[←hd]
 have G:=fun k=>zny d k hil
 have cnt:=zic zf3 far i d hil
 have bg:=zic zx6 far i d hil
 have o1:zf3 d=1:=by unfold zf3;rw[if_pos (by omega)]
 have b1:zx6 d=d.toNat:=by unfold zx6;rw[if_pos (by omega)]
 rw[o1]at cnt
 rw[b1]at bg
 have o2:=zhz (far.getD i default)
 refine⟨⟨by rw[List.length_set];exact h.len,fun k hk2=>?_,fun k hk2=>?_,fun k hk2 hk0=>?_,fun k hk2=>?_⟩,?_⟩
 ·rw[G];split
  ·omega
  ·exact h.low k hk2
 ·rw[G,if_neg]
  ·exact h.src k hk2
  ·intro e;subst e
   have:=h.src _ hk2
   exact f3 ⟨by omega,by omega⟩
 ·rw[G]at hk0 ⊢
  by_cases e:k=i
  ·subst e
   rw[if_pos rfl]
   refine .inr ⟨n,hn,ha,f1,?_⟩
   rw[G,if_neg (Ne.symm hne)];omega
  ·rw[if_neg e]at hk0 ⊢
   rcases h.why k hk2 hk0 with jw|⟨m,n1,n2,n3,n4,n5⟩
   ·exact .inl jw
   ·refine .inr ⟨m,n1,n2,n3,?_⟩
    rw[G]
    split
    ·rename_i e2;subst e2;omega
    ·exact⟨n4,n5⟩
 ·rw[G];split
  ·by_cases hneg:0≤far.getD i default
   ·have:zf3 (far.getD i default)=1:=by unfold zf3;rw[if_pos hneg]
    have:=h.top i hi
    omega
   ·have:zf3 (far.getD i default)=0:=by unfold zf3;rw[if_neg hneg]
    omega
  ·have:=h.top k hk2;omega
 ·by_cases hneg:0≤far.getD i default
  ·have:zx6 (far.getD i default)=(far.getD i default).toNat:=by unfold zx6;rw[if_pos hneg]
   omega
  ·have:zx6 (far.getD i default)=5000:=by unfold zx6;rw[if_neg hneg]
   omega
end
structure Nod where
 c:Cel
 far:Int
 all:Int
 deriving DecidableEq, Inhabited
def ze0 (W p:Nat):Cel:=⟨((p % W:Nat):Int),((p/W:Nat):Int)⟩
theorem ze5 {W p n:Nat} (h:ze0 W p=ze0 W n):p=n:=by
 unfold ze0 at h
 simp only[Cel.mk.injEq]at h
 have h1:=Nat.div_add_mod p W
 have h2:=Nat.div_add_mod n W
 have e1:p % W=n % W:=by omega
 have e2:p/W=n/W:=by omega
 rw[←h1,←h2,e1,e2]
def ykm (W L:Nat) (hh:Nat→Int):Prop:=∀p n,p<L→n<L→Adj W p n→hh p≤hh n+2
structure As (W : Nat) (pl : List Int) (a : Nat) (hh : Nat → Int) (far : List Int) (q : List Nod) (done : Nat → Nat → Prop) : Prop where
 len:far.length=pl.length
 low:∀p,p<pl.length → -1≤far.getD p default
 heap:zpx Nod.all q q.length
 itm:∀x∈q,∃p:Nat,x.c=ze0 W p∧p<pl.length∧0≤x.far∧x.far≤3*ziz zf3 far∧x.all=x.far+hh p∧(∀m,m<pl.length→0≤far.getD m default→far.getD m default+hh m≤x.all)∧((p=a∧x.far=0)∨∃n,n<pl.length∧Adj W p n∧pl.getD p default≠1∧0≤far.getD n default∧x.far=far.getD n default+kV (pl.getD p default))
 src:far.getD a default=0∨(far.getD a default<0∧∃x∈q,x.c=ze0 W a∧x.far=0)
 why:∀p,p<pl.length→0≤far.getD p default→(p=a∧far.getD p default=0)∨∃n,n<pl.length∧Adj W p n∧pl.getD p default≠1∧0≤far.getD n default∧far.getD p default=far.getD n default+kV (pl.getD p default)
 top:∀p,p<pl.length→far.getD p default≤3*ziz zf3 far
 all:∀p n,p<pl.length→n<pl.length→Adj W p n→done p n→0≤far.getD p default→pl.getD n default≠1 →
  (0≤far.getD n default∧far.getD n default≤far.getD p default+kV (pl.getD n default))∨(far.getD n default<0∧∃x∈q,x.c=ze0 W n∧x.far≤far.getD p default+kV (pl.getD n default))
section
variable {W : Nat} {pl : List Int} {a : Nat} {hh : Nat → Int} {far : List Int} {q : List Nod} {done : Nat → Nat → Prop}
theorem As.skip (h:As W pl a hh far q done) (hq:0<q.length) {p:Nat} (hp:(q.getD 0 default).c=ze0 W p) (h0:0≤far.getD p default):As W pl a hh far (zhh Nod.all q) done:=by
 have M:=zg8 Nod.all q hq
 refine⟨h.len,h.low,zkr _ _ hq h.heap,fun x hx=>h.itm x ((M x).2 (.inr hx)),?_,h.why,h.top,fun p' n h1 h2 h3 h4 h5 h6=>?_⟩
 ·rcases h.src with h7|⟨h7,x,hx,h8,h9⟩
  ·exact .inl h7
  ·refine .inr ⟨h7,x,?_,h8,h9⟩
   rcases (M x).1 hx with e|e
   ·subst e;rw[hp]at h8;have:=ze5 h8;subst this;omega
   ·exact e
 ·rcases h.all p' n h1 h2 h3 h4 h5 h6 with h7|⟨h7,x,hx,h8,h9⟩
  ·exact .inl h7
  ·refine .inr ⟨h7,x,?_,h8,h9⟩
   rcases (M x).1 hx with e|e
   ·subst e;rw[hp]at h8;have:=ze5 h8;subst this;omega
   ·exact e
theorem As.close (hW:0<W) (h:As W pl a hh far q fun _ _=>True) (hq:0<q.length) {p:Nat} (hp:(q.getD 0 default).c=ze0 W p) (h0:far.getD p default<0) :
 p<pl.length∧As W pl a hh (far.set p (q.getD 0 default).far) (zhh Nod.all q) (fun x _=>x≠p):=by
 have M:=zg8 Nod.all q hq
 have mem0:q.getD 0 default∈q:=(M _).2 (.inl rfl)
 obtain⟨p',e1,hpl,j0,jb,ja,jm,jw⟩:=h.itm _ mem0
 obtain rfl:p=p':=ze5 (hp.symm.trans e1)
 have zh3:∀x∈q,(q.getD 0 default).all≤x.all:=fun x hx=>by
  obtain⟨k,hk,rfl⟩:=mem_getD.1 hx
  exact zsp _ h.heap k hk
 have hpL:p<far.length:=by rw[h.len];exact hpl
 generalize q.getD 0 default=x0 at *
 obtain⟨c0,d,al⟩:=x0
 simp only at *
 have G:=fun k=>zny d k hpL
 have cnt:ziz zf3 (far.set p d)=ziz zf3 far+1:=by
  have:=zic zf3 far p d hpL
  simp only[zf3,if_neg (show ¬0≤far.getD p default by omega),if_pos j0]at this;simpa[zf3]using this
 refine⟨hpl,by rw[List.length_set];exact h.len,fun k hk=>?_,zkr _ _ hq h.heap,fun x hx=>?_,?_,fun k hk hk0=>?_,fun k hk=>?_,fun u n h1 h2 h3 h4 h5 h6=>?_⟩
 ·rw[G];split
  ·omega
  ·exact h.low k hk
 ·have hx':=(M x).2 (.inr hx)
  obtain⟨k,e2,hk,l0,lb,la,lm,lw⟩:=h.itm x hx'
  refine⟨k,e2,hk,l0,by rw[cnt];omega,la,fun m hm hm0=>?_,?_⟩
  ·rw[G]at hm0 ⊢;split
   ·rename_i e;subst e;have:=zh3 x hx';omega
   ·rename_i e;rw[if_neg e]at hm0;exact lm m hm hm0
  ·rcases lw with lw|⟨n,n1,n2,n3,n4,n5⟩
   ·exact .inl lw
   ·refine .inr ⟨n,n1,n2,n3,?_⟩
    rw[G,if_neg (by intro e;subst e;omega)];exact⟨n4,n5⟩
 ·rw[G]
  rcases h.src with h7|⟨h7,x,hx,h8,h9⟩
  ·rw[if_neg (by intro e;subst e;omega)];exact .inl h7
  ·by_cases e:a=p
   ·subst e
    rw[if_pos rfl]
    have:=zh3 x hx
    obtain⟨k,e2,_,_,_,la,_,_⟩:=h.itm x hx
    have:=ze5 (e2.symm.trans h8)
    subst this
    exact .inl (by omega)
   ·rw[if_neg e]
    refine .inr ⟨h7,x,?_,h8,h9⟩
    rcases (M x).1 hx with e3|e3
    ·subst e3;exact absurd (ze5 (h8.symm.trans hp)) e
    ·exact e3
 ·rw[G]at hk0 ⊢
  by_cases e:k=p
  ·subst e
   rw[if_pos rfl]
   rcases jw with jw|⟨n,n1,n2,n3,n4,n5⟩
   ·exact .inl jw
   ·refine .inr ⟨n,n1,n2,n3,?_⟩
    rw[G,if_neg (by intro e;subst e;omega)];omega
  ·rw[if_neg e]at hk0 ⊢
   rcases h.why k hk hk0 with jw|⟨n,n1,n2,n3,n4,n5⟩
   ·exact .inl jw
   ·refine .inr ⟨n,n1,n2,n3,?_⟩
    rw[G,if_neg (by intro e;subst e;omega)];exact⟨n4,n5⟩
 ·rw[G,cnt];split
  ·omega
  ·have:=h.top k hk;omega
 ·rw[G,if_neg h4]at h5
  rw[G,G,if_neg h4]
  rcases h.all u n h1 h2 h3 trivial h5 h6 with h7|⟨h7,x,hx,h8,h9⟩
  ·rw[if_neg (by intro e;subst e;omega)];exact .inl h7
  ·by_cases e:n=p
   ·subst e
    rw[if_pos rfl]
    have:=zh3 x hx
    obtain⟨k,e2,_,_,_,la,_,_⟩:=h.itm x hx
    have:=ze5 (e2.symm.trans h8)
    subst this
    exact .inl ⟨j0,by omega⟩
   ·rw[if_neg e]
    refine .inr ⟨h7,x,?_,h8,h9⟩
    rcases (M x).1 hx with e3|e3
    ·subst e3;exact absurd (ze5 (h8.symm.trans hp)) e
    ·exact e3
theorem As.look (hc:ykm W pl.length hh) {p n:Nat} (h:As W pl a hh far q done) (hn:n<pl.length) (hp:p<pl.length) (ha:Adj W p n) (h0:0≤far.getD p default) (top:∀m,m<pl.length→0≤far.getD m default→far.getD m default+hh m≤far.getD p default+hh p) (hb:far.getD p default+3≤3*ziz zf3 far) (done':Nat→Nat→Prop) (hd:∀x y,done' x y→done x y∨(x=p∧y=n))
 {q':List Nod} (hq':((pl.getD n default=1∨0≤far.getD n default)∧q'=q)∨(pl.getD n default≠1∧far.getD n default<0∧q'=zew Nod.all q ⟨ze0 W n,far.getD p default+kV (pl.getD n default),far.getD p default+kV (pl.getD n default)+hh n⟩)):As W pl a hh far q' done':=by
 have hcn:=hc p n hp hn ha
 have sub:∀x∈q,x∈q':=fun x hx=>by
  rcases hq' with ⟨_,rfl⟩|⟨_,_,rfl⟩
  ·exact hx
  ·exact(zes _ _ _ _).2 (.inl hx)
 refine⟨h.len,h.low,?_,fun x hx=>?_,?_,h.why,h.top,fun u b h1 h2 h3 h4 h5 h6=>?_⟩
 ·rcases hq' with ⟨_,rfl⟩|⟨_,_,rfl⟩
  ·exact h.heap
  ·exact zlq _ _ _ h.heap
 ·rcases hq' with ⟨_,rfl⟩|⟨g1,g2,rfl⟩
  ·exact h.itm x hx
  ·rcases (zes _ _ _ _).1 hx with e|e
   ·exact h.itm x e
   ·subst e
    have hk:=zxi (pl.getD n default)
    exact⟨n,rfl,hn,by simp only;omega,by simp only;omega,rfl,fun m hm hm0=>by have:=top m hm hm0;simp only;omega,.inr ⟨p,hp,ha.symm,g1,h0,rfl⟩⟩
 ·rcases h.src with h7|⟨h7,x,hx,h8,h9⟩
  ·exact .inl h7
  ·exact .inr ⟨h7,x,sub x hx,h8,h9⟩
 ·rcases hd u b h4 with h4|⟨rfl,rfl⟩
  ·rcases h.all u b h1 h2 h3 h4 h5 h6 with h7|⟨h7,x,hx,h8,h9⟩
   ·exact .inl h7
   ·exact .inr ⟨h7,x,sub x hx,h8,h9⟩
  ·rcases hq' with ⟨g|g,rfl⟩|⟨g1,g2,rfl⟩
   ·exact absurd g h6
   ·have hk:=zxi (pl.getD b default)
    have:=top b hn g
    have:=hc u b hp hn ha
    exact .inl ⟨g,by omega⟩
   ·exact .inr ⟨g2,_,(zes _ _ _ _).2 (.inr rfl),rfl,Int.le_refl _⟩
theorem As.start (ha:a<pl.length):As W pl a hh (List.replicate pl.length (-1)) (zew Nod.all [] ⟨ze0 W a,0,0+hh a⟩) fun _ _=>True:=by
 have G:=fun p hp=>zst pl.length p hp
 refine⟨by simp,fun p hp=>by rw[G p hp];omega,zlq _ _ _ (fun k h1 h2=>absurd h2 (Nat.not_lt_zero _)),fun x hx=>?_,.inr ⟨by rw[G a ha];omega,_,(zes _ _ _ _).2 (.inr rfl),rfl,rfl⟩,fun p hp h0=>?_,fun p hp=>by rw[G p hp];omega,fun p n hp _ _ _ h0 _=>?_⟩
 ·rcases (zes _ _ _ _).1 hx with e|e
  ·simp at e
  ·subst e
   exact⟨a,rfl,ha,Int.le_refl _,by simp only;omega,rfl,fun m hm h0=>by rw[G m hm]at h0;omega,.inl ⟨rfl,rfl⟩⟩
 ·rw[G p hp]at h0;omega
 ·rw[G p hp]at h0;omega
variable {F : List Int}
theorem As.up (h:As W pl a hh far q done) (hF:Flood W pl [a] F):∀(N p:Nat),p<pl.length→0≤far.getD p default→far.getD p default≤N→0≤F.getD p default∧F.getD p default≤far.getD p default:=by
 intro N
 induction N using Nat.strongRecOn with
 | _ N ih =>
  intro p hp h0 hN
  rcases h.why p hp h0 with ⟨h1,h2⟩|⟨n,hn,ha,hr,h3,h4⟩
  ·subst h1;rw[hF.src p (by simp)];omega
  ·have hk:=zxi (pl.getD p default)
   obtain⟨k,hk2⟩:=Int.eq_ofNat_of_zero_le h3
   have:=ih k (by omega) n hn h3 (by omega)
   have:=hF.all n p hn hp ha.symm this.1 hr
   omega
theorem As.down (hc:ykm W pl.length hh) (h:As W pl a hh far q fun _ _=>True) (ha:a<pl.length) (hF:Flood W pl [a] F):∀(N p:Nat),p<pl.length→0≤F.getD p default→F.getD p default≤N →
 (0≤far.getD p default∧far.getD p default≤F.getD p default)∨∃x∈q,x.all≤F.getD p default+hh p:=by
 intro N
 induction N using Nat.strongRecOn with
 | _ N ih =>
  intro p hp h0 hN
  have itm:∀x∈q,x.c=ze0 W p→x.all=x.far+hh p:=fun x hx e=>by
   obtain⟨k,e2,_,_,_,la,_,_⟩:=h.itm x hx
   have:=ze5 (e2.symm.trans e)
   subst this;exact la
  rcases hF.why p hp h0 with ⟨h1,h2⟩|⟨n,hn,hadj,hr,h3,h4⟩
  ·obtain rfl:p=a:=by simpa using h1
   rcases h.src with h7|⟨_,x,hx,h8,h9⟩
   ·exact .inl (by omega)
   ·exact .inr ⟨x,hx,by rw[itm x hx h8];omega⟩
  ·have hk:=zxi (pl.getD p default)
   obtain⟨k,hk2⟩:=Int.eq_ofNat_of_zero_le h3
   rcases ih k (by omega) n hn h3 (by omega)with ⟨g1,g2⟩|⟨x,hx,hxa⟩
   ·rcases h.all n p hn hp hadj.symm trivial g1 hr with g3|⟨_,x,hx,e,g4⟩
    ·exact .inl (by omega)
    ·exact .inr ⟨x,hx,by rw[itm x hx e];omega⟩
   ·have:=hc n p hn hp hadj.symm
    exact .inr ⟨x,hx,by omega⟩
theorem As.same (hc:ykm W pl.length hh) (h:As W pl a hh far q fun _ _=>True) (ha:a<pl.length) (hF:Flood W pl [a] F) {p:Nat} (hp:p<pl.length) (h0:0≤far.getD p default):far.getD p default=F.getD p default:=by
 obtain⟨N,hN⟩:=Int.eq_ofNat_of_zero_le h0
 have h1:=h.up hF N p hp h0 (by omega)
 obtain⟨M,hM⟩:=Int.eq_ofNat_of_zero_le h1.1
 rcases h.down hc ha hF M p hp h1.1 (by omega)with h2|⟨x,hx,hxa⟩
 ·omega
 ·obtain⟨k,_,_,_,_,_,lm,_⟩:=h.itm x hx
  have:=lm p hp h0
  omega
theorem As.known (hc:ykm W pl.length hh) (h:As W pl a hh far q fun _ _=>True) (ha:a<pl.length) (hF:Flood W pl [a] F) {p:Nat} (hp:p<pl.length) (h0:0≤F.getD p default) (hout:∀x∈q,¬x.all≤F.getD p default+hh p):far.getD p default=F.getD p default:=by
 obtain⟨M,hM⟩:=Int.eq_ofNat_of_zero_le h0
 rcases h.down hc ha hF M p hp h0 (by omega)with h2|⟨x,hx,hxa⟩
 ·exact h.same hc ha hF hp h2.1
 ·exact absurd hxa (hout x hx)
end
theorem zxq {W:Nat} {pl:List Int} {s:List Nat} (hW:0<W) (hl:pl.length≤1600):∀(N:Nat) (far:List Int),ziz zx6 far≤N→Bf W pl s far→∃F,Flood W pl s F:=by
 intro N
 induction N using Nat.strongRecOn with
 | _ N ih =>
  intro far hN hB
  by_cases hf:∀i n,i<pl.length→n<pl.length→Adj W i n→z2y pl far i n
  ·exact⟨far,hB.flood hf⟩
  ·simp only[Classical.not_forall]at hf
   obtain⟨i,n,hi,hn,ha,hnf⟩:=hf
   obtain⟨b1,b2⟩:=hB.better hl hi hn ha (Adj.ne hW ha) hnf
   exact ih _ (by omega) _ (Nat.le_refl _) b1
theorem ybp {W:Nat} {pl:List Int} {s:List Nat} (hW:0<W) (hl:pl.length≤1600) (hs:∀p∈s,p<pl.length):∃F,Flood W pl s F:=by
 have G:∀p,p<pl.length→((List.range pl.length).map fun p=>if p∈s then (0:Int)else -1).getD p default=if p∈s then 0 else -1:=fun p hp=>by rw[zaq _ _ (by simpa using hp)];simp
 refine zxq hW hl _ ((List.range pl.length).map fun p=>if p∈s then (0:Int)else -1) (Nat.le_refl _) ⟨by simp,fun p hp=>?_,fun p hp=>?_,fun p hp h0=>?_,fun p hp=>?_⟩
 ·rw[G p hp];split<;>omega
 ·rw[G p (hs p hp),if_pos hp]
 ·rw[G p hp]at h0 ⊢
  split at h0
  ·rename_i h;rw[if_pos h];exact .inl ⟨h,rfl⟩
  ·omega
 ·rw[G p hp];split<;>omega
def zxx (q:Int):Int × Int:=if q=0∨q=3 then (2,0)else if q=2 then (3,0)else if q=1 then (0,9)else (0,1)
theorem zpa (q:Int):zxx q=(if q=0∨q=3 then (2,0)else if q=2 then (3,0)else if q=1 then (0,9)else (0,1):Int × Int):=rfl
theorem yj5 (q:Int):Spec Tryz.prog 174 [I .i64 q] [] (.tup [I .i64 (zxx q).1,I .i64 (zxx q).2]) []:=by
 refine spB Tryz.func174 12 [.tmp 2,.tmp 3] Tryz.results174 ?_
 try refine xst ?_
 refine cI (fun h1=>?_) fun h1=>?_
 ·try refine xst ?_
  refine cI (fun h2=>?_) fun h2=>?_
  ·try refine xst ?_
   exact zcw zpa rfl
  ·exact absurd h1 h2
 ·try refine xst ?_
  refine cI (fun h3=>?_) fun h3=>?_
  ·try refine xst ?_
   exact zcw zpa rfl
  ·try refine xst ?_
   refine cI (fun h4=>?_) fun h4=>?_
   ·try refine xst ?_
    exact zcw zpa rfl
   ·try refine xst ?_
    refine cI (fun h5=>?_) fun h5=>?_
    ·try refine xst ?_
     exact zcw zpa rfl
    ·try refine xst ?_
     exact zcw zpa rfl
theorem z0v (q:Int) (h:0≤q∧q<4):Spec Tryz.prog 107 [I .i64 q] [] (I .i64 (if q=1 then -1 else kV q)) []:=by
 have hg:([[pI 2],[pI (-1)],[pI 3],[pI 2]]:List (List PV)).getD q.toNat [] = [pI (if q=1 then -1 else kV q)]:=by
  have:q=0∨q=1∨q=2∨q=3:=by omega
  rcases this with rfl|rfl|rfl|rfl<;>rfl
 refine spB Tryz.func107 7 [.tmp 2] Tryz.results107 ?_
 try refine xz1 hg ?_
 exact xrz rfl
def zaw (f:Fld) (c:Cel):Nat:=(c.y*f.w+c.x).toNat
def z81 (f:Fld):List Cel→Int
 | []=>0
 | c::r=>if inF f c then (if zar f c=1 then 9 else z81 f r)else 7
def zfl (f:Fld) (l:List Cel):Int:=if zbl f≠0 then zbl f else if 100<l.length then 2 else z81 f l
def zbu (f:Fld) (l:List Cel) (R:List Int):Prop:=(zfl f l=0→∀far,Flood f.w.toNat f.p (l.map (zaw f)) far→R=far)∧(zfl f l≠0→R = [])∧R.length≤f.p.length
theorem z0j (f:Fld) (l:List Cel):∃R,zbu f l R:=by
 by_cases h:zfl f l=0∧∃far,Flood f.w.toNat f.p (l.map (zaw f)) far
 ·obtain⟨h1,far,hf⟩:=h
  exact⟨far,fun _ g hg=>hf.uniq hg,fun h=>absurd h1 h,by rw[hf.len];exact Nat.le_refl _⟩
 ·exact⟨[],fun h0 far hf=>absurd ⟨h0,far,hf⟩ h,fun _=>rfl,Nat.zero_le _⟩
theorem zrp {f:Fld} : ∀ {l:List Cel} (k:Nat),k<l.length→(∀j,j<k→inF f (l.getD j default)=true∧zar f (l.getD j default)≠1)→¬(inF f (l.getD k default)=true∧zar f (l.getD k default)≠1)→z81 f l=if inF f (l.getD k default)then 9 else 7
 | [],k,h,_,_=>by simp at h
 | c::r,0,h,_,hb=>by
  simp only[List.getD_cons_zero]at hb ⊢
  unfold z81
  by_cases h1:inF f c=true
  ·rw[if_pos h1,if_pos h1,if_pos];by_cases h2:zar f c=1
   ·exact h2
   ·exact absurd ⟨h1,h2⟩ hb
  ·rw[if_neg h1,if_neg h1]
 | c::r,k+1,h,ha,hb=>by
  simp only[List.getD_cons_succ]at hb ⊢
  have h0:=ha 0 (by omega)
  simp only[List.getD_cons_zero]at h0
  unfold z81
  rw[if_pos h0.1,if_neg h0.2]
  exact zrp k (by simpa using h) (fun j hj=>by have:=ha (j+1) (by omega);simpa using this) hb
theorem z3y {f:Fld} : ∀ {l:List Cel},(∀j,j<l.length→inF f (l.getD j default)=true∧zar f (l.getD j default)≠1)→z81 f l=0
 | [],_=>rfl
 | c::r,ha=>by
  have h0:=ha 0 (by simp)
  simp only[List.getD_cons_zero]at h0
  unfold z81
  rw[if_pos h0.1,if_neg h0.2]
  exact z3y (fun j hj=>by have:=ha (j+1) (by simpa using hj);simpa using this)
abbrev ybq (f:Fld):List AV := [I .i64 f.w,I .i64 f.h,.c (.sl 1 (f.p.map zao))]
theorem yb1 {q:Int} (h:0≤q∧q<4):(q=1∧zxx q=(0,9))∨(q≠1∧zxx q=(kV q,0)):=by
 have:q=0∨q=1∨q=2∨q=3:=by omega
 rcases this with rfl|rfl|rfl|rfl
 ·exact .inr ⟨by decide,rfl⟩
 ·exact .inl ⟨rfl,rfl⟩
 ·exact .inr ⟨by decide,rfl⟩
 ·exact .inr ⟨by decide,rfl⟩
theorem z17 (f:Fld) (c:Cel) (h:zbl f=0):Spec Tryz.prog 91 [ziq f,zeu c] [] (B (inF f c)) []:=by
 have:=za4 h
 exact yod f c (by omega) (by omega)
def zam (c:Cel):List Cel := [⟨c.x,c.y-1⟩,⟨c.x-1,c.y⟩,⟨c.x+1,c.y⟩,⟨c.x,c.y+1⟩]
theorem yku (c:Cel):zam c=([⟨c.x,c.y-1⟩,⟨c.x-1,c.y⟩,⟨c.x+1,c.y⟩,⟨c.x,c.y+1⟩]:List Cel):=rfl
def zco (f:Fld) (c:Cel):List Cel:=(zam c).filter (inF f)
theorem z8i (f:Fld) (c:Cel):zco f c=((zam c).filter (inF f):List Cel):=rfl
theorem zv2 (f:Fld) (c:Cel) (k:Nat) (h:k<(zam c).length):((zam c).take (k+1)).filter (inF f)=((zam c).take k).filter (inF f)++(if inF f ((zam c).getD k default)then [(zam c).getD k default]else []):=by
 rw[zak _ _ h,List.filter_append,List.filter_cons,List.filter_nil]
theorem zv1 (f:Fld) (c:Cel) (h:zbl f=0) (hx : -1000000≤c.x∧c.x≤1000000) (hy : -1000000≤c.y∧c.y≤1000000):Spec Tryz.prog 104 [ziq f,zeu c] [] (.c (.sl 2 ((zco f c).map zbk))) []:=by
 have h4:(zam c).length=4:=rfl
 refine spB Tryz.func104 47 [.tmp 4] Tryz.results104 ?_
 try refine xst ?_
 refine zay (fun k:Nat=>⟨[(34,I .i64 k),(33,I .i64 4),(32,.own 1),(5,.own 2),(2,.ptr 0 0 0)],[(0,.blk 28 (ybq f)),(1,.row 72 2 ((zam c).map zbk)),(2,.row 72 2 ((((zam c).take k).filter (inF f)).map zbk))],3⟩) (fun k:Nat=>k≤4) (fun k:Nat=>4-k) (0) (Nat.zero_le _) ((To.nil 5 72 2 rfl).trans (To.mk [0,2,3] rfl rfl (by decide) ?_ ?_)) ?_
 ·simp(etaStruct := .none)only[push_cast,zad,seval,zam,zbk,List.filter_nil,List.take_zero]
 ·exact xS
 rintro k hk
 try refine xst ?_
 refine cI (fun h1=>?_) fun h1=>?_
 ·have hlt:k<(zam c).length:=by omega
  have st:=zv2 f c k hlt
  have hfl:(((zam c).take k).filter (inF f)).length≤4:=by have:=List.length_filter_le (inF f) ((zam c).take k);rw[List.length_take]at this;omega
  try refine xz2 (gd hlt) zag ?_
  refine caP (z17 f ((zam c).getD k default) h) ?_
  try refine xz2 (gd hlt) zag ?_
  refine cI (fun h2=>?_) fun h2=>?_
  ·rw[if_pos h2]at st
   try refine xz2 (gd hlt) zag ?_
   refine⟨k+1,by omega,by omega,To.mk [0,1,5] rfl rfl (by decide) ?_ ?_⟩
   ·(try(refine xz3 st zag Qp ?_;try exact xtI))
   ·(try(refine xz2 (gd hlt) zag ?_;try exact xtI))
  ·rw[if_neg (by rw[h2];decide),List.append_nil]at st
   try refine xz2 (gd hlt) zag ?_
   refine⟨k+1,by omega,by omega,To.mk [0,1,2] rfl rfl (by decide) ?_ ?_⟩
   ·(try(refine xz1 st ?_;try exact xtI))
   ·(try(refine xz2 (gd hlt) zag ?_;try exact xtI))
 ·obtain rfl:k=4:=by omega
  have ht:(zam c).take 4=zam c:=rfl
  try refine xz1 ht ?_
  exact zcw z8i rfl
theorem zl3 (f:Fld) {W H i:Nat} (hw:f.w=(W:Int)) (hh:f.h=(H:Int)) (hW:0<W) (hi:i<W*H):(zco f ⟨((i % W:Nat):Int),((i/W:Nat):Int)⟩).map (zaw f)=zd3 W H i∧∀n∈zco f ⟨((i % W:Nat):Int),((i/W:Nat):Int)⟩,inF f n=true:=by
 refine⟨?_,fun n hn=>(List.mem_filter.1 hn).2⟩
 have h1:=Nat.div_add_mod i W
 have h2:=Nat.mod_lt i hW
 have h3:i/W<H:=by rw[Nat.div_lt_iff_lt_mul hW,Nat.mul_comm];exact hi
 unfold zco zd3 zam
 generalize i % W=x at *
 generalize i/W=y at *
 have a1:inF f ⟨(x:Int),(y:Int)-1⟩=decide (0<y):=by
  rw[Bool.eq_iff_iff,inF_iff,decide_eq_true_eq,hw,hh];simp only;omega
 have a2:inF f ⟨(x:Int)-1,(y:Int)⟩=decide (0<x):=by
  rw[Bool.eq_iff_iff,inF_iff,decide_eq_true_eq,hw,hh];simp only;omega
 have a3:inF f ⟨(x:Int)+1,(y:Int)⟩=decide (x+1<W):=by
  rw[Bool.eq_iff_iff,inF_iff,decide_eq_true_eq,hw,hh];simp only;omega
 have a4:inF f ⟨(x:Int),(y:Int)+1⟩=decide (y+1<H):=by
  rw[Bool.eq_iff_iff,inF_iff,decide_eq_true_eq,hw,hh];simp only;omega
 have hyW:(y:Int)*(W:Int)=((W*y:Nat):Int):=by rw[Nat.mul_comm,Int.natCast_mul]
 have b1:0<y→zaw f ⟨(x:Int),(y:Int)-1⟩=i-W:=fun h=>by
  unfold zaw;simp only;rw[hw,Int.sub_mul,hyW,Int.one_mul]
  have:W*1≤W*y:=Nat.mul_le_mul_left _ h
  omega
 have b2:0<x→zaw f ⟨(x:Int)-1,(y:Int)⟩=i-1:=fun h=>by
  unfold zaw;simp only;rw[hw,hyW];omega
 have b3:zaw f ⟨(x:Int)+1,(y:Int)⟩=i+1:=by
  unfold zaw;simp only;rw[hw,hyW];omega
 have b4:zaw f ⟨(x:Int),(y:Int)+1⟩=i+W:=by
  unfold zaw;simp only;rw[hw,Int.add_mul,hyW,Int.one_mul];omega
 simp only[List.filter_cons,List.filter_nil,a1,a2,a3,a4,decide_eq_true_eq]
 by_cases c1:0<y<;>by_cases c2:0<x<;>by_cases c3:x+1<W<;>by_cases c4:y+1<H<;>simp only[c1,c2,c3,c4,if_true,if_false,List.map_cons,List.map_nil,b3,b4,List.nil_append,List.cons_append,List.append_nil]<;>(first|rw[b1 c1,b2 c2]|rw[b1 c1]|rw[b2 c2]|rfl)
theorem ybo (f:Fld) (l:List Cel) (R:List Int) (hR:zbu f l R) (hf:f.p.length≤9223372036854775807) (hl:l.length≤9223372036854775807):Spec Tryz.prog 102 [ziq f,.c (.sl 2 (l.map zbk))] [] (.tup [.c (.sl 1 (R.map zao)),I .i64 (zfl f l)]) []:=by
 refine spB Tryz.func102 134 [.tmp 4,.tmp 5] Tryz.results102 ?_
 try refine xst ?_
 refine caP (zsx f hf) ?_
 try refine xst ?_
 refine cI (fun h1=>?_) fun h1=>?_
 ·have e:zfl f l=zbl f:=by unfold zfl;rw[if_pos h1]
  have e2:R = []:=hR.2.1 (by rw[e];exact h1)
  try refine xst ?_
  exact znb e e2 rfl
 ·obtain⟨⟨w1,w2⟩,⟨w3,w4⟩,wl,wp⟩:=za4 h1
  obtain⟨W,hW⟩:∃W:Nat,f.w=(W:Int):=Int.eq_ofNat_of_zero_le (by omega)
  obtain⟨H,hH⟩:∃H:Nat,f.h=(H:Int):=Int.eq_ofNat_of_zero_le (by omega)
  have hWH:f.p.length=W*H:=by rw[hW,hH]at wl;exact_mod_cast wl
  have hm:W*H≤40*40:=Nat.mul_le_mul (by omega) (by omega)
  try refine xst ?_
  refine cI (fun h2=>?_) fun h2=>?_
  ·have e:zfl f l=2:=by unfold zfl;rw[if_neg (by simpa using h1),if_pos (by omega)]
   have e2:R = []:=hR.2.1 (by rw[e];decide)
   try refine xst ?_
   exact znb e e2 rfl
  ·have eF:zfl f l=z81 f l:=by unfold zfl;rw[if_neg (by simpa using h1),if_neg (by omega)]
   try refine xst ?_
   refine zay (fun k:Nat=>⟨[(31,I .i64 k),(30,I .i64 f.p.length),(7,.own 1),(2,.ptr 0 0 0),(1,.c (.sl 2 (l.map zbk)))],[(0,.blk 28 (ybq f)),(1,.row 3 1 ((zpo (fun _=>(-1:Int)) k (List.replicate f.p.length 0)).map zao))],2⟩) (fun k:Nat=>k≤f.p.length) (fun k:Nat=>f.p.length-k) (0) (Nat.zero_le _) (To.mk [0,1] rfl rfl (by decide) ?_ ?_) ?_
   ·simp(etaStruct := .none)only[push_cast,zad,seval,ye1,List.map_replicate,List.length_replicate,zao]
   ·simp(etaStruct := .none)only[push_cast,zad,seval,List.length_replicate]
   rintro k hk
   have hpl:=z5a (fun _=>(-1:Int)) k (List.replicate f.p.length 0)
   rw[List.length_replicate]at hpl
   try refine xst ?_
   refine cI (fun h3=>?_) fun h3=>?_
   ·have hlt:k<f.p.length:=by omega
    have hs:=z1o (fun _=>(-1:Int)) k (List.replicate f.p.length 0) (by rw[List.length_replicate];exact hlt)
    try refine xst ?_
    refine⟨k+1,by omega,by omega,To.mk [0,1] rfl rfl (by decide) ?_ ?_⟩
    ·(try(refine xz3 hs zab Qr ?_;try exact xtI))
    ·(try(refine xst ?_;try exact xtI))
   ·obtain rfl:k=f.p.length:=by omega
    have hall:=z5b (fun _=>(-1:Int)) (List.replicate f.p.length 0)
    rw[List.length_replicate,List.map_replicate]at hall
    try refine xst ?_
    refine zay (fun x:Nat × List Int=>⟨[(40,I .i64 x.1),(39,I .i64 l.length),(38,.c (.sl 2 (l.map zbk))),(7,.own 1),(2,.ptr 0 0 0)],[(0,.blk 28 (ybq f)),(1,.row 3 1 (x.2.map zao))],2⟩) (fun x:Nat × List Int=>x.1≤l.length∧x.2.length=f.p.length∧(∀p,p<f.p.length→(p∈(l.take x.1).map (zaw f)∧x.2.getD p default=0)∨(p∉(l.take x.1).map (zaw f)∧x.2.getD p default = -1))∧∀j,j<x.1→inF f (l.getD j default)=true∧zar f (l.getD j default)≠1) (fun x:Nat × List Int=>l.length-x.1) ((0,List.replicate f.p.length (-1))) (⟨Nat.zero_le _,by simp,fun p hp => .inr ⟨by simp,zst _ _ hp⟩,fun j h=>absurd h (Nat.not_lt_zero _)⟩) (To.mk [0,1] rfl rfl (by decide) ?_ ?_) ?_
    ·exact xS1 hall
    ·exact xS
    rintro⟨k,far⟩ ⟨hk,hfl,hfar,hgood⟩
    simp only at hk hfl hfar hgood
    try refine xst ?_
    refine zcd (fun h4=>?_) (fun h4=>?_)
    ·(try replace h4:=xhh h4)
     have hlt:k<l.length:=by omega
     try refine xz2 (gd hlt) zag ?_
     refine caP (z17 f (l.getD k default) h1) ?_
     try refine xz2 (gd hlt) zag ?_
     refine cI (fun h5=>?_) fun h5=>?_
     ·have e:zfl f l=7:=by rw[eF,zrp k hlt hgood (fun h=>by rw[h5]at h;exact absurd h.1 (by decide)),if_neg (by rw[h5];decide)]
      have e2:R = []:=hR.2.1 (by rw[e];decide)
      try refine xz2 (gd hlt) zag ?_
      exact znb e e2 rfl
     ·obtain⟨i1,i2,i3,i4,i5⟩:=zbb h1 h5
      try refine xz2 (gd hlt) zag ?_
      refine caP (zlf f (l.getD k default) h1 h5) ?_
      try refine xz2 (gd hlt) zag ?_
      refine cI (fun h6=>?_) fun h6=>?_
      ·have e:zfl f l=9:=by rw[eF,zrp k hlt hgood (fun h=>h.2 h6),if_pos h5]
       have e2:R = []:=hR.2.1 (by rw[e];decide)
       try refine xz2 (gd hlt) zag ?_
       exact znb e e2 rfl
      ·obtain⟨m,hm2⟩:∃m,m=zaw f (l.getD k default):=⟨_,rfl⟩
       have hmi:(l.getD k default).y*f.w+(l.getD k default).x=(m:Int):=by rw[hm2];unfold zaw;omega
       have ew1:IntKind.i64.wrap (IntKind.i64.wrap ((l.getD k default).y*f.w)+(l.getD k default).x)=(m:Int):=by rw[zaj ((l.getD k default).y*f.w) (by omega) (by omega),zaj _ (by omega) (by omega)];exact hmi
       have hml:m<far.length:=by omega
       try refine xz5 (gd hlt) zag ew1 (gd hml) Qn ?_
       refine⟨(k+1,far.set m 0),⟨by simp only;omega,by simp only[List.length_set];exact hfl,fun p hp=>by
 simp only
 rw[zak _ _ hlt,List.map_append,List.map_cons,List.map_nil,←hm2,zny _ _ hml,List.mem_append,List.mem_singleton]
 by_cases e:p=m
 ·rw[if_pos e];exact .inl ⟨.inr e,rfl⟩
 ·rw[if_neg e]
  rcases hfar p hp with h|h
  ·exact .inl ⟨.inl h.1,h.2⟩
  ·exact .inr ⟨fun h'=>by rcases h' with h'|h';exact h.1 h';exact e h',h.2⟩,fun j hj=>by
 simp only at hj
 rcases Nat.lt_or_ge j k with h|h
 ·exact hgood j h
 ·rw [show j = k by omega]; exact ⟨h5, h6⟩⟩, by simp only; omega, To.mk [0, 1] rfl rfl (by decide) ?_ ?_⟩
       ·(try(refine xz2 zab Qr ?_;try exact xtI))
       ·(try(refine xz5 (gd hlt) zag ew1 (gd hml) Qn ?_;try exact xtI))
    ·(try replace h4:=xhh h4)
     obtain rfl:k=l.length:=by omega
     rw[List.take_length]at hfar
     have e:zfl f l=0:=by rw[eF];exact z3y hgood
     have hst:Bf W f.p (l.map (zaw f)) far:=by
      refine⟨hfl,fun p hp=>?_,fun p hp=>?_,fun p hp h0=>?_,fun p hp=>?_⟩
      ·rcases hfar p hp with h|h<;>rw[h.2]<;>omega
      ·obtain⟨c,hc,rfl⟩:=List.mem_map.1 hp
       obtain⟨j,hj,rfl⟩:=mem_getD.1 hc
       have:=zbb h1 (hgood j hj).1
       rcases hfar (zaw f (l.getD j default)) (by unfold zaw;omega)with h|h
       ·exact h.2
       ·exact absurd hp h.1
      ·rcases hfar p hp with h|h
       ·exact .inl h
       ·rw[h.2]at h0;omega
      ·rcases hfar p hp with h|h<;>rw[h.2]<;>omega
     try refine xst ?_
     refine zay (fun x:List Int × Bool=>⟨[(11,B x.2),(7,.own 1),(2,.ptr 0 0 0)],[(0,.blk 28 (ybq f)),(1,.row 3 1 (x.1.map zao))],2⟩) (fun x:List Int × Bool=>Bf W f.p (l.map (zaw f)) x.1∧(x.2=false→∀i n,i<f.p.length→n<f.p.length→Adj W i n→z2y f.p x.1 i n)) (fun x:List Int × Bool=>2*ziz zx6 x.1+(if x.2 then 1 else 0)) ((far,true)) (⟨hst,fun h=>by simp at h⟩) (To.mk [0,1] rfl rfl (by decide) ?_ ?_) ?_
     ·exact xS
     ·exact xS
     rintro⟨far0,b0⟩ ⟨hB,hfine⟩
     simp only at hB hfine
     have hfl0:=hB.len
     try refine xst ?_
     refine zcd (fun h7=>?_) (fun h7=>?_)
     ·(try replace h7:=xhh h7)
      try refine xst ?_
      refine zay (fun x:Nat × List Int × Bool=>⟨[(66,I .i64 x.1),(65,I .i64 f.p.length),(11,B x.2.2),(7,.own 1),(2,.ptr 0 0 0)],[(0,.blk 28 (ybq f)),(1,.row 3 1 (x.2.1.map zao))],2⟩) (fun x:Nat × List Int × Bool=>x.1≤f.p.length∧Bf W f.p (l.map (zaw f)) x.2.1∧((x.2.2=false∧x.2.1=far0∧∀i n,i<x.1→n<f.p.length→Adj W i n→z2y f.p x.2.1 i n)∨(x.2.2=true∧ziz zx6 x.2.1<ziz zx6 far0))) (fun x:Nat × List Int × Bool=>f.p.length-x.1) ((0,far0,false)) (⟨Nat.zero_le _,hB,.inl ⟨rfl,rfl,fun i n h=>absurd h (Nat.not_lt_zero _)⟩⟩) (To.mk [0,1] rfl rfl (by decide) ?_ ?_) ?_
      ·exact xS
      ·exact xS1 hfl0
      rintro⟨i,far1,b1⟩ ⟨hi,hB1,hsw⟩
      simp only at hi hB1 hsw
      try refine xst ?_
      refine zcd (fun h8=>?_) (fun h8=>?_)
      ·(try replace h8:=xhh h8)
       have hil:i<f.p.length:=by omega
       have hpr:=wp _ (zax f.p i hil)
       obtain⟨cst,hcst⟩:∃cst:Int,cst=if f.p.getD i default=1 then -1 else kV (f.p.getD i default):=⟨_,rfl⟩
       have hkv:=zxi (f.p.getD i default)
       have hcb:(f.p.getD i default=1∧cst = -1)∨(f.p.getD i default≠1∧cst=kV (f.p.getD i default)):=by
        by_cases h:f.p.getD i default=1
        ·exact .inl ⟨h,by rw[hcst,if_pos h]⟩
        ·exact .inr ⟨h,by rw[hcst,if_neg h]⟩
       obtain⟨bm,bi⟩:=zl3 f hW hH (by omega) (show i<W*H by omega)
       have bl:(zco f ⟨((i % W:Nat):Int),((i/W:Nat):Int)⟩).length=(zd3 W H i).length:=by rw[←bm,List.length_map]
       have hx1:=Nat.mod_lt i (show 0<W by omega)
       have hy1:i/W≤i:=Nat.div_le_self _ _
       have ex:(i:Int).tmod f.w=((i % W:Nat):Int):=by rw[hW,Int.tmod_eq_emod_of_nonneg (by omega)];rfl
       have ey:IntKind.i64.wrap ((i:Int).tdiv f.w)=((i/W:Nat):Int):=by rw[hW,Int.tdiv_eq_ediv_of_nonneg (by omega)];change IntKind.i64.wrap ((i/W:Nat):Int)=_;exact zaj _ (by have:=Int.natCast_nonneg (i/W);omega) (by omega)
       obtain⟨cx,hcx⟩:∃cx:Nat,cx=i % W:=⟨_,rfl⟩
       obtain⟨cy,hcy⟩:∃cy:Nat,cy=i/W:=⟨_,rfl⟩
       rw[←hcx]at ex hx1
       rw[←hcy]at ey hy1
       rw[←hcx,←hcy]at bm bi bl
       have hbl:=zx7 W H i
       try refine xz5 hcst.symm ex ey (gd hil) zab ?_
       refine caP (z0v (f.p.getD i default) hpr) ?_
       try refine xz5 hcst.symm ex ey (gd hil) zab ?_
       refine caP (zv1 f ⟨(cx:Int),(cy:Int)⟩ h1 (by simp only;omega) (by simp only;omega)) ?_
       try refine xz5 hcst.symm ex ey (gd hil) zab ?_
       (try(refine⟨by kernel_rfl,?_⟩))
       try refine xz5 hcst.symm ex ey (gd hil) zab ?_
       refine zay (fun x:Nat × List Int × Bool=>⟨[(87,I .i64 x.1),(86,I .i64 (zco f ⟨(cx:Int),(cy:Int)⟩).length),(85,.c (.sl 2 ((zco f ⟨(cx:Int),(cy:Int)⟩).map zbk))),(66,I .i64 i),(65,I .i64 f.p.length),(13,I .i64 cst),(12,I .i64 i),(11,B x.2.2),(7,.own 1),(2,.ptr 0 0 0)],[(0,.blk 28 (ybq f)),(1,.row 3 1 (x.2.1.map zao))],2⟩) (fun x:Nat × List Int × Bool=>x.1≤(zd3 W H i).length∧Bf W f.p (l.map (zaw f)) x.2.1∧((x.2.2=false∧x.2.1=far0∧(∀i' n,i'<i→n<f.p.length→Adj W i' n→z2y f.p x.2.1 i' n)∧∀n∈(zd3 W H i).take x.1,z2y f.p x.2.1 i n)∨(x.2.2=true∧ziz zx6 x.2.1<ziz zx6 far0))) (fun x:Nat × List Int × Bool=>(zd3 W H i).length-x.1) ((0,far1,b1)) (⟨Nat.zero_le _,hB1,by
 rcases hsw with h|h
 ·exact .inl ⟨h.1,h.2.1,h.2.2,fun n hn=>by simp at hn⟩
 ·exact .inr h⟩) (To.mk [0, 1] rfl rfl (by decide) ?_ ?_) ?_
       ·exact xS
       ·exact xS
       rintro⟨k,far2,b2⟩ ⟨hk2,hB2,hsw2⟩
       simp only at hk2 hB2 hsw2
       have hfl2:=hB2.len
       try refine xz5 hcst.symm ex ey (gd hil) zab ?_
       refine zcd (fun h9=>?_) (fun h9=>?_)
       ·(try replace h9:=xhh h9)
        have hlt2:k<(zd3 W H i).length:=by omega
        have hlt3:k<(zco f ⟨(cx:Int),(cy:Int)⟩).length:=by omega
        obtain⟨n,hn⟩:∃n,n=(zd3 W H i).getD k default:=⟨_,rfl⟩
        obtain⟨c,hc⟩:∃c,c=(zco f ⟨(cx:Int),(cy:Int)⟩).getD k default:=⟨_,rfl⟩
        have hcn:zaw f c=n:=by
         rw[hc,hn,←bm,zaq _ _ hlt3,zaq _ _ (by rw[List.length_map];exact hlt3),List.getElem_map]
        have hcin:=bi c (by rw[hc];exact zax _ _ hlt3)
        obtain⟨i1,i2,i3,i4,i5⟩:=zbb h1 hcin
        have hnm:=(zik (W:=W) (H:=H) (p:=i) (n:=n) (by omega) (by omega)).1 (by rw[hn];exact zax _ _ hlt2)
        have hnp:n<f.p.length:=by omega
        have hnf:n<far2.length:=by omega
        have hif:i<far2.length:=by omega
        have hmi:c.y*f.w+c.x=(n:Int):=by rw[←hcn];unfold zaw;omega
        have ew1:IntKind.i64.wrap (IntKind.i64.wrap (c.y*f.w)+c.x)=(n:Int):=by rw[zaj (c.y*f.w) (by omega) (by omega),zaj _ (by omega) (by omega)];exact hmi
        have htop:=hB2.top n hnp
        have hlow:=hB2.low n hnp
        have hcl:=zhr zf3 1 zhz far2
        have hne:i≠n:=Adj.ne (by omega) hnm.2
        rw[hfl2]at hcl
        have ew2:IntKind.i64.wrap (far2.getD n default+cst)=far2.getD n default+cst:=zaj _ (by omega) (by omega)
        try refine ze1 hcst.symm ex ey (gd hil) zab (gd hlt3) hc.symm zag ew1 (And.intro ew2 (And.intro (gd hnf) (And.intro (gd hif) Qn))) ?_
        refine zcd (fun h10=>?_) (fun h10=>?_)
        ·(try replace h10:=xhh h10)
         have hnfine:¬z2y f.p far2 i n:=by
          unfold z2y
          rintro (h|h|h)
          ·omega
          ·omega
          ·rcases hcb with g|g
           ·omega
           ·omega
         have hbt:=hB2.better (by omega) hil hnp hnm.2 hne hnfine
         have hce:cst=kV (f.p.getD i default):=by rcases hcb with g|g;omega;exact g.2
         rw[←hce]at hbt
         try refine ze1 hcst.symm ex ey (gd hil) zab (gd hlt3) hc.symm zag ew1 (And.intro ew2 (And.intro (gd hnf) (And.intro (gd hif) Qn))) ?_
         refine⟨(k+1,far2.set i (far2.getD n default+cst),true),⟨by simp only;omega,hbt.1,.inr ⟨rfl,by
 simp only
 rcases hsw2 with h|h
 ·rw[←h.2.1];exact hbt.2
 ·exact Nat.lt_trans hbt.2 h.2⟩⟩, by simp only; omega, To.mk [0, 1] rfl rfl (by decide) ?_ ?_⟩
         ·(try(refine xz2 zab Qr ?_;try exact xtI))
         ·(try(refine ze1 hcst.symm ex ey (gd hil) zab (gd hlt3) hc.symm zag ew1 (And.intro ew2 (And.intro (gd hnf) (And.intro (gd hif) Qn))) ?_;try exact xtI))
        ·(try replace h10:=xhh h10)
         have hfn:z2y f.p far2 i n:=by
          unfold z2y
          rcases hcb with g|g
          ·exact .inl g.1
          ·by_cases h0:far2.getD n default<0
           ·exact .inr (.inl h0)
           ·refine .inr (.inr ?_)
            rcases h10 with h|h
            ·omega
            ·omega
         try refine ze1 hcst.symm ex ey (gd hil) zab (gd hlt3) hc.symm zag ew1 (And.intro ew2 (And.intro (gd hnf) (And.intro (gd hif) Qn))) ?_
         refine⟨(k+1,far2,b2),⟨by simp only;omega,hB2,by
 simp only
 rcases hsw2 with h|h
 ·refine .inl ⟨h.1,h.2.1,h.2.2.1,fun m hm=>?_⟩
  rw[zak _ _ hlt2,←hn,List.mem_append,List.mem_singleton]at hm
  rcases hm with hm|rfl
  ·exact h.2.2.2 m hm
  ·exact hfn
 ·exact .inr h⟩, by simp only; omega, To.mk [0, 1] rfl rfl (by decide) ?_ ?_⟩
         ·(try(refine ze1 hcst.symm ex ey (gd hil) zab (gd hlt3) hc.symm zag ew1 (And.intro ew2 (And.intro (gd hnf) (And.intro (gd hif) Qn))) ?_;try exact xtI))
         ·(try(refine ze1 hcst.symm ex ey (gd hil) zab (gd hlt3) hc.symm zag ew1 (And.intro ew2 (And.intro (gd hnf) (And.intro (gd hif) Qn))) ?_;try exact xtI))
       ·(try replace h9:=xhh h9)
        obtain rfl:k=(zd3 W H i).length:=by omega
        try refine xz5 hcst.symm ex ey (gd hil) zab ?_
        refine⟨(i+1,far2,b2),⟨by simp only;omega,hB2,by
 simp only
 rcases hsw2 with h|h
 ·refine .inl ⟨h.1,h.2.1,fun i' m h1' h2' h3'=>?_⟩
  rcases Nat.lt_or_ge i' i with g|g
  ·exact h.2.2.1 i' m g h2' h3'
  ·obtain rfl:i'=i:=by omega
   refine h.2.2.2 m ?_
   rw[List.take_length]
   exact(zik (by omega) (by omega)).2 ⟨by omega,h3'⟩
 ·exact .inr h⟩, by simp only; omega, To.mk [0, 1] rfl rfl (by decide) ?_ ?_⟩
        ·(try(refine xz5 hcst.symm ex ey (gd hil) zab ?_;try exact xtI))
        ·(try(refine xz5 hcst.symm ex ey (gd hil) zab ?_;try exact xtI))
      ·(try replace h8:=xhh h8)
       obtain rfl:i=f.p.length:=by omega
       try refine xst ?_
       refine⟨(far1,b1),⟨hB1,fun hb=>by
 rcases hsw with h|h
 ·exact fun i n q1 q2 q3=>h.2.2 i n q1 q2 q3
 ·simp only at hb;rw[h.1]at hb;simp at hb⟩,by
 simp only
 rcases hsw with h|h
 ·rw[h.1,h.2.1,h7];simp
 ·rw [h.1, h7]; simp; omega, To.mk [0, 1] rfl rfl (by decide) ?_ ?_⟩
       ·(try(refine xst ?_;try exact xtI))
       ·(try(refine xst ?_;try exact xtI))
     ·(try replace h7:=xhh h7)
      have e2:R=far0:=hR.1 e far0 (by rw[hW,Int.toNat_natCast];exact hB.flood (hfine h7))
      try refine xst ?_
      exact znb e e2 rfl
end Go.Proofs.YtgggemkjaccbhaaGreatDoor
