/- Facts of the program's types, by the kernel. slices.All over ints, over pieces, over places: what they tell. Functions without a body that known() calls. Leaves of known(): slices.Grow of nil, maps.Clone, slices.Clone and slices.Delete of pieces. Leaves over lines: class.Of, First, Size; textbuf.size; slices.Clone, Concat; view.Scroll. Lists of numbers: an element. Lists of numbers: copies, and what is told of them. Lists of pieces: copies, what is told of them; a piece's bytes; bytes that are read. Bytes of a table that are read. Newlines counted, and the first one found: by runs of the kernel. A text is parted into its lines. The line that a place is in. -/
import Derived.Test.YtjbgnnggmngpcaaGreatDoorPgGx
import Derived.Test.YtjbgnnggmngpcaaGreatDoorProg
import Derived.KernelRfl
import Derived.Test.YtjbgnnggmngpcaaGreatDoorPgYld4
import Derived.Test.YtjbgnnggmngpcaaGreatDoorPgHcd
import Derived.Test.YtjbgnnggmngpcaaGreatDoorPgNd
import Derived.Test.YtjbgnnggmngpcaaGreatDoorPgBs
import Derived.Test.YtjbgnnggmngpcaaGreatDoorPgGf
import Derived.Test.YtjbgnnggmngpcaaGreatDoorPgCpy
import Derived.Test.YtjbgnnggmngpcaaGreatDoorPgGw
import Derived.Shelf.Spec.SlicesGrow
import Derived.Shelf.SlMaps.Clone
import Derived.WalkKit
import Derived.Deep.LoopGhost
import Derived.Deep.RegionLaw
import Derived.Lib.Walk
import Derived.Sort.WalkB12
import Derived.Lib.SliceRun
import Derived.Test.YtjbgnnggmngpcaaGreatDoorPgGu
import Derived.Test.YtjbgnnggmngpcaaGreatDoorPgGv
import Derived.Test.YtjbgnnggmngpcaaGreatDoorPgGt
set_option linter.unusedVariables false
set_option linter.unusedSimpArgs false
set_option linter.unusedSectionVars false
open List renaming length_map → Qa,getElem?_eq_getElem → Qb,getD_eq_getElem?_getD → Qc,length_append → Qd,mem_cons → Qe,length_take → Qf,length_drop → Qh,cons_append → Qi,mem_singleton → Qj,length_nil → Qk,take_append_drop → Ql,getElem?_eq_some_iff → Qn,take_add_one → Qp,getElem?_cons_succ → Qq,take_length → Qr,length_cons → Qs,mem_map → Qt,take_of_length_le → Qu,mem_iff_getElem? → Qv,getElem?_eq_none → Qw,mem_of_mem_take → Qy,mem_of_mem_drop → Qz,getD_cons_succ → Q0,flatten_append → Q1,map_set → Q4,append_assoc → Q5,length_range → Q6,not_mem_nil → Q8,length → Q9,length_set → Xb,append_nil → Xc,range → Xd,replicate → Xe,drop_drop → Xf,map_take → Xg,map_drop → Xh,take → Xi,drop → Xj
open Int renaming toNat_natCast → Qg
open Nat renaming zero_add → Qm,le_refl → Qo,zero_le → Qx
open Bool renaming false_eq_true → Q2,and_eq_true → Q7,eq_iff_iff → Xa
open Array renaming size_append → Q3
namespace Go.Pg
open Go Go.Proofs
variable [Syms]
theorem mixed:Tryz.prog.follows .mixedOrders=true:=by kernel_rfl
@[go_sem] theorem tk3:tk Tryz.prog 3=TK.int IntKind.i64:=by kernel_rfl
@[go_sem] theorem tz3:tz Tryz.prog 3=AV.int IntKind.i64 0:=by kernel_rfl
@[go_sem] theorem dz3:dz Tryz.prog 3=AV.int IntKind.i64 0:=by kernel_rfl
@[go_sem] theorem eb3:eb Tryz.prog 3=some 8:=by kernel_rfl
@[go_sem] theorem tk4:tk Tryz.prog 4=TK.bool:=by kernel_rfl
@[go_sem] theorem tk5:tk Tryz.prog 5=TK.int IntKind.u8:=by kernel_rfl
@[go_sem] theorem dz5:dz Tryz.prog 5=AV.int IntKind.u8 0:=by kernel_rfl
@[go_sem] theorem eb5:eb Tryz.prog 5=some 1:=by kernel_rfl
@[go_sem] theorem tk9:tk Tryz.prog 9=TK.str:=by kernel_rfl
@[go_sem] theorem tz9:tz Tryz.prog 9=AV.str []:=by kernel_rfl
@[go_sem] theorem dz9:dz Tryz.prog 9=AV.str []:=by kernel_rfl
@[go_sem] theorem eb9:eb Tryz.prog 9=some 16:=by kernel_rfl
@[go_sem] theorem tk22:tk Tryz.prog 22=TK.slice 5 1:=by kernel_rfl
@[go_sem] theorem tz22:tz Tryz.prog 22=AV.nls:=by kernel_rfl
@[go_sem] theorem dz22:dz Tryz.prog 22=AV.sl 1 []:=by kernel_rfl
@[go_sem] theorem tk24:tk Tryz.prog 24=TK.slice 9 1:=by kernel_rfl
@[go_sem] theorem dz24:dz Tryz.prog 24=AV.sl 1 []:=by kernel_rfl
@[go_sem] theorem tk31:tk Tryz.prog 31=TK.struct 2 [some (0,1),some (1,1)]:=by kernel_rfl
@[go_sem] theorem tz31:tz Tryz.prog 31=AV.agg [AV.int IntKind.i64 0,AV.int IntKind.i64 0]:=by kernel_rfl
@[go_sem] theorem dz31:dz Tryz.prog 31=AV.agg [AV.int IntKind.i64 0,AV.int IntKind.i64 0]:=by kernel_rfl
@[go_sem] theorem tk33:tk Tryz.prog 33=TK.slice 31 2:=by kernel_rfl
@[go_sem] theorem tk107:tk Tryz.prog 107=TK.struct 3 [some (0,1),some (1,1),some (2,1)]:=by kernel_rfl
@[go_sem] theorem dz107:dz Tryz.prog 107=AV.agg [AV.int IntKind.i64 0,AV.sl 1 [],AV.sl 1 []]:=by kernel_rfl
@[go_sem] theorem tk123:tk Tryz.prog 123=TK.leaf:=by kernel_rfl
@[go_sem] theorem mt123:mapT Tryz.prog 123=some (some IntKind.u8,87):=by kernel_rfl
@[go_sem] theorem tk128:tk Tryz.prog 128=TK.leaf:=by kernel_rfl
@[go_sem] theorem mt128:mapT Tryz.prog 128=some (some IntKind.u8,31):=by kernel_rfl
@[go_sem] theorem tk140:tk Tryz.prog 140=TK.leaf:=by kernel_rfl
@[go_sem] theorem dz140:dz Tryz.prog 140=AV.npt:=by kernel_rfl
@[go_sem] theorem tk143:tk Tryz.prog 143=TK.leaf:=by kernel_rfl
@[go_sem] theorem dz143:dz Tryz.prog 143=AV.npt:=by kernel_rfl
@[go_sem] theorem tk150:tk Tryz.prog 150=TK.slice 107 3:=by kernel_rfl
@[go_sem] theorem tk206:tk Tryz.prog 206=TK.leaf:=by kernel_rfl
@[go_sem] theorem tk209:tk Tryz.prog 209=TK.struct 3 [some (0,1),some (1,1),some (2,1)]:=by kernel_rfl
@[go_sem] theorem tz209:tz Tryz.prog 209=AV.agg [AV.bool false,AV.int IntKind.i64 0,AV.int IntKind.i64 0]:=by kernel_rfl
@[go_sem] theorem dz209:dz Tryz.prog 209=AV.agg [AV.bool false,AV.int IntKind.i64 0,AV.int IntKind.i64 0]:=by kernel_rfl
@[go_sem] theorem eb209:eb Tryz.prog 209=some 24:=by kernel_rfl
@[go_sem] theorem tk211:tk Tryz.prog 211=TK.struct 6 [some (0,1),some (1,1),some (2,1),some (3,1),some (4,1),some (5,1)]:=by kernel_rfl
@[go_sem] theorem dz211:dz Tryz.prog 211=AV.agg [AV.str [],AV.sl 1 [],AV.npt,AV.int IntKind.i64 0,AV.int IntKind.i64 0,AV.int IntKind.i64 0]:=by kernel_rfl
@[go_sem] theorem tk213:tk Tryz.prog 213=TK.leaf:=by kernel_rfl
@[go_sem] theorem tk216:tk Tryz.prog 216=TK.struct 2 [some (0,1),some (1,1)]:=by kernel_rfl
@[go_sem] theorem dz216:dz Tryz.prog 216=AV.agg [AV.npt,AV.int IntKind.i64 0]:=by kernel_rfl
@[go_sem] theorem tk280:tk Tryz.prog 280=TK.slice 209 3:=by kernel_rfl
@[go_sem] theorem tk283:tk Tryz.prog 283=TK.struct 1 [some (0,1)]:=by kernel_rfl
@[go_sem] theorem dz283:dz Tryz.prog 283=AV.agg [AV.sl 3 []]:=by kernel_rfl
@[go_sem] theorem tk285:tk Tryz.prog 285=TK.slice 3 1:=by kernel_rfl
@[go_sem] theorem tk288:tk Tryz.prog 288=TK.struct 1 [some (0,1)]:=by kernel_rfl
@[go_sem] theorem dz288:dz Tryz.prog 288=AV.agg [AV.sl 1 []]:=by kernel_rfl
@[go_sem] theorem tk351:tk Tryz.prog 351=TK.slice 24 1:=by kernel_rfl
@[go_sem] theorem tk430:tk Tryz.prog 430=TK.leaf:=by kernel_rfl
end Go.Pg
namespace Go.Pg
open Go Go.Proofs
variable [Syms]
def aInt (n:Int):AV:= .int .i64 n
theorem getD_ints (l:List Int)(i:Nat):(l.map aInt).getD i (.int .i64 0)=aInt (l.getD i 0):=getD_map aInt l i 0
def tellInts:Nat→List Int→List (List AV)
 | _,[]=>[]
 | i,n :: r=>[.int .i64 i,.int .i64 n] :: tellInts (i+1) r
theorem tellInts_get:∀(l:List Int)(k i:Nat),i<l.length→(tellInts k l)[i]? =some [.int .i64 ((k+i:Nat):Int),.int .i64 (l.getD i 0)]:=by
 intro l
 induction l with
 | nil=>intro k i h;simp at h
 | cons n r ih=>
  intro k i h
  cases i with
  | zero=>simp [tellInts]
  | succ i=>
   simp only[tellInts,Qq,Q0]
   rw[ih (k+1) i (by simpa using h),show k+1+i=k+(i+1) by omega]
theorem tellInts_len:∀(l:List Int)(k:Nat),(tellInts k l).length=l.length:=by
 intro l
 induction l with
 | nil=>intro k;rfl
 | cons n r ih=>intro k;simp [tellInts,ih]
set_option maxRecDepth 20000 in
set_option maxHeartbeats 4000000 in
theorem it_All_int (l:List Int)(hl:l.length≤65536):ItR Tryz.prog 388 [.rp [.sl 1 (l.map aInt)]] (Tell.seq (tellInts 0 l)):=by
 refine itR_of (mrg:=true) (dyn:=[]) (CtrOK.nil _) mixed Tryz.func388 rfl (by simp [Tryz.ntmps388,AV.cells]) (by kernel_rfl) (by kernel_rfl) ?_ ?_
 ·intro x hx
  obtain⟨i,hi⟩:=Qv.1 hx
  have hil:i<l.length:=by rw[←tellInts_len l 0];exact(Qn.1 hi).1
  rw[tellInts_get l 0 i hil] at hi
  cases hi
  rfl
 intro y
 simp (maxSteps:=4000000) only[go_sem,seval,Qa]
 refine loopYH_intro (α:=Nat) (fun i=>(some i,[(0,.yld y),(1,.rp [.sl 1 (l.map aInt)]),(5,.sl 1 (l.map aInt)),(6,.int .i64 l.length),(7,.int .i64 i)],[]))
  (fun i=>i≤l.length) (fun i=>l.length - i) 0 (by omega) (by rfl) ?_ ?_
 ·simp (maxSteps:=4000000) only[go_sem,seval]
  all_goals rfl
 intro i hi
 by_cases hlt:i<l.length
 ·have hct:decide ((i:Int)< (l.length:Int))=true:=decide_eq_true (by omega)
  have hy:=tellInts_get l 0 i hlt
  rw[Qm] at hy
  simp (maxSteps:=4000000) only[go_sem,seval,hct,getD_ints,aInt,hy,Qg,Qa]
  exact⟨⟨by omega,hlt⟩,rfl,i+1,by omega,by omega,rfl,by rw[wrap64 (by omega) (by omega)];rfl⟩
 ·have hct:decide ((i:Int)< (l.length:Int))=false:=decide_eq_false (by omega)
  simp (maxSteps:=4000000) only[go_sem,seval,hct]
  rw[tellInts_len];omega
abbrev Pc:=Bool×Int×Int
def aPc (p:Pc):AV:= .agg [.bool p.1,.int .i64 p.2.1,.int .i64 p.2.2]
theorem getD_pcs (l:List Pc)(i:Nat):(l.map aPc).getD i (.agg [.bool false,.int .i64 0,.int .i64 0])=aPc (l.getD i (false,0,0)):=getD_map aPc l i (false,0,0)
def tellPcs:Nat→List Pc→List (List AV)
 | _,[]=>[]
 | i,n :: r=>[.int .i64 i,aPc n] :: tellPcs (i+1) r
theorem tellPcs_get:∀(l:List Pc)(k i:Nat),i<l.length→(tellPcs k l)[i]? =some [.int .i64 ((k+i:Nat):Int),aPc (l.getD i (false,0,0))]:=by
 intro l
 induction l with
 | nil=>intro k i h;simp at h
 | cons n r ih=>
  intro k i h
  cases i with
  | zero=>simp [tellPcs]
  | succ i=>
   simp only[tellPcs,Qq,Q0]
   rw[ih (k+1) i (by simpa using h),show k+1+i=k+(i+1) by omega]
theorem tellPcs_len:∀(l:List Pc)(k:Nat),(tellPcs k l).length=l.length:=by
 intro l
 induction l with
 | nil=>intro k;rfl
 | cons n r ih=>intro k;simp [tellPcs,ih]
set_option maxRecDepth 20000 in
set_option maxHeartbeats 4000000 in
theorem it_All_pc (l:List Pc)(hl:l.length≤65536):ItR Tryz.prog 331 [.rp [.sl 3 (l.map aPc)]] (Tell.seq (tellPcs 0 l)):=by
 refine itR_of (mrg:=true) (dyn:=[]) (CtrOK.nil _) mixed Tryz.func331 rfl (by simp [Tryz.ntmps331,AV.cells]) (by kernel_rfl) (by kernel_rfl) ?_ ?_
 ·intro x hx
  obtain⟨i,hi⟩:=Qv.1 hx
  have hil:i<l.length:=by rw[←tellPcs_len l 0];exact(Qn.1 hi).1
  rw[tellPcs_get l 0 i hil] at hi
  cases hi
  rfl
 intro y
 simp (maxSteps:=4000000) only[go_sem,seval,Qa]
 refine loopYH_intro (α:=Nat) (fun i=>(some i,[(0,.yld y),(1,.rp [.sl 3 (l.map aPc)]),(5,.sl 3 (l.map aPc)),(6,.int .i64 l.length),(7,.int .i64 i)],[]))
  (fun i=>i≤l.length) (fun i=>l.length - i) 0 (by omega) (by rfl) ?_ ?_
 ·simp (maxSteps:=4000000) only[go_sem,seval]
  all_goals rfl
 intro i hi
 by_cases hlt:i<l.length
 ·have hct:decide ((i:Int)< (l.length:Int))=true:=decide_eq_true (by omega)
  have hy:=tellPcs_get l 0 i hlt
  rw[Qm] at hy
  simp (maxSteps:=4000000) only[go_sem,seval,hct,getD_pcs,aPc,hy,Qg,Qa]
  exact⟨⟨by omega,hlt⟩,rfl,i+1,by omega,by omega,rfl,by rw[wrap64 (by omega) (by omega)];rfl⟩
 ·have hct:decide ((i:Int)< (l.length:Int))=false:=decide_eq_false (by omega)
  simp (maxSteps:=4000000) only[go_sem,seval,hct]
  rw[tellPcs_len];omega
set_option maxRecDepth 20000 in
set_option maxHeartbeats 4000000 in
theorem it_All_pos0:ItR Tryz.prog 190 [.rp [.sl 2 []]] (Tell.seq []):=by
 refine itR_of (mrg:=true) (dyn:=[]) (CtrOK.nil _) mixed Tryz.func190 rfl (by simp [Tryz.ntmps190,AV.cells]) (by kernel_rfl) (by kernel_rfl) ?_ ?_
 ·intro x hx
  cases hx
 intro y
 simp (maxSteps:=4000000) only[go_sem,seval,Qk]
 refine loopYH_intro (α:=Unit) (fun _=>(some 0,[(0,.yld y),(6,.int .i64 0),(7,.int .i64 0)],[]))
  (fun _=>True) (fun _=>0) () trivial (by rfl) ?_ ?_
 ·simp (maxSteps:=4000000) only[go_sem,seval]
  all_goals rfl
 intro _ _
 simp (maxSteps:=4000000) only[go_sem,seval,Qk]
 all_goals rfl
set_option maxRecDepth 20000 in
set_option maxHeartbeats 4000000 in
theorem it_Back_pos0:ItR Tryz.prog 415 [.rp [.sl 2 []]] (Tell.seq []):=by
 refine itR_of (mrg:=true) (dyn:=[]) (CtrOK.nil _) mixed Tryz.func415 rfl (by simp [Tryz.ntmps415,AV.cells]) (by kernel_rfl) (by kernel_rfl) ?_ ?_
 ·intro x hx
  cases hx
 intro y
 simp (maxSteps:=4000000) only[go_sem,seval,Qk]
 have hw:IntKind.i64.wrap (0 - 1)= -1:=by decide
 refine loopYH_intro (α:=Unit) (fun _=>(some 0,[(0,.yld y),(3,.int .i64 (-1))],[]))
  (fun _=>True) (fun _=>0) () trivial (by rfl) ?_ ?_
 ·simp (maxSteps:=4000000) only[go_sem,seval,hw]
  all_goals rfl
 intro _ _
 simp (maxSteps:=4000000) only[go_sem,seval,Qk]
 all_goals first | rfl | exact fun h=>absurd h (by decide)
end Go.Pg
namespace Go.Pg
open Go Go.Proofs
variable [Syms]
theorem run_cnt:∀(args:Array Value)(w:World),(callFunc 273 args).run Tryz.prog w=((Extern.BytealgCount.count args).run Tryz.prog w).andThen fun v w'=> .ok (.value v) w':=
 run_callFunc_extern Tryz.func273 (by kernel_rfl) (by kernel_rfl) (by kernel_rfl) (by kernel_rfl)
theorem run_idx:∀(args:Array Value)(w:World),(callFunc 385 args).run Tryz.prog w=((Extern.BytealgIndexByte.indexByte args).run Tryz.prog w).andThen fun v w'=> .ok (.value v) w':=
 run_callFunc_extern Tryz.func385 (by kernel_rfl) (by kernel_rfl) (by kernel_rfl) (by kernel_rfl)
def extL:FuncId→List AV→Option AV:=fun f xs=>match xs with
 | [.str s,.int .u8 n]=>if f=273 then some (.int .i64 (cntB n.toNat.toUInt8 s)) else if f=385 then some (.int .i64 (Lib.indexByte s n.toNat.toUInt8)) else none
 | _=>none
theorem extL_ok:∀fid xs v (ev:AEnv)(o:Oper),extL fid xs=some v→CallIs ev o fid xs→PureOK Tryz.prog o (fun E a=>Opd ev E a o) v:=by
 intro fid xs v ev o h ho
 unfold extL at h
 split at h
 ·split at h
  ·next e=>cases h;subst e;exact ext_count run_cnt ho
  ·split at h
   ·next e=>cases h;subst e;exact ext_index run_idx ho
   ·cases h
 ·cases h
end Go.Pg
namespace Go.Pg.Le
open Go Go.Pg Go.Proofs Go.Shelf Go.RowKit
variable [Syms]
theorem callsR_new {P:Program}{f:FuncId}{args:List AV}{t:TypeId}{sz:Nat}
 (h:∀(E:Env) (vals:Array Value),VRs E args vals→Calls P f vals E.W fun e W'=>(e= .returned (.slice none 0 0)∧W'=E.W)∨∃(C:Array Value) (cap:Nat),e= .returned (.slice (some ⟨E.W.heap.size,0,none⟩) 0 cap)∧SameBut E.W W'∧W'.heap=E.W.heap.push (.cells C t (0,0))∧C.size=cap * sz∧cap≤maxLen) :
 CallsR P f args [] (.own 0 sz 0) [.arr t sz []]:=by
 intro E vals hr hv
 have hle:AHle [] [.arr t sz []]:=fun id o ho=>by simp at ho
 obtain⟨E1,hr1,hW1,hM1,hst1⟩:=hr.le hle
 have hm0:E1.M 0=none:=by rw[hM1];exact hr.dom 0 (Qx _)
 refine(h E vals hv).mono fun e W' hh=>?_
 rcases hh with⟨he,hw⟩ | ⟨C,cap,he,hs,hh,hC,hcap⟩
 ·obtain⟨E',hW,hr',hst,_,hMid,hhl⟩:=alloc_nil hr1 (id:=0) hm0 (e:=t) (sz:=sz) (o':= .arr t sz []) rfl (AOle.refl _)
  refine⟨_,E',he,by rw[hW,hW1,hw],.own 0 sz 0 none 0 (by rw[hMid];rfl) (fun _=>rfl) (fun L hL=>?_),hr',hst1.trans hst⟩
  exact⟨Qx _,fun _=> .inl ⟨hMid,rfl,rfl⟩⟩
 ·obtain⟨E',hW,hr',hst,_,hMid,hhl⟩:=alloc_rel hr1 (id:=0) hm0 (e:=t) (sz:=sz) (vs:=[]) rfl (AOle.refl _) (w':=W') (c:=C) (fz:=(0,0)) (by rw[hW1];exact hs) (by rw[hW1];exact hh) (by simp) (ThawS.zero _ _ _) (fun i v hi=>by simp at hi)
  refine⟨_,E',he,hW,.own 0 sz 0 _ cap (by rw[hMid];rfl) (fun h=>by cases h) (fun L hL=>?_),hr',hst1.trans hst⟩
  rw[hr'.hl] at hL
  have:L=0:=by simpa [hlOf,AO.len] using hL.symm
  subst this
  exact⟨Qo _,fun _=> .inr ⟨E.W.heap.size,C,t,(0,0),by rw[hMid,hW1],rfl,Qx _,hcap,by rw[hW,hh];simp,hC⟩⟩
def growRen:Go.Shelf.Ren:=⟨fun | 4=>270 | n=>n,fun | 0=>0 | 3=>3 | 4=>4 | 9=>9 | 20=>20 | 22=>24 | 25=>9 | n=>n,fun | n=>n⟩
theorem growLays:Lays8.n4 Tryz.prog growRen:={
 mixed:=by kernel_rfl
 f4:=⟨Tryz.f270.name,by decide,Tryz.func270.trans (congrArg some (by kernel_rfl))⟩
 t0:=Tryz.underlying0
 a0:=Tryz.isAgg0
 z0:=Tryz.sizeOf0
 v0:=Tryz.zeroValue0
 t3:=Tryz.underlying3
 a3:=Tryz.isAgg3
 z3:=Tryz.sizeOf3
 v3:=Tryz.zeroValue3
 t4:=Tryz.underlying4
 a4:=Tryz.isAgg4
 z4:=Tryz.sizeOf4
 v4:=Tryz.zeroValue4
 t9:=Tryz.underlying9
 a9:=Tryz.isAgg9
 z9:=Tryz.sizeOf9
 v9:=Tryz.zeroValue9
 t20:=Tryz.underlying20
 a20:=Tryz.isAgg20
 z20:=Tryz.sizeOf20
 v20:=Tryz.zeroValue20
 t22:=Tryz.underlying24
 a22:=Tryz.isAgg24
 z22:=Tryz.sizeOf24
 v22:=Tryz.zeroValue24 }
theorem calls_Grow (n:Nat)(h1:0<n)(h2:n≤1099511627776):CallsR Tryz.prog 270 [.nls,.int .i64 n] [] (.own 0 1 0) [.arr 9 1 []]:=by
 refine callsR_new fun E vals hv=>?_
 obtain⟨u,v,rfl,k1,k2⟩:=hv.two
 rw[k1.nls_inv,k2.int_inv]
 have hi:∃i0 z,Tryz.prog.info? 9=some i0∧i0.zero=some z∧i0.size=1∧i0.bytes=16∧z.cells.size=1:=by
  have h:(match Tryz.prog.info? 9 with
   | some i=>match i.zero with
    | some z=>i.size == 1 && i.bytes == 16 && z.cells.size == 1
    | none=>false
   | none=>false)=true:=by kernel_rfl
  split at h
  ·next i hi=>
   split at h
   ·next z hz=>
    simp only[Q7,beq_iff_eq] at h
    exact⟨i,z,hi,hz,h.1.1,h.1.2,h.2⟩
   ·cases h
  ·cases h
 obtain⟨i0,z,hi0,hz,hs1,hb1,hc1⟩:=hi
 refine(Any8.slices_Grow_grow growLays i0 z hi0 hz (by omega) none 0 0 n [] E.W (Qo _) (by omega) (by rw[hb1];omega) (by omega) (by simp) (fun _=>rfl) (fun a ha=>by cases ha)).mono fun e W' ⟨he,hw⟩=>?_
 obtain⟨hsb,hh⟩:=drew_same E.W (.cells (([]:List Value).toArray ++ Builtin.zeroCells z.cells (0+n - 0) ++ Builtin.zeroCells z.cells (grownCap E.W (0+n) 0 9 - (0+n))) 9)
 have hge:=grownCap_ge E.W (0+n) 0 9
 refine .inr ⟨_,grownCap E.W (0+n) 0 9,he,by rw[hw];exact hsb,by rw[hw];exact hh,?_,grownCap_le_maxLen E.W _ 0 _ (by unfold maxLen;omega)⟩
 rw[Q3,Q3,growZ hc1,growZ hc1]
 simp only[Qm] at hge
 simp only[List.size_toArray,Qk,Qm,Nat.sub_zero,←Nat.add_mul]
 rw[show n+(grownCap E.W n 0 9 - n)=grownCap E.W n 0 9 by omega]
theorem vrs_one {E:Env}{a:AV}{vals:Array Value}(h:VRs E [a] vals):∃u,vals= #[u]∧VR E a u:=by
 obtain⟨hs,hv⟩:=h
 match vals,hs with
 | ⟨[u]⟩,_=>exact⟨u,rfl,hv 0 a rfl⟩
theorem callsR_mapCopy {P:Program}{f:FuncId}{es:List (AV×AV)}
 (h:∀(W:World) (b cl:Nat) (a:Array MapEntry),W.heap[b]? =some (.map a cl)→Calls P f #[.map (some b)] W fun e w'=>e= .returned (.map (some W.heap.size))∧w'=W.alloc (.map a cl)) :
 CallsR P f [.mp 0] [.mp es] (.mp 1) [.mp es,.mp es]:=by
 intro E vals hr hv
 obtain⟨u,rfl,k1⟩:=vrs_one hv
 obtain⟨b,a,cl,rfl,hM,hb,hes,hs⟩:=mp_read hr k1 (es:=es) rfl
 refine(h E.W b cl a hb).mono fun e W' ⟨he,hw⟩=>?_
 have hle:AHle [.mp es] [.mp es,.mp es]:=fun id o ho=>by
  cases id with
  | zero=>exact⟨o,ho,.refl o⟩
  | succ n=>simp at ho
 obtain⟨E1,hr1,hW1,hM1,hst1⟩:=hr.le hle
 have hes1:EntsAt E1 es a:=hes.mono (hst1.ext hr)
 obtain⟨E',hW,hr',hst,hMo,hMid,hhl⟩:=alloc_gen hr1 (id:=1) (by rw[hM1];exact hr.dom 1 (Qo _)) (o':= .mp es) rfl (by simp) (w':=W') (ob:= .map a cl) (by rw[hw,hW1];exact⟨rfl,rfl,rfl⟩) (by rw[hw,hW1];rfl)
  fun E' hx hE'=>⟨_,a,cl,rfl,by rw[hE',hw,hW1];exact heap_alloc_new E.W _,hes1.mono hx,hs⟩
 rw[hW1] at hMid
 exact⟨_,E',he,hW,.mp _ _ (by rw[hMid];rfl) (fun _=>hMid),hr',hst1.trans hst⟩
def cloneRen:Ren:=⟨fun | 5=>284 | 7=>353 | n=>n,fun | 4=>4 | 20=>20 | 23=>128 | 25=>5 | 3=>31 | n=>n,fun | n=>n⟩
theorem cloneLays:SlLaysW.n5 Tryz.prog cloneRen:={
 mixed:=by kernel_rfl
 f5:=⟨Tryz.f284.name,by decide,Tryz.func284.trans (congrArg some (by kernel_rfl))⟩
 f7:=by kernel_rfl
 t4:=Tryz.underlying4
 a4:=Tryz.isAgg4
 z4:=Tryz.sizeOf4
 v4:=Tryz.zeroValue4
 t20:=Tryz.underlying20
 a20:=Tryz.isAgg20
 z20:=Tryz.sizeOf20
 v20:=Tryz.zeroValue20
 t23:=Tryz.underlying128
 a23:=Tryz.isAgg128
 z23:=Tryz.sizeOf128
 v23:=Tryz.zeroValue128 }
theorem calls_Clone (es:List (AV×AV)):CallsR Tryz.prog 284 [.mp 0] [.mp es] (.mp 1) [.mp es,.mp es]:=
 callsR_mapCopy fun W b cl a hb=>AnyW.maps_Clone cloneLays b a cl W hb
theorem calls_CloneP:CallsR Tryz.prog 195 [.sl 3 []] [.arr 209 3 []] (.sl 3 []) [.arr 209 3 []]:=by
 refine callsR_ofW Tryz.func195 rfl (by simp [Tryz.ntmps195]) fun E hr=>?_
 rw[show Tryz.f195.results.toList=[.tmp 2] from by kernel_rfl]
 refine AWp.seq (wpA_sound (C:=[]) (mrg:=true) (dyn:=[]) (CtrOK.nil _) mixed _ _ E _ _ _ none false hr (fun ev H h=>h) (by kernel_rfl) (.inl ⟨rfl,rfl⟩) ?_)
 simp (maxSteps:=4000000) only[go_sem,seval]
 refine AWp.seq (AWp.seq (AWp.isNil (z:=3) (vs:=[]) Tryz.underlying280 (by simp [Tryz.ntmps195]) (by simp [Tryz.ntmps195]) (by simp [Pg.look]) fun b hbn=>?_))
 refine wpA_sound (C:=[]) (mrg:=true) (dyn:=[]) (CtrOK.nil _) mixed _ _ E _ _ _ none false hr (fun ev H h=>h) (by kernel_rfl) (.inl ⟨rfl,rfl⟩) ?_
 simp (maxSteps:=4000000) only[go_sem,seval]
 refine⟨fun hb1=>retA_S _ _ _ ?_,fun hb1=>wpA_sound (C:=[]) (mrg:=true) (dyn:=[]) (CtrOK.nil _) mixed _ _ E _ _ _ none false hr (fun ev H h=>h) (by kernel_rfl) (.inl ⟨rfl,rfl⟩) (wpA_mono _ _ _ _ _ (fun e ev H h=>retA_S e ev H h) ?_)⟩
 ·simp (maxSteps:=4000000) only[go_sem,seval]
  exact⟨by decide,subX_eq rfl rfl⟩
 ·simp (maxSteps:=4000000) only[go_sem,seval]
  exact⟨by decide,subX_eq rfl rfl⟩
theorem own0_sl {E:Env}{id sz:Nat}{v:Value}(h:VR E (.own id sz 0) v):VR E (.sl sz []) v:=by
 cases h with
 | own _ _ _ a cap h1 h2 h3=>exact .sl sz [] a cap (fun _ _=>Go.undef) (Qx _) (fun i v hi=>by simp at hi) (fun i v j c hi=>by simp at hi)
theorem leaf_CloneP:CallsR Tryz.prog 195 [.own 0 3 0] [.arr 209 3 []] (.sl 3 []) [.arr 209 3 []]:=by
 intro E vals hr hv
 obtain⟨u,rfl,k⟩:=vrs_one hv
 refine calls_CloneP E #[u] hr ⟨rfl,fun i c hc=>?_⟩
 match i,hc with
 | 0,hc=>cases hc;exact own0_sl k
 | i+1,hc=>simp at hc
end Go.Pg.Le
namespace Go.Pg
open Go Go.Proofs Go.RowKit
variable [Syms]
abbrev Ls:=List (List UInt8)
def size (ls:Ls):Int:=(ls.map fun s=>(s.length:Int)+1).sum
theorem take_succ_getD {α:Type}(l:List α)(i:Nat)(d:α)(h:i<l.length):l.take (i+1)=l.take i ++ [l.getD i d]:=by
 rw[List.take_succ_eq_append_getElem h,Qc,Qb h];rfl
theorem size_take (ls:Ls)(i:Nat)(h:i<ls.length):size (ls.take (i+1))=size (ls.take i)+((ls.getD i []).length+1):=by
 rw[take_succ_getD ls i [] h];simp [size]
theorem size_le (ls:Ls)(B:Nat)(h:∀i,(ls.getD i []).length≤B)(i:Nat)(hi:i≤ls.length):0≤size (ls.take i)∧size (ls.take i)≤i * (B+1):=by
 induction i with
 | zero=>simp [size]
 | succ i ih=>
  have h1:=ih (by omega)
  have h2:=h i
  rw[size_take ls i (by omega),Int.natCast_add,Int.add_mul]
  omega
def few (ls:Ls):Prop:=ls.length≤1048576∧∀i,(ls.getD i []).length≤1048576
def wordB (c:Int):Bool:=(decide (c≥97) && decide (c≤122)) || (decide (c≥65) && decide (c≤90)) || (decide (c≥48) && decide (c≤57)) || c == 95 || decide (c≥128)
def cls (c:Int)(big:Bool):Int:=if(c == 32 || c == 9)=true then 0 else if(big || wordB c)=true then 1 else 2
theorem calls_Of (c:Int)(big:Bool):CallsR Tryz.prog 320 [.int .u8 c,.bool big] [] (.int .i64 (cls c big)) []:=by
 refine callsR_of (mrg:=true) (dyn:=[]) (CtrOK.nil _) mixed Tryz.func320 rfl (by simp [Tryz.ntmps320,AV.cells]) (by kernel_rfl) ?_
 rw[show Tryz.f320.results.toList=[.tmp 4] from by kernel_rfl]
 simp (maxSteps:=4000000) only[go_sem,seval]
 unfold cls wordB
 have h:(c≥128∧decide (c≥128)=true∧¬c<128)∨(¬c≥128∧decide (c≥128)=false∧c<128):=by
  by_cases h:c≥128
  ·exact .inl ⟨h,decide_eq_true h,by omega⟩
  ·exact .inr ⟨h,decide_eq_false h,by omega⟩
 generalize (c == 32 || c == 9)=x0
 generalize (decide (c≥97) && decide (c≤122))=x1
 generalize (decide (c≥65) && decide (c≤90))=x2
 generalize (decide (c≥48) && decide (c≤57))=x3
 generalize (c == 95)=x4
 rcases h with⟨h1,h2,h3⟩ | ⟨h1,h2,h3⟩
 all_goals rw[h2]
 all_goals cases x0 <;> cases big <;> cases x1 <;> cases x2 <;> cases x3 <;> cases x4 <;> simp [h1,h3]
def kOf:C1:=C1.by [.id,.id] (lCons (cInt .u8) (lOne cBool)) (fun _=>True) (fun d=> .int .i64 (cls d.1 d.2)) (fun _=>[])
theorem ok_Of:C1OK Tryz.prog 320 kOf:=C1OK.by (by kernel_rfl) (fun d _=>calls_Of d.1 d.2) (fun _=>rfl) (fun _=>rfl)
def blank (b:UInt8):Bool:=b == 32 || b == 9
def firstC (s:List UInt8):Int:=if(s.takeWhile blank).length<s.length then(s.takeWhile blank).length else max ((s.length:Int) - 1) 0
theorem tw_step {p:UInt8→Bool}:∀(s:List UInt8)(i:Nat),i≤(s.takeWhile p).length→i<s.length→(p (s.getD i 0)=true→i+1≤(s.takeWhile p).length)∧(p (s.getD i 0)=false→(s.takeWhile p).length=i)
 | [],i,_,h=>by simp at h
 | b :: s,i,h1,h2=>by
  cases hb:p b with
  | false=>
   rw[List.takeWhile_cons_of_neg (by simp [hb])] at h1 ⊢
   have:i=0:=by simpa using h1
   subst this
   simp [hb]
  | true=>
   rw[List.takeWhile_cons_of_pos hb] at h1 ⊢
   cases i with
   | zero=>simp [hb]
   | succ i=>
    have:=tw_step s i (by simpa using h1) (by simpa using h2)
    simpa using this
theorem tw_le (s:List UInt8):(s.takeWhile blank).length≤s.length:=(List.takeWhile_sublist _).length_le
theorem cls_blank (b:UInt8):(cls (b.toNat:Int) true !=0)=!blank b:=by
 unfold cls blank
 have h1:((b.toNat:Int) == 32)=(b == 32):=by
  rw[Xa,beq_iff_eq,beq_iff_eq]
  exact⟨fun h=>UInt8.toNat_inj.1 (by show _=32;omega),fun h=>by subst h;rfl⟩
 have h2:((b.toNat:Int) == 9)=(b == 9):=by
  rw[Xa,beq_iff_eq,beq_iff_eq]
  exact⟨fun h=>UInt8.toNat_inj.1 (by show _=9;omega),fun h=>by subst h;rfl⟩
 rw[h1,h2]
 cases (b == 32 || b == 9) <;> simp
set_option maxHeartbeats 4000000 in
theorem calls_First (s:List UInt8)(hs:s.length≤140737488355328):CallsR Tryz.prog 246 [.str s] [] (.int .i64 (firstC s)) []:=by
 refine callsR_of (mrg:=true) (dyn:=[]) (CtrOK.cons ok_Of (CtrOK.nil _)) mixed Tryz.func246 rfl (by simp [Tryz.ntmps246,AV.cells]) (by kernel_rfl) ?_
 rw[show Tryz.f246.results.toList=[.tmp 2] from by kernel_rfl]
 simp (maxSteps:=4000000) only[go_sem,seval,kOf]
 refine loopH_intro (α:=Nat) (fun i=>([(0,.str s),(2,.int .i64 0),(5,.int .i64 s.length),(6,.int .i64 i)],[])) (fun i=>i≤(s.takeWhile blank).length) (fun i=>s.length - i) 0 (by omega) ?_ ?_
 ·simp (maxSteps:=4000000) only[go_sem,seval,kOf]
 intro i hi
 have hle:=tw_le s
 by_cases hlt:i<s.length
 ·have hct:decide ((i:Int)<s.length)=true:=decide_eq_true (by omega)
  obtain⟨g1,g2⟩:=tw_step s i hi hlt
  simp (maxSteps:=4000000) only[go_sem,seval,kOf,hct,cls_blank]
  refine⟨⟨by omega,hlt⟩,fun hb=>?_,fun hb=>?_⟩
  ·unfold firstC
   rw[g2 hb,if_pos hlt]
  ·have hb2:blank (s.getD i 0)=true:=by simpa using hb
   exact⟨i+1,g1 hb2,by omega,by rw[wrap64 (by omega) (by omega)];rfl⟩
 ·have hcf:decide ((i:Int)<s.length)=false:=decide_eq_false (by omega)
  simp (maxSteps:=4000000) only[go_sem,seval,kOf,hcf]
  unfold firstC
  rw[if_neg (by omega),wrap64 (by omega) (by omega)]
theorem calls_CSize (ls:Ls)(hs:few ls):CallsR Tryz.prog 143 [.sl 1 (ls.map .str)] [] (.int .i64 (size ls)) []:=by
 refine callsR_of (mrg:=true) (dyn:=[]) (CtrOK.nil _) mixed Tryz.func143 rfl (by simp [Tryz.ntmps143,AV.cells]) (by kernel_rfl) ?_
 rw[show Tryz.f143.results.toList=[.tmp 2] from by kernel_rfl]
 simp (maxSteps:=4000000) only[go_sem,seval]
 have hl:=hs.1
 have hz:∀i:Nat,i≤ls.length→0≤size (ls.take i)∧size (ls.take i)≤1099512676352:=fun i hi=>by
  have:=size_le ls 1048576 hs.2 i hi
  have h2:(i:Int) * (((1048576:Nat):Int)+1)≤1048576 * 1048577:=by
   refine Int.mul_le_mul (by omega) (by omega) (by omega) (by omega)
  omega
 refine loopH_intro (α:=Nat) (fun i=>([(2,.int .i64 0),(3,.int .i64 (size (ls.take i))),(6,.sl 1 (ls.map .str)),(7,.int .i64 ls.length),(8,.int .i64 i)],[])) (fun i=>i≤ls.length) (fun i=>ls.length - i) 0 ?_ ?_ ?_
 ·simp
 ·simp (maxSteps:=4000000) only[go_sem,seval]
  all_goals simp [size]
 ·intro i hi
  simp (maxSteps:=4000000) only[go_sem,seval]
  have h1:=hz i hi
  refine⟨fun h=>⟨⟨by omega,by omega⟩,i+1,by omega,by omega,?_⟩,fun h=>?_⟩
  ·have h2:=hs.2 i
   rw[size_take ls i (by omega),wrap64 (n:=((ls.getD i []).length:Int)+1) (by omega) (by omega),wrap64 (by omega) (by omega),wrap64 (by omega) (by omega)]
   simp
  ·have:i=ls.length:=by omega
   subst this
   rw[Qr]
theorem calls_SClone (ls:List (List UInt8))(hb:ls.length≤4398046511104):CallsR Tryz.prog 127 [.sl 1 (ls.map .str)] [] (.own 0 1 ls.length) [.arr 9 1 (ls.map .str)]:=by
 refine callsR_ofW Tryz.func127 rfl (by simp [Tryz.ntmps127]) fun E hr=>?_
 rw[show Tryz.f127.results.toList=[.tmp 2] from by kernel_rfl]
 refine AWp.seq (wpA_sound (C:=[]) (mrg:=true) (dyn:=[]) (CtrOK.nil _) mixed _ _ E _ _ _ none false hr (fun ev H h=>h) (by kernel_rfl) (.inl ⟨rfl,rfl⟩) ?_)
 simp (maxSteps:=4000000) only[go_sem,seval]
 refine AWp.seq (AWp.seq (AWp.isNil (z:=1) (vs:=ls.map .str) Tryz.underlying24 (by simp [Tryz.ntmps127]) (by simp [Tryz.ntmps127]) (by simp [Pg.look]) fun b hbn=>?_))
 refine wpA_sound (C:=[]) (mrg:=true) (dyn:=[]) (CtrOK.nil _) mixed _ _ E _ _ _ none false hr (fun ev H h=>h) (by kernel_rfl) (.inl ⟨rfl,rfl⟩) ?_
 simp (maxSteps:=4000000) only[go_sem,seval]
 refine⟨fun hb1=>retA_S _ _ _ ?_,fun hb1=>wpA_sound (C:=[]) (mrg:=true) (dyn:=[]) (CtrOK.nil _) mixed _ _ E _ _ _ none false hr (fun ev H h=>h) (by kernel_rfl) (.inl ⟨rfl,rfl⟩) (wpA_mono _ _ _ _ _ (fun e ev H h=>retA_S e ev H h) ?_)⟩
 ·have h0:ls=[]:=by simpa using hbn hb1
  subst h0
  simp (maxSteps:=4000000) only[go_sem,seval]
 ·simp (maxSteps:=4000000) only[go_sem,seval]
  exact⟨by omega,.inl ⟨rfl,pureB_strs ls⟩⟩
def kGrow:C1:=C1.by [.id,.id] (lCons cAny (lOne (cInt .i64))) (fun d=>d.1= .nls∧0<d.2∧d.2≤1099511627776) (fun _=> .own 0 1 0) (fun _=>[.arr 9 1 []])
theorem ok_Grow:C1OK Tryz.prog 270 kGrow:=C1OK.by (by kernel_rfl) (fun d h=>by
 obtain⟨a,n⟩:=d
 obtain⟨h1,h2,h3⟩:=h
 simp only at h1 h2 h3
 subst h1
 have:=Le.calls_Grow n.toNat (by omega) (by omega)
 rw[show((n.toNat:Nat):Int)=n by omega] at this
 exact this) (fun _=>rfl) (fun _=>rfl)
def aStrs (l:Ls):AV:= .sl 1 (l.map .str)
theorem getD_strss (l:List Ls)(i:Nat):(l.map aStrs).getD i (.sl 1 [])=aStrs (l.getD i []):=getD_map aStrs l i []
theorem flat_take (l:List Ls)(i:Nat)(h:i<l.length):(l.take (i+1)).flatten=(l.take i).flatten ++ l.getD i []:=by
 rw[Qp,Q1,Qb h,Qc,Qb h]
 simp
set_option maxRecDepth 20000 in
set_option maxHeartbeats 4000000 in
theorem calls_Concat (l:List Ls)(h0:0<l.flatten.length)(h1:l.flatten.length≤1099511627776)(h2:l.length≤1048576) :
 CallsR Tryz.prog 201 [.sl 1 (l.map aStrs)] [] (.own 0 1 l.flatten.length) [.arr 9 1 (l.flatten.map .str)]:=by
 refine callsR_of (mrg:=true) (dyn:=[]) (CtrOK.cons ok_Grow (CtrOK.nil _)) mixed Tryz.func201 rfl (by simp [Tryz.ntmps201,AV.cells]) (by kernel_rfl) ?_
 rw[show Tryz.f201.results.toList=[.tmp 2] from by kernel_rfl]
 have hle:∀i,(l.take i).flatten.length≤l.flatten.length:=fun i=>by
  have:=congrArg (fun x:List Ls=>x.flatten.length) (Ql i l)
  simp only[Q1,Qd] at this
  omega
 simp (maxSteps:=4000000) only[go_sem,seval,kGrow]
 refine loopH_intro (α:=Nat) (fun i=>([(0,.sl 1 (l.map aStrs)),(2,.nls),(3,.int .i64 (l.take i).flatten.length),(9,.sl 1 (l.map aStrs)),(10,.int .i64 l.length),(11,.int .i64 i)],[])) (fun i=>i≤l.length) (fun i=>l.length - i) 0 (by omega) ?_ ?_
 ·simp (maxSteps:=4000000) only[go_sem,seval,kGrow]
  all_goals simp
 intro i hi
 by_cases hlt:i<l.length
 ·have hct:decide ((i:Int)<l.length)=true:=decide_eq_true (by omega)
  have hfl:=flat_take l i hlt
  have hfl2:(l.take (i+1)).flatten.length=(l.take i).flatten.length+(l.getD i []).length:=by rw[hfl,Qd]
  have hl2:=hle (i+1)
  have w1:IntKind.i64.wrap (((l.take i).flatten.length:Int)+((l.getD i []).length:Int))=((l.take (i+1)).flatten.length:Int):=by rw[wrap64 (by omega) (by omega)];omega
  have hneg:decide (((l.take (i+1)).flatten.length:Int)<0)=false:=decide_eq_false (by omega)
  simp (maxSteps:=4000000) only[go_sem,seval,kGrow,hct,getD_strss,aStrs,w1,hneg]
  exact⟨⟨by omega,hlt⟩,i+1,by omega,by omega,rfl,by rw[wrap64 (by omega) (by omega)];rfl⟩
 ·have hcf:decide ((i:Int)<l.length)=false:=decide_eq_false (by omega)
  have hil:i=l.length:=by omega
  subst hil
  rw[Qr]
  simp (maxSteps:=4000000) only[go_sem,seval,kGrow,hcf]
  refine⟨⟨by omega,by omega⟩,?_⟩
  refine loopH_intro (α:=Nat) (fun i=>([(2,.nls),(6,.own 0 1 (l.take i).flatten.length),(25,.sl 1 (l.map aStrs)),(26,.int .i64 l.length),(27,.int .i64 i)],[.arr 9 1 ((l.take i).flatten.map .str)])) (fun i=>i≤l.length) (fun i=>l.length - i) 0 (by omega) ?_ ?_
  ·simp (maxSteps:=4000000) only[go_sem,seval,kGrow]
   exact⟨subX_eq rfl rfl,rfl⟩
  intro i hi
  by_cases hlt:i<l.length
  ·have hct:decide ((i:Int)<l.length)=true:=decide_eq_true (by omega)
   have hfl:=flat_take l i hlt
   have hfl2:(l.take (i+1)).flatten.length=(l.take i).flatten.length+(l.getD i []).length:=by rw[hfl,Qd]
   have hl2:=hle (i+1)
   simp (maxSteps:=4000000) only[go_sem,seval,kGrow,hct,getD_strss,aStrs]
   exact⟨⟨by omega,hlt⟩,by omega,i+1,by omega,by omega,subX_eq (by rw[hfl]) (pureB_strs _),hfl2.symm,by rw[wrap64 (by omega) (by omega)];rfl⟩
  ·have hcf:decide ((i:Int)<l.length)=false:=decide_eq_false (by omega)
   have hil:i=l.length:=by omega
   subst hil
   rw[Qr]
   simp (maxSteps:=4000000) only[go_sem,seval,kGrow,hcf]
   exact subX_eq rfl (pureB_strs _)
theorem calls_Concat0 (a c:Ls)(h0:0<a.length+c.length)(h1:a.length+c.length≤60000) :
 CallsR Tryz.prog 201 [.own 0 1 3] [.arr 24 1 [.sl 1 (a.map .str),.nls,.sl 1 (c.map .str)]] (.sl 1 ((a ++ c).map .str)) [.arr 24 1 [.sl 1 (a.map .str),.nls,.sl 1 (c.map .str)]]:=by
 have h:=calls_Concat [a,[],c] (by simpa using h0) (by simp;omega) (by simp)
 rw[show([a,[],c]:List Ls).flatten=a ++ c by simp] at h
 refine callsR_wrapS h (by simp) (by intro v hv;simp only[Qt] at hv;obtain⟨s,_,rfl⟩:=hv;intro c hc;simp only[AV.cells,Qj] at hc;subst hc;rfl) (vrs_res (y:= .sl 1 [.sl 1 (a.map .str),.nls,.sl 1 (c.map .str)]) (ids:=[0]) rfl fun W st v hv=>vp_nls1 hv)
theorem calls_Concat1 (a c:Ls)(s:List UInt8)(h1:a.length+c.length≤60000) :
 CallsR Tryz.prog 201 [.own 0 1 3] [.arr 24 1 [.sl 1 (a.map .str),.own 1 1 1,.sl 1 (c.map .str)],.arr 9 1 [.str s]] (.sl 1 ((a ++ s :: c).map .str)) [.arr 24 1 [.sl 1 (a.map .str),.own 1 1 1,.sl 1 (c.map .str)],.arr 9 1 [.str s]]:=by
 have h:=calls_Concat [a,[s],c] (by simp;omega) (by simp;omega) (by simp)
 rw[show([a,[s],c]:List Ls).flatten=a ++ s :: c by simp] at h
 refine callsR_wrapS h (by simp) (by intro v hv;simp only[Qt] at hv;obtain⟨s,_,rfl⟩:=hv;intro c hc;simp only[AV.cells,Qj] at hc;subst hc;rfl) (vrs_res (y:= .sl 1 [.sl 1 (a.map .str),.sl 1 [.str s],.sl 1 (c.map .str)]) (ids:=[0,1]) rfl fun W st v hv=>hv)
end Go.Pg
namespace Go.Pg
open Go Go.Proofs
variable [Syms]
def bInt (n:Int):AV:= .int .i64 n
theorem getD_bints (l:List Int)(i:Nat):(l.map bInt).getD i (.int .i64 0)=bInt (l.getD i 0):=getD_map bInt l i 0
theorem pureB_bints (l:List Int):(l.map bInt).all AV.pureB=true:=by simp [bInt,AV.pureB,AV.cells,AV.pureLeaf]
theorem leafy_bints (l:List Int):(l.map bInt).all AV.leafy=true:=by simp [bInt,AV.leafy,AV.cells,AV.leaf]
set_option maxRecDepth 20000 in
set_option maxHeartbeats 4000000 in
theorem calls_has_int (l:List Int)(i:Int)(hl:l.length≤1099511627776) :
 CallsR Tryz.prog 343 [.ptr 0 1 1 0 0,.int .i64 i] [.arr 288 1 [.agg [.own 1 1 l.length]],.arr 3 1 (l.map bInt)] (.bool (decide (0≤i∧i<l.length))) [.arr 288 1 [.agg [.own 1 1 l.length]],.arr 3 1 (l.map bInt)]:=by
 refine callsR_of (mrg:=true) (dyn:=[]) (CtrOK.nil _) mixed Tryz.func343 rfl (by simp [Tryz.ntmps343,AV.cells]) (by kernel_rfl) ?_
 rw[show Tryz.f343.results.toList=[.tmp 4] from by kernel_rfl]
 by_cases h1:0≤i
 ·by_cases h2:i< (l.length:Int)
  ·have hc1:decide (0≤i)=true:=decide_eq_true h1
   have hc2:decide (i< (l.length:Int))=true:=decide_eq_true h2
   simp (maxSteps:=4000000) only[go_sem,seval,hc1,hc2,pureB_bints,leafy_bints]
   simp only[h1,h2,and_self,and_false,decide_true,decide_false]
   exact⟨by decide,⟨.inr ⟨⟨⟨rfl,rfl,rfl⟩,trivial⟩,trivial⟩,subX_eq rfl (pureB_bints l)⟩,by first | rfl | simp [h1] | simp [h1,h2]⟩
  ·have hc1:decide (0≤i)=true:=decide_eq_true h1
   have hc2:decide (i< (l.length:Int))=false:=decide_eq_false h2
   simp (maxSteps:=4000000) only[go_sem,seval,hc1,hc2,pureB_bints,leafy_bints]
   simp only[h1,h2,and_self,and_false,decide_true,decide_false]
   exact⟨by decide,⟨.inr ⟨⟨⟨rfl,rfl,rfl⟩,trivial⟩,trivial⟩,subX_eq rfl (pureB_bints l)⟩,by first | rfl | simp [h1] | simp [h1,h2]⟩
 ·have hc1:decide (0≤i)=false:=decide_eq_false h1
  simp (maxSteps:=4000000) only[go_sem,seval,hc1,pureB_bints,leafy_bints]
  simp only[h1,false_and,decide_false]
  exact⟨by decide,⟨.inr ⟨⟨⟨rfl,rfl,rfl⟩,trivial⟩,trivial⟩,subX_eq rfl (pureB_bints l)⟩,by first | rfl | simp [h1] | simp [h1,h2]⟩
theorem renL_bints (g:Nat→Nat)(l:List Int):renL g (l.map bInt)=l.map bInt:=by simp [renL_eq,bInt,ren]
theorem bInt_pure (n:Int):((cInt .i64).enc n).pureB=true:=rfl
theorem bInt_ed (n:Int):(cInt .i64).dec ((cInt .i64).enc n)=some n:=by simp [cInt]
theorem decL_bints (l:List Int):decL (cInt .i64).dec (l.map bInt)=some l:=decL_enc (cInt .i64) bInt_ed l
abbrev hVecI:HC (List Int×Unit):=hPtr 288 1 (hCons (hOwn 3 1 (cInt .i64) bInt_pure) hNil)
abbrev vI (l:List Int):AH:=[.arr 288 1 [.agg [.own 1 1 l.length]],.arr 3 1 (l.map bInt)]
def kHasI:C1:=C1.mby (hCons hVecI (hCons (hP .id (cInt .i64)) hNil)) (fun d=>d.1.1.length≤1099511627776) (fun d=> .bool (decide (0≤d.2.1∧d.2.1<d.1.1.length))) (fun d=>vI d.1.1)
theorem ok_HasI:C1OK Tryz.prog 343 kHasI:=C1OK.mby (by kernel_rfl) (fun d h=>calls_has_int d.1.1 d.2.1 h) (fun d _=>by simp [hVecI,hPtr,hCons,hOwn,hP,hNil,hBox,hAgg,vI])
set_option maxRecDepth 20000 in
set_option maxHeartbeats 4000000 in
theorem calls_At_int (l:List Int)(i:Int)(hl:l.length≤1099511627776) :
 CallsR Tryz.prog 266 [.ptr 0 1 1 0 0,.int .i64 i] (vI l) (.tuple [.int .i64 (if 0≤i∧i<l.length then l.getD i.toNat 0 else 0),.bool (decide (0≤i∧i<l.length))]) (vI l):=by
 refine callsR_of (mrg:=true) (dyn:=[]) (CtrOK.cons ok_HasI (CtrOK.nil _)) mixed Tryz.func266 rfl (by simp [Tryz.ntmps266,AV.cells]) (by kernel_rfl) ?_
 rw[show Tryz.f266.results.toList=[.tmp 4,.tmp 5] from by kernel_rfl]
 by_cases h1:0≤i∧i< (l.length:Int)
 ·have hd:decide (0≤i∧i< (l.length:Int))=true:=decide_eq_true h1
  simp (maxSteps:=4000000) only[go_sem,seval,hd,h1,pureB_bints,leafy_bints,kHasI,decL_bints,getD_bints,bInt,renL_bints,Qa]
  exact⟨hl,fun _=>⟨by omega,by decide,⟨.inr ⟨⟨⟨rfl,rfl,rfl⟩,trivial⟩,trivial⟩,subX_eq rfl (pureB_bints l)⟩,by simp⟩⟩
 ·have hd:decide (0≤i∧i< (l.length:Int))=false:=decide_eq_false h1
  simp (maxSteps:=4000000) only[go_sem,seval,hd,h1,pureB_bints,leafy_bints,kHasI,decL_bints,getD_bints,bInt,renL_bints,Qa]
  exact⟨hl,⟨by decide,⟨.inr ⟨⟨⟨rfl,rfl,rfl⟩,trivial⟩,trivial⟩,subX_eq rfl (pureB_bints l)⟩,by simp⟩,fun h=>by simp at h⟩
theorem set_bints (l:List Int)(i:Nat)(n:Int):(l.map bInt).set i (.int .i64 n)=(l.set i n).map bInt:=by rw[Q4];rfl
set_option maxRecDepth 20000 in
set_option maxHeartbeats 4000000 in
theorem calls_Set_int (l:List Int)(i x:Int)(hl:l.length≤1099511627776) :
 CallsR Tryz.prog 268 [.ptr 0 1 1 0 0,.int .i64 i,.int .i64 x] (vI l) (.bool (decide (0≤i∧i<l.length))) (vI (if 0≤i∧i<l.length then l.set i.toNat x else l)):=by
 refine callsR_of (mrg:=true) (dyn:=[]) (CtrOK.cons ok_HasI (CtrOK.nil _)) mixed Tryz.func268 rfl (by simp [Tryz.ntmps268,AV.cells]) (by kernel_rfl) ?_
 rw[show Tryz.f268.results.toList=[.tmp 6] from by kernel_rfl]
 by_cases h1:0≤i∧i< (l.length:Int)
 ·have hd:decide (0≤i∧i< (l.length:Int))=true:=decide_eq_true h1
  rw[if_pos h1]
  simp (maxSteps:=4000000) only[go_sem,seval,hd,h1,pureB_bints,leafy_bints,kHasI,decL_bints,getD_bints,bInt,set_bints,renL_bints,Qa,Xb]
  exact⟨hl,fun _=>⟨by omega,by decide,⟨.inr ⟨⟨⟨rfl,rfl,rfl⟩,trivial⟩,trivial⟩,subX_eq rfl (pureB_bints _)⟩,by simp⟩⟩
 ·have hd:decide (0≤i∧i< (l.length:Int))=false:=decide_eq_false h1
  rw[if_neg h1]
  simp (maxSteps:=4000000) only[go_sem,seval,hd,h1,pureB_bints,leafy_bints,kHasI,decL_bints,getD_bints,bInt,set_bints,renL_bints,Qa,Xb]
  exact⟨hl,⟨by decide,⟨.inr ⟨⟨⟨rfl,rfl,rfl⟩,trivial⟩,trivial⟩,subX_eq rfl (pureB_bints _)⟩,by simp⟩,fun h=>by simp at h⟩
set_option maxRecDepth 20000 in
set_option maxHeartbeats 4000000 in
theorem calls_Len_int (l:List Int):CallsR Tryz.prog 265 [.ptr 0 1 1 0 0] (vI l) (.int .i64 l.length) (vI l):=by
 refine callsR_of (mrg:=true) (dyn:=[]) (CtrOK.nil _) mixed Tryz.func265 rfl (by simp [Tryz.ntmps265,AV.cells]) (by kernel_rfl) ?_
 rw[show Tryz.f265.results.toList=[.tmp 2] from by kernel_rfl]
 simp (maxSteps:=4000000) only[go_sem,seval,pureB_bints,leafy_bints,getD_bints,renL_bints,Qa]
 exact⟨by decide,.inr ⟨⟨⟨rfl,rfl,rfl⟩,trivial⟩,trivial⟩,subX_eq rfl (pureB_bints _)⟩
def kLenI:C1:=C1.mby (hCons hVecI hNil) (fun _=>True) (fun d=> .int .i64 d.1.1.length) (fun d=>vI d.1.1)
theorem ok_LenI:C1OK Tryz.prog 265 kLenI:=C1OK.mby (by kernel_rfl) (fun d _=>calls_Len_int d.1.1) (fun d _=>by simp [hVecI,hPtr,hCons,hOwn,hP,hNil,hBox,hAgg,vI])
def kAtI:C1:=C1.mby (hCons hVecI (hCons (hP .id (cInt .i64)) hNil)) (fun d=>d.1.1.length≤1099511627776) (fun d=> .tuple [.int .i64 (if 0≤d.2.1∧d.2.1<d.1.1.length then d.1.1.getD d.2.1.toNat 0 else 0),.bool (decide (0≤d.2.1∧d.2.1<d.1.1.length))]) (fun d=>vI d.1.1)
theorem ok_AtI:C1OK Tryz.prog 266 kAtI:=C1OK.mby (by kernel_rfl) (fun d h=>calls_At_int d.1.1 d.2.1 h) (fun d _=>by simp [hVecI,hPtr,hCons,hOwn,hP,hNil,hBox,hAgg,vI])
def kSetI:C1:=C1.mby (hCons hVecI (hCons (hP .id (cInt .i64)) (hCons (hP .id (cInt .i64)) hNil))) (fun d=>d.1.1.length≤1099511627776) (fun d=> .bool (decide (0≤d.2.1∧d.2.1<d.1.1.length))) (fun d=>vI (if 0≤d.2.1∧d.2.1<d.1.1.length then d.1.1.set d.2.1.toNat d.2.2.1 else d.1.1))
theorem ok_SetI:C1OK Tryz.prog 268 kSetI:=C1OK.mby (by kernel_rfl) (fun d h=>calls_Set_int d.1.1 d.2.1 d.2.2.1 h) (fun d _=>by simp [hVecI,hPtr,hCons,hOwn,hP,hNil,hBox,hAgg,vI])
end Go.Pg
namespace Go.Pg
open Go Go.Proofs
variable [Syms]
theorem calls_CloneI0 (l:List Int)(hb:l.length≤4398046511104):CallsR Tryz.prog 197 [.sl 1 (l.map bInt)] [] (.own 0 1 l.length) [.arr 3 1 (l.map bInt)]:=by
 refine callsR_ofW Tryz.func197 rfl (by simp [Tryz.ntmps197]) fun E hr=>?_
 rw[show Tryz.f197.results.toList=[.tmp 2] from by kernel_rfl]
 refine AWp.seq (wpA_sound (C:=[]) (mrg:=true) (dyn:=[]) (CtrOK.nil _) mixed _ _ E _ _ _ none false hr (fun ev H h=>h) (by kernel_rfl) (.inl ⟨rfl,rfl⟩) ?_)
 simp (maxSteps:=4000000) only[go_sem,seval]
 refine AWp.seq (AWp.seq (AWp.isNil (z:=1) (vs:=l.map bInt) Tryz.underlying285 (by simp [Tryz.ntmps197]) (by simp [Tryz.ntmps197]) (by simp [Pg.look]) fun b hbn=>?_))
 refine wpA_sound (C:=[]) (mrg:=true) (dyn:=[]) (CtrOK.nil _) mixed _ _ E _ _ _ none false hr (fun ev H h=>h) (by kernel_rfl) (.inl ⟨rfl,rfl⟩) ?_
 simp (maxSteps:=4000000) only[go_sem,seval]
 refine⟨fun hb1=>retA_S _ _ _ ?_,fun hb1=>wpA_sound (C:=[]) (mrg:=true) (dyn:=[]) (CtrOK.nil _) mixed _ _ E _ _ _ none false hr (fun ev H h=>h) (by kernel_rfl) (.inl ⟨rfl,rfl⟩) (wpA_mono _ _ _ _ _ (fun e ev H h=>retA_S e ev H h) ?_)⟩
 ·have h0:l=[]:=by simpa using hbn hb1
  subst h0
  simp (maxSteps:=4000000) only[go_sem,seval]
 ·simp (maxSteps:=4000000) only[go_sem,seval,pureB_bints,leafy_bints,Qa]
  exact⟨by omega,.inl ⟨rfl,pureB_bints l⟩⟩
theorem atom_bints (l:List Int):∀x∈l.map bInt,∀c∈x.cells,c.atom=true:=by
 intro x hx c hc
 obtain⟨n,_,rfl⟩:=Qt.1 hx
 simp only[bInt,AV.cells,Qj] at hc
 subst hc
 rfl
theorem calls_CloneI (l:List Int)(hb:l.length≤4398046511104):CallsR Tryz.prog 197 [.own 0 1 l.length] [.arr 3 1 (l.map bInt)] (.own 1 1 l.length) [.arr 3 1 (l.map bInt),.arr 3 1 (l.map bInt)]:=by
 have h:=calls_copy (vs:=l.map bInt) (by rw[Qa];exact calls_CloneI0 l hb) (atom_bints l)
 rwa [Qa] at h
theorem calls_CloneIW (l:List Int)(off len:Nat)(ho:off+len≤l.length)(hb:l.length≤4398046511104):CallsR Tryz.prog 197 [.win 0 1 l.length off len] [.arr 3 1 (l.map bInt)] (.own 1 1 len) [.arr 3 1 (l.map bInt),.arr 3 1 (((l.drop off).take len).map bInt)]:=by
 have hlen:((l.drop off).take len).length=len:=by rw[Qf,Qh];omega
 have h:=calls_copyW (e:=3) (vs:=l.map bInt) (off:=off) (len:=len) (by
  have:=calls_CloneI0 ((l.drop off).take len) (by omega)
  rw[hlen] at this
  simpa [Xg,Xh] using this) (atom_bints l) (by rw[Qa];exact ho)
 simpa [Xg,Xh] using h
def kCloneIW:C1:=C1.mx none false true (hCons (hWin 3 1 (cInt .i64) bInt_pure) hNil) (fun d=>d.1.2.1+d.1.2.2≤d.1.1.length∧d.1.1.length≤4398046511104) (fun d=> .own 1 1 d.1.2.2) (fun d=>[.arr 3 1 (d.1.1.map bInt),.arr 3 1 (((d.1.1.drop d.1.2.1).take d.1.2.2).map bInt)])
theorem ok_CloneIW:C1OK Tryz.prog 197 kCloneIW:=C1OK.mx (by kernel_rfl) (fun d h _=>calls_CloneIW d.1.1 d.1.2.1 d.1.2.2 h.1 h.2) (fun _=>rfl) (fun d _=>by simp [hCons,hWin,hNil])
def kCloneI:C1:=C1.mby (hCons (hOwn 3 1 (cInt .i64) bInt_pure) hNil) (fun d=>d.1.length≤4398046511104) (fun d=> .own 1 1 d.1.length) (fun d=>[.arr 3 1 (d.1.map bInt),.arr 3 1 (d.1.map bInt)])
theorem ok_CloneI:C1OK Tryz.prog 197 kCloneI:=C1OK.mby (by kernel_rfl) (fun d h=>calls_CloneI d.1 h) (fun d _=>by simp [hCons,hOwn,hNil])
abbrev aAllI (l:List Int):AV:= .fn 388 [.rp [.sl 1 (l.map bInt)]]
set_option maxRecDepth 20000 in
set_option maxHeartbeats 4000000 in
theorem calls_AllI (l:List Int):CallsR Tryz.prog 344 [.own 0 1 l.length] [.arr 3 1 (l.map bInt)] (aAllI l) [.dead]:=by
 refine callsR_of (mrg:=true) (dyn:=[]) (CtrOK.nil _) mixed Tryz.func344 rfl (by simp [Tryz.ntmps344,AV.cells]) (by kernel_rfl) ?_
 rw[show Tryz.f344.results.toList=[.tmp 2] from by kernel_rfl]
 simp (maxSteps:=4000000) only[go_sem,seval,pureB_bints,leafy_bints,Qa]
 decide
def kAllI:C1:=C1.mby (hCons (hOwn 3 1 (cInt .i64) bInt_pure) hNil) (fun _=>True) (fun d=>aAllI d.1) (fun _=>[.dead])
theorem ok_AllI:C1OK Tryz.prog 344 kAllI:=C1OK.mby (by kernel_rfl) (fun d _=>calls_AllI d.1) (fun d _=>by simp [hCons,hOwn,hNil])
set_option maxRecDepth 20000 in
set_option maxHeartbeats 4000000 in
theorem calls_VAllI (l:List Int)(hl:l.length≤1099511627):CallsR Tryz.prog 267 [.ptr 0 1 1 0 0] (vI l) (aAllI l) (vI l):=by
 refine callsR_of (mrg:=true) (dyn:=[]) (CtrOK.cons ok_CloneI (CtrOK.cons ok_AllI (CtrOK.nil _))) mixed Tryz.func267 rfl (by simp [Tryz.ntmps267,AV.cells]) (by kernel_rfl) ?_
 rw[show Tryz.f267.results.toList=[.tmp 2] from by kernel_rfl]
 simp (maxSteps:=4000000) only[go_sem,seval,pureB_bints,leafy_bints,kCloneI,kAllI,decL_bints,renL_bints,Qa]
 exact⟨by omega,by decide,.inr ⟨⟨⟨rfl,rfl,rfl⟩,trivial⟩,trivial⟩,subX_eq rfl (pureB_bints _)⟩
def kVAllI:C1:=C1.mby (hCons hVecI hNil) (fun d=>d.1.1.length≤1099511627) (fun d=>aAllI d.1.1) (fun d=>vI d.1.1)
theorem ok_VAllI:C1OK Tryz.prog 267 kVAllI:=C1OK.mby (by kernel_rfl) (fun d h=>calls_VAllI d.1.1 h) (fun d _=>by simp [hVecI,hPtr,hCons,hOwn,hP,hNil,hBox,hAgg,vI])
def kTellI:C1:=C1.itBy (lOne (cRp (lOne (cSl 1 (cInt .i64))))) (fun d=>d.length≤65536) (fun d=>tellInts 0 d)
theorem ok_TellI:C1OK Tryz.prog 388 kTellI:=C1OK.itBy (by kernel_rfl) (fun d h=>it_All_int d h)
end Go.Pg
namespace Go.Pg
open Go Go.Proofs
variable [Syms]
theorem pureB_pcs (l:List Pc):(l.map aPc).all AV.pureB=true:=by simp [aPc,AV.pureB,AV.cells,AV.pureLeaf]
theorem leafy_pcs (l:List Pc):(l.map aPc).all AV.leafy=true:=by simp [aPc,AV.leafy,AV.cells,AV.leaf]
theorem renL_pcs (g:Nat→Nat)(l:List Pc):renL g (l.map aPc)=l.map aPc:=renL_pure g _ (pureB_pcs l)
theorem calls_CloneP0 (l:List Pc)(hb:l.length≤1099511627):CallsR Tryz.prog 195 [.sl 3 (l.map aPc)] [] (.own 0 3 l.length) [.arr 209 3 (l.map aPc)]:=by
 refine callsR_ofW Tryz.func195 rfl (by simp [Tryz.ntmps195]) fun E hr=>?_
 rw[show Tryz.f195.results.toList=[.tmp 2] from by kernel_rfl]
 refine AWp.seq (wpA_sound (C:=[]) (mrg:=true) (dyn:=[]) (CtrOK.nil _) mixed _ _ E _ _ _ none false hr (fun ev H h=>h) (by kernel_rfl) (.inl ⟨rfl,rfl⟩) ?_)
 simp (maxSteps:=4000000) only[go_sem,seval]
 refine AWp.seq (AWp.seq (AWp.isNil (z:=3) (vs:=l.map aPc) Tryz.underlying280 (by simp [Tryz.ntmps195]) (by simp [Tryz.ntmps195]) (by simp [Pg.look]) fun b hbn=>?_))
 refine wpA_sound (C:=[]) (mrg:=true) (dyn:=[]) (CtrOK.nil _) mixed _ _ E _ _ _ none false hr (fun ev H h=>h) (by kernel_rfl) (.inl ⟨rfl,rfl⟩) ?_
 simp (maxSteps:=4000000) only[go_sem,seval]
 refine⟨fun hb1=>retA_S _ _ _ ?_,fun hb1=>wpA_sound (C:=[]) (mrg:=true) (dyn:=[]) (CtrOK.nil _) mixed _ _ E _ _ _ none false hr (fun ev H h=>h) (by kernel_rfl) (.inl ⟨rfl,rfl⟩) (wpA_mono _ _ _ _ _ (fun e ev H h=>retA_S e ev H h) ?_)⟩
 ·have h0:l=[]:=by simpa using hbn hb1
  subst h0
  simp (maxSteps:=4000000) only[go_sem,seval]
 ·simp (maxSteps:=4000000) only[go_sem,seval,pureB_pcs,leafy_pcs,Qa]
  exact⟨by omega,.inl ⟨rfl,pureB_pcs l⟩⟩
theorem atom_pcs (l:List Pc):∀x∈l.map aPc,∀c∈x.cells,c.atom=true:=by
 intro x hx c hc
 obtain⟨n,_,rfl⟩:=Qt.1 hx
 simp only[aPc,AV.cells,Qe,Q8,or_false] at hc
 rcases hc with rfl | rfl | rfl <;> rfl
theorem calls_ClonePs (l:List Pc)(hb:l.length≤1099511627):CallsR Tryz.prog 195 [.own 0 3 l.length] [.arr 209 3 (l.map aPc)] (.own 1 3 l.length) [.arr 209 3 (l.map aPc),.arr 209 3 (l.map aPc)]:=by
 have h:=calls_copy (vs:=l.map aPc) (by rw[Qa];exact calls_CloneP0 l hb) (atom_pcs l)
 rwa [Qa] at h
def cPcs:Cd Pc where
 enc:=aPc
 dec
  | .agg [.bool a,.int .i64 b,.int .i64 c]=>some (a,b,c)
  | _=>none
 ok v a h:=by
  split at h
  ·cases h;rfl
  ·cases h
theorem bPc_pure (p:Pc):(cPcs.enc p).pureB=true:=rfl
theorem bPc_ed (p:Pc):cPcs.dec (aPc p)=some p:=rfl
theorem decL_pcs (l:List Pc):decL cPcs.dec (l.map aPc)=some l:=decL_enc cPcs bPc_ed l
abbrev hOwnP:HC (List Pc):=hOwn 209 3 cPcs bPc_pure
abbrev hVecP:HC (List Pc×Unit):=hPtr 283 1 (hCons hOwnP hNil)
abbrev vP (l:List Pc):AH:=[.arr 283 1 [.agg [.own 1 3 l.length]],.arr 209 3 (l.map aPc)]
def kClonePs:C1:=C1.mx none true false (hCons hOwnP hNil) (fun d=>d.1.length≤1099511627) (fun d=> .own 1 3 d.1.length) (fun d=>[.arr 209 3 (d.1.map aPc),.arr 209 3 (d.1.map aPc)])
theorem ok_ClonePs:C1OK Tryz.prog 195 kClonePs:=C1OK.mx (by kernel_rfl) (fun d h _=>calls_ClonePs d.1 h) (fun _=>rfl) (fun d _=>by simp [hCons,hOwn,hNil])
abbrev aAllP (l:List Pc):AV:= .fn 331 [.rp [.sl 3 (l.map aPc)]]
set_option maxRecDepth 20000 in
set_option maxHeartbeats 4000000 in
theorem calls_AllP (l:List Pc):CallsR Tryz.prog 249 [.own 0 3 l.length] [.arr 209 3 (l.map aPc)] (aAllP l) [.dead]:=by
 refine callsR_of (mrg:=true) (dyn:=[]) (CtrOK.nil _) mixed Tryz.func249 rfl (by simp [Tryz.ntmps249,AV.cells]) (by kernel_rfl) ?_
 rw[show Tryz.f249.results.toList=[.tmp 2] from by kernel_rfl]
 simp (maxSteps:=4000000) only[go_sem,seval,pureB_pcs,leafy_pcs,Qa]
 decide
def kAllP:C1:=C1.mby (hCons hOwnP hNil) (fun _=>True) (fun d=>aAllP d.1) (fun _=>[.dead])
theorem ok_AllP:C1OK Tryz.prog 249 kAllP:=C1OK.mby (by kernel_rfl) (fun d _=>calls_AllP d.1) (fun d _=>by simp [hCons,hOwn,hNil])
set_option maxRecDepth 20000 in
set_option maxHeartbeats 4000000 in
theorem calls_VAllP (l:List Pc)(hl:l.length≤1099511627):CallsR Tryz.prog 185 [.ptr 0 1 1 0 0] (vP l) (aAllP l) (vP l):=by
 refine callsR_of (mrg:=true) (dyn:=[]) (CtrOK.cons ok_ClonePs (CtrOK.cons ok_AllP (CtrOK.nil _))) mixed Tryz.func185 rfl (by simp [Tryz.ntmps185,AV.cells]) (by kernel_rfl) ?_
 rw[show Tryz.f185.results.toList=[.tmp 2] from by kernel_rfl]
 simp (maxSteps:=4000000) only[go_sem,seval,pureB_pcs,leafy_pcs,kClonePs,kAllP,decL_pcs,renL_pcs,Qa]
 (repeat' first | exact subX_eq rfl (pureB_pcs _) | exact subX_self rfl | omega | decide | rfl | apply And.intro)
def kVAllP:C1:=C1.mx none true false (hCons hVecP hNil) (fun d=>d.1.1.length≤1099511627) (fun d=>aAllP d.1.1) (fun d=>vP d.1.1)
theorem ok_VAllP:C1OK Tryz.prog 185 kVAllP:=C1OK.mx (by kernel_rfl) (fun d h _=>calls_VAllP d.1.1 h) (fun _=>rfl) (fun d _=>by simp [hVecP,hPtr,hCons,hOwn,hP,hNil,hBox,hAgg,vP])
def kTellP:C1:=C1.itBy (lOne (cRp (lOne (cSl 3 cPcs)))) (fun d=>d.length≤65536) (fun d=>tellPcs 0 d)
theorem ok_TellP:C1OK Tryz.prog 331 kTellP:=C1OK.itBy (by kernel_rfl) (fun d h=>it_All_pc d h)
theorem u8_pure (b:UInt8):(cByte.enc b).pureB=true:=rfl
abbrev hOwnB:HC (List UInt8):=hOwn 5 1 cByte u8_pure
abbrev hTab:HC (List UInt8×List UInt8×(List Pc×Unit)×Int×Int×Int×Unit):=
 hPtr 211 6 (hCons (hP .id cStr) (hCons hOwnB (hCons hVecP (hCons (hP .id (cInt .i64)) (hCons (hP .id (cInt .i64)) (hCons (hP .id (cInt .i64)) hNil))))))
abbrev tH (F A:List UInt8)(l:List Pc)(size most edits:Int):AH:=
 [.arr 211 6 [.agg [.str F,.own 1 1 A.length,.ptr 2 1 1 0 0,.int .i64 size,.int .i64 most,.int .i64 edits]],.arr 5 1 (ofBytes A),
  .arr 283 1 [.agg [.own 3 3 l.length]],.arr 209 3 (l.map aPc)]
def inPc (F A:List UInt8)(p:Pc):Prop:=0≤p.2.1∧0≤p.2.2∧p.2.1+p.2.2≤(if p.1=true then A else F).length
def textI (F A:List UInt8)(p:Pc):List UInt8:=((if p.1=true then A else F).drop p.2.1.toNat).take p.2.2.toNat
set_option maxRecDepth 20000 in
set_option maxHeartbeats 4000000 in
theorem calls_text (F A:List UInt8)(l:List Pc)(size most edits:Int)(p:Pc)(h:inPc F A p)(hF:F.length≤1099511627)(hA:A.length≤1099511627) :
 CallsR Tryz.prog 186 [.ptr 0 6 1 0 0,aPc p] (tH F A l size most edits) (.str (textI F A p)) (tH F A l size most edits):=by
 refine callsR_of (mrg:=true) (dyn:=[2]) (CtrOK.cons ok_CloneIW (CtrOK.nil _)) mixed Tryz.func186 rfl (by simp [Tryz.ntmps186,AV.cells]) (by kernel_rfl) ?_
 rw[show Tryz.f186.results.toList=[.tmp 4] from by kernel_rfl]
 obtain⟨a,b,c⟩:=p
 obtain⟨h1,h2,h3⟩:=h
 dsimp only at h1 h2 h3
 have w1:IntKind.i64.wrap (b+c)=b+c:=by
  have:(if a=true then A else F).length≤1099511627:=by split <;> assumption
  exact wrap64 (by omega) (by omega)
 cases a with
 | true=>
  have h3':b+c≤(A.length:Int):=by simpa using h3
  have hin:(0≤b∧b≤b+c∧b+c≤(A.length:Int))=True:=eq_true ⟨h1,by omega,h3'⟩
  have hle:(b.toNat+((b+c).toNat - b.toNat)≤A.length)=True:=eq_true (by omega)
  have hsub:b.toNat+((b+c).toNat - b.toNat) - b.toNat=(b+c).toNat - b.toNat:=by omega
  unfold aPc
  have heq:Xi ((b+c).toNat - b.toNat) (Xj b.toNat (A))=textI F A (true,b,c):=by
   simp only[textI,if_true,if_false,Q2]
   rw[show(b+c).toNat - b.toNat=c.toNat by omega]
  simp (maxSteps:=4000000) only[go_sem,seval,w1,hin,hle,hsub,pureB_pcs,leafy_pcs,kCloneIW,Qa]
  (repeat' first | exact subX_eq rfl (pureB_pcs _) | exact subX_eq rfl (pureB_bytes _) | exact subX_self rfl | exact heq | omega | (simp [hlOf,AO.len,ofBytes];done) | decide | rfl | apply And.intro)
 | false=>
  have hin:(0≤b∧b≤b+c∧b+c≤(F.length:Int))=True:=eq_true ⟨h1,by omega,by simpa using h3⟩
  unfold aPc
  have heq:Xi ((b+c).toNat - b.toNat) (Xj b.toNat (F))=textI F A (false,b,c):=by
   simp only[textI,if_true,if_false,Q2]
   rw[show(b+c).toNat - b.toNat=c.toNat by omega]
  simp (maxSteps:=4000000) only[go_sem,seval,w1,hin,pureB_pcs,leafy_pcs,kCloneIW,Qa]
  (repeat' first | exact subX_eq rfl (pureB_pcs _) | exact subX_eq rfl (pureB_bytes _) | exact subX_self rfl | exact heq | omega | (simp [hlOf,AO.len,ofBytes];done) | decide | rfl | apply And.intro)
end Go.Pg
namespace Go.Pg
open Go Go.Proofs
variable [Syms]
theorem renL_ofB (g:Nat→Nat)(A:List UInt8):renL g (ofBytes A)=ofBytes A:=renL_pure g _ (pureB_bytes A)
def kText:C1:=C1.mx none true false (hCons hTab (hCons (hP .id cPcs) hNil)) (fun d=>inPc d.1.1 d.1.2.1 d.2.1∧d.1.1.length≤1099511627∧d.1.2.1.length≤1099511627) (fun d=> .str (textI d.1.1 d.1.2.1 d.2.1))
 (fun d=>tH d.1.1 d.1.2.1 d.1.2.2.1.1 d.1.2.2.2.1 d.1.2.2.2.2.1 d.1.2.2.2.2.2.1)
theorem ok_Text:C1OK Tryz.prog 186 kText:=C1OK.mx (by kernel_rfl) (fun d h _=>calls_text d.1.1 d.1.2.1 d.1.2.2.1.1 d.1.2.2.2.1 d.1.2.2.2.2.1 d.1.2.2.2.2.2.1 d.2.1 h.1 h.2.1 h.2.2) (fun _=>rfl)
 (fun d _=>by simp [hTab,hVecP,hPtr,hCons,hOwn,hP,hNil,hBox,hAgg,tH])
set_option maxRecDepth 20000 in
set_option maxHeartbeats 4000000 in
theorem calls_reaches (F A:List UInt8)(l:List Pc)(size most edits off n:Int)(hs:0≤size∧size≤1099511627)(ho: -1099511627≤off∧off≤1099511627) :
 CallsR Tryz.prog 184 [.ptr 0 6 1 0 0,.int .i64 off,.int .i64 n] (tH F A l size most edits) (.bool (decide (0≤off) && (decide (0≤n) && (decide (off≤size) && decide (n≤size - off))))) (tH F A l size most edits):=by
 refine callsR_of (mrg:=true) (dyn:=[]) (CtrOK.nil _) mixed Tryz.func184 rfl (by simp [Tryz.ntmps184,AV.cells]) (by kernel_rfl) ?_
 rw[show Tryz.f184.results.toList=[.tmp 6] from by kernel_rfl]
 have w1:IntKind.i64.wrap (size - off)=size - off:=wrap64 (by omega) (by omega)
 simp (maxSteps:=4000000) only[go_sem,seval,w1,pureB_pcs,leafy_pcs,Qa]
 (repeat' first | exact subX_eq rfl (pureB_pcs _) | exact subX_eq rfl (pureB_bytes _) | exact subX_self rfl | omega | (simp only[Bool.and_assoc,ge_iff_le];done) | decide | rfl | apply And.intro)
def kReach:C1:=C1.mx none true false (hCons hTab (hCons (hP .id (cInt .i64)) (hCons (hP .id (cInt .i64)) hNil))) (fun d=>(0≤d.1.2.2.2.1∧d.1.2.2.2.1≤1099511627)∧(-1099511627≤d.2.1∧d.2.1≤1099511627))
 (fun d=> .bool (decide (0≤d.2.1) && (decide (0≤d.2.2.1) && (decide (d.2.1≤d.1.2.2.2.1) && decide (d.2.2.1≤d.1.2.2.2.1 - d.2.1)))))
 (fun d=>tH d.1.1 d.1.2.1 d.1.2.2.1.1 d.1.2.2.2.1 d.1.2.2.2.2.1 d.1.2.2.2.2.2.1)
theorem ok_Reach:C1OK Tryz.prog 184 kReach:=C1OK.mx (by kernel_rfl) (fun d h _=>calls_reaches d.1.1 d.1.2.1 d.1.2.2.1.1 d.1.2.2.2.1 d.1.2.2.2.2.1 d.1.2.2.2.2.2.1 d.2.1 d.2.2.1 h.1 h.2) (fun _=>rfl)
 (fun d _=>by simp [hTab,hVecP,hPtr,hCons,hOwn,hP,hNil,hBox,hAgg,tH])
def sumP:List Pc→Int
 | []=>0
 | p :: r=>p.2.2+sumP r
def atP (l:List Pc)(k:Nat):Int:=sumP (l.take k)
def readI (F A:List UInt8)(lo hi:Int):Int→List Pc→List UInt8
 | _,[]=>[]
 | at_,p :: r=>(if max lo at_<min hi (at_+p.2.2) then((textI F A p).drop (max lo at_ - at_).toNat).take ((min hi (at_+p.2.2) - at_).toNat - (max lo at_ - at_).toNat) else[]) ++ readI F A lo hi (at_+p.2.2) r
theorem sumP_app:∀(a b:List Pc),sumP (a ++ b)=sumP a+sumP b
 | [],b=>by simp [sumP]
 | p :: r,b=>by simp only[Qi,sumP,sumP_app r b];omega
theorem readI_app (F A:List UInt8)(lo hi:Int):∀(a b:List Pc)(at_:Int),readI F A lo hi at_ (a ++ b)=readI F A lo hi at_ a ++ readI F A lo hi (at_+sumP a) b
 | [],b,at_=>by simp [readI,sumP]
 | p :: r,b,at_=>by
  simp only[Qi,readI,readI_app F A lo hi r b,sumP,Q5]
  rw[show at_+(p.2.2+sumP r)=at_+p.2.2+sumP r by omega]
theorem take_snocP (l:List Pc)(k:Nat)(h:k<l.length):l.take (k+1)=l.take k ++ [l.getD k (false,0,0)]:=by
 rw[Qp,Qb h,Qc,Qb h];rfl
theorem atP_succ (l:List Pc)(k:Nat)(h:k<l.length):atP l (k+1)=atP l k+(l.getD k (false,0,0)).2.2:=by
 unfold atP
 rw[take_snocP l k h,sumP_app];simp [sumP]
theorem tell_mapP (l:List Pc):tellPcs 0 l=(Xd l.length).map fun i=>[.int .i64 (i:Int),aPc (l.getD i (false,0,0))]:=by
 apply List.ext_getElem?
 intro i
 by_cases hi:i<l.length
 ·rw[tellPcs_get l 0 i hi,List.getElem?_map,List.getElem?_range hi,Qm];rfl
 ·rw[Qw (by rw[tellPcs_len];omega),Qw (by simpa using hi)]
theorem sumP_nn {F A:List UInt8}:∀(l:List Pc),(∀p∈l,inPc F A p)→0≤sumP l
 | [],_=>by simp [sumP]
 | p :: r,h=>by
  have:=sumP_nn r fun q hq=>h q (by simp [hq])
  have:=(h p (by simp)).2.1
  simp only[sumP];omega
theorem readI_len (F A:List UInt8)(lo hi:Int):∀(l:List Pc)(at_:Int),(∀p∈l,inPc F A p)→((readI F A lo hi at_ l).length:Int)≤sumP l
 | [],at_,_=>by simp [readI,sumP]
 | p :: r,at_,h=>by
  have ih:=readI_len F A lo hi r (at_+p.2.2) fun q hq=>h q (by simp [hq])
  obtain⟨h1,h2,h3⟩:=h p (by simp)
  have:((if max lo at_<min hi (at_+p.2.2) then((textI F A p).drop (max lo at_ - at_).toNat).take ((min hi (at_+p.2.2) - at_).toNat - (max lo at_ - at_).toNat) else[]).length:Int)≤p.2.2:=by
   split
   ·rw[Qf,Qh]
    unfold textI
    rw[Qf]
    omega
   ·simp;exact h2
  simp only[readI,sumP,Qd]
  omega
theorem map_ofB (X:List UInt8):X.map (fun b=>AV.int .u8 (b.toNat:Int))=ofBytes X:=rfl
theorem leafy_ofB (X:List UInt8):(ofBytes X).all AV.leafy=true:=by simp [ofBytes,AV.leafy,AV.cells,AV.leaf]
theorem cPcs_dec (a:Bool)(b c:Int):cPcs.dec (.agg [.bool a,.int .i64 b,.int .i64 c])=some (a,b,c):=rfl
theorem ofBytes_app (a b:List UInt8):ofBytes a ++ ofBytes b=ofBytes (a ++ b):=by simp [ofBytes]
theorem ofBytes_len (a:List UInt8):(ofBytes a).length=a.length:=by simp [ofBytes]
abbrev slH (F A:List UInt8)(l:List Pc)(size most edits off n at_:Int)(R:List UInt8):AH:=
 tH F A l size most edits ++ [.arr 140 1 [.ptr 0 6 1 0 0],.arr 3 1 [.int .i64 off],.arr 3 1 [.int .i64 n],.arr 22 1 [.own 9 1 R.length],.arr 3 1 [.int .i64 at_],.arr 5 1 (ofBytes R)]
set_option maxRecDepth 20000 in
set_option maxHeartbeats 8000000 in
theorem calls_Slice (F A:List UInt8)(l:List Pc)(size most edits off n:Int)(hF:F.length≤1099511627)(hA:A.length≤1099511627)(hl:l.length≤65536)(hp:∀p∈l,inPc F A p)(hsum:sumP l=size)(hsz:size≤1099511627)(ho:0≤off)(hn:0≤n)(hon:off+n≤size) :
 CallsR Tryz.prog 122 [.ptr 0 6 1 0 0,.int .i64 off,.int .i64 n] (tH F A l size most edits) (.tuple [.str (readI F A off (off+n) 0 l),.int .i64 0]) (tH F A l size most edits):=by
 refine callsR_of (mrg:=true) (dyn:=[9]) (CtrOK.cons ok_Reach (CtrOK.cons ok_VAllP (CtrOK.cons ok_Text (CtrOK.cons ok_TellP (CtrOK.nil _))))) mixed Tryz.func122 rfl (by simp [Tryz.ntmps122,AV.cells]) (by kernel_rfl) ?_
 rw[show Tryz.f122.results.toList=[.tmp 6,.tmp 7] from by kernel_rfl]
 have hcr:(decide (0≤off) && (decide (0≤n) && (decide (off≤size) && decide (n≤size - off))))=true:=by
  simp only[Q7,decide_eq_true_eq]
  omega
 simp (maxSteps:=4000000) only[go_sem,seval,hcr,pureB_pcs,leafy_pcs,kReach,kVAllP,kText,kTellP,decL_pcs,renL_pcs,renL_ofB,Qa]
 refine⟨⟨⟨by have:=sumP_nn l hp;omega,hsz⟩,by omega,by omega⟩,by omega,hl,?_⟩
 rw[mark_eq,tell_mapP]
 refine rangG_intro (Xd l.length) (fun(i:Nat)=>[.int .i64 (i:Int),aPc (l.getD i (false,0,0))]) 0 [(9,.ptr 8 1 1 0 0),(8,.ptr 7 1 1 0 0),(5,.ptr 6 1 1 0 0),(4,.ptr 5 1 1 0 0),(3,.ptr 4 1 1 0 0)] (tH F A l size most edits ++ [.arr 140 1 [.ptr 0 6 1 0 0],.arr 3 1 [.int .i64 off],.arr 3 1 [.int .i64 n],.arr 22 1 [.nls],.arr 3 1 [.int .i64 0]])
  (fun k=>([(9,.ptr 8 1 1 0 0),(8,.ptr 7 1 1 0 0),(5,.ptr 6 1 1 0 0),(4,.ptr 5 1 1 0 0),(3,.ptr 4 1 1 0 0)],slH F A l size most edits off n (atP l k) (readI F A off (off+n) 0 (l.take k)))) (fun _=>True) rfl ?_ ?_ trivial (fun _=>rfl) ?_ ?_
 ·simp (maxSteps:=4000000) only[go_sem,seval,pureB_pcs,leafy_pcs,renL_ofB,Qa]
  (repeat' first | exact subX_eq rfl (pureB_pcs _) | exact subX_eq rfl (pureB_bytes _) | exact subX_self rfl | decide | rfl | apply And.intro)
 ·have e1:atP l 0=0:=rfl
  have e2:readI F A off (off+n) 0 (l.take 0)=[]:=by simp [readI]
  rw[e2,e1]
  simp (maxSteps:=4000000) only[go_sem,seval,pureB_pcs,leafy_pcs,renL_ofB,Qa,Qk]
  (repeat' first | exact subX_eq rfl (pureB_pcs _) | exact subX_eq rfl (pureB_bytes _) | exact subX_self rfl | exact .inr ⟨⟨⟨rfl,rfl⟩,trivial⟩,trivial⟩ | exact leafy_ofB _ | omega | decide | rfl | trivial | apply And.intro)
 ·intro k hk _
  rw[Q6] at hk
  have hkd:(Xd l.length).getD k 0=k:=by simp [hk]
  rw[hkd]
  have hat:=atP_succ l k hk
  have hR:readI F A off (off+n) 0 (l.take (k+1))=readI F A off (off+n) 0 (l.take k) ++ readI F A off (off+n) (atP l k) [l.getD k (false,0,0)]:=by
   rw[take_snocP l k hk,readI_app,Int.zero_add];rfl
  have hin:=hp (l.getD k (false,0,0)) (by rw[Qc,Qb hk];exact List.getElem_mem hk)
  have ha0:0≤atP l k:=sumP_nn _ fun q hq=>hp q (Qy hq)
  have ha1:atP l (k+1)≤size:=by
   have:=sumP_app (l.take (k+1)) (l.drop (k+1))
   rw[Ql,hsum] at this
   have h2:=sumP_nn (l.drop (k+1)) fun q hq=>hp q (Qz hq)
   unfold atP
   omega
  have hRl:(readI F A off (off+n) 0 (l.take k)).length≤1099511627:=by
   have h1:=readI_len F A off (off+n) (l.take k) 0 fun q hq=>hp q (Qy hq)
   have h2:sumP (l.take k)=atP l k:=rfl
   have h3:atP l k≤atP l (k+1):=by rw[hat];have:=hin.2.1;omega
   omega
  have hti:textI F A (l.getD k (false,0,0))=textI F A (l.getD k (false,0,0)):=rfl
  have htl:(textI F A (l.getD k (false,0,0))).length=(l.getD k (false,0,0)).2.2.toNat:=by
   obtain⟨h1,h2,h3⟩:=hin
   unfold textI
   rw[Qf,Qh];omega
  generalize hpp:l.getD k (false,0,0)=p at *
  obtain⟨a,b,c⟩:=p
  have hbc:0≤c:=hin.2.1
  dsimp only at hat htl
  generalize hAk:atP l k=at0 at *
  generalize hRk:readI F A off (off+n) 0 (l.take k)=R at *
  have w1:IntKind.i64.wrap (off+n)=off+n:=wrap64 (by omega) (by omega)
  have w2:IntKind.i64.wrap (at0+c)=at0+c:=wrap64 (by omega) (by omega)
  rw[hat,hR]
  unfold aPc
  simp only[readI,Xc]
  by_cases hlt:max off at0<min (off+n) (at0+c)
  ·have ct:decide (max off at0<min (off+n) (at0+c))=true:=decide_eq_true hlt
   have w3:IntKind.i64.wrap (max off at0 - at0)=max off at0 - at0:=wrap64 (by omega) (by omega)
   have w4:IntKind.i64.wrap (min (off+n) (at0+c) - at0)=min (off+n) (at0+c) - at0:=wrap64 (by omega) (by omega)
   rw[if_pos hlt]
   simp (maxSteps:=4000000) only[go_sem,seval,w1,w2,w3,w4,ct,cPcs_dec,pureB_pcs,leafy_pcs,kReach,kVAllP,kText,kTellP,decL_pcs,renL_pcs,renL_ofB,ofBytes_app,ofBytes_len,map_ofB,Qd,Qa]
   refine⟨⟨hin,hF,hA⟩,⟨by omega,by omega,by rw[htl];omega⟩,?_,by decide,?_⟩
   ·rw[Qf,Qh,htl];omega
   (repeat' first | exact subX_eq rfl (pureB_pcs _) | exact subX_eq rfl (pureB_bytes _) | exact subX_self rfl | exact .inr ⟨⟨⟨rfl,rfl⟩,trivial⟩,trivial⟩ | exact leafy_ofB _ | omega | decide | rfl | trivial | apply And.intro)
  ·have ct:decide (max off at0<min (off+n) (at0+c))=false:=decide_eq_false hlt
   rw[if_neg hlt]
   simp (maxSteps:=4000000) only[go_sem,seval,w1,w2,ct,cPcs_dec,pureB_pcs,leafy_pcs,kReach,kVAllP,kText,kTellP,decL_pcs,renL_pcs,renL_ofB,ofBytes_app,ofBytes_len,Qa,Xc]
   (repeat' first | exact subX_eq rfl (pureB_pcs _) | exact subX_eq rfl (pureB_bytes _) | exact subX_self rfl | exact .inr ⟨⟨⟨rfl,rfl⟩,trivial⟩,trivial⟩ | exact leafy_ofB _ | omega | decide | rfl | trivial | apply And.intro)
 ·intro _
  rw[Q6,Qu (Qo _)]
  simp (maxSteps:=4000000) only[go_sem,seval,pureB_pcs,leafy_pcs,kReach,kVAllP,kText,kTellP,decL_pcs,renL_pcs,renL_ofB,Qa]
  (repeat' first | exact subX_eq rfl (pureB_pcs _) | exact subX_eq rfl (pureB_bytes _) | exact subX_self rfl | exact .inr ⟨⟨⟨rfl,rfl⟩,trivial⟩,trivial⟩ | exact leafy_ofB _ | omega | decide | rfl | trivial | apply And.intro)
end Go.Pg
namespace Go.Pg
open Go Go.Proofs
@[reducible] def Ss (s:List UInt8) (h:s≠[10]):Syms where
 av:=fun k=>match k with | 0=> .str s | 1=> .int .i64 (cntB 10 s) | _=> .int .i64 (Lib.indexByte s 10)
 tame:=fun k=>by rcases k with _ | _ | _ <;> rfl
 ae:=fun _=>3
 az:=fun _=>1
 avs:=fun _=>[]
 tames:=fun _=>rfl
 ln:=fun _=>0
 tbl:=[(.bin .eql 9,[.str [10],.sym 0],.bool false)]
theorem Ss_tbl (s:List UInt8)(hs:s≠[10]): @TblOK (Ss s hs) Tryz.prog:=by
 letI:=Ss s hs
 refine tblOK_of fun r hr=>?_
 change r∈[_] at hr
 simp only[Qe,Q8,or_false] at hr
 subst hr
 have e:(([10]:List UInt8) == s)=false:=beq_eq_false_iff_ne.2 fun h=>hs h.symm
 have h2:opkV Tryz.prog (.bin .eql 9) [.str [10],.str s]=some (.bool false):=by
  show strO .eql [10] s=_
  simp only[strO,e]
 exact h2
def isS0:List AV→Bool
 | [.sym 0,.int .u8 10]=>true
 | _=>false
theorem isS0_eq {xs:List AV}(h:isS0 xs=true):xs=[.sym 0,.int .u8 10]:=by
 unfold isS0 at h
 split at h
 ·rfl
 ·cases h
def extT:FuncId→List AV→Option AV:=fun f xs=>match isS0 xs with
 | true=>if f=273 then some (.sym 1) else if f=385 then some (.sym 2) else none
 | false=>none
def Lx:Lf where
 fn:=fun _ _ _=>none
 tl:=fun _ _=>none
 kl:=fun _=>false
 ext:=extT
theorem Lx_ok (s:List UInt8)(hs:s≠[10]): @LfOK (Ss s hs) Tryz.prog Lx:=by
 letI:=Ss s hs
 refine⟨Ss_tbl s hs,?_,?_,?_,?_⟩
 ·intro _ _ _ _ _ h;cases h
 ·unfold TlOK;intros;simp_all [Lx]
 ·unfold IdOK;intros;simp_all [Lx]
 ·intro fid xs v ev o h ho
  replace h:extT fid xs=some v:=h
  unfold extT at h
  split at h
  ·next hx=>
   have hx:=isS0_eq hx
   subst hx
   split at h
   ·next e=>
    cases h;subst e
    refine ext_pure run_cnt (fun E vals hv=>?_) ho
    obtain⟨u,v,rfl,h1,h2⟩:=hv.two'
    have h1:VR E (.str s) u:=(xp_VR (.sym 0) u).2 h1
    obtain⟨b,rfl,hb⟩:=h1.str_inv
    rw[h2.int_inv]
    refine⟨_,(xp_VR (.sym 1) _).1 (show VR E (.int .i64 (cntB 10 s)) (.int .i64 (cntB 10 s)) from .int _ _),?_⟩
    have:=Lib.run_countString (P:=Tryz.prog) b 10 E.W
    rw[cntB_eq,←hb]
    exact this
   ·split at h
    ·next e=>
     cases h;subst e
     refine ext_pure run_idx (fun E vals hv=>?_) ho
     obtain⟨u,v,rfl,h1,h2⟩:=hv.two'
     have h1:VR E (.str s) u:=(xp_VR (.sym 0) u).2 h1
     obtain⟨b,rfl,hb⟩:=h1.str_inv
     rw[h2.int_inv]
     refine⟨_,(xp_VR (.sym 2) _).1 (show VR E (.int .i64 (Lib.indexByte s 10)) (.int .i64 (Lib.indexByte s 10)) from .int _ _),?_⟩
     have:=Lib.run_indexByteString (P:=Tryz.prog) b 10 E.W
     rw[←hb]
     exact this
    ·cases h
  ·cases h
def Lx0:Lf where
 fn:=fun _ _ _=>none
 tl:=fun _ _=>none
 kl:=fun _=>false
 ext:=extL
theorem Lx0_ok: @LfOK (Ss [] (by decide)) Tryz.prog Lx0:=by
 letI:=Ss [] (by decide)
 refine⟨Ss_tbl [] (by decide),?_,?_,?_,?_⟩
 ·intro _ _ _ _ _ h;cases h
 ·unfold TlOK;intros;simp_all [Lx0]
 ·unfold IdOK;intros;simp_all [Lx0]
 ·exact extL_ok
theorem calls_Count [S:Syms] (s:List UInt8):CallsR Tryz.prog 203 [.str s,.str [10]] [] (.int .i64 (cntB 10 s)) []:=by
 by_cases hs:s=[10]
 ·subst hs
  have h1: @evF (Ss [] (by decide)) Tryz.prog Lx0 20 203 [.str [10],.str [10]] []= .ok (.int .i64 1,[]):=by kernel_rfl
  exact tr_calls (Ss [] (by decide)) S (by simp [ntL,nt]) (by simp [ntH]) (by simp [nt]) (by simp [ntH]) (@evF_ok (Ss [] (by decide)) _ _ Lx0_ok mixed _ _ _ _ _ _ h1)
 ·have h1: @evF (Ss s hs) Tryz.prog Lx 20 203 [.sym 0,.str [10]] []= .ok (.sym 1,[]):=by kernel_rfl
  have h2:=(@calls_xp (Ss s hs) _ _ _ _ _ _).2 (@evF_ok (Ss s hs) _ _ (Lx_ok s hs) mixed _ _ _ _ _ _ h1)
  exact tr_calls (Ss s hs) S (by simp [ntL,nt]) (by simp [ntH]) (by simp [nt]) (by simp [ntH]) h2
theorem calls_Index [S:Syms] (s:List UInt8):CallsR Tryz.prog 192 [.str s,.str [10]] [] (.int .i64 (Lib.indexByte s 10)) []:=by
 by_cases hs:s=[10]
 ·subst hs
  have h1: @evF (Ss [] (by decide)) Tryz.prog Lx0 20 192 [.str [10],.str [10]] []= .ok (.int .i64 0,[]):=by kernel_rfl
  exact tr_calls (Ss [] (by decide)) S (by simp [ntL,nt]) (by simp [ntH]) (by simp [nt]) (by simp [ntH]) (@evF_ok (Ss [] (by decide)) _ _ Lx0_ok mixed _ _ _ _ _ _ h1)
 ·have h1: @evF (Ss s hs) Tryz.prog Lx 20 192 [.sym 0,.str [10]] []= .ok (.sym 2,[]):=by kernel_rfl
  have h2:=(@calls_xp (Ss s hs) _ _ _ _ _ _).2 (@evF_ok (Ss s hs) _ _ (Lx_ok s hs) mixed _ _ _ _ _ _ h1)
  exact tr_calls (Ss s hs) S (by simp [ntL,nt]) (by simp [ntH]) (by simp [nt]) (by simp [ntH]) h2
end Go.Pg
namespace Go.Pg
open Go Go.Proofs
variable [Syms]
theorem cnt_app (c:UInt8):∀(a b:List UInt8),cntB c (a ++ b)=cntB c a+cntB c b
 | [],b=>by simp [cntB]
 | x :: r,b=>by
  simp only[Qi,cntB,cnt_app c r b]
  split <;> omega
theorem cnt_none (l:List UInt8)(h:(10:UInt8)∉l):cntB 10 l=0:=by
 induction l with
 | nil=>rfl
 | cons x r ih=>
  simp only[Qe,not_or] at h
  have:(x == 10)=false:=beq_eq_false_iff_ne.2 (fun e=>h.1 e.symm)
  simp only[cntB,this]
  exact ih h.2
theorem cnt_join:∀(ls:List Tb.Bs),Tb.clean ls→ls≠[]→cntB 10 (Tb.joinL ls)+1=ls.length
 | [],_,h=>absurd rfl h
 | [l],h,_=>by simp [Tb.joinL,cnt_none l (h l (by simp))]
 | l :: m :: r,h,_=>by
  have:=cnt_join (m :: r) (fun x hx=>h x (by simp only[Qe] at hx ⊢;exact .inr hx)) (by simp)
  rw[Tb.joinL,cnt_app,cnt_none l (h l (by simp))]
  simp only[cntB,Qs] at this ⊢
  simp
  omega
theorem idx_line (l r:List UInt8)(h:(10:UInt8)∉l):Lib.indexByte (l ++ 10 :: r) 10=l.length:=by
 induction l with
 | nil=>simp [Lib.indexByte]
 | cons x q ih=>
  simp only[Qe,not_or] at h
  have hx:(x == 10)=false:=beq_eq_false_iff_ne.2 (fun e=>h.1 e.symm)
  simp only[Qi,Lib.indexByte,hx,ih h.2]
  have:((q.length:Int) == -1)=false:=beq_eq_false_iff_ne.2 (by omega)
  simp [this]
theorem join_len:∀(ls:List Tb.Bs),ls≠[]→ls.length≤(Tb.joinL ls).length+1
 | [],h=>absurd rfl h
 | [l],_=>by simp [Tb.joinL]
 | l :: m :: r,_=>by
  have:=join_len (m :: r) (by simp)
  simp only[Tb.joinL,Qd,Qs] at this ⊢
  omega
def kCnt:C1:=C1.by [.id,.id] (lCons cStr (lOne cStr)) (fun d=>d.2=[10]) (fun d=> .int .i64 (cntB 10 d.1)) (fun _=>[])
theorem ok_Cnt:C1OK Tryz.prog 203 kCnt:=C1OK.by (by kernel_rfl) (fun d h=>by obtain⟨a,b⟩:=d;replace h:b=[10]:=h;subst h;exact calls_Count a) (fun _=>rfl) (fun _=>rfl)
def kIdxN:C1:=C1.by [.id,.id] (lCons cStr (lOne cStr)) (fun d=>d.2=[10]) (fun d=> .int .i64 (Lib.indexByte d.1 10)) (fun _=>[])
theorem ok_IdxN:C1OK Tryz.prog 192 kIdxN:=C1OK.by (by kernel_rfl) (fun d h=>by obtain⟨a,b⟩:=d;replace h:b=[10]:=h;subst h;exact calls_Index a) (fun _=>rfl) (fun _=>rfl)
def spP (ls:List Tb.Bs)(i:Nat):List Tb.Bs:=ls.take i ++ Xe (ls.length - i) []
theorem spP_len (ls:List Tb.Bs)(i:Nat)(h:i≤ls.length):(spP ls i).length=ls.length:=by simp [spP];omega
theorem spP_set (ls:List Tb.Bs)(i:Nat)(h:i<ls.length):(spP ls i).set i (ls.getD i [])=spP ls (i+1):=by
 unfold spP
 have e:ls.length - i=(ls.length - (i+1))+1:=by omega
 have t:ls.take (i+1)=ls.take i ++ [ls.getD i []]:=by rw[Qp,Qb h,Qc,Qb h];rfl
 rw[e,List.replicate_succ,List.set_append_right _ _ (by rw[Qf];omega),Qf,Nat.min_eq_left (by omega),Nat.sub_self,List.set_cons_zero,t,Q5]
 rfl
theorem spP_full (ls:List Tb.Bs):spP ls ls.length=ls:=by simp [spP]
set_option maxRecDepth 20000 in
set_option maxHeartbeats 8000000 in
theorem calls_gsplit (ls:List Tb.Bs)(hc:Tb.clean ls)(hne:ls≠[])(hl:(Tb.joinL ls).length≤60000) :
 CallsR Tryz.prog 144 [.str (Tb.joinL ls),.str [10],.int .i64 0,.int .i64 (-1)] [] (.sl 1 (ls.map .str)) []:=by
 refine callsR_of (mrg:=true) (dyn:=[]) (CtrOK.cons ok_Cnt (CtrOK.cons ok_IdxN (CtrOK.nil _))) mixed Tryz.func144 rfl (by simp [Tryz.ntmps144,AV.cells]) (by kernel_rfl) ?_
 rw[show Tryz.f144.results.toList=[.tmp 8] from by kernel_rfl]
 have hcnt:=cnt_join ls hc hne
 have hjl:=join_len ls hne
 have hpos:0<ls.length:=List.length_pos_iff.2 hne
 have w1:IntKind.i64.wrap ((cntB 10 (Tb.joinL ls):Int)+1)=(ls.length:Int):=by rw[wrap64 (by omega) (by omega)];omega
 have w2:IntKind.i64.wrap (((Tb.joinL ls).length:Int)+1)=((Tb.joinL ls).length:Int)+1:=wrap64 (by omega) (by omega)
 have w3:min (ls.length:Int) (((Tb.joinL ls).length:Int)+1)=(ls.length:Int):=by omega
 have w4:IntKind.i64.wrap ((ls.length:Int) - 1)=(ls.length:Int) - 1:=wrap64 (by omega) (by omega)
 have ceq:(([10]:List UInt8) == [])=false:=rfl
 simp (maxSteps:=4000000) only[go_sem,seval,ceq,w1,w2,w3,w4,kCnt,kIdxN,Qa,Qg]
 have h0:Xe ls.length (AV.str [])=(spP ls 0).map AV.str:=by simp [spP]
 refine⟨⟨by omega,by omega⟩,?_⟩
 refine loopH_intro (α:=Nat) (fun i=>([(0,.str (Tb.joinL (ls.drop i))),(1,.str [10]),(2,.int .i64 0),(3,.int .i64 ((ls.length:Int) - 1)),(9,.own 0 1 ls.length),(10,.int .i64 i)],[.arr 9 1 ((spP ls i).map .str)]))
  (fun i=>i<ls.length) (fun i=>ls.length - i) 0 hpos ?_ ?_
 ·rw[←h0]
  simp (maxSteps:=4000000) only[go_sem,seval,Qa,List.drop_zero]
  rw[h0]
  exact subX_eq rfl (pureB_strs _)
 intro i hi
 have hsl:=spP_len ls i (by omega)
 have hset:=spP_set ls i hi
 have hsl1:=spP_len ls (i+1) (by omega)
 have hin:(0≤(i:Int)∧i<ls.length)=True:=eq_true ⟨by omega,hi⟩
 obtain⟨l,r,hd⟩:∃l r,ls.drop i=l :: r:=by
  cases hq:ls.drop i with
  | nil=>rw[List.drop_eq_nil_iff] at hq;omega
  | cons l r=>exact⟨l,r,rfl⟩
 have hgi:ls.getD i []=l:=by
  have:=List.getElem?_drop (xs:=ls) (i:=i) (j:=0)
  rw[hd] at this
  rw[Qc,←Nat.add_zero i,←this];rfl
 have hlc:(10:UInt8)∉l:=hc l (Qz (by rw[hd];simp))
 have hd1:ls.drop (i+1)=r:=by rw[←Xf,hd];rfl
 by_cases hlt:(i:Int)< (ls.length:Int) - 1
 ·have ct:decide ((i:Int)< (ls.length:Int) - 1)=true:=decide_eq_true hlt
  obtain⟨m,q,hr⟩:∃m q,r=m :: q:=by
   cases hq:r with
   | nil=>
    have:=congrArg Q9 hd
    rw[hq,Qh] at this
    simp at this;omega
   | cons m q=>exact⟨m,q,rfl⟩
  have hj:Tb.joinL (ls.drop i)=l ++ 10 :: Tb.joinL r:=by rw[hd,hr];rfl
  have hix:Lib.indexByte (l ++ 10 :: Tb.joinL r) 10=(l.length:Int):=idx_line _ _ hlc
  have cn:decide ((l.length:Int)<0)=false:=decide_eq_false (by omega)
  have hjb:(Tb.joinL (ls.drop i)).length≤60000:=by
   have:=congrArg Q9 (Tb.join_app (ls.take i) (ls.drop i) (by rw[hd];simp))
   rw[Ql,Qd] at this
   omega
  rw[hj] at hjb ⊢
  rw[Qd,Qs] at hjb
  have w5:IntKind.i64.wrap ((l.length:Int)+0)=(l.length:Int):=by rw[Int.add_zero];exact wrap64 (by omega) (by omega)
  have w6:IntKind.i64.wrap ((l.length:Int)+1)=((l.length+1:Nat):Int):=by rw[wrap64 (by omega) (by omega)];omega
  have w7:IntKind.i64.wrap ((i:Int)+1)=((i+1:Nat):Int):=by rw[wrap64 (by omega) (by omega)];omega
  have ht:(l ++ 10 :: Tb.joinL r).take l.length=l:=by simp
  have hdr:(l ++ 10 :: Tb.joinL r).drop (l.length+1)=Tb.joinL r:=by rw[←Xf,List.drop_left];rfl
  have hsm:((spP ls i).map AV.str).set i (.str l)=(spP ls (i+1)).map AV.str:=by rw[←hset,hgi,Q4]
  simp (maxSteps:=4000000) only[go_sem,seval,ct,hix,cn,w5,w6,w7,ht,hdr,hin,hsl,hsm,hd1,kCnt,kIdxN,Qa,Qg]
  exact⟨⟨by omega,by omega⟩,⟨by omega,by omega⟩,hi,⟨by omega,by omega⟩,i+1,by omega,by omega,subX_eq rfl (pureB_strs _),by rw[hd1],rfl⟩
 ·have ct:decide ((i:Int)< (ls.length:Int) - 1)=false:=decide_eq_false hlt
  have hil:i+1=ls.length:=by omega
  have hr:r=[]:=by
   have:=congrArg Q9 hd
   rw[Qh] at this
   simp at this
   exact List.eq_nil_of_length_eq_zero (by omega)
  have hj:Tb.joinL (ls.drop i)=l:=by rw[hd,hr];rfl
  rw[hj]
  have w7:IntKind.i64.wrap ((i:Int)+1)=(ls.length:Int):=by rw[wrap64 (by omega) (by omega)];omega
  have hsm:((spP ls i).map AV.str).set i (.str l)=ls.map AV.str:=by rw[show ls.map AV.str=(spP ls ls.length).map AV.str by rw[spP_full],←hil,←hset,hgi,Q4]
  have htk:(ls.map AV.str).take ls.length=ls.map AV.str:=Qu (by rw[Qa];exact Qo _)
  simp (maxSteps:=4000000) only[go_sem,seval,ct,w7,hin,hsl,hsm,htk,kCnt,kIdxN,Qa,Qg]
  exact⟨⟨by omega,by omega⟩,hi,by omega,by omega⟩
def splitL:List UInt8→List Tb.Bs
 | []=>[[]]
 | c :: r=>if c=10 then[] :: splitL r else match splitL r with
  | l :: q=>(c :: l) :: q
  | []=>[[c]]
theorem split_ne:∀T,splitL T≠[]
 | []=>by simp [splitL]
 | c :: r=>by
  unfold splitL
  split
  ·simp
  ·split <;> simp
theorem split_line:∀(l:Tb.Bs)(r:List UInt8),(10:UInt8)∉l→splitL (l ++ 10 :: r)=l :: splitL r
 | [],r,_=>by simp [splitL]
 | c :: q,r,h=>by
  simp only[Qe,not_or] at h
  simp only[Qi,splitL,if_neg (fun e=>h.1 (Eq.symm e)),split_line q r h.2]
theorem split_one:∀(l:Tb.Bs),(10:UInt8)∉l→splitL l=[l]
 | [],_=>rfl
 | c :: q,h=>by
  simp only[Qe,not_or] at h
  simp only[splitL,if_neg (fun e=>h.1 (Eq.symm e)),split_one q h.2]
theorem split_join:∀(ls:List Tb.Bs),Tb.clean ls→ls≠[]→splitL (Tb.joinL ls)=ls
 | [],_,h=>absurd rfl h
 | [l],h,_=>split_one l (h l (by simp))
 | l :: m :: r,h,_=>by
  rw[Tb.joinL,split_line _ _ (h l (by simp)),split_join (m :: r) (fun x hx=>h x (by simp only[Qe] at hx ⊢;exact .inr hx)) (by simp)]
theorem join_split:∀(T:Tb.Bs),Tb.joinL (splitL T)=T
 | []=>rfl
 | c :: r=>by
  have ih:=join_split r
  unfold splitL
  split
  ·next h=>
   subst h
   cases hs:splitL r with
   | nil=>exact absurd hs (split_ne r)
   | cons l q=>rw[hs] at ih;simp [Tb.joinL,ih]
  ·cases hs:splitL r with
   | nil=>exact absurd hs (split_ne r)
   | cons l q=>
    rw[hs] at ih
    simp only
    cases q with
    | nil=>simp only[Tb.joinL] at ih ⊢;rw[ih]
    | cons m q=>simp only[Tb.joinL,Qi] at ih ⊢;rw[ih]
theorem clean_split:∀(T:Tb.Bs),Tb.clean (splitL T)
 | []=>fun l hl=>by simp [splitL] at hl;subst hl;simp
 | c :: r=>by
  have ih:=clean_split r
  unfold splitL
  split
  ·intro l hl
   simp only[Qe] at hl
   rcases hl with rfl | hl
   ·simp
   ·exact ih l hl
  ·next hc=>
   split
   ·next l q hs=>
    rw[hs] at ih
    intro x hx
    simp only[Qe] at hx
    rcases hx with rfl | hx
    ·have:=ih l (by simp)
     simp only[Qe,not_or]
     exact⟨fun e=>hc e.symm,this⟩
    ·exact ih x (by simp [hx])
   ·intro x hx
    simp only[Qj] at hx
    subst hx
    simp only[Qj]
    exact fun e=>hc e.symm
def kGsplit:C1:=C1.by [.id,.id,.id,.id] (lCons cStr (lCons cStr (lCons (cInt .i64) (lOne (cInt .i64))))) (fun d=>d.2.1=[10]∧d.2.2.1=0∧d.2.2.2= -1∧d.1.length≤60000) (fun d=> .sl 1 ((splitL d.1).map .str)) (fun _=>[])
theorem ok_Gsplit:C1OK Tryz.prog 144 kGsplit:=C1OK.by (by kernel_rfl) (fun d h=>by
 obtain⟨a,b,c,e⟩:=d
 obtain⟨h1,h2,h3,h4⟩:=h
 replace h1:b=[10]:=h1
 replace h2:c=0:=h2
 replace h3:e= -1:=h3
 subst h1 h2 h3
 have h:=calls_gsplit (splitL a) (clean_split a) (split_ne a) (by rw[join_split];exact h4)
 rw[join_split] at h
 exact h) (fun _=>rfl) (fun _=>rfl)
theorem calls_Split (T:Tb.Bs)(h:T.length≤60000):CallsR Tryz.prog 82 [.str T,.str [10]] [] (.sl 1 ((splitL T).map .str)) []:=by
 refine callsR_of (mrg:=true) (dyn:=[]) (CtrOK.cons ok_Gsplit (CtrOK.nil _)) mixed Tryz.func82 rfl (by simp [Tryz.ntmps82,AV.cells]) (by kernel_rfl) ?_
 rw[show Tryz.f82.results.toList=[.tmp 4] from by kernel_rfl]
 simp (maxSteps:=4000000) only[go_sem,seval,kGsplit,Qa]
 exact h
end Go.Pg
namespace Go.Pg
open Go Go.Proofs
variable [Syms]
def cN (l:List Nat):List Int:=l.map Int.ofNat
abbrev xH (n:Int)(l:List Nat):AH:=[.arr 216 2 [.agg [.ptr 1 1 1 0 0,.int .i64 n]],.arr 288 1 [.agg [.own 2 1 (cN l).length]],.arr 3 1 ((cN l).map bInt)]
theorem cN_len (l:List Nat):(cN l).length=l.length:=by simp [cN]
theorem cN_getD (l:List Nat)(i:Nat):(cN l).getD i 0=((l.getD i 0:Nat):Int):=getD_map Int.ofNat l i 0
set_option maxRecDepth 20000 in
set_option maxHeartbeats 4000000 in
theorem calls_line (T:Tb.Bs)(n:Int)(off:Nat)(h:off≤T.length)(hT:T.length≤1099511627000)(hl:(Tb.starts T).length≤1099511627000) :
 CallsR Tryz.prog 198 [.ptr 0 2 1 0 0,.int .i64 off] (xH n (Tb.starts T)) (.int .i64 (Tb.nls 0 (T.take off)).length) (xH n (Tb.starts T)):=by
 refine callsR_of (mrg:=true) (dyn:=[]) (CtrOK.cons ok_LenI (CtrOK.cons ok_AtI (CtrOK.nil _))) mixed Tryz.func198 rfl (by simp [Tryz.ntmps198,AV.cells]) (by kernel_rfl) ?_
 rw[show Tryz.f198.results.toList=[.tmp 4] from by kernel_rfl]
 have hlen:=cN_len (Tb.starts T)
 have hbox:subX (xH n (Tb.starts T)) [] [some 0,some 1,some 2] [AV.agg [.ptr 1 1 1 0 0,.int .i64 n]] [AV.agg [.ptr 1 1 1 0 0,.int .i64 n]]∧
  subX (xH n (Tb.starts T)) [] [some 0,some 1,some 2] [AV.agg [.own 2 1 (Tb.starts T).length]] [AV.agg [.own 2 1 (Tb.starts T).length]]∧
  subX (xH n (Tb.starts T)) [] [some 0,some 1,some 2] ((cN (Tb.starts T)).map bInt) ((cN (Tb.starts T)).map bInt):=
  ⟨.inr ⟨⟨⟨rfl,rfl,rfl,rfl,rfl⟩,by simp [subV,resIn,res],trivial⟩,trivial⟩,.inr ⟨⟨⟨rfl,rfl,rfl⟩,trivial⟩,trivial⟩,subX_eq rfl (pureB_bints _)⟩
 rw[xH,hlen] at hbox
 simp (maxSteps:=4000000) only[go_sem,Int.reduceBEq,Int.reduceBNe,Int.reduceLE,Int.reduceLT,Int.reduceToNat,Nat.reduceAdd,Nat.reduceBEq,Nat.reduceBNe,Nat.reduceEqDiff,Nat.reduceLT,Nat.reduceLeDiff,Nat.reduceMul,Nat.reducePow,Nat.reduceSub,UInt8.reduceOfNat,reduceCtorEq,reduceIte,pureB_bints,leafy_bints,kLenI,kAtI,decL_bints,getD_bints,renL_bints,Qa]
 refine loopH_intro (α:=Nat×Nat) (fun x=>([(0,.ptr 0 2 1 0 0),(1,.int .i64 off),(5,.int .i64 x.1),(6,.int .i64 x.2)],xH n (Tb.starts T)))
  (fun x=>x.1<x.2∧x.2≤(Tb.starts T).length∧(Tb.starts T).getD x.1 0≤off∧(x.2< (Tb.starts T).length→off< (Tb.starts T).getD x.2 0)) (fun x=>x.2 - x.1) (0,(Tb.starts T).length) (by simp [Tb.starts]) ?_ ?_
 ·simp (maxSteps:=4000000) only[go_sem,Int.reduceBEq,Int.reduceBNe,Int.reduceLE,Int.reduceLT,Int.reduceToNat,Nat.reduceAdd,Nat.reduceBEq,Nat.reduceBNe,Nat.reduceEqDiff,Nat.reduceLT,Nat.reduceLeDiff,Nat.reduceMul,Nat.reducePow,Nat.reduceSub,UInt8.reduceOfNat,reduceCtorEq,reduceIte,hlen,pureB_bints,Qa]
  exact⟨by decide,hbox⟩
 rintro⟨low,high⟩ ⟨h1,h2,h3,h4⟩
 dsimp only at h1 h2 h3 h4
 by_cases hgt:(1:Int)< (high:Int) - low
 ·have hw:IntKind.i64.wrap ((high:Int) - low)=(high:Int) - low:=wrap64 (by omega) (by omega)
  have hq:((high:Int) - low).tdiv 2=(((high - low) / 2:Nat):Int):=by
   rw[Int.tdiv_eq_ediv_of_nonneg (by omega)];omega
  have hw2:IntKind.i64.wrap ((((high - low) / 2:Nat):Int))=(((high - low) / 2:Nat):Int):=wrap64 (by omega) (by omega)
  have hw3:IntKind.i64.wrap ((low:Int)+(((high - low) / 2:Nat):Int))=((low+(high - low) / 2:Nat):Int):=by rw[wrap64 (by omega) (by omega)];omega
  have hin:(0≤((low+(high - low) / 2:Nat):Int)∧((low+(high - low) / 2:Nat):Int)< ((Tb.starts T).length:Int))=True:=eq_true ⟨by omega,by omega⟩
  simp (maxSteps:=4000000) only[go_sem,Int.reduceBEq,Int.reduceBNe,Int.reduceLE,Int.reduceLT,Int.reduceToNat,Nat.reduceAdd,Nat.reduceBEq,Nat.reduceBNe,Nat.reduceEqDiff,Nat.reduceLT,Nat.reduceLeDiff,Nat.reduceMul,Nat.reducePow,Nat.reduceSub,UInt8.reduceOfNat,reduceCtorEq,reduceIte,hlen,hw,hq,hw2,hw3,hin,Qg,cN_getD,pureB_bints,leafy_bints,kLenI,kAtI,decL_bints,getD_bints,renL_bints,Qa]
  refine⟨fun _=>⟨by decide,by omega,fun hle=>⟨(low+(high - low) / 2,high),⟨by dsimp only;omega,h2,by dsimp only;omega,h4⟩,by dsimp only;omega,by decide,hbox,rfl,rfl⟩,
   fun hlt=>⟨(low,low+(high - low) / 2),⟨by dsimp only;omega,by dsimp only;omega,h3,fun _=>by dsimp only;omega⟩,by dsimp only;omega,by decide,hbox,rfl,rfl⟩⟩,fun hle=>by omega⟩
 ·have hw:IntKind.i64.wrap ((high:Int) - low)=(high:Int) - low:=wrap64 (by omega) (by omega)
  have hc:decide ((high:Int) - low > 1)=false:=decide_eq_false (by omega)
  simp (maxSteps:=4000000) only[go_sem,Int.reduceBEq,Int.reduceBNe,Int.reduceLE,Int.reduceLT,Int.reduceToNat,Nat.reduceAdd,Nat.reduceBEq,Nat.reduceBNe,Nat.reduceEqDiff,Nat.reduceLT,Nat.reduceLeDiff,Nat.reduceMul,Nat.reducePow,Nat.reduceSub,UInt8.reduceOfNat,reduceCtorEq,reduceIte,hlen,hw,hc,pureB_bints,leafy_bints,Qa]
  have hu:=Tb.line_unique T (off:=off) (r:=low) h (by omega) h3 (fun hh=>by rw[show low+1=high by omega] at hh ⊢;exact h4 hh)
  rw[xH,hlen]
  exact⟨by decide,hbox,by rw[hu]⟩
end Go.Pg
