/- view.Scroll. What is given by hand for the runs of keys. An engine's objects. (Printed by mkfw.py.) TopSwap: every case by the evaluator. (Printed by mkfz.py.) -/
import Derived.Test.YtjbgnnggmngpcaaGreatDoorPgHx2
import Derived.Test.YtjbgnnggmngpcaaGreatDoorPgHx0
import Derived.Test.YtjbgnnggmngpcaaGreatDoorPgGf
import Derived.Test.YtjbgnnggmngpcaaGreatDoorPgZab
set_option linter.unusedVariables false
set_option linter.unusedSimpArgs false
set_option linter.unusedSectionVars false
open List renaming getD_eq_getElem?_getD → Qa,length_take → Qb,getElem?_append_right → Qc,take_append_drop → Qe,range → Qf
open Nat renaming eq_of_beq_eq_true → Qd
namespace Go.Pg
open Go Go.Proofs
variable [Syms]
def scrF (top count:Int):Int:=min (max top 0) (max (count - 1) 0)
def scr (top line count:Int):Int:=
 if count<1 then 0 else if line<scrF top count then max line 0 else if line - scrF top count≥10 then line - 10+1 else scrF top count
theorem calls_near (n:Int)(h: -60000≤n∧n≤60000):CallsR Tryz.prog 154 [.int .i64 n] [] (.int .i64 n) []:=by
 refine callsR_of (mrg:=true) (dyn:=[]) (CtrOK.nil _) mixed Tryz.func154 rfl (by simp [Tryz.ntmps154,AV.cells]) (by kernel_rfl) ?_
 rw[show Tryz.f154.results.toList=[.tmp 2] from by kernel_rfl]
 have e:min (max n (-1073741824)) 1073741824=n:=by omega
 simp (maxSteps:=4000000) only[go_sem,seval,e]
def kNear:C1:=C1.by [.id] (lOne (cInt .i64)) (fun n=> -60000≤n∧n≤60000) (fun n=> .int .i64 n) (fun _=>[])
theorem ok_near:C1OK Tryz.prog 154 kNear:=C1OK.by (by kernel_rfl) (fun d h=>calls_near d h) (fun _=>rfl) (fun _=>rfl)
theorem calls_vfirst (t c:Int)(h1: -60000≤t∧t≤60000)(h2: -60000≤c∧c≤60000):CallsR Tryz.prog 153 [.int .i64 t,.int .i64 c] [] (.int .i64 (scrF t c)) []:=by
 refine callsR_of (mrg:=true) (dyn:=[]) (CtrOK.cons ok_near (CtrOK.nil _)) mixed Tryz.func153 rfl (by simp [Tryz.ntmps153,AV.cells]) (by kernel_rfl) ?_
 rw[show Tryz.f153.results.toList=[.tmp 4] from by kernel_rfl]
 have w1:IntKind.i64.wrap (c - 1)=c - 1:=wrap64 (by omega) (by omega)
 simp (maxSteps:=4000000) only[go_sem,seval,kNear,w1,scrF]
 exact⟨h1,h2⟩
def kVfirst:C1:=C1.by [.id,.id] (lCons (cInt .i64) (lOne (cInt .i64))) (fun d=>(-60000≤d.1∧d.1≤60000)∧ -60000≤d.2∧d.2≤60000) (fun d=> .int .i64 (scrF d.1 d.2)) (fun _=>[])
theorem ok_vfirst:C1OK Tryz.prog 153 kVfirst:=C1OK.by (by kernel_rfl) (fun d h=>calls_vfirst d.1 d.2 h.1 h.2) (fun _=>rfl) (fun _=>rfl)
theorem calls_Scroll (top line count:Int)(h1: -60000≤top∧top≤60000)(h2: -60000≤line∧line≤60000)(h3: -60000≤count∧count≤60000):CallsR Tryz.prog 91 [.int .i64 top,.int .i64 line,.int .i64 count] [] (.int .i64 (scr top line count)) []:=by
 refine callsR_of (mrg:=true) (dyn:=[]) (CtrOK.cons ok_near (CtrOK.cons ok_vfirst (CtrOK.nil _))) mixed Tryz.func91 rfl (by simp [Tryz.ntmps91,AV.cells]) (by kernel_rfl) ?_
 rw[show Tryz.f91.results.toList=[.tmp 6] from by kernel_rfl]
 have hb:0≤scrF top count∧scrF top count≤60000:=by unfold scrF;omega
 have w1:IntKind.i64.wrap (line - scrF top count)=line - scrF top count:=wrap64 (by omega) (by omega)
 have w2:IntKind.i64.wrap (line - 10)=line - 10:=wrap64 (by omega) (by omega)
 have w3:IntKind.i64.wrap (line - 10+1)=line - 10+1:=wrap64 (by omega) (by omega)
 unfold scr
 by_cases c1:count<1
 ·have d1:decide (count<1)=true:=decide_eq_true c1
  rw[if_pos c1]
  simp (maxSteps:=4000000) only[go_sem,seval,kNear,kVfirst,w1,w2,w3,d1]
  exact⟨⟨h1,h3⟩,h2⟩
 ·have d1:decide (count<1)=false:=decide_eq_false c1
  rw[if_neg c1]
  by_cases c2:line<scrF top count
  ·have d2:decide (line<scrF top count)=true:=decide_eq_true c2
   rw[if_pos c2]
   simp (maxSteps:=4000000) only[go_sem,seval,kNear,kVfirst,w1,w2,w3,d1,d2]
   exact⟨⟨h1,h3⟩,h2⟩
  ·have d2:decide (line<scrF top count)=false:=decide_eq_false c2
   rw[if_neg c2]
   by_cases c3:line - scrF top count≥10
   ·have d3:decide (line - scrF top count≥10)=true:=decide_eq_true c3
    rw[if_pos c3]
    simp (maxSteps:=4000000) only[go_sem,seval,kNear,kVfirst,w1,w2,w3,d1,d2,d3]
    exact⟨⟨h1,h3⟩,h2⟩
   ·have d3:decide (line - scrF top count≥10)=false:=decide_eq_false c3
    rw[if_neg c3]
    simp (maxSteps:=4000000) only[go_sem,seval,kNear,kVfirst,w1,w2,w3,d1,d2,d3]
    exact⟨⟨h1,h3⟩,h2⟩
end Go.Pg
namespace Go.Pg
open Go Go.Proofs
def tlB (f:FuncId)(xs:List AV):Option (List (List AV)):=
 match Nat.beq f 190 || Nat.beq f 415 with
 | true=>match xs with
  | [.rp [.nls]]=>some []
  | _=>none
 | false=>none
def kB:Lf where
 fn _ _ _:=none
 tl:=tlB
 kl _:=false
 ext:=extL
theorem ItR_nlsB [Syms] {P:Program}{g:FuncId}{X:Tell}(h:ItR P g [.rp [.sl 2 []]] X):ItR P g [.rp [.nls]] X:=by
 intro W st lb h1 h2 h3
 refine h W st lb h1 h2 fun i c hc=>?_
 match i,hc with
 | i+1,hc=>simp at hc
 | 0,hc=>
  cases hc
  have:=h3 0 _ rfl
  generalize hv:lb.getD 0 Go.undef=v at this
  cases this with
  | rp _ b o f q1 q2 q3=>
   refine .rp _ b o f (fun _=>q1 (by simp)) (fun j c hj=>?_) (fun j c hj=>?_)
   ·match j,hj with
    | j+1,hj=>simp at hj
    | 0,hj=>exact q2 0 _ rfl
   ·match j,hj with
    | j+1,hj=>simp at hj
    | 0,hj=>
     cases hj
     have:=q3 0 _ rfl
     generalize hw:f 0=w at this
     cases this
     exact .sl 2 [] none 0 (fun _ _=>Go.undef) (Nat.le_refl _) (fun i v hi=>by simp at hi) (fun i v j c hi=>by simp at hi)
theorem tlB_ok [Syms]:TlOK Tryz.prog tlB:=by
 intro fid xs ys h
 unfold tlB at h
 split at h
 ·next hf=>
  split at h
  ·cases h
   rcases Bool.or_eq_true .. ▸ hf with hf | hf
   ·obtain rfl:=Qd hf
    exact ItR_nlsB it_All_pos0
   ·obtain rfl:=Qd hf
    exact ItR_nlsB it_Back_pos0
  ·cases h
 ·cases h
theorem kB_ok [Syms] (h:TblOK Tryz.prog):LfOK Tryz.prog kB where
 tb:=h
 fn _ _ _ _ _ h:=by cases h
 tl:=tlB_ok
 idl:=fun _ _ _ _ _ h=>by cases h
 ext:=extL_ok
end Go.Pg
namespace Go.Pg
open Go Go.Proofs
abbrev eJ (F:Tb.Bs)(A:Tb.Bs)(c0:List Pc)(t0:List Int)(k:Int)(top:Int)(size:Int)(ed:Int)(ah:Int):AH:=
 [.arr 49 7 [.agg [Z21,Z54,Z58,Z3,.nls,Z3,Z2]],.arr 83 32 [.agg [.int .i64 (k),Z1,Z1,.int .i64 (top),Z3,Z3,Z7,Z2,Z23,Z1,Z1,Z1,Z28,Z27,Z26,Z24,Z1,Z1,Z1,.nls,Z2,.npt,Z3,Z1,Z7,Z7,Z3,Z7,.nls,Z2,.int .i64 ah,Z1]],Z5,.arr 211 6 [.agg [.str F,.own 4 1 A.length,Z29,.int .i64 (size),Z10,.int .i64 (ed)]],.arr 5 1 (ofBytes A),.arr 283 1 [.agg [.own 6 3 c0.length]],.arr 209 3 (c0.map aPc),.arr 216 2 [.agg [Z30,.int .i64 (size)]],.arr 288 1 [.agg [.own 9 1 t0.length]],.arr 3 1 (t0.map bInt),Z15,Z44,Z14,Z44,.arr 135 2 [.agg [Z25,Z1]],Z13,.arr 155 3 [.agg [Z59,Z1,.npt]],Z41,.arr 103 14 [.agg [Z1,Z2,Z2,Z2,Z3,Z1,Z7,Z7,Z3,Z7,Z1,Z2,Z1,Z2]],Z4]
theorem nt_eJ [Syms] (F:Tb.Bs)(A:Tb.Bs)(c0:List Pc)(t0:List Int)(k:Int)(top:Int)(size:Int)(ed:Int)(ah:Int):ntH (eJ F A c0 t0 k top size ed ah)=true:=by simp [ntH,ntO,ntE,ntL,nt,nt_bytes,nt_pcs,nt_bints]
abbrev eP (F:Tb.Bs)(s:Tb.Bs)(A2:Tb.Bs)(c2:List Pc)(t2:List Int)(k:Int)(fc:Int)(fs:Int)(size:Int)(top2:Int)(ed:Int):AH:=
 [.arr 49 7 [.agg [Z21,Z54,Z58,Z3,.nls,Z3,Z2]],.arr 83 32 [.agg [.int .i64 (k+1),.int .i64 (fs),.int .i64 (fs),.int .i64 (top2),Z3,Z3,Z7,Z2,Z23,Z1,Z1,Z1,Z28,Z27,Z26,Z24,Z1,Z1,Z1,.nls,Z2,.npt,Z3,Z1,Z7,Z75,Z3,Z7,.nls,Z18,.int .i64 (k),.int .i64 (fc)]],Z5,.arr 211 6 [.agg [.str F,.own 4 1 A2.length,Z29,.int .i64 (size),Z10,.int .i64 (ed+2)]],.arr 5 1 (ofBytes A2),.arr 283 1 [.agg [.own 21 3 c2.length]],.dead,.arr 216 2 [.agg [Z30,.int .i64 (size)]],.arr 288 1 [.agg [.own 22 1 t2.length]],.dead,Z15,.mp [(Z57,.agg [Z17,.sl 1 [.str s]]),(Z32,.agg [Z17,.sl 1 [.str s]])],Z14,Z44,.arr 135 2 [.agg [Z25,Z1]],Z13,Z8,Z67,.arr 103 14 [.agg [Z1,Z2,Z2,Z2,Z3,Z1,Z7,Z7,Z3,Z7,Z1,Z2,Z1,Z2]],Z4,.arr 5 1 [Z52,Z52,.int .u8 (112)],.arr 209 3 (c2.map aPc),.arr 3 1 (t2.map bInt),.arr 152 5 [.agg [.int .i64 (k),Z1,.int .i64 (k),.int .i64 (fc),.own 24 3 1],.agg [.int .i64 (k),.int .i64 (fc),.int .i64 (k+1),.int .i64 (fs),.own 25 3 1]],.arr 107 3 [.agg [.int .i64 (k),.sl 1 [.str s],.nls]],.arr 107 3 [.agg [.int .i64 (k+1),.nls,.own 26 1 1]],.arr 9 1 [.str s]]
theorem nt_eP [Syms] (F:Tb.Bs)(s:Tb.Bs)(A2:Tb.Bs)(c2:List Pc)(t2:List Int)(k:Int)(fc:Int)(fs:Int)(size:Int)(top2:Int)(ed:Int):ntH (eP F s A2 c2 t2 k fc fs size top2 ed)=true:=by simp [ntH,ntO,ntE,ntL,nt,nt_bytes,nt_pcs,nt_bints]
abbrev eQ (F:Tb.Bs)(s:Tb.Bs)(A2:Tb.Bs)(c2:List Pc)(t2:List Int)(k:Int)(fc:Int)(fs:Int)(top:Int)(size:Int)(ed:Int):AH:=
 [.arr 49 7 [.agg [Z21,Z54,Z58,Z3,.nls,Z3,Z2]],.arr 83 32 [.agg [.int .i64 (k),.int .i64 (fs),.int .i64 (fs),.int .i64 (top),Z3,Z3,Z7,Z2,Z23,Z1,Z1,Z1,Z28,Z27,Z26,Z24,Z1,Z1,Z1,.nls,Z2,.npt,Z3,Z1,Z7,.str [80],Z3,Z7,.nls,Z18,.int .i64 (k),.int .i64 (fc)]],Z5,.arr 211 6 [.agg [.str F,.own 4 1 A2.length,Z29,.int .i64 (size),Z10,.int .i64 (ed+2)]],.arr 5 1 (ofBytes A2),.arr 283 1 [.agg [.own 21 3 c2.length]],.dead,.arr 216 2 [.agg [Z30,.int .i64 (size)]],.arr 288 1 [.agg [.own 22 1 t2.length]],.dead,Z15,.mp [(Z57,.agg [Z17,.sl 1 [.str s]]),(Z32,.agg [Z17,.sl 1 [.str s]])],Z14,Z44,.arr 135 2 [.agg [Z25,Z1]],Z13,Z8,Z67,.arr 103 14 [.agg [Z1,Z2,Z2,Z2,Z3,Z1,Z7,Z7,Z3,Z7,Z1,Z2,Z1,Z2]],Z4,.arr 5 1 [Z52,Z52,.int .u8 (80)],.arr 209 3 (c2.map aPc),.arr 3 1 (t2.map bInt),.arr 152 5 [.agg [.int .i64 (k),Z1,.int .i64 (k),.int .i64 (fc),.own 24 3 1],.agg [.int .i64 (k),.int .i64 (fc),.int .i64 (k),.int .i64 (fs),.own 25 3 1]],.arr 107 3 [.agg [.int .i64 (k),.sl 1 [.str s],.nls]],.arr 107 3 [.agg [.int .i64 (k),.nls,.own 26 1 1]],.arr 9 1 [.str s]]
theorem nt_eQ [Syms] (F:Tb.Bs)(s:Tb.Bs)(A2:Tb.Bs)(c2:List Pc)(t2:List Int)(k:Int)(fc:Int)(fs:Int)(top:Int)(size:Int)(ed:Int):ntH (eQ F s A2 c2 t2 k fc fs top size ed)=true:=by simp [ntH,ntO,ntE,ntL,nt,nt_bytes,nt_pcs,nt_bints]
abbrev eS (F:Tb.Bs)(s:Tb.Bs)(A2:Tb.Bs)(c2:List Pc)(t2:List Int)(k:Int)(fc:Int)(fs:Int)(size:Int)(top2:Int)(ed:Int):AH:=
 [.arr 49 7 [.agg [Z21,Z38,Z43,Z3,.nls,Z3,Z2]],.arr 83 32 [.agg [.int .i64 (k+1),.int .i64 (fs),.int .i64 (fs),.int .i64 (top2),Z3,Z3,Z7,Z2,Z23,Z1,Z1,Z1,Z28,Z27,Z26,Z24,Z1,Z1,Z1,.nls,Z2,.npt,Z3,Z1,Z7,Z75,Z3,Z7,.nls,Z18,.int .i64 (k),.int .i64 (fc)]],Z5,.arr 211 6 [.agg [.str F,.own 4 1 A2.length,Z29,.int .i64 (size),Z10,.int .i64 (ed+2)]],.arr 5 1 (ofBytes A2),.arr 283 1 [.agg [.own 6 3 c2.length]],.arr 209 3 (c2.map aPc),.arr 216 2 [.agg [Z30,.int .i64 (size)]],.arr 288 1 [.agg [.own 9 1 t2.length]],.arr 3 1 (t2.map bInt),Z15,.mp [(Z57,.agg [Z17,.sl 1 [.str s]]),(Z32,.agg [Z17,.sl 1 [.str s]])],Z14,Z44,.arr 135 2 [.agg [Z25,Z1]],Z13,Z8,Z19,.arr 152 5 [.agg [.int .i64 (k),Z1,.int .i64 (k),.int .i64 (fc),Z61],.agg [.int .i64 (k),.int .i64 (fc),.int .i64 (k+1),.int .i64 (fs),Z80]],.arr 107 3 [.agg [.int .i64 (k),.sl 1 [.str s],.nls]],.arr 107 3 [.agg [.int .i64 (k+1),.nls,Z60]],.arr 9 1 [.str s],.arr 103 14 [.agg [Z1,Z2,Z2,Z2,Z3,Z1,Z7,Z7,Z3,Z7,Z1,Z2,Z1,Z2]],Z4]
theorem nt_eS [Syms] (F:Tb.Bs)(s:Tb.Bs)(A2:Tb.Bs)(c2:List Pc)(t2:List Int)(k:Int)(fc:Int)(fs:Int)(size:Int)(top2:Int)(ed:Int):ntH (eS F s A2 c2 t2 k fc fs size top2 ed)=true:=by simp [ntH,ntO,ntE,ntL,nt,nt_bytes,nt_pcs,nt_bints]
abbrev eS2 (F:Tb.Bs)(s:Tb.Bs)(A2:Tb.Bs)(c2:List Pc)(t2:List Int)(k:Int)(fc:Int)(fs:Int)(size:Int)(top2:Int)(ed:Int):AH:=
 [.arr 49 7 [.agg [Z21,Z38,Z43,Z3,.nls,Z3,Z2]],.arr 83 32 [.agg [.int .i64 (k+1),.int .i64 (fs),.int .i64 (fs),.int .i64 (top2),Z3,Z3,Z7,Z2,Z23,Z1,Z1,Z1,Z28,Z27,Z26,Z24,Z1,Z1,Z1,.nls,Z2,.npt,Z3,Z1,Z7,Z75,Z3,Z7,.nls,Z18,.int .i64 (k),.int .i64 (fc)]],Z5,.arr 211 6 [.agg [.str F,.own 4 1 A2.length,Z29,.int .i64 (size),Z10,.int .i64 (ed+2)]],.arr 5 1 (ofBytes A2),.arr 283 1 [.agg [.own 6 3 c2.length]],.arr 209 3 (c2.map aPc),.arr 216 2 [.agg [Z30,.int .i64 (size)]],.arr 288 1 [.agg [.own 9 1 t2.length]],.arr 3 1 (t2.map bInt),Z15,.mp [(Z57,.agg [Z17,.sl 1 [.str s]]),(Z32,.agg [Z17,.sl 1 [.str s]])],Z14,Z44,.arr 135 2 [.agg [Z25,Z1]],Z13,Z8,Z19,.arr 152 5 [.agg [.int .i64 (k),Z1,.int .i64 (k),.int .i64 (fc),Z61],.agg [.int .i64 (k),.int .i64 (fc),.int .i64 (k+1),.int .i64 (fs),Z80]],.arr 107 3 [.agg [.int .i64 (k),.sl 1 [.str s],.nls]],.arr 107 3 [.agg [.int .i64 (k+1),.nls,Z60]],.arr 9 1 [.str s],.arr 103 14 [.agg [Z1,Z2,Z2,Z2,Z3,Z1,Z7,Z7,Z3,Z7,Z1,Z2,Z1,Z2]],Z4,.arr 5 1 [Z32,Z57],.arr 87 2 [.agg [Z17,.sl 1 [.str s]],.agg [Z17,.sl 1 [.str s]]],Z103]
theorem nt_eS2 [Syms] (F:Tb.Bs)(s:Tb.Bs)(A2:Tb.Bs)(c2:List Pc)(t2:List Int)(k:Int)(fc:Int)(fs:Int)(size:Int)(top2:Int)(ed:Int):ntH (eS2 F s A2 c2 t2 k fc fs size top2 ed)=true:=by simp [ntH,ntO,ntE,ntL,nt,nt_bytes,nt_pcs,nt_bints]
abbrev eT (F:Tb.Bs)(s:Tb.Bs)(A2:Tb.Bs)(c2:List Pc)(t2:List Int)(k:Int)(fc:Int)(fs:Int)(top:Int)(size:Int)(ed:Int):AH:=
 [.arr 49 7 [.agg [Z21,Z38,Z43,Z3,.nls,Z3,Z2]],.arr 83 32 [.agg [.int .i64 (k),.int .i64 (fs),.int .i64 (fs),.int .i64 (top),Z3,Z3,Z7,Z2,Z23,Z1,Z1,Z1,Z28,Z27,Z26,Z24,Z1,Z1,Z1,.nls,Z2,.npt,Z3,Z1,Z7,.str [80],Z3,Z7,.nls,Z18,.int .i64 (k),.int .i64 (fc)]],Z5,.arr 211 6 [.agg [.str F,.own 4 1 A2.length,Z29,.int .i64 (size),Z10,.int .i64 (ed+2)]],.arr 5 1 (ofBytes A2),.arr 283 1 [.agg [.own 6 3 c2.length]],.arr 209 3 (c2.map aPc),.arr 216 2 [.agg [Z30,.int .i64 (size)]],.arr 288 1 [.agg [.own 9 1 t2.length]],.arr 3 1 (t2.map bInt),Z15,.mp [(Z57,.agg [Z17,.sl 1 [.str s]]),(Z32,.agg [Z17,.sl 1 [.str s]])],Z14,Z44,.arr 135 2 [.agg [Z25,Z1]],Z13,Z8,Z19,.arr 152 5 [.agg [.int .i64 (k),Z1,.int .i64 (k),.int .i64 (fc),Z61],.agg [.int .i64 (k),.int .i64 (fc),.int .i64 (k),.int .i64 (fs),Z80]],.arr 107 3 [.agg [.int .i64 (k),.sl 1 [.str s],.nls]],.arr 107 3 [.agg [.int .i64 (k),.nls,Z60]],.arr 9 1 [.str s],.arr 103 14 [.agg [Z1,Z2,Z2,Z2,Z3,Z1,Z7,Z7,Z3,Z7,Z1,Z2,Z1,Z2]],Z4]
theorem nt_eT [Syms] (F:Tb.Bs)(s:Tb.Bs)(A2:Tb.Bs)(c2:List Pc)(t2:List Int)(k:Int)(fc:Int)(fs:Int)(top:Int)(size:Int)(ed:Int):ntH (eT F s A2 c2 t2 k fc fs top size ed)=true:=by simp [ntH,ntO,ntE,ntL,nt,nt_bytes,nt_pcs,nt_bints]
abbrev eT2 (F:Tb.Bs)(s:Tb.Bs)(A2:Tb.Bs)(c2:List Pc)(t2:List Int)(k:Int)(fc:Int)(fs:Int)(top:Int)(size:Int)(ed:Int):AH:=
 [.arr 49 7 [.agg [Z21,Z38,Z43,Z3,.nls,Z3,Z2]],.arr 83 32 [.agg [.int .i64 (k),.int .i64 (fs),.int .i64 (fs),.int .i64 (top),Z3,Z3,Z7,Z2,Z23,Z1,Z1,Z1,Z28,Z27,Z26,Z24,Z1,Z1,Z1,.nls,Z2,.npt,Z3,Z1,Z7,.str [80],Z3,Z7,.nls,Z18,.int .i64 (k),.int .i64 (fc)]],Z5,.arr 211 6 [.agg [.str F,.own 4 1 A2.length,Z29,.int .i64 (size),Z10,.int .i64 (ed+2)]],.arr 5 1 (ofBytes A2),.arr 283 1 [.agg [.own 6 3 c2.length]],.arr 209 3 (c2.map aPc),.arr 216 2 [.agg [Z30,.int .i64 (size)]],.arr 288 1 [.agg [.own 9 1 t2.length]],.arr 3 1 (t2.map bInt),Z15,.mp [(Z57,.agg [Z17,.sl 1 [.str s]]),(Z32,.agg [Z17,.sl 1 [.str s]])],Z14,Z44,.arr 135 2 [.agg [Z25,Z1]],Z13,Z8,Z19,.arr 152 5 [.agg [.int .i64 (k),Z1,.int .i64 (k),.int .i64 (fc),Z61],.agg [.int .i64 (k),.int .i64 (fc),.int .i64 (k),.int .i64 (fs),Z80]],.arr 107 3 [.agg [.int .i64 (k),.sl 1 [.str s],.nls]],.arr 107 3 [.agg [.int .i64 (k),.nls,Z60]],.arr 9 1 [.str s],.arr 103 14 [.agg [Z1,Z2,Z2,Z2,Z3,Z1,Z7,Z7,Z3,Z7,Z1,Z2,Z1,Z2]],Z4]
theorem nt_eT2 [Syms] (F:Tb.Bs)(s:Tb.Bs)(A2:Tb.Bs)(c2:List Pc)(t2:List Int)(k:Int)(fc:Int)(fs:Int)(top:Int)(size:Int)(ed:Int):ntH (eT2 F s A2 c2 t2 k fc fs top size ed)=true:=by simp [ntH,ntO,ntE,ntL,nt,nt_bytes,nt_pcs,nt_bints]
theorem size_app (a b:List Tb.Bs):size (a ++ b)=size a+size b:=by simp [size]
theorem size_cons (s:Tb.Bs)(b:List Tb.Bs):size (s :: b)=(s.length:Int)+1+size b:=by simp [size]
theorem size_cut (ls:List Tb.Bs){k:Nat}(h:k<ls.length):size (ls.take k ++ ls.drop (k+1))=size ls - ((ls.getD k []).length+1):=by
 have e:ls=ls.take k ++ ls.getD k [] :: ls.drop (k+1):=by
  conv=>lhs;rw[←Qe k ls]
  rw[Tb.drop_line h]
 have:=congrArg size e
 rw[size_app,size_cons] at this
 rw[size_app]
 omega
theorem size_put (ls:List Tb.Bs)(a:Nat)(s:Tb.Bs):size (ls.take a ++ s :: ls.drop a)=size ls+(s.length+1):=by
 have:=congrArg size (Qe a ls)
 rw[size_app] at this
 rw[size_app,size_cons]
 omega
theorem firstC_ok (s:Tb.Bs):0≤firstC s∧firstC s≤max ((s.length:Int) - 1) 0:=by
 unfold firstC
 split
 ·omega
 ·omega
theorem nt_keys [Syms] (F A:Tb.Bs)(c0:List Pc)(t0:List Int)(k top size ed ah:Int)(ks:List UInt8):ntH (eJ F A c0 t0 k top size ed ah ++ [.arr 5 1 (ofBytes ks)])=true:=by simp [ntH,ntO,ntE,ntL,nt,nt_bytes,nt_pcs,nt_bints]
theorem few_buf {F A:Tb.Bs}{L:List Tb.Pc}{ls:List Tb.Bs}(h:BufOK F A L ls)(hn:ls.length≤4000):few ls:=⟨by omega,fun i=>by have:=few_join ls h.ne i;have:=h.hT;omega⟩
theorem getD_cut_lt (ls:List Tb.Bs){k:Nat}(h:k+1<ls.length):(ls.take k ++ ls.drop (k+1)).getD k []=ls.getD (k+1) []:=by
 rw[Qa,Qc (by rw[Qb];omega),Qa,List.getElem?_drop]
 simp only[Qb]
 congr 2;omega
theorem getD_put (ls:List Tb.Bs)(a:Nat)(s:Tb.Bs)(h:a≤ls.length):(ls.take a ++ s :: ls.drop a).getD a []=s:=by
 rw[Qa,Qc (by rw[Qb];omega)]
 simp only[Qb]
 rw[show a - min a ls.length=0 by omega];rfl
end Go.Pg
namespace Go.Pg
open Go Go.Proofs
def toks (n:Nat):List AV:=(Qf n).map fun i=> .sym (i+20)
def toks2 (n k:Nat):List AV:=((toks n).take k ++ (toks n).drop (k+1)).take (k+1) ++ .sym (k+20) :: ((toks n).take k ++ (toks n).drop (k+1)).drop (k+1)
def tps (n:Int):Nat→Int
 | 0=>0
 | i+1=>scr (tps n i) ((i:Int)+1) n
def ahs:Nat→Int
 | 0=>0
 | i+1=>(i:Int)
def uJ (k top ah:Int):AH:=
 [.arr 49 7 [.agg [Z21,Z54,Z58,Z3,.nls,Z3,Z2]],.arr 83 32 [.agg [.int .i64 (k),Z1,Z1,.int .i64 (top),Z3,Z3,Z7,Z2,Z23,Z1,Z1,Z1,Z28,Z27,Z26,Z24,Z1,Z1,Z1,.nls,Z2,.npt,Z3,Z1,Z7,Z7,Z3,Z7,.nls,Z2,.int .i64 (ah),Z1]],Z5,.arr 211 6 [.agg [.sym 3,.own 4 1 0,Z29,.sym 4,Z10,.int .i64 0]],Z103,.arr 283 1 [.agg [.ows 6 3 0]],Z94,.arr 216 2 [.agg [Z30,.sym 4]],Z106,.tok 1,Z15,Z44,Z14,Z44,.arr 135 2 [.agg [Z25,Z1]],Z13,.arr 155 3 [.agg [Z59,Z1,.npt]],Z41,.arr 103 14 [.agg [Z1,Z2,Z2,Z2,Z3,Z1,Z7,Z7,Z3,Z7,Z1,Z2,Z1,Z2]],Z4]
def uP (k top2:Int):AH:=
 [.arr 49 7 [.agg [Z21,Z54,Z58,Z3,.nls,Z3,Z2]],.arr 83 32 [.agg [.int .i64 (k+1),Z100,Z100,.int .i64 (top2),Z3,Z3,Z7,Z2,Z23,Z1,Z1,Z1,Z28,Z27,Z26,Z24,Z1,Z1,Z1,.nls,Z2,.npt,Z3,Z1,Z7,Z75,Z3,Z7,.nls,Z18,.int .i64 (k),.sym 6]],Z5,.arr 211 6 [.agg [.sym 3,.ows 4 1 2,Z29,.sym 8,Z10,Z90]],.tok 2,.arr 283 1 [.agg [.ows 21 3 3]],.dead,.arr 216 2 [.agg [Z30,.sym 8]],.arr 288 1 [.agg [.ows 22 1 4]],.dead,Z15,.mp [(Z57,.agg [Z17,Z42]),(Z32,.agg [Z17,Z42])],Z14,Z44,.arr 135 2 [.agg [Z25,Z1]],Z13,Z8,Z67,.arr 103 14 [.agg [Z1,Z2,Z2,Z2,Z3,Z1,Z7,Z7,Z3,Z7,Z1,Z2,Z1,Z2]],Z4,.arr 5 1 [Z52,Z52,.int .u8 (112)],.tok 3,.tok 4,.arr 152 5 [.agg [.int .i64 (k),Z1,.int .i64 (k),.sym 6,.own 24 3 1],.agg [.int .i64 (k),.sym 6,.int .i64 (k+1),Z100,.own 25 3 1]],.arr 107 3 [.agg [.int .i64 (k),Z42,.nls]],.arr 107 3 [.agg [.int .i64 (k+1),.nls,.own 26 1 1]],Z91]
def uS (k top2:Int):AH:=
 [.arr 49 7 [.agg [Z21,Z38,Z43,Z3,.nls,Z3,Z2]],.arr 83 32 [.agg [.int .i64 (k+1),Z100,Z100,.int .i64 (top2),Z3,Z3,Z7,Z2,Z23,Z1,Z1,Z1,Z28,Z27,Z26,Z24,Z1,Z1,Z1,.nls,Z2,.npt,Z3,Z1,Z7,Z75,Z3,Z7,.nls,Z18,.int .i64 (k),.sym 6]],Z5,.arr 211 6 [.agg [.sym 3,.ows 4 1 2,Z29,.sym 8,Z10,Z90]],.tok 2,.arr 283 1 [.agg [.ows 6 3 3]],.tok 3,.arr 216 2 [.agg [Z30,.sym 8]],Z84,.tok 4,Z15,.mp [(Z57,.agg [Z17,Z42]),(Z32,.agg [Z17,Z42])],Z14,Z44,.arr 135 2 [.agg [Z25,Z1]],Z13,Z8,Z19,.arr 152 5 [.agg [.int .i64 (k),Z1,.int .i64 (k),.sym 6,Z61],.agg [.int .i64 (k),.sym 6,.int .i64 (k+1),Z100,Z80]],.arr 107 3 [.agg [.int .i64 (k),Z42,.nls]],.arr 107 3 [.agg [.int .i64 (k+1),.nls,Z60]],Z91,.arr 103 14 [.agg [Z1,Z2,Z2,Z2,Z3,Z1,Z7,Z7,Z3,Z7,Z1,Z2,Z1,Z2]],Z4]
def uS2 (k top2:Int):AH:=
 [.arr 49 7 [.agg [Z21,Z38,Z43,Z3,.nls,Z3,Z2]],.arr 83 32 [.agg [.int .i64 (k+1),Z100,Z100,.int .i64 (top2),Z3,Z3,Z7,Z2,Z23,Z1,Z1,Z1,Z28,Z27,Z26,Z24,Z1,Z1,Z1,.nls,Z2,.npt,Z3,Z1,Z7,Z75,Z3,Z7,.nls,Z18,.int .i64 (k),.sym 6]],Z5,.arr 211 6 [.agg [.sym 3,.ows 4 1 2,Z29,.sym 8,Z10,Z90]],.tok 2,.arr 283 1 [.agg [.ows 6 3 3]],.tok 3,.arr 216 2 [.agg [Z30,.sym 8]],Z84,.tok 4,Z15,.mp [(Z57,.agg [Z17,Z42]),(Z32,.agg [Z17,Z42])],Z14,Z44,.arr 135 2 [.agg [Z25,Z1]],Z13,Z8,Z19,.arr 152 5 [.agg [.int .i64 (k),Z1,.int .i64 (k),.sym 6,Z61],.agg [.int .i64 (k),.sym 6,.int .i64 (k+1),Z100,Z80]],.arr 107 3 [.agg [.int .i64 (k),Z42,.nls]],.arr 107 3 [.agg [.int .i64 (k+1),.nls,Z60]],Z91,.arr 103 14 [.agg [Z1,Z2,Z2,Z2,Z3,Z1,Z7,Z7,Z3,Z7,Z1,Z2,Z1,Z2]],Z4,.arr 5 1 [Z32,Z57],.arr 87 2 [.agg [Z17,Z42],.agg [Z17,Z42]],Z103]
def uQ (k top:Int):AH:=
 [.arr 49 7 [.agg [Z21,Z54,Z58,Z3,.nls,Z3,Z2]],.arr 83 32 [.agg [.int .i64 (k),Z100,Z100,.int .i64 (top),Z3,Z3,Z7,Z2,Z23,Z1,Z1,Z1,Z28,Z27,Z26,Z24,Z1,Z1,Z1,.nls,Z2,.npt,Z3,Z1,Z7,.str [80],Z3,Z7,.nls,Z18,.int .i64 (k),.sym 6]],Z5,.arr 211 6 [.agg [.sym 3,Z101,Z29,.sym 4,Z10,Z90]],.tok 5,Z104,.dead,.arr 216 2 [.agg [Z30,.sym 4]],.arr 288 1 [.agg [.ows 22 1 1]],.dead,Z15,.mp [(Z57,.agg [Z17,Z42]),(Z32,.agg [Z17,Z42])],Z14,Z44,.arr 135 2 [.agg [Z25,Z1]],Z13,Z8,Z67,.arr 103 14 [.agg [Z1,Z2,Z2,Z2,Z3,Z1,Z7,Z7,Z3,Z7,Z1,Z2,Z1,Z2]],Z4,.arr 5 1 [Z52,Z52,.int .u8 (80)],.tok 6,.tok 1,.arr 152 5 [.agg [.int .i64 (k),Z1,.int .i64 (k),.sym 6,.own 24 3 1],.agg [.int .i64 (k),.sym 6,.int .i64 (k),Z100,.own 25 3 1]],.arr 107 3 [.agg [.int .i64 (k),Z42,.nls]],.arr 107 3 [.agg [.int .i64 (k),.nls,.own 26 1 1]],Z91]
def uT (k top:Int):AH:=
 [.arr 49 7 [.agg [Z21,Z38,Z43,Z3,.nls,Z3,Z2]],.arr 83 32 [.agg [.int .i64 (k),Z100,Z100,.int .i64 (top),Z3,Z3,Z7,Z2,Z23,Z1,Z1,Z1,Z28,Z27,Z26,Z24,Z1,Z1,Z1,.nls,Z2,.npt,Z3,Z1,Z7,.str [80],Z3,Z7,.nls,Z18,.int .i64 (k),.sym 6]],Z5,.arr 211 6 [.agg [.sym 3,Z101,Z29,.sym 4,Z10,Z90]],.tok 5,Z70,.tok 6,.arr 216 2 [.agg [Z30,.sym 4]],Z106,.tok 1,Z15,.mp [(Z57,.agg [Z17,Z42]),(Z32,.agg [Z17,Z42])],Z14,Z44,.arr 135 2 [.agg [Z25,Z1]],Z13,Z8,Z19,.arr 152 5 [.agg [.int .i64 (k),Z1,.int .i64 (k),.sym 6,Z61],.agg [.int .i64 (k),.sym 6,.int .i64 (k),Z100,Z80]],.arr 107 3 [.agg [.int .i64 (k),Z42,.nls]],.arr 107 3 [.agg [.int .i64 (k),.nls,Z60]],Z91,.arr 103 14 [.agg [Z1,Z2,Z2,Z2,Z3,Z1,Z7,Z7,Z3,Z7,Z1,Z2,Z1,Z2]],Z4]
def uT2 (k top:Int):AH:=
 [.arr 49 7 [.agg [Z21,Z38,Z43,Z3,.nls,Z3,Z2]],.arr 83 32 [.agg [.int .i64 (k),Z100,Z100,.int .i64 (top),Z3,Z3,Z7,Z2,Z23,Z1,Z1,Z1,Z28,Z27,Z26,Z24,Z1,Z1,Z1,.nls,Z2,.npt,Z3,Z1,Z7,.str [80],Z3,Z7,.nls,Z18,.int .i64 (k),.sym 6]],Z5,.arr 211 6 [.agg [.sym 3,Z101,Z29,.sym 4,Z10,Z90]],.tok 5,Z70,.tok 6,.arr 216 2 [.agg [Z30,.sym 4]],Z106,.tok 1,Z15,.mp [(Z57,.agg [Z17,Z42]),(Z32,.agg [Z17,Z42])],Z14,Z44,.arr 135 2 [.agg [Z25,Z1]],Z13,Z8,Z19,.arr 152 5 [.agg [.int .i64 (k),Z1,.int .i64 (k),.sym 6,Z61],.agg [.int .i64 (k),.sym 6,.int .i64 (k),Z100,Z80]],.arr 107 3 [.agg [.int .i64 (k),Z42,.nls]],.arr 107 3 [.agg [.int .i64 (k),.nls,Z60]],Z91,.arr 103 14 [.agg [Z1,Z2,Z2,Z2,Z3,Z1,Z7,Z7,Z3,Z7,Z1,Z2,Z1,Z2]],Z4]
def uR (n k:Nat)(top2:Int):AV:= .agg [.sl 1 (toks2 n k),.int .i64 (k+1),Z100,Z100,Z1,Z1,Z1,Z2,.int .i64 (top2),.own 24 1 2,.own 25 2 2,.own 26 1 0,.nls,.nls,Z1,Z3]
def tblZ (n k:Nat):List (OpK×List AV×AV):=
 (.len 22,[.sym 0],.int .i64 n) :: (.cvt 5 3,[Z99],.sym 2) :: (.bin .rem 3,[.sym 2,.int .i64 ((n:Int) - 1)],.int .i64 k) ::
   (Qf n).map fun i=>(.bin .neq 9,[.sym (i+20),.sym (i+20)],Z2)
def rowJ (n:Nat)(i:Nat):CRow:=⟨7,[Z36,.int .u8 106],uJ i (tps n i) (ahs i),Z18,uJ ((i:Int)+1) (tps n (i+1)) (ahs (i+1))⟩
def rowK:CRow:=⟨4,[],[],Z18,[]⟩
def rowsZ (n k:Nat):List CRow:=
 rowK ::
 ⟨5,[.sym 0],[],.sl 1 (toks n),[]⟩ ::
 ⟨13,[.sl 1 (toks n)],[],.tuple [Z36,.int .i64 0],uJ 0 0 0⟩ ::
 ⟨8,[Z36,.own 20 1 3],uJ k (tps n k) (ahs k) ++ [.arr 5 1 [Z97,Z97,.int .u8 112]],Z18,uP k (tps n (k+1))⟩ ::
 ⟨8,[Z36,.own 20 1 3],uJ k (tps n k) (ahs k) ++ [.arr 5 1 [Z97,Z97,.int .u8 80]],Z18,uQ k (tps n k)⟩ ::
 ⟨9,[Z36],uS k (tps n (k+1)),uR n k (tps n (k+1)),uS2 k (tps n (k+1))⟩ ::
 ⟨11,[Z36],uT k (tps n k),.sl 1 (toks n),uT2 k (tps n k)⟩ ::
 (Qf k).map (rowJ n)
def kZ:Lf where
 fn _ _ _:=none
 tl _ _:=none
 kl _:=false
 ext:=extL
theorem kZ_ok [Syms] (h:TblOK Tryz.prog):LfOK Tryz.prog kZ where
 tb:=h
 fn _ _ _ _ _ h:=by cases h
 tl:=fun _ _ _ h=>by cases h
 idl:=fun _ _ _ _ _ h=>by cases h
 ext:=extL_ok
theorem tamez (c0 c2 c3:List Pc)(t0 t2:List Int)(A2 A3:Tb.Bs):tameAs [⟨209,3,c0.map aPc⟩,⟨3,1,t0.map bInt⟩,⟨5,1,ofBytes A2⟩,⟨209,3,c2.map aPc⟩,⟨3,1,t2.map bInt⟩,⟨5,1,ofBytes A3⟩,⟨209,3,c3.map aPc⟩]=true:=by
 simp only[tameAs,List.all_cons,List.all_nil,tame_bytes,tame_pcs,tame_bints,Bool.and_self]
theorem tamel (l:List UInt8)(at' len:Int)(F s:Tb.Bs)(size size2 fc fs:Int)(ls:List Tb.Bs) :
 tameL (.sl 1 (ofBytes l) :: .int .u8 at' :: .int .i64 at' :: .str F :: .int .i64 size :: .str s :: .int .i64 fc :: .int .i64 fs :: .int .i64 size2 :: .int .i64 len :: .nls :: .nls :: .nls :: .nls :: .nls :: .nls :: .nls :: .nls :: .nls :: .nls :: ls.map .str)=true:=by
 simp [tameL,AV.tame,List.all_map]
@[reducible] def sZ (l:List UInt8) (at' len:Int) (F s:Tb.Bs) (size size2 fc fs:Int) (ls:List Tb.Bs) (c0 c2 c3:List Pc) (t0 t2:List Int) (A2 A3:Tb.Bs) (tbl:List (OpK×List AV×AV)):Syms:=
 mkS (.sl 1 (ofBytes l) :: .int .u8 at' :: .int .i64 at' :: .str F :: .int .i64 size :: .str s :: .int .i64 fc :: .int .i64 fs :: .int .i64 size2 :: .int .i64 len :: .nls :: .nls :: .nls :: .nls :: .nls :: .nls :: .nls :: .nls :: .nls :: .nls :: ls.map .str)
  [⟨209,3,c0.map aPc⟩,⟨3,1,t0.map bInt⟩,⟨5,1,ofBytes A2⟩,⟨209,3,c2.map aPc⟩,⟨3,1,t2.map bInt⟩,⟨5,1,ofBytes A3⟩,⟨209,3,c3.map aPc⟩]
  [c0.length,t0.length,A2.length,c2.length,t2.length,A3.length,c3.length] tbl (tamel l at' len F s size size2 fc fs ls) (tamez c0 c2 c3 t0 t2 A2 A3)
def chkZ (x:Er (AV×AH)):Bool:=
 match x with
 | .ok (.bool true,[])=>true
 | _=>false
theorem chkZ_ok {x:Er (AV×AH)}(h:chkZ x=true):x= .ok (.bool true,[]):=by
 unfold chkZ at h
 split at h
 ·rfl
 ·cases h
abbrev frZ (S:Syms)(n k:Nat):Prop:=chkZ (@evF S Tryz.prog (@Lf.rows (rowsZ n k) kZ) 60 3 [.sym 0,Z99] [])=true
end Go.Pg
