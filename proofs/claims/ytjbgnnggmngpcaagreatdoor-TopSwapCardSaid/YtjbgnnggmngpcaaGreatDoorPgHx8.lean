/- known(): the chapter's example runs. -/
import Derived.Test.YtjbgnnggmngpcaaGreatDoorPgZab
import Derived.Test.YtjbgnnggmngpcaaGreatDoorPgHx0
import Derived.Test.YtjbgnnggmngpcaaGreatDoorPgHx7
import Derived.Test.YtjbgnnggmngpcaaGreatDoorPgHx1
import Derived.Test.YtjbgnnggmngpcaaGreatDoorPgGf
set_option linter.unusedVariables false
set_option linter.unusedSimpArgs false
set_option linter.unusedSectionVars false
open Nat renaming eq_of_beq_eq_true → Qa,beq → Qb,le_of_ble_eq_true → Qd
open List renaming not_mem_nil → Qc,mem_cons → Qe
namespace Go.Pg.Le
open Go Go.Pg Go.Proofs Go.RowKit
theorem sort45a [Syms]:CallsR Tryz.prog 125 [.own 0 1 ([45,34]:List UInt8).length] [.arr 5 1 (ofBytes [45,34])] (.tuple []) [.arr 5 1 (ofBytes [34,45])]:=sortE (n:=20) (by kernel_rfl)
theorem sort45b [Syms]:CallsR Tryz.prog 125 [.own 0 1 ([34,45]:List UInt8).length] [.arr 5 1 (ofBytes [34,45])] (.tuple []) [.arr 5 1 (ofBytes [34,45])]:=sortE (n:=20) (by kernel_rfl)
def regsK:Ent:=[(45,.agg [.int .i64 0,.sl 1 [.str [111,110,101,32]]]),(34,.agg [.int .i64 0,.sl 1 [.str [111,110,101,32]]])]
theorem leaf_SortedK [Syms]:CallsR Tryz.prog 68 [.fn 126 [.ptr 0 1 1 0 0]] [.arr 123 1 [.mp 1],.mp (encE cByte cAny regsK)]
 (.own 2 1 2) [.arr 123 1 [.mp 1],.mp (encE cByte cAny regsK),.arr 5 1 (ofBytes [34,45])]:=
 callsR_wrap (calls_SortedR regsK (show 2≤12 by decide) [34,45] rfl fun t ht=>by
  rcases perm2 (by decide) (show t.Perm [45,34] from ht) with rfl | rfl
  ·exact sort45a
  ·exact sort45b) (by intro v hv;simp only[ofBytes,List.map_cons,List.map_nil,Qe,Qc,or_false] at hv;rcases hv with rfl | rfl <;> exact⟨_,_,rfl⟩)
  fun E vals hr hvs=>open_box (l:=regsK) (by decide) E vals hr hvs
def decPcs:List AV→Option (List Pc)
 | []=>some []
 | .agg [.bool a,.int .i64 b,.int .i64 c] :: r=>(decPcs r).map fun l=>(a,b,c) :: l
 | _=>none
theorem decPcs_ok:∀(vs:List AV)(l:List Pc),decPcs vs=some l→vs=l.map aPc:=by
 intro vs
 induction vs with
 | nil=>intro l h;cases h;rfl
 | cons v r ih=>
  intro l h
  unfold decPcs at h
  split at h
  ·next e=>cases e
  ·next a b c r' e=>
   cases e
   cases hr:decPcs r with
   | none=>rw[hr] at h;cases h
   | some l'=>rw[hr] at h;cases h;rw[ih l' hr];rfl
  ·cases h
def decInts:List AV→Option (List Int)
 | []=>some []
 | .int .i64 b :: r=>(decInts r).map fun l=>b :: l
 | _=>none
theorem decInts_ok:∀(vs:List AV)(l:List Int),decInts vs=some l→vs=l.map aInt:=by
 intro vs
 induction vs with
 | nil=>intro l h;cases h;rfl
 | cons v r ih=>
  intro l h
  unfold decInts at h
  split at h
  ·next e=>cases e
  ·next b r' e=>
   cases e
   cases hr:decInts r with
   | none=>rw[hr] at h;cases h
   | some l'=>rw[hr] at h;cases h;rw[ih l' hr];rfl
  ·cases h
def onetwo:List UInt8:=[111,110,101,32,116,119,111]
def tlK (f:FuncId)(xs:List AV):Option (List (List AV)):=
 match Qb f 331 with
 | true=>match xs with
  | [.rp [.sl 3 vs]]=>match decPcs vs,Nat.ble vs.length 65536 with
   | some l,true=>some (tellPcs 0 l)
   | _,_=>none
  | _=>none
 | false=>match Qb f 388 with
  | true=>match xs with
   | [.rp [.sl 1 vs]]=>match decInts vs,Nat.ble vs.length 65536 with
    | some l,true=>some (tellInts 0 l)
    | _,_=>none
   | _=>none
  | false=>match Qb f 190 || Qb f 415 with
   | true=>match xs with
    | [.rp [.nls]]=>some []
    | _=>none
   | false=>match Qb f 382 with
    | true=>match xs with
     | [.rp [.sl 3 [.agg [.int .i64 n,.sl 1 a,.sl 1 b]]]]=>some [[.int .i64 0,.agg [.int .i64 n,.sl 1 a,.sl 1 b]]]
     | _=>none
    | false=>match Qb f 420 with
     | true=>match xs with
      | [.rp [.sl 1 [.str s]],.rp [.bool true],.rp [.fn g [.rp [.bool false]]]]=>match s == onetwo,Qb g 434 with
       | true,true=>some [[.agg [.int .i64 0,.int .i64 0]],[.agg [.int .i64 0,.int .i64 4]]]
       | _,_=>none
      | _=>none
     | false=>none
def kK0:Lf where
 fn _ _ _:=none
 tl:=tlK
 kl:=fun f=>Qb f 270 || Qb f 144
 ext:=extL
theorem ItR_nlsK [Syms] {P:Program}{g:FuncId}{X:Tell}(h:ItR P g [.rp [.sl 2 []]] X):ItR P g [.rp [.nls]] X:=by
 intro W st lb h1 h2 h3
 refine h W st lb h1 h2 fun i c hc=>?_
 match i,hc with
 | i+1,hc=>simp at hc
 | 0,hc=>
  cases hc
  have:=h3 0 _ rfl
  generalize hv:lb.getD 0 Go.undef=v at this
  cases this with
  | rp _ b o f q1 q2 q3=>
   refine .rp _ b o f (fun _=>q1 (by simp)) (fun j c hj=>?_) (fun j c hj=>?_)
   ·match j,hj with
    | j+1,hj=>simp at hj
    | 0,hj=>exact q2 0 _ rfl
   ·match j,hj with
    | j+1,hj=>simp at hj
    | 0,hj=>
     cases hj
     have:=q3 0 _ rfl
     generalize hw:f 0=w at this
     cases this
     exact .sl 2 [] none 0 (fun _ _=>Go.undef) (Nat.le_refl _) (fun i v hi=>by simp at hi) (fun i v j c hi=>by simp at hi)
theorem tlK_ok [Syms]:TlOK Tryz.prog tlK:=by
 intro fid xs ys h
 unfold tlK at h
 split at h
 ·next hf=>
  obtain rfl:=Qa hf
  split at h
  ·next vs=>
   split at h
   ·next l hd hn=>
    cases h
    obtain rfl:=decPcs_ok _ _ hd
    exact it_All_pc l (by have:=Qd hn;simpa using this)
   ·cases h
  ·cases h
 split at h
 ·next hf=>
  obtain rfl:=Qa hf
  split at h
  ·next vs=>
   split at h
   ·next l hd hn=>
    cases h
    obtain rfl:=decInts_ok _ _ hd
    exact it_All_int l (by have:=Qd hn;simpa using this)
   ·cases h
  ·cases h
 split at h
 ·next hf=>
  split at h
  ·cases h
   rcases Bool.or_eq_true .. ▸ hf with hf | hf
   ·obtain rfl:=Qa hf
    exact ItR_nlsK it_All_pos0
   ·obtain rfl:=Qa hf
    exact ItR_nlsK it_Back_pos0
  ·cases h
 split at h
 ·next hf=>
  obtain rfl:=Qa hf
  split at h
  ·next n a b=>cases h;exact it_Back_change n a b
  ·cases h
 split at h
 ·next hf=>
  obtain rfl:=Qa hf
  split at h
  ·next s g=>
   split at h
   ·next hs hg=>
    cases h
    obtain rfl:=eq_of_beq hs
    obtain rfl:=Qa hg
    exact it_known
   ·cases h
  ·cases h
 ·cases h
theorem kK0_ok [Syms] (h:TblOK Tryz.prog):LfOK Tryz.prog kK0 where
 tb:=h
 fn _ _ _ _ _ h:=by cases h
 tl:=tlK_ok
 idl:=fun _ _ _ _ _ h=>by cases h
 ext:=extL_ok
def rowsK:List CRow:=
 [⟨195,[.own 0 3 0],[.arr 209 3 []],.sl 3 [],[.arr 209 3 []]⟩,
  ⟨270,[.nls,Z17],[],.own 0 1 0,[.arr 9 1 []]⟩,
  ⟨284,[.mp 0],[Z44],.mp 1,[Z44,Z44]⟩,
  ⟨425,[.own 0 3 1,Z1,Z17],[.arr 209 3 [.agg [Z2,Z1,Z40]]],.own 1 3 0,[.dead,.arr 209 3 []]⟩,
  ⟨425,[.own 0 3 1,Z1,Z17],[.arr 209 3 [.agg [Z18,Z1,Z33]]],.own 1 3 0,[.dead,.arr 209 3 []]⟩,
  ⟨425,[.own 0 3 1,Z1,Z17],[.arr 209 3 [.agg [Z18,Z33,Z40]]],.own 1 3 0,[.dead,.arr 209 3 []]⟩,
  ⟨68,[.fn 126 [Z109]],[Z89,.mp [(Z72,.agg [Z1,Z16]),(Z32,.agg [Z1,Z16])]],.own 2 1 2,[Z89,.mp [(Z72,.agg [Z1,Z16]),(Z32,.agg [Z1,Z16])],.arr 5 1 [Z32,Z72]]⟩,
  ⟨68,[.fn 128 [Z109]],[Z88,Z44],.own 2 1 0,[Z88,Z44,Z103]⟩]
theorem kK_ok: @LfOK sNil Tryz.prog (@Lf.rows rowsK kK0):= @LfOK.rows sNil _ _ (@kK0_ok sNil (@tblOK_of sNil _ (fun r hr=>by cases hr))) _ (fun c hc=> @CRow.ok_of sNil _ _ (by
 simp only[rowsK,Qe,Qc,or_false] at hc
 rcases hc with rfl | rfl | rfl | rfl | rfl | rfl | rfl | rfl
 ·exact @Le.leaf_CloneP sNil
 ·exact @Le.calls_Grow sNil 1 (by decide) (by decide)
 ·exact @Le.calls_Clone sNil []
 ·exact @Ld3.calls_del sNil [.agg [Z2,Z1,Z40]] 0 1 (by decide) (by decide) rfl
 ·exact @Ld3.calls_del sNil [.agg [Z18,Z1,Z33]] 0 1 (by decide) (by decide) rfl
 ·exact @Ld3.calls_del sNil [.agg [Z18,Z33,Z40]] 0 1 (by decide) (by decide) rfl
 ·exact @Le.leaf_SortedK sNil
 ·exact @Le.leaf_SortedP sNil))
def kr0:CRow:=⟨13,[.own 0 1 1],[.arr 9 1 [Z12]],.tuple [.ptr 1 7 1 0 0,Z1],[.arr 9 1 [Z12],.arr 49 7 [.agg [.ptr 2 32 1 0 0,Z54,Z58,Z3,.nls,Z3,Z2]],.arr 83 32 [.agg [Z1,Z1,Z1,Z1,Z3,Z3,Z7,Z2,.ptr 3 2 1 0 0,Z1,Z1,Z1,Z28,Z27,Z26,Z24,Z1,Z1,Z1,.nls,Z2,.npt,Z3,Z1,Z7,Z7,Z3,Z7,.nls,Z2,Z1,Z1]],.arr 146 2 [.agg [.ptr 4 6 1 0 0,.ptr 7 2 1 0 0]],.arr 211 6 [.agg [Z12,.nls,Z29,Z40,Z10,Z1]],Z56,.arr 209 3 [.agg [Z2,Z1,Z40]],.arr 216 2 [.agg [Z30,Z40]],Z39,.arr 3 1 [Z1],Z15,Z44,Z14,Z44,.arr 135 2 [.agg [Z25,Z1]],Z13,.arr 155 3 [.agg [Z59,Z1,.npt]],Z41,.arr 103 14 [.agg [Z1,Z2,Z2,Z2,Z3,Z1,Z7,Z7,Z3,Z7,Z1,Z2,Z1,Z2]],Z4]⟩
set_option maxRecDepth 100000 in
theorem krun0: @evF sNil Tryz.prog (@Lf.rows rowsK kK0) 60 kr0.f kr0.as kr0.H= .ok (kr0.r,kr0.H'):=by kernel_rfl
def kr1:CRow:=⟨7,[Z36,Z52],[.arr 49 7 [.agg [Z21,.ptr 17 14 1 0 0,.ptr 18 4 1 0 0,Z3,.nls,Z3,Z2]],.arr 83 32 [.agg [Z1,Z1,Z1,Z1,Z3,Z3,Z7,Z2,Z23,Z1,Z1,Z1,.ptr 9 1 1 0 0,.ptr 11 1 1 0 0,.ptr 13 2 1 0 0,.ptr 15 3 1 0 0,Z1,Z1,Z1,.nls,Z2,.npt,Z3,Z1,Z7,Z7,Z3,Z7,.nls,Z2,Z1,Z1]],Z64,.arr 211 6 [.agg [Z12,.nls,.ptr 4 1 1 0 0,Z40,Z10,Z1]],Z107,.arr 209 3 [.agg [Z2,Z1,Z40]],.arr 216 2 [.agg [.ptr 7 1 1 0 0,Z40]],Z85,.arr 3 1 [Z1],Z93,Z44,Z92,Z44,.arr 135 2 [.agg [.ptr 14 1 1 0 0,Z1]],Z13,.arr 155 3 [.agg [.ptr 16 1 1 0 0,Z1,.npt]],Z41,.arr 103 14 [.agg [Z1,Z2,Z2,Z2,Z3,Z1,Z7,Z7,Z3,Z7,Z1,Z2,Z1,Z2]],Z4],Z18,[.arr 49 7 [.agg [Z21,.ptr 17 14 1 0 0,.ptr 18 4 1 0 0,Z3,.nls,Z3,Z2]],.arr 83 32 [.agg [Z1,Z1,Z1,Z1,Z3,Z3,Z7,Z2,Z23,Z1,Z1,Z1,.ptr 9 1 1 0 0,.ptr 11 1 1 0 0,.ptr 13 2 1 0 0,.ptr 15 3 1 0 0,Z1,Z1,Z1,.nls,Z2,.npt,Z3,Z1,Z7,Z7,Z3,Z7,.nls,Z2,Z1,Z1]],Z64,.arr 211 6 [.agg [Z12,.nls,.ptr 4 1 1 0 0,Z40,Z10,Z1]],Z107,.arr 209 3 [.agg [Z2,Z1,Z40]],.arr 216 2 [.agg [.ptr 7 1 1 0 0,Z40]],Z85,.arr 3 1 [Z1],Z93,Z44,Z92,Z44,.arr 135 2 [.agg [.ptr 14 1 1 0 0,Z1]],Z13,.arr 155 3 [.agg [.ptr 16 1 1 0 0,Z1,.npt]],Z41,.arr 103 14 [.agg [Z33,Z18,Z2,Z18,Z3,Z1,.str [100],Z7,Z3,Z7,Z1,Z2,Z1,Z2]],Z4]⟩
set_option maxRecDepth 100000 in
theorem krun1: @evF sNil Tryz.prog (@Lf.rows rowsK kK0) 60 kr1.f kr1.as kr1.H= .ok (kr1.r,kr1.H'):=by kernel_rfl
def kr2:CRow:=⟨7,[Z36,.int .u8 (119)],[.arr 49 7 [.agg [Z21,.ptr 17 14 1 0 0,.ptr 18 4 1 0 0,Z3,.nls,Z3,Z2]],.arr 83 32 [.agg [Z1,Z1,Z1,Z1,Z3,Z3,Z7,Z2,Z23,Z1,Z1,Z1,.ptr 9 1 1 0 0,.ptr 11 1 1 0 0,.ptr 13 2 1 0 0,.ptr 15 3 1 0 0,Z1,Z1,Z1,.nls,Z2,.npt,Z3,Z1,Z7,Z7,Z3,Z7,.nls,Z2,Z1,Z1]],Z64,.arr 211 6 [.agg [Z12,.nls,.ptr 4 1 1 0 0,Z40,Z10,Z1]],Z107,.arr 209 3 [.agg [Z2,Z1,Z40]],.arr 216 2 [.agg [.ptr 7 1 1 0 0,Z40]],Z85,.arr 3 1 [Z1],Z93,Z44,Z92,Z44,.arr 135 2 [.agg [.ptr 14 1 1 0 0,Z1]],Z13,.arr 155 3 [.agg [.ptr 16 1 1 0 0,Z1,.npt]],Z41,.arr 103 14 [.agg [Z33,Z18,Z2,Z18,Z3,Z1,.str [100],Z7,Z3,Z7,Z1,Z2,Z1,Z2]],Z4],Z18,[.arr 49 7 [.agg [Z21,.ptr 17 14 1 0 0,.ptr 18 4 1 0 0,Z3,.nls,Z3,Z2]],.arr 83 32 [.agg [Z1,Z1,Z1,Z1,Z3,Z3,Z7,Z2,Z23,Z1,Z1,Z1,.ptr 9 1 1 0 0,.ptr 11 1 1 0 0,.ptr 13 2 1 0 0,.ptr 15 3 1 0 0,Z1,Z1,Z1,.nls,Z2,.npt,Z3,Z1,.str [100],.str [119],Z3,Z7,.nls,Z18,Z1,Z1]],Z64,.arr 211 6 [.agg [Z12,.own 19 1 3,.ptr 4 1 1 0 0,Z33,Z10,.int .i64 (2)]],.arr 283 1 [.agg [Z80]],.dead,.arr 216 2 [.agg [.ptr 7 1 1 0 0,Z33]],Z85,.arr 3 1 [Z1],Z93,.mp [(Z72,.agg [Z1,Z16]),(Z32,.agg [Z1,Z16])],Z92,Z44,.arr 135 2 [.agg [.ptr 14 1 1 0 0,Z1]],Z13,.arr 155 3 [.agg [.ptr 16 1 1 0 0,Z17,.npt]],.arr 220 1 [.agg [.own 21 5 1]],.arr 103 14 [.agg [Z1,Z2,Z2,Z2,Z3,Z1,Z7,Z7,Z3,Z7,Z1,Z2,Z1,Z2]],Z4,Z105,.arr 209 3 [.agg [Z18,Z1,Z33]],.arr 152 5 [.agg [Z1,Z1,Z1,Z1,.own 22 3 1]],.arr 107 3 [.agg [Z1,.own 23 1 1,.own 24 1 1]],.arr 9 1 [Z12],Z31]⟩
set_option maxRecDepth 100000 in
theorem krun2: @evF sNil Tryz.prog (@Lf.rows rowsK kK0) 60 kr2.f kr2.as kr2.H= .ok (kr2.r,kr2.H'):=by kernel_rfl
def kr3:CRow:=⟨7,[Z36,.int .u8 (112)],[.arr 49 7 [.agg [Z21,Z38,Z43,Z3,.nls,Z3,Z2]],.arr 83 32 [.agg [Z1,Z1,Z1,Z1,Z3,Z3,Z7,Z2,Z23,Z1,Z1,Z1,Z28,Z27,Z26,Z24,Z1,Z1,Z1,.nls,Z2,.npt,Z3,Z1,.str [100],.str [119],Z3,Z7,.nls,Z18,Z1,Z1]],Z5,.arr 211 6 [.agg [Z12,.own 4 1 3,Z29,Z33,Z10,.int .i64 (2)]],Z105,Z56,.arr 209 3 [.agg [Z18,Z1,Z33]],.arr 216 2 [.agg [Z30,Z33]],Z39,.arr 3 1 [Z1],Z15,.mp [(Z72,.agg [Z1,Z16]),(Z32,.agg [Z1,Z16])],Z14,Z44,.arr 135 2 [.agg [Z25,Z1]],Z13,.arr 155 3 [.agg [Z59,Z17,.npt]],.arr 220 1 [.agg [.own 18 5 1]],.arr 152 5 [.agg [Z1,Z1,Z1,Z1,Z61]],.arr 107 3 [.agg [Z1,Z102,Z60]],.arr 9 1 [Z12],Z31,.arr 103 14 [.agg [Z1,Z2,Z2,Z2,Z3,Z1,Z7,Z7,Z3,Z7,Z1,Z2,Z1,Z2]],Z4],Z18,[.arr 49 7 [.agg [Z21,Z38,Z43,Z3,.nls,Z3,Z2]],.arr 83 32 [.agg [Z1,Z53,Z53,Z1,Z3,Z3,Z7,Z2,Z23,Z1,Z1,Z1,Z28,Z27,Z26,Z24,Z1,Z1,Z1,.nls,Z2,.npt,Z3,Z1,Z7,Z75,Z3,Z7,.nls,Z18,Z1,Z1]],Z5,.arr 211 6 [.agg [Z12,.own 4 1 10,Z29,Z40,Z10,Z53]],Z55,.arr 283 1 [.agg [.own 24 3 1]],.dead,.arr 216 2 [.agg [Z30,Z40]],Z39,.arr 3 1 [Z1],Z15,.mp [(Z72,.agg [Z1,Z16]),(Z32,.agg [Z1,Z16])],Z14,Z44,.arr 135 2 [.agg [Z25,Z1]],Z13,Z8,Z19,.arr 152 5 [.agg [Z1,Z1,Z1,Z1,Z61],.agg [Z1,Z1,Z1,Z53,.own 25 3 1]],.arr 107 3 [.agg [Z1,Z102,Z60]],.arr 9 1 [Z12],Z31,.arr 103 14 [.agg [Z1,Z2,Z2,Z2,Z3,Z1,Z7,Z7,Z3,Z7,Z1,Z2,Z1,Z2]],Z4,.arr 209 3 [.agg [Z18,Z33,Z40]],.arr 107 3 [.agg [Z1,.own 26 1 1,.own 27 1 1]],Z31,.arr 9 1 [Z37]]⟩
set_option maxRecDepth 100000 in
theorem krun3: @evF sNil Tryz.prog (@Lf.rows rowsK kK0) 60 kr3.f kr3.as kr3.H= .ok (kr3.r,kr3.H'):=by kernel_rfl
def kr4:CRow:=⟨7,[Z36,.int .u8 (117)],[.arr 49 7 [.agg [Z21,.ptr 25 14 1 0 0,.ptr 26 4 1 0 0,Z3,.nls,Z3,Z2]],.arr 83 32 [.agg [Z1,Z53,Z53,Z1,Z3,Z3,Z7,Z2,Z23,Z1,Z1,Z1,Z28,Z27,Z26,Z24,Z1,Z1,Z1,.nls,Z2,.npt,Z3,Z1,Z7,Z75,Z3,Z7,.nls,Z18,Z1,Z1]],Z5,.arr 211 6 [.agg [Z12,.own 4 1 10,Z29,Z40,Z10,Z53]],Z55,Z56,.arr 209 3 [.agg [Z18,Z33,Z40]],.arr 216 2 [.agg [Z30,Z40]],Z39,.arr 3 1 [Z1],Z15,.mp [(Z72,.agg [Z1,Z16]),(Z32,.agg [Z1,Z16])],Z14,Z44,.arr 135 2 [.agg [Z25,Z1]],Z13,Z8,Z19,.arr 152 5 [.agg [Z1,Z1,Z1,Z1,Z61],.agg [Z1,Z1,Z1,Z53,.own 22 3 1]],.arr 107 3 [.agg [Z1,Z102,Z60]],.arr 9 1 [Z12],Z31,.arr 107 3 [.agg [Z1,.own 23 1 1,.own 24 1 1]],Z31,.arr 9 1 [Z37],.arr 103 14 [.agg [Z1,Z2,Z2,Z2,Z3,Z1,Z7,Z7,Z3,Z7,Z1,Z2,Z1,Z2]],Z4],Z18,[.arr 49 7 [.agg [Z21,.ptr 25 14 1 0 0,.ptr 26 4 1 0 0,Z3,.nls,Z3,Z2]],.arr 83 32 [.agg [Z1,Z1,Z1,Z1,Z3,Z3,Z7,Z2,Z23,Z1,Z1,Z1,Z28,Z27,Z26,Z24,Z1,Z1,Z1,.nls,Z2,.npt,Z3,Z1,Z7,Z75,Z3,Z7,.nls,Z18,Z1,Z53]],Z5,.arr 211 6 [.agg [Z12,.own 4 1 13,Z29,Z33,Z10,.int .i64 (6)]],Z11,.arr 283 1 [.agg [.own 27 3 1]],.dead,.arr 216 2 [.agg [Z30,Z33]],Z39,.arr 3 1 [Z1],Z15,.mp [(Z72,.agg [Z1,Z16]),(Z32,.agg [Z1,Z16])],Z14,Z44,.arr 135 2 [.agg [Z25,Z1]],Z13,.arr 155 3 [.agg [Z59,Z17,.npt]],Z19,.arr 152 5 [.agg [Z1,Z1,Z1,Z1,Z61],.agg [Z1,Z1,Z1,Z53,.sl 3 [.agg [Z1,Z79,.sl 1 [Z37]]]]],.arr 107 3 [.agg [Z1,Z102,Z60]],.arr 9 1 [Z12],Z31,.frz 107 3 [.agg [Z1,.own 23 1 1,.own 24 1 1]],.frz 9 1 [.str [116,119,111]],.frz 9 1 [Z37],.arr 103 14 [.agg [Z1,Z2,Z2,Z2,Z3,Z1,Z7,Z7,Z3,Z7,Z1,Z2,Z1,Z2]],Z4,.arr 209 3 [.agg [Z18,.int .i64 (10),Z33]]]⟩
set_option maxRecDepth 100000 in
theorem krun4: @evF sNil Tryz.prog (@Lf.rows rowsK kK0) 60 kr4.f kr4.as kr4.H= .ok (kr4.r,kr4.H'):=by kernel_rfl
def kr5:CRow:=⟨9,[Z36],[.arr 49 7 [.agg [Z21,Z38,Z43,Z3,.nls,Z3,Z2]],.arr 83 32 [.agg [Z1,Z1,Z1,Z1,Z3,Z3,Z7,Z2,Z23,Z1,Z1,Z1,Z28,Z27,Z26,Z24,Z1,Z1,Z1,.nls,Z2,.npt,Z3,Z1,Z7,Z75,Z3,Z7,.nls,Z18,Z1,Z53]],Z5,.arr 211 6 [.agg [Z12,.own 4 1 13,Z29,Z33,Z10,.int .i64 (6)]],Z11,Z56,.arr 209 3 [.agg [Z18,.int .i64 (10),Z33]],.arr 216 2 [.agg [Z30,Z33]],Z39,.arr 3 1 [Z1],Z15,.mp [(Z72,.agg [Z1,Z16]),(Z32,.agg [Z1,Z16])],Z14,Z44,.arr 135 2 [.agg [Z25,Z1]],Z13,.arr 155 3 [.agg [Z59,Z17,.npt]],Z19,.arr 152 5 [.agg [Z1,Z1,Z1,Z1,Z61],.agg [Z1,Z1,Z1,Z53,.sl 3 [.agg [Z1,Z79,.sl 1 [Z37]]]]],.arr 107 3 [.agg [Z1,Z102,Z60]],.arr 9 1 [Z12],Z31,.arr 103 14 [.agg [Z1,Z2,Z2,Z2,Z3,Z1,Z7,Z7,Z3,Z7,Z1,Z2,Z1,Z2]],Z4],.agg [.own 24 1 1,Z1,Z1,Z1,Z1,Z1,Z1,Z2,Z1,.own 25 1 2,.own 26 2 2,.own 29 1 0,.nls,.nls,Z1,Z3],[.arr 49 7 [.agg [Z21,Z38,Z43,Z3,.nls,Z3,Z2]],.arr 83 32 [.agg [Z1,Z1,Z1,Z1,Z3,Z3,Z7,Z2,Z23,Z1,Z1,Z1,Z28,Z27,Z26,Z24,Z1,Z1,Z1,.nls,Z2,.npt,Z3,Z1,Z7,Z75,Z3,Z7,.nls,Z18,Z1,Z53]],Z5,.arr 211 6 [.agg [Z12,.own 4 1 13,Z29,Z33,Z10,.int .i64 (6)]],Z11,Z56,.arr 209 3 [.agg [Z18,.int .i64 (10),Z33]],.arr 216 2 [.agg [Z30,Z33]],Z39,.arr 3 1 [Z1],Z15,.mp [(Z72,.agg [Z1,Z16]),(Z32,.agg [Z1,Z16])],Z14,Z44,.arr 135 2 [.agg [Z25,Z1]],Z13,.arr 155 3 [.agg [Z59,Z17,.npt]],Z19,.arr 152 5 [.agg [Z1,Z1,Z1,Z1,Z61],.agg [Z1,Z1,Z1,Z53,.sl 3 [.agg [Z1,Z79,.sl 1 [Z37]]]]],.arr 107 3 [.agg [Z1,Z102,Z60]],.arr 9 1 [Z12],Z31,.arr 103 14 [.agg [Z1,Z2,Z2,Z2,Z3,Z1,Z7,Z7,Z3,Z7,Z1,Z2,Z1,Z2]],Z4,Z31,.arr 5 1 [Z32,Z72],.arr 87 2 [.agg [Z1,.own 27 1 1],.agg [Z1,.own 28 1 1]],.arr 9 1 [.str [111,110,101,32]],.arr 9 1 [.str [111,110,101,32]],Z103]⟩
set_option maxRecDepth 100000 in
theorem krun5: @evF sNil Tryz.prog (@Lf.rows rowsK kK0) 60 kr5.f kr5.as kr5.H= .ok (kr5.r,kr5.H'):=by kernel_rfl
def kr6:CRow:=⟨7,[Z36,.int .u8 (122)],[.arr 49 7 [.agg [Z21,Z38,Z43,Z3,.nls,Z3,Z2]],.arr 83 32 [.agg [Z1,Z1,Z1,Z1,Z3,Z3,Z7,Z2,Z23,Z1,Z1,Z1,Z28,Z27,Z26,Z24,Z1,Z1,Z1,.nls,Z2,.npt,Z3,Z1,Z7,Z75,Z3,Z7,.nls,Z18,Z1,Z53]],Z5,.arr 211 6 [.agg [Z12,.own 4 1 13,Z29,Z33,Z10,.int .i64 (6)]],Z11,Z56,.arr 209 3 [.agg [Z18,.int .i64 (10),Z33]],.arr 216 2 [.agg [Z30,Z33]],Z39,.arr 3 1 [Z1],Z15,.mp [(Z72,.agg [Z1,Z16]),(Z32,.agg [Z1,Z16])],Z14,Z44,.arr 135 2 [.agg [Z25,Z1]],Z13,.arr 155 3 [.agg [Z59,Z17,.npt]],Z19,.arr 152 5 [.agg [Z1,Z1,Z1,Z1,Z61],.agg [Z1,Z1,Z1,Z53,.sl 3 [.agg [Z1,Z79,.sl 1 [Z37]]]]],.arr 107 3 [.agg [Z1,Z102,Z60]],.arr 9 1 [Z12],Z31,.arr 103 14 [.agg [Z1,Z2,Z2,Z2,Z3,Z1,Z7,Z7,Z3,Z7,Z1,Z2,Z1,Z2]],Z4],Z2,[.arr 49 7 [.agg [Z21,Z38,Z43,Z3,.nls,Z3,Z18]],.arr 83 32 [.agg [Z1,Z1,Z1,Z1,Z3,Z3,Z7,Z2,Z23,Z1,Z1,Z1,Z28,Z27,Z26,Z24,Z1,Z1,Z1,.nls,Z2,.npt,Z3,Z1,Z7,Z75,Z3,Z7,.nls,Z18,Z1,Z53]],Z5,.arr 211 6 [.agg [Z12,.own 4 1 13,Z29,Z33,Z10,.int .i64 (6)]],Z11,Z56,.arr 209 3 [.agg [Z18,.int .i64 (10),Z33]],.arr 216 2 [.agg [Z30,Z33]],Z39,.arr 3 1 [Z1],Z15,.mp [(Z72,.agg [Z1,Z16]),(Z32,.agg [Z1,Z16])],Z14,Z44,.arr 135 2 [.agg [Z25,Z1]],Z13,.arr 155 3 [.agg [Z59,Z17,.npt]],Z19,.arr 152 5 [.agg [Z1,Z1,Z1,Z1,Z61],.agg [Z1,Z1,Z1,Z53,.sl 3 [.agg [Z1,Z79,.sl 1 [Z37]]]]],.arr 107 3 [.agg [Z1,Z102,Z60]],.arr 9 1 [Z12],Z31,.arr 103 14 [.agg [Z1,Z2,Z2,Z2,Z3,Z1,Z7,Z7,Z3,Z7,Z1,Z2,Z1,Z2]],Z4]⟩
set_option maxRecDepth 100000 in
theorem krun6: @evF sNil Tryz.prog (@Lf.rows rowsK kK0) 60 kr6.f kr6.as kr6.H= .ok (kr6.r,kr6.H'):=by kernel_rfl
def rowsKK:List CRow:=[kr0,kr1,kr2,kr3,kr4,kr5,kr6]
theorem kKK_ok: @LfOK sNil Tryz.prog (@Lf.rows rowsKK (@Lf.rows rowsK kK0)):= @LfOK.rows sNil _ _ kK_ok _ (fun c hc=>by
 simp only[rowsKK,Qe,Qc,or_false] at hc
 rcases hc with rfl | rfl | rfl | rfl | rfl | rfl | rfl
 ·exact @evF_ok sNil _ _ kK_ok (@mixed sNil) _ _ _ _ _ _ krun0
 ·exact @evF_ok sNil _ _ kK_ok (@mixed sNil) _ _ _ _ _ _ krun1
 ·exact @evF_ok sNil _ _ kK_ok (@mixed sNil) _ _ _ _ _ _ krun2
 ·exact @evF_ok sNil _ _ kK_ok (@mixed sNil) _ _ _ _ _ _ krun3
 ·exact @evF_ok sNil _ _ kK_ok (@mixed sNil) _ _ _ _ _ _ krun4
 ·exact @evF_ok sNil _ _ kK_ok (@mixed sNil) _ _ _ _ _ _ krun5
 ·exact @evF_ok sNil _ _ kK_ok (@mixed sNil) _ _ _ _ _ _ krun6)
set_option maxRecDepth 100000 in
theorem calls_known [S:Syms]:CallsR Tryz.prog 4 [] [] (Z18) []:=by
 have hrun: @evF sNil Tryz.prog (@Lf.rows rowsKK (@Lf.rows rowsK kK0)) 60 4 [] []= .ok (Z18,[]):=by kernel_rfl
 exact tr_calls sNil S rfl rfl rfl rfl (@evF_ok sNil _ _ kKK_ok mixed _ _ _ _ _ _ hrun)
end Go.Pg.Le
