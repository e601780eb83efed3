/- Pg: abstract values, what operations, regions, calls come to on them. -/
import Derived.Test.YtjbgnnggmngpcaaGreatDoorPgGa
import Derived.Laws.Cells
import Derived.Laws.Append
import Derived.Laws.CopyRow
import Derived.Laws.BytesString
import Derived.Lib.ConvBytes
import Derived.Laws.MakeOwn
set_option linter.unusedVariables false
set_option linter.unusedSimpArgs false
set_option linter.unusedSectionVars false
open List renaming getElem?_eq_some_iff → Qa,eq_nil_of_length_eq_zero → Qc,getElem?_append_left → Qd,getElem?_append_right → Qg,length_append → Qj,all_eq_true → Qk,getElem?_set_self → Qn,size_toArray → Qo,getElem?_set → Qw,append_assoc → Qx,mem_of_getElem? → Qz,getElem?_set_ne → Q0,getElem?_take → Q3,getElem?_drop → Q4,getElem?_map → Q5,length_pos_iff → Q8,ext_getElem? → Xb,getElem?_eq_getElem → Xe,getElem_mem → Xf,length_take → Xg,length_drop → Xh,length_nil → Xj,length_map → Xk,getElem?_eq_none → Xm,getElem?_toArray → Xn,mem_iff_getElem → Xq,getElem?_range → Xr,map_cons → Xs,range → Xt,mem_singleton → Xu,append_nil → Xy,replicate → X1
open Nat renaming mul_le_mul_right → Qb,le_refl → Qf,add_mul → Qh,one_mul → Qt,add_zero → Qu,mul_le_mul_left → Q2,zero_add → Q6,mul_comm → Q9,eq_zero_or_pos → Xa,add_assoc → Xd,div_lt_of_lt_mul → Xp,lt_or_ge → Xw,div_add_mod → Xz,mod_lt → X2
open Array renaming getD_eq_getD_getElem? → Qe,getElem?_eq_getElem → Qi,getElem?_eq_some_iff → Ql,length_toList → Qm,size_append → Qp,getElem?_append_left → Qy,getElem?_push → Q1,eq_empty_of_size_eq_zero → Q7,range → Xc,getElem?_eq_none → Xi,getElem?_modify → Xo,getElem?_map → Xv,toList_inj → Xx,ext' → X0
open Option renaming isSome_iff_exists → Qq,bind_some → Qr,getD_some → Qs,map_eq_some_iff → Qv,map_some → Xl
namespace Go.Pg
open Go
variable [Syms]
theorem wp_of_value {P:Program}{o:Oper}{a:Act}{w w':World}{v:Value}{K:Act→World→Prop}{Q:Exit→Act→World→Prop}
 (h:(execOp a.eval o).run P w= .ok (.value v) w') (hk:K (a.put o.dst v) w'):o.wp P a w K Q:=by
 unfold Oper.wp;rw[h,Oper.upon_value];exact hk
theorem wp_of_skip {P:Program}{o:Oper}{a:Act}{w w':World}{K:Act→World→Prop}{Q:Exit→Act→World→Prop}
 (h:(execOp a.eval o).run P w= .ok .skip w') (hk:K (a.put o.dst Go.undef) w'):o.wp P a w K Q:=by
 unfold Oper.wp;rw[h,Oper.upon_skip];exact hk
theorem Rel.some_lt {H:AH}{E:Env}(hr:Rel H E){id:Nat}{m:Option Nat}(hm:E.M id=some m):id<H.length:=by
 rcases Xw id H.length with h | h
 ·exact h
 ·rw[hr.dom id h] at hm;cases hm
theorem Rel.block_lt {H:AH}{E:Env}(hr:Rel H E){id:Nat}{e:TypeId}{sz:Nat}{vs:List AV}{b:Nat}(h:H[id]? =some (.arr e sz vs)∨H[id]? =some (.frz e sz vs))(hm:E.M id=some (some b)):b<E.W.heap.size:=by
 rcases hr.row id e sz vs h _ hm with⟨h,_⟩ | ⟨b',c,fz,hb,hw,_⟩
 ·cases h
 ·cases hb;exact(Ql.1 hw).1
theorem Rel.lt' {H:AH}{E:Env}(hr:Rel H E){id:Nat}{o:AO}{b:Nat}(h:H[id]? =some o)(hd:o≠ .dead)(hm:E.M id=some (some b)):b<E.W.heap.size:=(hr.orow id o _ h hm).block hd
structure SameBut (w w':World):Prop where
 os:w'.os=w.os
 tape:w'.tape=w.tape
 output:w'.output=w.output
theorem alloc_gen {HD:AH}{E:Env}(hr:Rel HD E){id:Nat}(hm:E.M id=none){o':AO}(ho:HD[id]? =some o')(hd:o'≠ .dead)
 {w':World} {ob:Obj} (hs:SameBut E.W w') (hh:w'.heap=E.W.heap.push ob)
 (hrow:∀E':Env,EExt E E'→E'.W=w'→ORow E' (some E.W.heap.size) o') :
 ∃E',E'.W=w'∧Rel HD E'∧Step HD E HD E'∧(∀j,E.M j=none→E'.M j≠none→j=id)∧E'.M id=some (some E.W.heap.size)∧E'.hl=E.hl:=by
 let E':Env:={ W:=w',M:=fun j=>if j=id then some (some E.W.heap.size) else E.M j,st:=fun b=>E.st b∨(o'.fixed=true∧b=E.W.heap.size),hl:=E.hl }
 have hid:∀j m,E.M j=some m→j≠id:=fun j m hj e=>by rw[e,hm] at hj;cases hj
 have hold:∀b,b<E.W.heap.size→w'.heap[b]? =E.W.heap[b]?:=fun b hb=>by
  rw[hh,Q1,if_neg (by omega)]
 have hM1:E'.M id=some (some E.W.heap.size):=by simp [E']
 have hM2:∀j,j≠id→E'.M j=E.M j:=fun j hj=>by simp only[E',if_neg hj]
 have hlive:∀b,Live HD E'.M b→Live HD E.M b∨E.W.heap.size≤b:=by
  rintro b ⟨j,o,h1,hl,h2⟩
  by_cases hj:j=id
  ·subst hj
   rw[hM1] at h2
   cases h2;exact .inr (Qf _)
  ·rw[hM2 j hj] at h2
   exact .inl ⟨j,o,h1,hl,h2⟩
 have hst:Step HD E HD E':=by
  refine⟨⟨hs.os,hs.tape,hs.output,by show E.W.heap.size≤w'.heap.size;rw[hh];simp,fun b hb _=>hold b hb,?_,?_,fun b hb=> .inl hb⟩,⟨fun j hj=>?_,fun j L' hj hL=>⟨L',hL,Qf _,fun _=>?_⟩⟩,hlive⟩
  ·intro b c' ty fz' hb
   exact⟨c',_,by show w'.heap[b]? =_;rw[hold b (Ql.1 hb).1];exact hb,rfl⟩
  ·rintro b hb (h | ⟨_,h⟩)
   ·exact .inl h
   ·omega
  ·simp only[E'];split
   ·rfl
   ·exact hj
  ·obtain⟨m,hj⟩:=Qq.1 hj
   exact hM2 j (hid j m hj)
 have hx:=hst.ext hr
 refine⟨E',rfl,⟨hr.hl,?_,?_,?_,?_,?_,?_⟩,hst,?_,hM1,rfl⟩
 ·intro j hj
  have:j≠id:=fun e=>by
   subst e
   have:=(Qa.1 ho).1;omega
  rw[hM2 j this];exact hr.dom j hj
 ·intro j o m h hmj
  by_cases hj:j=id
  ·subst hj
   rw[hM1] at hmj
   cases hmj
   rw[ho] at h;cases h
   exact hrow E' hx rfl
  ·rw[hM2 j hj] at hmj
   have h0:=hr.orow j o m h hmj
   by_cases hd':o= .dead
   ·subst hd';trivial
   ·exact h0.mono hx fun b hb=>by subst hb;exact hold b (h0.block hd')
 ·intro j o b h hlv hmj
  by_cases hj:j=id
  ·subst hj
   rw[hM1] at hmj
   cases hmj
   rintro(h' | ⟨h',_⟩)
   ·have:=hr.stlt _ h';omega
   ·rw[ho] at h;cases h
    rw[AO.fixed_lives h'] at hlv;cases hlv
  ·rw[hM2 j hj] at hmj
   rintro(h' | ⟨_,h'⟩)
   ·exact hr.nst' j o b h hlv hmj h'
   ·have:=hr.lt' h (AO.lives_dead hlv) hmj;omega
 ·intro j o b h hfx hmj
  by_cases hj:j=id
  ·subst hj
   rw[hM1] at hmj
   cases hmj
   rw[ho] at h;cases h
   exact .inr ⟨hfx,rfl⟩
  ·rw[hM2 j hj] at hmj
   exact .inl (hr.fst' j o b h hfx hmj)
 ·intro j j' o1 o2 b h1 h2 l1 l2 m1 m2
  by_cases hj:j=id <;> by_cases hj':j'=id
  ·rw[hj,hj']
  ·subst hj
   rw[hM1] at m1
   rw[hM2 j' hj'] at m2
   cases m1
   have:=hr.lt' h2 (AO.lives_dead l2) m2;omega
  ·subst hj'
   rw[hM1] at m2
   rw[hM2 j hj] at m1
   cases m2
   have:=hr.lt' h1 (AO.lives_dead l1) m1;omega
  ·rw[hM2 j hj] at m1
   rw[hM2 j' hj'] at m2
   exact hr.inj' j j' _ _ b h1 h2 l1 l2 m1 m2
 ·rintro b (h | ⟨_,h⟩)
  ·have:=hr.stlt b h
   show b<w'.heap.size
   rw[hh];simp;omega
  ·show b<w'.heap.size
   rw[hh];simp;omega
 ·intro j h1 h2
  by_cases hj:j=id
  ·exact hj
  ·rw[hM2 j hj] at h2;exact absurd h1 h2
theorem AOle.not_dead {e:TypeId}{sz:Nat}{vs:List AV}{o':AO}(hle:AOle (.arr e sz vs) o'):o'≠ .dead:=by
 rcases hle with rfl | ⟨_,_,_,_,rfl⟩ | ⟨_,h,_⟩
 ·simp
 ·simp
 ·cases h
theorem ORow.of_le {E:Env}{m:Option Nat}{e:TypeId}{sz:Nat}{vs:List AV}{o':AO}(hle:AOle (.arr e sz vs) o')(h:ARow E m e sz vs):ORow E m o':=by
 exact ORow.fix hle h
theorem alloc_rel {HD:AH}{E:Env}(hr:Rel HD E){id:Nat}(hm:E.M id=none){e:TypeId}{sz:Nat}{vs:List AV}{o':AO}(ho:HD[id]? =some o')(hle:AOle (.arr e sz vs) o')
 {w':World} {c:Array Value} {fz:Nat×Nat} (hs:SameBut E.W w') (hh:w'.heap=E.W.heap.push (.cells c e fz)) (hc:vs.length * sz≤c.size) (hz:ThawS e sz fz c.size)
 (hv:∀(i:Nat) v,vs[i]? =some v→v.cells.length=sz∧∀(j:Nat) cc,v.cells[j]? =some cc→∃u,c[i * sz+j]? =some u∧VR E cc u) :
 ∃E',E'.W=w'∧Rel HD E'∧Step HD E HD E'∧(∀j,E.M j=none→E'.M j≠none→j=id)∧E'.M id=some (some E.W.heap.size)∧E'.hl=E.hl:=by
 refine alloc_gen hr hm ho hle.not_dead hs hh fun E' hx hW=>ORow.of_le hle (.inr ⟨_,c,fz,rfl,by rw[hW,hh];simp,hc,hz,fun i v hi=>⟨(hv i v hi).1,fun k cc hk=>?_⟩⟩)
 obtain⟨u,h1,h2⟩:=(hv i v hi).2 k cc hk
 exact⟨u,h1,h2.mono hx⟩
theorem alloc_nil {HD:AH}{E:Env}(hr:Rel HD E){id:Nat}(hm:E.M id=none){e:TypeId}{sz:Nat}{o':AO}(ho:HD[id]? =some o')(hle:AOle (.arr e sz []) o') :
 ∃E',E'.W=E.W∧Rel HD E'∧Step HD E HD E'∧(∀j,E.M j=none→E'.M j≠none→j=id)∧E'.M id=some none∧E'.hl=E.hl:=by
 let E':Env:={ W:=E.W,M:=fun j=>if j=id then some none else E.M j,st:=E.st,hl:=E.hl }
 have hid:∀j m,E.M j=some m→j≠id:=fun j m hj e=>by rw[e,hm] at hj;cases hj
 have some_of:∀{j b},E'.M j=some (some b)→E.M j=some (some b):=by
  intro j b h
  by_cases hj:j=id
  ·subst hj;simp only[E',if_true] at h;cases h
  ·simpa only[E',if_neg hj] using h
 have hst:Step HD E HD E':=by
  refine⟨⟨rfl,rfl,rfl,Qf _,fun _ _ _=>rfl,fun b c' ty fz' hb=>⟨c',_,hb,rfl⟩,fun b hb h=> .inl h,fun b hb=>hb⟩,⟨fun j hj=>?_,fun j L' hj hL=>⟨L',hL,Qf _,fun _=>?_⟩⟩,fun b hb=> .inl ?_⟩
  ·simp only[E'];split
   ·rfl
   ·exact hj
  ·obtain⟨m,hj⟩:=Qq.1 hj
   simp only[E',if_neg (hid j m hj)]
  ·obtain⟨j,o,h1,h2,h3⟩:=hb
   exact⟨j,o,h1,h2,some_of h3⟩
 have hx:=hst.ext hr
 refine⟨E',rfl,⟨hr.hl,?_,?_,fun j o b h hl hmj=>hr.nst' j o b h hl (some_of hmj),fun j o b h hl hmj=>hr.fst' j o b h hl (some_of hmj),fun j j' o1 o2 b h1 h2 l1 l2 m1 m2=>hr.inj' j j' _ _ b h1 h2 l1 l2 (some_of m1) (some_of m2),hr.stlt⟩,hst,?_,by simp [E'],rfl⟩
 ·intro j hj
  have:j≠id:=fun e=>by
   subst e
   have:=(Qa.1 ho).1;omega
  simp only[E',if_neg this];exact hr.dom j hj
 ·intro j o m h hmj
  by_cases hj:j=id
  ·subst hj
   simp only[E',if_true] at hmj
   cases hmj
   rw[ho] at h;cases h
   exact ORow.of_le hle (.inl ⟨rfl,rfl⟩)
  ·simp only[E',if_neg hj] at hmj
   exact(hr.orow j o m h hmj).mono hx fun _ _=>rfl
 ·intro j h1 h2
  by_cases hj:j=id
  ·exact hj
  ·simp only[E',if_neg hj] at h2;exact absurd h1 h2
def objAt (H:AH)(id:Nat):Option (TypeId×Nat×List AV):=
 match H[id]? with
 | some (.arr e sz vs)=>some (e,sz,vs)
 | some (.frz e sz vs)=>some (e,sz,vs)
 | _=>none
theorem objAt_cases {H:AH}{id:Nat}{e:TypeId}{sz:Nat}{vs:List AV}(h:objAt H id=some (e,sz,vs)):H[id]? =some (.arr e sz vs)∨H[id]? =some (.frz e sz vs):=by
 unfold objAt at h
 split at h <;> first | (cases h;done) | (next hh=>cases h;rw[hh];simp)
theorem objAt_has {H HD:AH}{id:Nat}{e:TypeId}{sz:Nat}{vs:List AV}(h:objAt H id=some (e,sz,vs))(hh:Has H id HD):objAt HD id=some (e,sz,vs):=by
 rcases objAt_cases h with h | h
 ·obtain⟨o',h1,h2⟩:=hh _ h
  rcases h2 with rfl | ⟨_,_,_,h3,h4⟩ | ⟨_,h3,_⟩
  ·simp [objAt,h1]
  ·cases h3;subst h4;simp [objAt,h1]
  ·cases h3
 ·obtain⟨o',h1,h2⟩:=hh _ h
  rcases h2 with rfl | ⟨_,_,_,h3,h4⟩ | ⟨_,h3,_⟩
  ·simp [objAt,h1]
  ·cases h3
  ·cases h3
theorem objAt_hl {H:AH}{E:Env}(hr:Rel H E){id:Nat}{e:TypeId}{sz:Nat}{vs:List AV}(h:objAt H id=some (e,sz,vs)):E.hl id=some vs.length:=by
 rw[hr.hl]
 unfold hlOf
 rcases objAt_cases h with h | h <;> rw[h] <;> rfl
theorem ptr_read {H:AH}{E:Env}(hr:Rel H E){id sz len idx off:Nat}{v:Value}(hv:VR E (.ptr id sz len idx off) v){e:TypeId}{vs:List AV}
 (h:objAt H id=some (e,sz,vs)) (hl:vs.length=len) {x:AV} (hx:vs[idx]? =some x) :
 ∃b,E.M id=some (some b)∧v= .pointer (some ⟨b,idx * sz+off,none⟩)∧x.cells.length=sz∧
  ∃c fz,E.W.heap[b]? =some (.cells c e fz)∧ThawS e sz fz c.size∧vs.length * sz≤c.size∧∀(j:Nat) cc,x.cells[j]? =some cc→∃u,c[idx * sz+j]? =some u∧VR E cc u:=by
 cases hv with
 | ptr _ _ _ _ _ a hm hh=>
  obtain⟨b,hb,rfl⟩:=(hh _ (objAt_hl hr h)).2 hl.symm
  rcases hr.row id e sz vs (objAt_cases h) _ hb with⟨h,_⟩ | ⟨b',c,fz,hb',hw,hc,hz,hv⟩
  ·cases h
  ·cases hb'
   exact⟨b,hb,rfl,(hv _ _ hx).1,c,fz,hw,hz,hc,(hv _ _ hx).2⟩
def ldCells (P:Program)(t:TypeId)(cs:List AV)(off:Nat):Option AV:=
 match (tk P t).cells with
 | some (true,n)=>if off+n≤cs.length then some (.agg (cutL cs off (off+n))) else none
 | some (false,_)=>cs[off]?
 | none=>none
theorem load_run {P:Program}{t:TypeId}{cs:List AV}{off:Nat}{V:AV}(h:ldCells P t cs off=some V){E:Env}{b o:Nat}
 (hc:∀(j:Nat) c,cs[j]? =some c→∃u,E.W.cell? ⟨b,o+j,none⟩=some u∧VR E c u) :
 ∃v,VR E V v∧(loadVar t ⟨b,o+off,none⟩).run P E.W= .ok v E.W:=by
 unfold ldCells at h
 split at h
 ·next n hk=>
  split at h
  ·next hle=>
   cases h
   obtain⟨ha,i,hi,hsz⟩:=tk_cells hk E.W
   have hall:∀j,j<n→∃u,E.W.cell? ⟨b,o+off+j,none⟩=some u∧∀c,cs[off+j]? =some c→VR E c u:=by
    intro j hj
    obtain⟨u,h1,h2⟩:=hc (off+j) (cs[off+j]'(by omega)) (by simp)
    refine⟨u,by rw[Xd];exact h1,fun c h3=>?_⟩
    have:cs[off+j]? =some (cs[off+j]'(by omega)):=by simp
    rw[this] at h3;cases h3;exact h2
   let f:Nat→Value:=fun j=>(E.W.cell? ⟨b,o+off+j,none⟩).getD Go.undef
   have hf:∀j,j<n→E.W.cell? ((⟨b,o+off,none⟩:Addr).add j)=some (f j):=by
    intro j hj
    obtain⟨u,h1,_⟩:=hall j hj
    rw[add_addr];simp [f,h1]
   refine⟨.agg ((Xt n).map f).toArray,.agg _ _ (by simp [cutL];omega) (fun j c hj=>?_),?_⟩
   ·unfold cutL at hj
    rw[Q3] at hj
    split at hj
    ·next hlt=>
     rw[Q4] at hj
     have hjn:j<n:=by omega
     obtain⟨u,h1,h2⟩:=hall j hjn
     have:((Xt n).map f).toArray.getD j Go.undef=u:=by simp [hjn,f,h1]
     rw[this];exact h2 c hj
    ·cases hj
   ·simp only[loadVar,Sem.run_bind,ha,Result.andThen_ok,if_true,sizeOf,typeInfo,run_program,hi,Sem.run_pure,hsz]
    rw[run_loadCells E.W _ n f hf]
    rfl
  ·cases h
 ·next n hk=>
  obtain⟨ha,i,hi,hsz⟩:=tk_cells hk E.W
  obtain⟨u,h1,h2⟩:=hc off V h
  refine⟨u,h2,?_⟩
  simp only[loadVar,Sem.run_bind,ha,Result.andThen_ok,Bool.false_eq_true,if_false,run_load,h1]
 ·cases h
theorem run_storeCells_thaw {P:Program}(g o:Nat)(t:TypeId)(fz:Nat×Nat):∀(vs:List Value)(i:Nat)(cur:Array Value)(w:World),w.heap[g]? =some (.cells cur t fz)→Thaw fz cur.size→o+i+vs.length≤cur.size→(∀v∈vs,v.oneCell'=true)→
 (storeCells ⟨g,o,none⟩ vs i).run P w= .ok () (w.setRow g (cur.toList.take (o+i) ++ vs ++ cur.toList.drop (o+i+vs.length)).toArray)
 | [],i,cur,w,hg,_,_,_=>by
  simp only[storeCells,Xy,Xj,Qu,List.take_append_drop,Array.toArray_toList]
  rw[setRow_self w g cur t fz hg]
  rfl
 | v :: rest,i,cur,w,hg,hz,hl,h1=>by
  have hi:o+i<cur.size:=by simp at hl;omega
  have hadd:(⟨g,o,none⟩:Addr).add i=⟨g,o+i,none⟩:=add_addr g o i
  have hcell:w.cell? ⟨g,o+i,none⟩=some cur[o+i]:=by simp [World.cell?,hg,hi]
  have hfro:w.frozen? ⟨g,o+i,none⟩=false:=by
   have:=hz (o+i) hi
   obtain⟨lo,hi'⟩:=fz
   simp only[World.frozen?,hg,Bool.and_eq_false_iff,decide_eq_false_iff_not]
   simp only at this
   omega
  have hst:(store ((⟨g,o,none⟩:Addr).add i) v).run P w= .ok () (w.setRow g (cur.setIfInBounds (o+i) v)):=by
   rw[hadd,run_store P w _ v _ (h1 v (by simp)),hcell]
   simp [hfro,setCell_eq_setRow w g (o+i) cur t fz v hg]
  have ih:=run_storeCells_thaw (P:=P) g o t fz rest (i+1) (cur.setIfInBounds (o+i) v) (w.setRow g (cur.setIfInBounds (o+i) v)) (setRow_heap w g cur _ t fz hg) (by simpa using hz) (by simp at hl ⊢;omega) (fun x hx=>h1 x (by simp [hx]))
  simp only[storeCells,Sem.run_bind,hst,Result.andThen_ok,ih,setRow_setRow]
  congr 3
  have e:=list_seg_step cur.toList (o+i) v rest (by simp at hl ⊢;omega)
  simpa [Array.toList_setIfInBounds,Xd] using e
def AV.leaf:AV→Bool
 | .top | .undef | .agg _ | .tuple _ | .cond _ _ | .cst _=>false
 | _=>true
theorem VP.oneC {W:World}{st:Nat→Prop}{a:AV}{v:Value}(h:VP W st a v)(ht:a.tame=true):v.oneCell'=true:=by
 cases h <;> first | rfl | (simp [AV.tame] at ht)
theorem leaf_one {E:Env}{x:AV}{v:Value}(h:VR E x v)(hl:x.leaf=true):v.oneCell'=true:=by
 cases h with
 | sym i v h=>exact h.oneC (Syms.tame i)
 | ows id sz j v h=>cases h;rfl
 | _=>first | rfl | (simp [AV.leaf] at hl)
theorem write_gen {HD:AH}{E:Env}(hr:Rel HD E){id:Nat}{o o':AO}{b:Nat}(ho:HD[id]? =some o)(hlv:o.lives=true)(hd:o'≠ .dead)(hm:E.M id=some (some b))
 {w':World} (hs:SameBut E.W w') (hsz:w'.heap.size=E.W.heap.size) (hwo:∀k,k≠b→w'.heap[k]? =E.W.heap[k]?)
 (hsh:∀(c:Array Value) (ty:TypeId) (fz:Nat×Nat),E.W.heap[b]? =some (.cells c ty fz)→∃c' fz',w'.heap[b]? =some (.cells c' ty fz')∧c'.size=c.size)
 (hlen:∀L',o'.len=some L'→∃L,o.len=some L∧L≤L')
 (hrow:∀E':Env,EExt E E'→E'.W=w'→ORow E' (some b) o') :
 ∃E',E'.W=w'∧Rel (HD.set id o') E'∧Step HD E (HD.set id o') E'∧E'.M=E.M:=by
 have hbl:b<E.W.heap.size:=hr.lt' ho (AO.lives_dead hlv) hm
 have hidl:id<HD.length:=(Qa.1 ho).1
 have hget:∀j:Nat,(HD.set id o')[j]? =if j=id then some o' else HD[j]?:=by
  intro j
  rw[Qw]
  by_cases h:id=j
  ·subst h;simp [hidl]
  ·rw[if_neg h,if_neg (fun x=>h x.symm)]
 let E':Env:={ W:=w',M:=E.M,st:=fun k=>E.st k∨(o'.fixed=true∧k=b),hl:=hlOf (HD.set id o') }
 have hst:Step HD E (HD.set id o') E':=by
  refine⟨⟨hs.os,hs.tape,hs.output,by show E.W.heap.size≤w'.heap.size;omega,fun k _ hL=>hwo k (fun hk=>hL (by subst hk;exact⟨id,o,ho,hlv,hm⟩)),?_,?_,fun k h=> .inl h⟩,⟨fun _ h=>h,fun j L' hj hL=>?_⟩,?_⟩
  ·intro k c0 ty0 fz0 hk
   by_cases hkb:k=b
   ·subst hkb
    exact hsh c0 ty0 fz0 hk
   ·exact⟨c0,_,by rw[←hk];exact hwo k hkb,rfl⟩
  ·rintro k _ (h | ⟨_,rfl⟩)
   ·exact .inl h
   ·exact .inr ⟨id,o,ho,hlv,hm⟩
  ·simp only[E',hlOf,hget] at hL
   rw[hr.hl]
   split at hL
   ·next hj=>
    subst hj
    simp only[Qr] at hL
    obtain⟨L,h1,h2⟩:=hlen L' hL
    exact⟨L,by simp [hlOf,ho,h1],h2,fun _=>rfl⟩
   ·exact⟨L',hL,Qf _,fun _=>rfl⟩
  ·rintro k ⟨j,o1,h1,h2,h3⟩
   rw[hget] at h1
   split at h1
   ·next hj=>subst hj;exact .inl ⟨j,o,ho,hlv,h3⟩
   ·exact .inl ⟨j,o1,h1,h2,h3⟩
 have hx:=hst.ext hr
 refine⟨E',rfl,⟨rfl,fun j hj=>hr.dom j (by simpa using hj),?_,?_,?_,?_,?_⟩,hst,rfl⟩
 ·intro j o1 m h hmj
  rw[hget] at h
  by_cases hj:j=id
  ·subst hj
   rw[if_pos rfl] at h;cases h
   have:m=some b:=by have:=hmj.symm.trans hm;cases this;rfl
   subst this
   exact hrow E' hx rfl
  ·rw[if_neg hj] at h
   have h0:=hr.orow j o1 m h hmj
   by_cases hd1:o1= .dead
   ·subst hd1;trivial
   ·refine h0.mono hx fun b' hb'=>hwo b' ?_
    rintro rfl
    subst hb'
    by_cases hl1:o1.lives=true
    ·exact hj (hr.inj' j id _ _ b' h ho hl1 hlv hmj hm)
    ·have hf1:o1.fixed=true:=by cases o1 <;> first | rfl | exact absurd rfl hl1 | exact absurd rfl hd1
     exact hr.nst' id o b' ho hlv hm (hr.fst' j o1 b' h hf1 hmj)
 ·intro j o1 k h hl1 hmj
  rw[hget] at h
  rintro(hk | ⟨hf,rfl⟩)
  ·split at h
   ·next hj=>subst hj;exact hr.nst' j o k ho hlv hmj hk
   ·exact hr.nst' j o1 k h hl1 hmj hk
  ·split at h
   ·cases h;rw[AO.fixed_lives hf] at hl1;cases hl1
   ·next hj=>exact hj (hr.inj' j id _ _ k h ho hl1 hlv hmj hm)
 ·intro j o1 k h hf1 hmj
  rw[hget] at h
  split at h
  ·next hj=>
   subst hj;cases h
   have:k=b:=by have:=hmj.symm.trans hm;cases this;rfl
   exact .inr ⟨hf1,this⟩
  ·exact .inl (hr.fst' j o1 k h hf1 hmj)
 ·intro j j' o1 o2 k h1 h2 l1 l2 m1 m2
  have conv:∀{j:Nat} {o1:AO},(HD.set id o')[j]? =some o1→o1.lives=true→∃o0,HD[j]? =some o0∧o0.lives=true:=by
   intro j o1 h hl
   rw[hget] at h
   split at h
   ·next hj=>subst hj;exact⟨_,ho,hlv⟩
   ·exact⟨_,h,hl⟩
  obtain⟨_,k1,k2⟩:=conv h1 l1
  obtain⟨_,k3,k4⟩:=conv h2 l2
  exact hr.inj' j j' _ _ k k1 k3 k2 k4 m1 m2
 ·rintro k (hk | ⟨_,rfl⟩)
  ·show k<w'.heap.size
   rw[hsz];exact hr.stlt k hk
  ·show k<w'.heap.size
   rw[hsz];exact hbl
theorem mark_rel {HD:AH}{E:Env}(hr:Rel HD E){id:Nat}{e:TypeId}{sz:Nat}{vs:List AV}{b:Nat}{c:Array Value}{fz fz':Nat×Nat}
 (ho:HD[id]? =some (.arr e sz vs)) (hm:E.M id=some (some b)) (hw:E.W.heap[b]? =some (.cells c e fz)) (hz':ThawS e sz fz' c.size)
 {w':World} (hs:SameBut E.W w') (hsz:w'.heap.size=E.W.heap.size) (hwo:∀k,k≠b→w'.heap[k]? =E.W.heap[k]?) (hwb:w'.heap[b]? =some (.cells c e fz')) :
 ∃E',E'.W=w'∧Rel HD E'∧Step HD E HD E'∧E'.M=E.M:=by
 have hidl:id<HD.length:=(Qa.1 ho).1
 have hset:HD.set id (.arr e sz vs)=HD:=by
  apply Xb
  intro j
  rw[Qw]
  by_cases h:id=j
  ·subst h;rw[if_pos rfl,if_pos hidl,ho]
  ·rw[if_neg h]
 rcases hr.orow id _ _ ho hm with⟨h0,_⟩ | ⟨b',c0,fz0,h1,h2,h3,h4,h5⟩
 ·cases h0
 cases h1
 rw[hw] at h2
 cases h2
 obtain⟨E',q1,q2,q3,q4⟩:=write_gen hr ho (o':= .arr e sz vs) rfl (by simp) hm hs hsz hwo (fun c0 ty0 fz0 hk=>by rw[hw] at hk;cases hk;exact⟨c,fz',hwb,rfl⟩) (fun L' h=>⟨L',h,Qf _⟩)
  (fun E' hx hW=> .inr ⟨b,c,fz',rfl,by rw[hW];exact hwb,h3,hz',fun i v hi=>⟨(h5 i v hi).1,fun k cc hk=>let⟨u,a1,a2⟩:=(h5 i v hi).2 k cc hk;⟨u,a1,a2.mono hx⟩⟩⟩)
 rw[hset] at q2 q3
 exact⟨E',q1,q2,q3,q4⟩
theorem write_rel {HD:AH}{E:Env}(hr:Rel HD E){id:Nat}{e:TypeId}{sz:Nat}{vs vs':List AV}{b:Nat}{c c':Array Value}{fz:Nat×Nat}
 (ho:HD[id]? =some (.arr e sz vs)) (hm:E.M id=some (some b)) (hw:E.W.heap[b]? =some (.cells c e fz)) (hz:ThawS e sz fz c.size) (hsz:c'.size=c.size)
 (hlen:vs.length≤vs'.length) (hcap:vs'.length * sz≤c.size)
 (hv:∀(i:Nat) v,vs'[i]? =some v→v.cells.length=sz∧∀(j:Nat) cc,v.cells[j]? =some cc→∃u,c'[i * sz+j]? =some u∧VR E cc u) :
 ∃E',E'.W=E.W.setRow b c'∧Rel (HD.set id (.arr e sz vs')) E'∧Step HD E (HD.set id (.arr e sz vs')) E'∧E'.M=E.M:=by
 have hwb:(E.W.setRow b c').heap[b]? =some (.cells c' e fz):=setRow_heap E.W b c c' e fz hw
 refine write_gen hr ho rfl (by simp) hm ⟨rfl,rfl,rfl⟩ (by simp) (fun k hk=>setRow_other E.W b k c' hk) ?_ (fun L' h=>by cases h;exact⟨_,rfl,hlen⟩) fun E' hx hW=>?_
 ·intro c0 ty0 fz0 hk
  rw[hw] at hk;cases hk
  exact⟨c',_,hwb,hsz⟩
 ·refine .inr ⟨b,c',fz,rfl,by rw[hW];exact hwb,by omega,by rw[hsz];exact hz,fun i v hi=>⟨(hv i v hi).1,fun k cc hk=>?_⟩⟩
  obtain⟨u,h1,h2⟩:=(hv i v hi).2 k cc hk
  exact⟨u,h1,h2.mono hx⟩
end Go.Pg
namespace Go.Pg
open Go
variable [Syms]
def srcV (H:AH):AV→Option (Nat×List AV×List Nat)
 | .sl z vs=>some (z,vs,[])
 | .slc z vs=>some (z,vs,[])
 | .own id sz len=>match objAt H id with
  | some (_,sz',vs)=>if sz'=sz∧vs.length=len then some (sz,vs,[id]) else none
  | none=>none
 | .win id z tot off n=>match objAt H id with
  | some (_,z',vs)=>if z'=z∧vs.length=tot∧off+n≤tot then some (z,cutL vs off (off+n),[id]) else none
  | none=>none
 | _=>none
structure FlatVR (E:Env) (z:Nat) (vs:List AV) (us:List Value):Prop where
 len:us.length=vs.length * z
 at_:∀(i:Nat) x,vs[i]? =some x→x.cells.length=z∧∀(j:Nat) c,x.cells[j]? =some c→∃u,us[i * z+j]? =some u∧VR E c u
theorem FlatVR.mono {E E':Env}(hx:EExt E E'){z:Nat}{vs:List AV}{us:List Value}(h:FlatVR E z vs us):FlatVR E' z vs us:=
 ⟨h.len,fun i x hi=>⟨(h.at_ i x hi).1,fun j c hj=>let⟨u,a,b⟩:=(h.at_ i x hi).2 j c hj;⟨u,a,b.mono hx⟩⟩⟩
theorem FlatVR.append {E:Env}{z:Nat}{vs ws:List AV}{us us':List Value}(h:FlatVR E z vs us)(k:FlatVR E z ws us'):FlatVR E z (vs ++ ws) (us ++ us'):=by
 refine⟨by simp [h.len,k.len,Qh],fun i x hi=>?_⟩
 by_cases hlt:i<vs.length
 ·rw[Qd hlt] at hi
  refine⟨(h.at_ i x hi).1,fun j c hj=>?_⟩
  obtain⟨u,a,b⟩:=(h.at_ i x hi).2 j c hj
  exact⟨u,by rw[Qd (Qa.1 a).1];exact a,b⟩
 ·rw[Qg (by omega)] at hi
  refine⟨(k.at_ _ x hi).1,fun j c hj=>?_⟩
  obtain⟨u,a,b⟩:=(k.at_ _ x hi).2 j c hj
  refine⟨u,?_,b⟩
  have e:i * z=vs.length * z+(i - vs.length) * z:=by rw[←Qh];congr 1;omega
  rw[Qg (by rw[h.len];omega),h.len,←a]
  congr 1;omega
theorem FlatVR.nil (E:Env)(z:Nat):FlatVR E z [] []:=⟨by simp,fun i x h=>by simp at h⟩
theorem flat_of {E:Env}{z:Nat}{vs:List AV}{g:Nat→Option Value}(h:∀(i:Nat) x,vs[i]? =some x→x.cells.length=z∧∀(j:Nat) c,x.cells[j]? =some c→∃u,g (i * z+j)=some u∧VR E c u) :
 ∃us,FlatVR E z vs us∧∀k u,us[k]? =some u→g k=some u:=by
 have hg:∀k,k<vs.length * z→∃u,g k=some u:=by
  intro k hk
  have hz:0<z:=by
   rcases Xa z with h | h
   ·subst h;simp at hk
   ·exact h
  have hi:k / z<vs.length:=Xp (by rw[Q9];exact hk)
  obtain⟨h1,h2⟩:=h (k / z) (vs[k / z]) (by simp [hi])
  have hj:k % z< (vs[k / z]).cells.length:=by rw[h1];exact X2 _ hz
  obtain⟨u,h3,_⟩:=h2 (k % z) ((vs[k / z]).cells[k % z]) (by simp [hj])
  refine⟨u,?_⟩
  rw[Q9,Xz] at h3
  exact h3
 refine⟨(Xt (vs.length * z)).map fun k=>(g k).getD Go.undef,⟨by simp,fun i x hi=>⟨(h i x hi).1,fun j c hj=>?_⟩⟩,fun k u hk=>?_⟩
 ·obtain⟨u,h1,h2⟩:=(h i x hi).2 j c hj
  have hjl:j<z:=by rw[←(h i x hi).1];exact(Qa.1 hj).1
  have hil:i<vs.length:=(Qa.1 hi).1
  have hlt:i * z+j<vs.length * z:=by
   calc i * z+j<i * z+z:=by omega
    _=(i+1) * z:=by rw[Qh,Qt]
    _≤vs.length * z:=Qb _ hil
  exact⟨u,by simp [hlt,h1],h2⟩
 ·simp only[Q5,Qv] at hk
  obtain⟨k',hk',rfl⟩:=hk
  rcases Xw k (vs.length * z) with hlt | hge
  ·rw[Xr hlt] at hk';cases hk'
   obtain⟨u,hu⟩:=hg k hlt
   simp [hu]
  ·rw[Xm (by simpa using hge)] at hk';cases hk'
theorem src_read {HD:AH}{E:Env}(hr:Rel HD E){x:AV}{v:Value}(hv:VR E x v){z:Nat}{vs:List AV}{fp:List Nat}(h:srcV HD x=some (z,vs,fp)) :
 ∃a cap us,v= .slice a vs.length cap∧vs.length≤cap∧FlatVR E z vs us∧∀k u,us[k]? =some u→∃ad,a=some ad∧E.W.cell? (ad.add k)=some u:=by
 have imm:∀{vs:List AV} {z:Nat} {a:Option Addr} {f:Nat→Nat→Value},SlAt E.W E.st vs a z f→(∀i v j c,vs[i]? =some v→v.cells[j]? =some c→VP E.W E.st c (f i j))→
  ∃us,FlatVR E z vs us∧∀k u,us[k]? =some u→∃ad,a=some ad∧E.W.cell? (ad.add k)=some u:=by
  intro vs z a f hs hv
  cases hvs:vs with
  | nil=>exact⟨[],FlatVR.nil E z,fun k u h=>by simp at h⟩
  | cons x0 rest=>
   obtain⟨_,b,o,ha,hst,_⟩:=hs 0 x0 (by rw[hvs];rfl)
   obtain⟨us,h1,h2⟩:=flat_of (E:=E) (z:=z) (vs:=vs) (g:=fun k=>E.W.cell? ⟨b,o+k,none⟩) (fun i x hi=>by
    obtain⟨h1,b',o',ha',_,hc⟩:=hs i x hi
    rw[ha] at ha';cases ha'
    refine⟨h1,fun j c hj=>⟨f i j,?_,(hv i x j c hi hj).vr⟩⟩
    rw[←Xd]
    exact hc j (by rw[←h1];exact(Qa.1 hj).1))
   rw[←hvs]
   exact⟨us,h1,fun k u hk=>⟨_,ha,by rw[add_addr];exact h2 k u hk⟩⟩
 cases x <;> simp only[srcV] at h <;> try (cases h;done)
 case sl z' vs'=>
  cases h
  obtain⟨a,cap,f,rfl,hc,h1,h2⟩:=hv.sl_inv
  obtain⟨us,h3,h4⟩:=imm h1 h2
  exact⟨a,cap,us,rfl,hc,h3,h4⟩
 case slc z' vs'=>
  cases h
  obtain⟨a,f,rfl,h1,h2⟩:=hv.slc_inv
  obtain⟨us,h3,h4⟩:=imm h1 h2
  exact⟨a,_,us,rfl,Qf _,h3,h4⟩
 case own id sz len=>
  split at h
  ·next e sz' vs' ho=>
   split at h
   ·next hh=>
    obtain⟨rfl,rfl⟩:=hh
    cases h
    cases hv with
    | own _ _ _ a cap hm ha hl=>
     have hown:=(hl _ (objAt_hl hr ho)).2 rfl
     rcases hown with⟨h1,h2,h3⟩ | ⟨b,c,ty,fz,h1,h2,h3,h4,h5,h6⟩
     ·have:vs=[]:=Qc h2
      subst this
      exact⟨a,cap,[],rfl,by simp,FlatVR.nil E z,fun k u h=>by simp at h⟩
     ·rcases hr.row id e z vs (objAt_cases ho) _ h1 with⟨h,_⟩ | ⟨b',c',fz',hb',hw,_,_,hv⟩
      ·cases h
      ·cases hb'
       obtain⟨us,k1,k2⟩:=flat_of (E:=E) (z:=z) (vs:=vs) (g:=fun k=>c'[k]?) (fun i x hi=>hv i x hi)
       refine⟨a,cap,us,rfl,h3,k1,fun k u hk=>⟨_,h2,?_⟩⟩
       rw[add_addr]
       simp only[World.cell?,hw,Q6]
       simpa using k2 k u hk
   ·cases h
  ·cases h
 case win id sz tot off n=>
  split at h
  ·next e sz' vs' ho=>
   split at h
   ·next hh=>
    obtain⟨rfl,rfl,hle⟩:=hh
    cases h
    have hlen:(cutL vs' off (off+n)).length=n:=by rw[cutL_length _ _ _ (by omega) hle];omega
    cases hv with
    | win _ _ _ _ _ a cap hc hm hl=>
     rw[hlen]
     rcases Xa n with hn | hn
     ·subst hn
      have e0:cutL vs' off (off+0)=[]:=Qc hlen
      rw[e0]
      exact⟨a,cap,[],rfl,by simp,FlatVR.nil E _,fun k u h=>by simp at h⟩
     ·obtain⟨b,h1,h2⟩:=(hl _ (objAt_hl hr ho)).2 rfl hn
      rcases hr.row id e _ vs' (objAt_cases ho) _ h1 with⟨h,_⟩ | ⟨b',c',fz',hb',hw,_,_,hv⟩
      ·cases h
      ·cases hb'
       have hget:∀(i:Nat) x,(cutL vs' off (off+n))[i]? =some x→vs'[off+i]? =some x:=by
        intro i x hi
        have hil:i<n:=by rw[←hlen];exact(Qa.1 hi).1
        unfold cutL at hi
        rw[List.getElem?_take_of_lt (by omega),Q4] at hi
        exact hi
       obtain⟨us,k1,k2⟩:=flat_of (E:=E) (z:=z) (vs:=cutL vs' off (off+n)) (g:=fun k=>c'[off * z+k]?) (fun i x hi=>by
        obtain⟨g1,g2⟩:=hv (off+i) x (hget i x hi)
        refine⟨g1,fun j c hj=>?_⟩
        obtain⟨u,g3,g4⟩:=g2 j c hj
        refine⟨u,?_,g4⟩
        rw[show off * z+(i * z+j)=(off+i) * z+j by rw[Qh];omega]
        exact g3)
       refine⟨a,cap,us,rfl,hc,k1,fun k u hk=>⟨_,h2,?_⟩⟩
       rw[add_addr]
       simp only[World.cell?,hw]
       simpa using k2 k u hk
   ·cases h
  ·cases h
def SrcRun (P:Program)(x:Value)(t':TypeId)(size m:Nat)(news:List Value)(w:World):Prop:=
 ((∃e',P.underlying t'=some (.slice e'))∨P.underlying t'=some .string)∧(Builtin.lenOf x).run P w= .ok m w∧(Builtin.firstCells size m x).run P w= .ok news.toArray w∧
   (Builtin.firstCells size m x).run P w.drew= .ok news.toArray w.drew
theorem run_append_room' {P:Program}{w:World}{t t' ty e:TypeId}{i:TypeInfo}(ht:P.underlying t=some (.slice e))(hi:P.info? e=some i)
 {base:Option Addr} {len cap m:Nat} {x:Value} {news:List Value} (hs:SrcRun P x t' i.size m news w) (hn:len+m≤cap) {w':World}
 (hst:(match base with | some a=>storeCells (a.add (len * i.size)) news | none=>pure ()).run P w= .ok () w') :
 (Builtin.append_ #[t,t'] ty #[.slice base len cap,x]).run P w= .ok (.slice base (len+m) cap) w':=by
 obtain⟨hd,h1,h2,_⟩:=hs
 cases base with
 | none=>
  simp only[Sem.run_pure,Result.ok.injEq,true_and] at hst
  subst hst
  rcases hd with⟨e',hd⟩ | hd <;> simp [Builtin.append_,run_underlying ht,run_underlying hd,sizeOf,typeInfo,hi,h1,h2,hn]
 | some a=>
  simp only at hst
  rcases hd with⟨e',hd⟩ | hd <;> simp [Builtin.append_,run_underlying ht,run_underlying hd,sizeOf,typeInfo,hi,h1,h2,hn,hst]
theorem run_append_new {P:Program}{w:World}{t t' ty e:TypeId}{i:TypeInfo}{z:Value}(ht:P.underlying t=some (.slice e))(hi:P.info? e=some i)(hz:i.zero=some z)
 {base:Option Addr} {len cap m:Nat} {x:Value} {olds news:List Value} (hs:SrcRun P x t' i.size m news w) (hn:cap<len+m)
 (ho:(Builtin.firstCells i.size len (.slice base len cap)).run P w.drew= .ok olds.toArray w.drew)
 (h63:len+m≤9223372036854775807) (hb:(len+m) * i.bytes≤140737488355328) :
 (Builtin.append_ #[t,t'] ty #[.slice base len cap,x]).run P w =
   .ok (.slice (some ⟨w.heap.size,0,none⟩) (len+m) (grownCap w (len+m) cap e))
    (w.drew.alloc (.cells (olds.toArray ++ news.toArray ++ Builtin.zeroCells z.cells (grownCap w (len+m) cap e - (len+m))) e)):=by
 obtain⟨hd,h1,_,h2⟩:=hs
 have hn':¬(len+m≤cap):=by omega
 have h63':¬(9223372036854775807< ((len:Int)+(m:Int))):=by omega
 have h48':¬(281474976710656<Builtin.nextslicecap (len+m) cap * i.bytes):=by
  have:=growslice_fits (need:=len+m) (old:=cap) (bytes:=i.bytes) hn hb
  omega
 rcases hd with⟨e',hd⟩ | hd <;>
  simp [Builtin.append_,run_underlying ht,run_underlying hd,sizeOf,typeInfo,zeroValue,hi,hz,h1,hn',h63',h48',Question.forced,h2,ho,newRow,grownCap]
 all_goals
  congr 2
  apply X0
  simp [Qx]
end Go.Pg
namespace Go.Pg
open Go
variable [Syms]
theorem move_rel {HD:AH}{E:Env}(hr:Rel HD E){id:Nat}{e:TypeId}{sz:Nat}{vs vs':List AV}{m0:Option Nat}(ho:HD[id]? =some (.arr e sz vs))(hm:E.M id=some m0)(hlt:vs.length<vs'.length)
 {w':World} {c:Array Value} (hs:SameBut E.W w') (hh:w'.heap=E.W.heap.push (.cells c e (0,0))) (hc:vs'.length * sz≤c.size)
 (hv:∀(i:Nat) v,vs'[i]? =some v→v.cells.length=sz∧∀(j:Nat) cc,v.cells[j]? =some cc→∃u,c[i * sz+j]? =some u∧VR E cc u) :
 ∃E',E'.W=w'∧Rel (HD.set id (.arr e sz vs')) E'∧Step HD E (HD.set id (.arr e sz vs')) E'∧(∀j,E.M j=none→E'.M j=none)∧E'.M id=some (some E.W.heap.size):=by
 have hidl:id<HD.length:=(Qa.1 ho).1
 have hold:∀b,b<E.W.heap.size→w'.heap[b]? =E.W.heap[b]?:=fun b hb=>by
  rw[hh,Q1,if_neg (by omega)]
 have hget:∀j:Nat,(HD.set id (AO.arr e sz vs'))[j]? =if j=id then some (AO.arr e sz vs') else HD[j]?:=by
  intro j
  rw[Qw]
  by_cases h:id=j
  ·subst h;simp [hidl]
  ·rw[if_neg h,if_neg (fun x=>h x.symm)]
 let E':Env:={ W:=w',M:=fun j=>if j=id then some (some E.W.heap.size) else E.M j,st:=E.st,hl:=hlOf (HD.set id (.arr e sz vs')) }
 have hlive:∀b,Live (HD.set id (.arr e sz vs')) E'.M b→Live HD E.M b∨E.W.heap.size≤b:=by
  rintro b ⟨j,o,h1,hl,h2⟩
  by_cases hj:j=id
  ·subst hj
   have h3:E'.M j=some (some E.W.heap.size):=by simp [E']
   rw[h3] at h2
   cases h2;exact .inr (Qf _)
  ·have h3:E'.M j=E.M j:=by simp only[E',if_neg hj]
   rw[h3] at h2
   rw[hget,if_neg hj] at h1
   exact .inl ⟨j,o,h1,hl,h2⟩
 have hst:Step HD E (HD.set id (.arr e sz vs')) E':=by
  refine⟨⟨hs.os,hs.tape,hs.output,by show E.W.heap.size≤w'.heap.size;rw[hh];simp,fun b hb _=>hold b hb,?_,fun b _ h=> .inl h,fun b hb=>hb⟩,⟨fun j hj=>?_,fun j L' hj hL=>?_⟩,hlive⟩
  ·intro b c' ty fz' hb
   exact⟨c',_,by show w'.heap[b]? =_;rw[hold b (Ql.1 hb).1];exact hb,rfl⟩
  ·simp only[E'];split
   ·rfl
   ·exact hj
  ·simp only[E',hlOf,hget] at hL
   rw[hr.hl]
   split at hL
   ·next hj=>
    subst hj
    simp only[Qr,AO.len] at hL
    cases hL
    exact⟨vs.length,by simp [hlOf,ho,AO.len],by omega,fun h=>by omega⟩
   ·next hj=>exact⟨L',hL,Qf _,fun _=>by simp only[E',if_neg hj]⟩
 have hx:=hst.ext hr
 refine⟨E',rfl,⟨rfl,?_,?_,?_,?_,?_,?_⟩,hst,?_,by simp [E']⟩
 ·intro j hj
  have:j≠id:=fun e=>by subst e;simp at hj;omega
  simp only[E',if_neg this];exact hr.dom j (by simpa using hj)
 ·intro j o m h hmj
  rw[hget] at h
  by_cases hj:j=id
  ·subst hj
   rw[if_pos rfl] at h;cases h
   simp only[E',if_true] at hmj
   cases hmj
   refine .inr ⟨E.W.heap.size,c,(0,0),rfl,by show w'.heap[_]? =_;rw[hh];simp,hc,ThawS.zero _ _ _,fun i v hi=>⟨(hv i v hi).1,fun k cc hk=>?_⟩⟩
   obtain⟨u,h1,h2⟩:=(hv i v hi).2 k cc hk
   exact⟨u,h1,h2.mono hx⟩
  ·rw[if_neg hj] at h
   simp only[E',if_neg hj] at hmj
   have h0:=hr.orow j o m h hmj
   by_cases hd:o= .dead
   ·subst hd;trivial
   ·exact h0.mono hx fun b hb=>by subst hb;exact hold b (h0.block hd)
 ·intro j o b h hlv hmj
  rw[hget] at h
  split at h
  ·next hj=>
   subst hj
   simp only[E',if_true] at hmj
   cases hmj
   intro h';have:=hr.stlt _ h';omega
  ·next hj=>
   simp only[E',if_neg hj] at hmj
   exact hr.nst' j o b h hlv hmj
 ·intro j o b h hfx hmj
  rw[hget] at h
  split at h
  ·cases h;cases hfx
  ·next hj=>
   simp only[E',if_neg hj] at hmj
   exact hr.fst' j o b h hfx hmj
 ·intro j j' o1 o2 b h1 h2 l1 l2 m1 m2
  rw[hget] at h1 h2
  by_cases hj:j=id <;> by_cases hj':j'=id
  ·rw[hj,hj']
  ·subst hj
   simp only[E',if_true] at m1
   simp only[E',if_neg hj'] at m2
   cases m1
   rw[if_neg hj'] at h2
   have:=hr.lt' h2 (AO.lives_dead l2) m2;omega
  ·subst hj'
   simp only[E',if_true] at m2
   simp only[E',if_neg hj] at m1
   cases m2
   rw[if_neg hj] at h1
   have:=hr.lt' h1 (AO.lives_dead l1) m1;omega
  ·simp only[E',if_neg hj] at m1
   simp only[E',if_neg hj'] at m2
   rw[if_neg hj] at h1
   rw[if_neg hj'] at h2
   exact hr.inj' j j' _ _ b h1 h2 l1 l2 m1 m2
 ·intro b h
  have:=hr.stlt b h
  show b<w'.heap.size
  rw[hh];simp;omega
 ·intro j h
  have:j≠id:=fun e=>by subst e;rw[hm] at h;cases h
  simp only[E',if_neg this];exact h
theorem alloc_st {HD:AH}{E:Env}(hr:Rel HD E){w':World}{o:Obj}(hs:SameBut E.W w')(hh:w'.heap=E.W.heap.push o) :
 ∃E',E'.W=w'∧Rel HD E'∧Step HD E HD E'∧E'.M=E.M∧E'.st E.W.heap.size:=by
 have hold:∀b,b<E.W.heap.size→w'.heap[b]? =E.W.heap[b]?:=fun b hb=>by
  rw[hh,Q1,if_neg (by omega)]
 let E':Env:={ W:=w',M:=E.M,st:=fun b=>E.st b∨b=E.W.heap.size,hl:=E.hl }
 have hst:Step HD E HD E':=by
  refine⟨⟨hs.os,hs.tape,hs.output,by show E.W.heap.size≤w'.heap.size;rw[hh];simp,fun b hb _=>hold b hb,?_,?_,fun b hb=> .inl hb⟩,⟨fun j hj=>hj,fun j L' hj hL=>⟨L',hL,Qf _,fun _=>rfl⟩⟩,fun b h=> .inl h⟩
  ·intro b c' ty fz' hb
   exact⟨c',_,by show w'.heap[b]? =_;rw[hold b (Ql.1 hb).1];exact hb,rfl⟩
  ·rintro b hb (h | h)
   ·exact .inl h
   ·omega
 have hx:=hst.ext hr
 refine⟨E',rfl,⟨hr.hl,hr.dom,?_,?_,fun j o b h hf hmj=> .inl (hr.fst' j o b h hf hmj),hr.inj',?_⟩,hst,rfl,.inr rfl⟩
 ·intro j o m h hmj
  have h0:=hr.orow j o m h hmj
  by_cases hd:o= .dead
  ·subst hd;trivial
  ·exact h0.mono hx fun b hb=>by subst hb;exact hold b (h0.block hd)
 ·rintro j o b h hlv hmj (h' | h')
  ·exact hr.nst' j o b h hlv hmj h'
  ·have:=hr.lt' h (AO.lives_dead hlv) hmj;omega
 ·rintro b (h | h)
  ·have:=hr.stlt b h
   show b<w'.heap.size
   rw[hh];simp;omega
  ·show b<w'.heap.size
   rw[hh];simp;omega
def eb (P:Program)(e:TypeId):Option Nat:=
 match P.info? e with
 | some i=>match i.zero with
  | some z=>if z.cells.size=i.size∧i.bytes≠0 then some i.bytes else none
  | none=>none
 | none=>none
theorem eb_spec {P:Program}{e:TypeId}{n:Nat}(h:eb P e=some n):∃i z,P.info? e=some i∧i.zero=some z∧z.cells.size=i.size∧i.bytes=n∧n≠0:=by
 unfold eb at h
 split at h
 ·next i hi=>
  split at h
  ·next z hz=>
   split at h
   ·next hh=>cases h;exact⟨i,z,hi,hz,hh.1,rfl,hh.2⟩
   ·cases h
  ·cases h
 ·cases h
def srcE (P:Program)(H:AH)(t':TypeId)(sz:Nat)(x:AV):Option (List AV×List Nat):=
 match tk P t',x with
 | .str,.str s=>if sz=1 then some (s.map fun b=> .int .u8 b.toNat,[]) else none
 | .slice _ _,.nls=>some ([],[])
 | .slice _ z',y=>match srcV H y with
  | some (z,vs,fp)=>if z=sz∧z'=sz then some (vs,fp) else none
  | none=>none
 | _,_=>none
def AV.leafy (v:AV):Bool:=v.cells.all AV.leaf
def AV.pureLeaf:AV→Bool
 | .nls | .int _ _ | .bool _ | .str _ | .sl _ _ | .slc _ _ | .fm _ | .sym _=>true
 | _=>false
def AV.pureB (v:AV):Bool:=v.cells.all AV.pureLeaf
theorem tame_pure {x:AV}(h:x.tame=true):x.pureLeaf=true:=by
 cases x <;> first | rfl | (simp [AV.tame] at h)
theorem tames_pure {l:List AV}(h:l.all (fun v=>v.cells.all AV.tame)=true):l.all AV.pureB=true:=by
 rw[Qk] at h ⊢
 intro v hv
 unfold AV.pureB
 rw[Qk]
 exact fun c hc=>tame_pure (Qk.1 (h v hv) c hc)
theorem pureLeaf_VP {E:Env}{c:AV}{u:Value}(h:VR E c u)(hp:c.pureLeaf=true):VP E.W E.st c u:=by
 cases h <;> first
  | (simp [AV.pureLeaf] at hp;done)
  | exact .nls
  | exact .int _ _
  | (next i h=>exact .sym _ _ h)
  | exact .bool _
  | exact .str _
  | (next sz vs a cap f h1 h2 h3=>exact .sl sz vs a cap f h1 h2 h3)
  | (next sz vs a f h2 h3=>exact .slc sz vs a f h2 h3)
  | (next es b a cl g1 g2 g3 g4 g5 g6=>exact .fm es b a cl g1 g2 g3 g4 g5 g6)
abbrev HK:=AV→AH→List Nat→List Nat→List Nat→Prop
def neL:List AV→Bool
 | []=>false
 | _ :: _=>true
def nsel {α:Sort _}(b:Bool)(x y:α):α:=
 match b with
 | true=>x
 | false=>y
theorem nsel_true {α:Sort _}(x y:α):nsel true x y=x:=(rfl)
theorem nsel_false {α:Sort _}(x y:α):nsel false x y=y:=(rfl)
theorem neL_cons (x:AV)(l:List AV):neL (x :: l)=true:=(rfl)
theorem neL_nil {l:List AV}(h:neL l=false):l=[]:=by cases l <;> first | rfl | cases h
theorem neL_pos {l:List AV}(h:neL l=true):l≠[]:=by rintro rfl;cases h
def appK (H:AH)(e:TypeId)(sz by_:Nat)(d:AV)(new:List AV)(fp:List Nat)(K:HK):Prop:=
 match d with
 | .own id z len=>match H[id]? with
  | some (.arr e' z' vs)=>z=sz∧z'=sz∧e'=e∧vs.length=len∧id∉fp∧new.all AV.leafy=true∧(len+new.length) * by_≤140737488355328∧
   K (.own id sz (len+new.length)) (H.set id (.arr e sz (vs ++ new))) [] (id :: fp) [id]
  | _=>False
 | .nls=>new.length * by_≤140737488355328∧K (.own H.length sz new.length) (H ++ [.arr e sz new]) [H.length] fp []
 | .slc z vs=>nsel (neL new) (z=sz∧(vs.length+new.length) * by_≤140737488355328∧K (.own H.length sz (vs.length+new.length)) (H ++ [.arr e sz (vs ++ new)]) [H.length] fp []) <|
  nsel (neL vs) (z=sz∧new.all AV.pureB=true∧(vs.length+new.length) * by_≤140737488355328∧K (.sl sz (vs ++ new)) H [] fp [])
   (z=sz∧new.length * by_≤140737488355328∧K (.own H.length sz new.length) (H ++ [.arr e sz new]) [H.length] fp [])
 | _=>False
theorem growZ {z:Value}{n sz:Nat}(hz:z.cells.size=sz):(Builtin.zeroCells z.cells n).size=n * sz:=by simp [Builtin.zeroCells,hz]
theorem flat_cells {E:Env}{sz:Nat}{vs:List AV}{us:List Value}(h:FlatVR E sz vs us)(rest:Array Value) :
 ∀(i:Nat) v,vs[i]? =some v→v.cells.length=sz∧∀(j:Nat) cc,v.cells[j]? =some cc→∃u,(us.toArray ++ rest)[i * sz+j]? =some u∧VR E cc u:=by
 intro i v hi
 refine⟨(h.at_ i v hi).1,fun j cc hj=>?_⟩
 obtain⟨u,h1,h2⟩:=(h.at_ i v hi).2 j cc hj
 refine⟨u,?_,h2⟩
 have hlt:=(Qa.1 h1).1
 rw[Qy (by simpa using hlt)]
 simpa using h1
theorem news_one {E:Env}{sz:Nat}{vs:List AV}{us:List Value}(h:FlatVR E sz vs us)(hl:vs.all AV.leafy=true):∀u∈us,u.oneCell'=true:=by
 intro u hu
 obtain⟨k,hk,rfl⟩:=Xq.1 hu
 have hk':k<vs.length * sz:=by rw[←h.len];exact hk
 have hz:0<sz:=by
  rcases Xa sz with h0 | h0
  ·subst h0;simp at hk'
  ·exact h0
 have hi:k / sz<vs.length:=Xp (by rw[Q9];exact hk')
 obtain⟨h1,h2⟩:=h.at_ (k / sz) (vs[k / sz]) (by simp [hi])
 have hj:k % sz< (vs[k / sz]).cells.length:=by rw[h1];exact X2 _ hz
 obtain⟨u,h3,h4⟩:=h2 (k % sz) ((vs[k / sz]).cells[k % sz]) (by simp [hj])
 rw[Q9,Xz,Xe hk] at h3
 cases h3
 have hleaf:=Qk.1 hl (vs[k / sz]) (Xf hi)
 exact leaf_one h4 (Qk.1 hleaf _ (Xf hj))
theorem drew_same (w:World)(o:Obj):SameBut w (w.drew.alloc o)∧(w.drew.alloc o).heap=w.heap.push o:=⟨⟨rfl,rfl,rfl⟩,rfl⟩
section
variable {P:Program} {t t' ty e:TypeId} {sz by_:Nat} (ht:P.underlying t=some (.slice e)) {i:TypeInfo} {z:Value} (hi:P.info? e=some i) (hz:i.zero=some z) (hzs:z.cells.size=i.size) (hsz:i.size=sz) (hby:i.bytes=by_) (hb0:by_≠0)
include ht hi hz hzs hsz hby hb0
theorem app_own {HD:AH}{E:Env}(hr:Rel HD E){id len:Nat}{vs new:List AV}{dv x:Value}(hd:VR E (.own id sz len) dv)(ho:HD[id]? =some (.arr e sz vs))(hl:vs.length=len)
 {news:List Value} (hs:SrcRun P x t' sz new.length news E.W) (hf:FlatVR E sz new news) (hleaf:new.all AV.leafy=true) (hbound:(len+new.length) * by_≤140737488355328) :
 ∃E' v,(Builtin.append_ #[t,t'] ty #[dv,x]).run P E.W= .ok v E'.W∧VR E' (.own id sz (len+new.length)) v∧Rel (HD.set id (.arr e sz (vs ++ new))) E'∧
  Step HD E (HD.set id (.arr e sz (vs ++ new))) E'∧(∀j,E.M j=none→E'.M j=none):=by
 subst hl
 have hoa:objAt HD id=some (e,sz,vs):=by simp [objAt,ho]
 cases hd with
 | own _ _ _ a cap hm ha hlen=>
 have hown:=(hlen _ (objAt_hl hr hoa)).2 rfl
 have hmax:vs.length+new.length≤maxLen:=by
  have:(vs.length+new.length) * 1≤(vs.length+new.length) * by_:=Q2 _ (by omega)
  unfold maxLen;omega
 have hcells:∃olds,FlatVR E sz vs olds∧∀k u,olds[k]? =some u→∃ad,a=some ad∧E.W.cell? (ad.add k)=some u:=by
  obtain⟨a',cap',us,h1,_,h2,h3⟩:=src_read hr (x:= .own id sz vs.length) (VR.own id sz vs.length a cap hm ha hlen) (z:=sz) (vs:=vs) (fp:=[id]) (by simp [srcV,hoa])
  cases h1
  exact⟨us,h2,h3⟩
 obtain⟨olds,hfo,holds⟩:=hcells
 by_cases hroom:vs.length+new.length≤cap
 ·rcases hown with⟨h1,h2,h3⟩ | ⟨b,c,tyb,fz,h1,h2,h3,h4,h5,h6⟩
  ·
   have hv0:vs=[]:=Qc h2
   have hn0:new=[]:=Qc (by omega)
   subst hv0;subst hn0
   have hnews:news=[]:=Qc (by rw[hf.len];simp)
   subst hnews
   have hrun:=run_append_room' (P:=P) (w:=E.W) (t:=t) (t':=t') (ty:=ty) ht hi (base:=a) (len:=0) (cap:=cap) (m:=0) (by rw[hsz];exact hs) (by omega) (w':=E.W) (by cases a <;> simp [storeCells])
   have hid:HD.set id (.arr e sz ([] ++ []))=HD:=by
    have hidl:=(Qa.1 ho).1
    apply Xb
    intro j
    rw[Qw]
    split
    ·next h=>subst h;rw[ho];rfl
    ·rfl
   rw[hid]
   exact⟨E,_,hrun,VR.own id sz 0 a cap hm ha hlen,hr,Step.refl _ _,fun j h=>h⟩
  ·rcases hr.row id e sz vs (.inl ho) _ h1 with⟨h,_⟩ | ⟨b',c',fz',hb',hw,hc,hth,hv⟩
   ·cases h
   ·cases hb'
    rw[h5] at hw;cases hw
    subst h2
    have hstore:=run_storeCells_thaw (P:=P) b (vs.length * sz) e fz news 0 c E.W h5 hth.1 (by
     rw[hf.len,h6,Qu,←Qh];exact Qb _ hroom) (news_one hf hleaf)
    simp only[Qu] at hstore
    have hrun:=run_append_room' (P:=P) (w:=E.W) (t:=t) (t':=t') (ty:=ty) ht hi (base:=some ⟨b,0,none⟩) (len:=vs.length) (cap:=cap) (m:=new.length) (by rw[hsz];exact hs) hroom (by
     simp only[add_addr,Q6,hsz];exact hstore)
    have holdc:∀(k:Nat) (u:Value),olds[k]? =some u→c[k]? =some u:=by
     intro k u hk
     obtain⟨ad,had,hcell⟩:=holds k u hk
     cases had
     rw[add_addr] at hcell
     simpa [World.cell?,h5] using hcell
    have htake:c.toList.take (vs.length * sz)=olds:=by
     apply Xb
     intro k
     rw[Q3]
     split
     ·next hlt=>
      have hk:k<olds.length:=by rw[hfo.len];exact hlt
      have:=holdc k olds[k] (by simp [hk])
      simp only[Array.getElem?_toList,this,Xe hk]
     ·next hge=>exact(Xm (by rw[hfo.len];omega)).symm
    obtain⟨E',hW,hr',hst,hM⟩:=write_rel hr (vs':=vs ++ new) (c':=(c.toList.take (vs.length * sz) ++ news ++ c.toList.drop (vs.length * sz+news.length)).toArray) ho h1 h5 hth
     (by
       have:news.length=new.length * sz:=hf.len
       have h7:(vs.length+new.length) * sz≤c.size:=by rw[h6];exact Qb _ hroom
       rw[Qh] at h7
       simp only[Qo,Qj,Xg,Xh,Qm];omega)
     (by simp) (by rw[h6,Qj];exact Qb _ hroom) (by
       rw[htake]
       have:=flat_cells (hfo.append hf) (c.toList.drop (vs.length * sz+news.length)).toArray
       simpa using this)
    refine⟨E',_,by rw[hrun,hW],?_,hr',hst,fun j h=>by rw[hM];exact h⟩
    refine .own id sz _ _ cap (by rw[hM,h1];rfl) (fun h=>by cases h) fun L hL=>?_
    have:L=vs.length+new.length:=by
     rw[hr'.hl] at hL
     have hidl:=(Qa.1 ho).1
     simp [hlOf,hidl,AO.len] at hL
     omega
    subst this
    refine⟨Qf _,fun _=> .inr ⟨b,_,e,fz,by rw[hM,h1],rfl,hroom,h4,by rw[hW];exact setRow_heap E.W b c _ e fz h5,?_⟩⟩
    have:news.length=new.length * sz:=hf.len
    have h7:(vs.length+new.length) * sz≤c.size:=by rw[h6];exact Qb _ hroom
    rw[Qh] at h7
    simp only[Qo,Qj,Xg,Xh,Qm];omega
 ·
  obtain⟨m0,hm0⟩:=Qq.1 hm
  have hold:(Builtin.firstCells i.size vs.length (.slice a vs.length cap)).run P E.W.drew= .ok olds.toArray E.W.drew:=by
   cases a with
   | none=>
    have:vs.length=0:=ha rfl
    have h0:olds=[]:=Qc (by rw[hfo.len,this];simp)
    subst h0
    exact run_firstCells_none E.W.drew i.size _ _ _
   | some ad=>
    exact run_firstCells_some E.W.drew i.size vs.length ad _ _ olds (by rw[hfo.len,hsz]) (fun j u hj=>by
     obtain⟨ad',h1,h2⟩:=holds j u hj
     cases h1;simpa using h2)
  have hrun:=run_append_new (P:=P) (w:=E.W) (t:=t) (t':=t') (ty:=ty) ht hi hz (base:=a) (len:=vs.length) (cap:=cap) (m:=new.length) (olds:=olds) (by rw[hsz];exact hs) (by omega) hold (by unfold maxLen at hmax;exact hmax) (by rw[hby];exact hbound)
  have hge:=grownCap_ge E.W (vs.length+new.length) cap e
  obtain⟨hsb,hh⟩:=drew_same E.W (.cells (olds.toArray ++ news.toArray ++ Builtin.zeroCells z.cells (grownCap E.W (vs.length+new.length) cap e - (vs.length+new.length))) e)
  have hcs:(olds.toArray ++ news.toArray ++ Builtin.zeroCells z.cells (grownCap E.W (vs.length+new.length) cap e - (vs.length+new.length))).size=grownCap E.W (vs.length+new.length) cap e * sz:=by
   rw[Qp,Qp,growZ (hzs.trans hsz)]
   simp only[Qo,hfo.len,hf.len,←Qh]
   congr 1;omega
  obtain⟨E',hW,hr',hst,hM,hMid⟩:=move_rel hr (vs':=vs ++ new) ho hm0 (by
   have:cap<vs.length+new.length:=by omega
   have hcl:vs.length≤cap:=by
    rcases hown with⟨_,h2,h3⟩ | ⟨_,_,_,_,_,_,h3,_⟩ <;> omega
   simp;omega) hsb hh (by
    rw[hcs,Qj]
    exact Qb _ hge) (by
    have:=flat_cells (hfo.append hf) (Builtin.zeroCells z.cells (grownCap E.W (vs.length+new.length) cap e - (vs.length+new.length)))
    simpa [Array.append_assoc] using this)
  refine⟨E',_,by rw[hrun,hW],?_,hr',hst,hM⟩
  refine .own id sz _ _ _ (by rw[hMid];rfl) (fun h=>by cases h) fun L hL=>?_
  have:L=vs.length+new.length:=by
   rw[hr'.hl] at hL
   have hidl:=(Qa.1 ho).1
   simp [hlOf,hidl,AO.len] at hL
   omega
  subst this
  refine⟨Qf _,fun _=> .inr ⟨E.W.heap.size,_,e,(0,0),hMid,rfl,hge,grownCap_le_maxLen E.W _ cap e hmax,by rw[hW,hh];simp,hcs⟩⟩
theorem app_new {HD:AH}{E:Env}(hr:Rel HD E){id:Nat}{o':AO}{new:List AV}(hm:E.M id=none)(ho:HD[id]? =some o')(hle:AOle (.arr e sz new) o'){a:Option Addr}{x:Value}
 {news:List Value} (hs:SrcRun P x t' sz new.length news E.W) (hf:FlatVR E sz new news) (hbound:new.length * by_≤140737488355328) :
 ∃E' v,(Builtin.append_ #[t,t'] ty #[.slice a 0 0,x]).run P E.W= .ok v E'.W∧VR E' (.own id sz new.length) v∧Rel HD E'∧
  Step HD E HD E'∧(∀j,E.M j=none→E'.M j≠none→j=id):=by
 have hmax:new.length≤maxLen:=by
  have:new.length * 1≤new.length * by_:=Q2 _ (by omega)
  unfold maxLen;omega
 have hlen:∀E':Env,Rel HD E'→∀L,E'.hl id=some L→L=new.length:=by
  intro E' hr' L hL
  rw[hr'.hl] at hL
  simp only[hlOf,ho,Qr] at hL
  rw[hle.len] at hL
  simp only[AO.len] at hL
  cases hL;rfl
 by_cases h0:new=[]
 ·subst h0
  have hnews:news=[]:=Qc (by rw[hf.len];simp)
  subst hnews
  have hrun:=run_append_room' (P:=P) (w:=E.W) (t:=t) (t':=t') (ty:=ty) ht hi (base:=a) (len:=0) (cap:=0) (m:=0) (by rw[hsz];exact hs) (by omega) (w':=E.W) (by cases a <;> simp [storeCells])
  obtain⟨E',hW,hr',hst,hM,hMid,_⟩:=alloc_nil hr hm ho hle
  refine⟨E',_,by rw[hrun,hW],.own id sz 0 a 0 (by rw[hMid];rfl) (fun _=>rfl) (fun L hL=>?_),hr',hst,hM⟩
  have:=hlen E' hr' L hL
  simp at this
  subst this
  exact⟨Qf _,fun _=> .inl ⟨hMid,rfl,rfl⟩⟩
 ·have hpos:0<new.length:=Q8.2 h0
  have hold:(Builtin.firstCells i.size 0 (.slice a 0 0)).run P E.W.drew= .ok ([]:List Value).toArray E.W.drew:=by
   cases a with
   | none=>exact run_firstCells_none E.W.drew i.size _ _ _
   | some ad=>exact run_firstCells_some E.W.drew i.size 0 ad _ _ [] (by simp) (fun j u hj=>by simp at hj)
  have hrun:=run_append_new (P:=P) (w:=E.W) (t:=t) (t':=t') (ty:=ty) ht hi hz (base:=a) (len:=0) (cap:=0) (m:=new.length) (olds:=[]) (by rw[hsz];exact hs) (by omega) hold (by unfold maxLen at hmax;omega) (by rw[hby];simpa using hbound)
  rw[Q6] at hrun
  have hge:=grownCap_ge E.W new.length 0 e
  obtain⟨hsb,hh⟩:=drew_same E.W (.cells (([]:List Value).toArray ++ news.toArray ++ Builtin.zeroCells z.cells (grownCap E.W new.length 0 e - new.length)) e)
  have hcs:(([]:List Value).toArray ++ news.toArray ++ Builtin.zeroCells z.cells (grownCap E.W new.length 0 e - new.length)).size=grownCap E.W new.length 0 e * sz:=by
   rw[Qp,Qp,growZ (hzs.trans hsz)]
   simp only[Qo,Xj,Q6,hf.len,←Qh]
   congr 1;omega
  obtain⟨E',hW,hr',hst,hM,hMid,_⟩:=alloc_rel hr hm ho hle hsb hh (by rw[hcs];exact Qb _ hge) (ThawS.zero _ _ _) (by
   have:=flat_cells hf (Builtin.zeroCells z.cells (grownCap E.W new.length 0 e - new.length))
   simpa using this)
  refine⟨E',_,by rw[hrun,hW],?_,hr',hst,hM⟩
  refine .own id sz _ _ _ (by rw[hMid];rfl) (fun h=>by cases h) fun L hL=>?_
  have:=hlen E' hr' L hL
  subst this
  exact⟨Qf _,fun _=> .inr ⟨E.W.heap.size,_,e,(0,0),hMid,rfl,hge,grownCap_le_maxLen E.W _ 0 e hmax,by rw[hW,hh];simp,hcs⟩⟩
omit hzs in
theorem app_slc {HD:AH}{E:Env}(hr:Rel HD E){vs new:List AV}{dv x:Value}(hd:VR E (.slc sz vs) dv)
 {news:List Value} (hs:SrcRun P x t' sz new.length news E.W) (hf:FlatVR E sz new news) (hpure:new.all AV.pureB=true) (hbound:(vs.length+new.length) * by_≤140737488355328) :
 ∃E' v,(Builtin.append_ #[t,t'] ty #[dv,x]).run P E.W= .ok v E'.W∧VR E' (.sl sz (vs ++ new)) v∧Rel HD E'∧Step HD E HD E'∧E'.M=E.M:=by
 have hmax:vs.length+new.length≤maxLen:=by
  have:(vs.length+new.length) * 1≤(vs.length+new.length) * by_:=Q2 _ (by omega)
  unfold maxLen;omega
 obtain⟨a,cap,olds,hdv,hcap,hfo,holds⟩:=src_read hr hd (z:=sz) (vs:=vs) (fp:=[]) rfl
 obtain⟨a',f,hdv',hsl,hvv⟩:=hd.slc_inv
 rw[hdv] at hdv'
 cases hdv'
 subst hdv
 by_cases h0:new=[]
 ·subst h0
  have hnews:news=[]:=Qc (by rw[hf.len];simp)
  subst hnews
  have hrun:=run_append_room' (P:=P) (w:=E.W) (t:=t) (t':=t') (ty:=ty) ht hi (base:=a) (len:=vs.length) (cap:=vs.length) (m:=0) (by rw[hsz];exact hs) (by omega) (w':=E.W) (by cases a <;> simp [storeCells])
  refine⟨E,_,hrun,?_,hr,Step.refl _ _,rfl⟩
  rw[Xy]
  exact .sl sz vs a vs.length f (Qf _) hsl hvv
 ·have hpos:0<new.length:=Q8.2 h0
  have hold:(Builtin.firstCells i.size vs.length (.slice a vs.length vs.length)).run P E.W.drew= .ok olds.toArray E.W.drew:=by
   cases a with
   | none=>
    have h0:olds=[]:=by
     cases ho:olds with
     | nil=>rfl
     | cons u r=>obtain⟨ad,h,_⟩:=holds 0 u (by rw[ho];rfl);cases h
    subst h0
    exact run_firstCells_none E.W.drew i.size _ _ _
   | some ad=>
    exact run_firstCells_some E.W.drew i.size vs.length ad _ _ olds (by rw[hfo.len,hsz]) (fun j u hj=>by
     obtain⟨ad',h1,h2⟩:=holds j u hj
     cases h1;simpa using h2)
  have hrun:=run_append_new (P:=P) (w:=E.W) (t:=t) (t':=t') (ty:=ty) ht hi hz (base:=a) (len:=vs.length) (cap:=vs.length) (m:=new.length) (olds:=olds) (by rw[hsz];exact hs) (by omega) hold (by unfold maxLen at hmax;exact hmax) (by rw[hby];exact hbound)
  obtain⟨hsb,hh⟩:=drew_same E.W (.cells (olds.toArray ++ news.toArray ++ Builtin.zeroCells z.cells (grownCap E.W (vs.length+new.length) vs.length e - (vs.length+new.length))) e)
  obtain⟨E',hW,hr',hst,hM,hstb⟩:=alloc_st hr hsb hh
  refine⟨E',_,by rw[hrun,hW],?_,hr',hst,hM⟩
  have hge:=grownCap_ge E.W (vs.length+new.length) vs.length e
  have hfl:=flat_cells ((hfo.append hf).mono (hst.ext hr)) (Builtin.zeroCells z.cells (grownCap E.W (vs.length+new.length) vs.length e - (vs.length+new.length)))
  have:=VR.sl (E:=E') sz (vs ++ new) (some ⟨E.W.heap.size,0,none⟩) (grownCap E.W (vs.length+new.length) vs.length e)
   (fun i j=>((olds ++ news).toArray ++ Builtin.zeroCells z.cells (grownCap E.W (vs.length+new.length) vs.length e - (vs.length+new.length))).getD (i * sz+j) Go.undef) (by simpa using hge) (fun k v hk=>?_) (fun k v j c hk hj=>?_)
  ·simpa using this
  ·refine⟨(hfl k v hk).1,E.W.heap.size,0,rfl,fun _=>hstb,fun j hj=>?_⟩
   obtain⟨u,h1,_⟩:=(hfl k v hk).2 j (v.cells[j]'(by rw[(hfl k v hk).1];exact hj)) (by simp)
   have hcell:E'.W.heap[E.W.heap.size]? =some (.cells (olds.toArray ++ news.toArray ++ Builtin.zeroCells z.cells (grownCap E.W (vs.length+new.length) vs.length e - (vs.length+new.length))) e (0,0)):=by rw[hW,hh];simp
   simp only[World.cell?,hcell,Q6]
   have e1:olds.toArray ++ news.toArray=(olds ++ news).toArray:=by simp
   rw[e1] at *
   simp [h1]
  ·obtain⟨u,h1,h2⟩:=(hfl k v hk).2 j c hj
   simp only[Qe,h1,Qs]
   by_cases hkl:k<vs.length
   ·rw[Qd hkl] at hk
    obtain⟨hvl,b,o,ha,hstb',hcell⟩:=hsl k v hk
    have hjl:j<sz:=by rw[←hvl];exact(Qa.1 hj).1
    have hin:k * sz+j<olds.length:=by
     rw[hfo.len]
     have:(k+1) * sz≤vs.length * sz:=Qb _ hkl
     rw[Qh,Qt] at this;omega
    have hou:olds[k * sz+j]? =some u:=by
     rw[Qy (by simp;omega)] at h1
     simp only[Xn] at h1
     rwa [Qd hin] at h1
    obtain⟨ad,had,hc1⟩:=holds _ _ hou
    rw[ha] at had;cases had
    rw[add_addr,←Xd,hcell j hjl] at hc1
    cases hc1
    exact(hvv k v j c hk hj).mono (hst.ext hr).st (hst.ext hr).same
   ·rw[Qg (by omega)] at hk
    have:=Qk.1 hpure v (Qz hk)
    exact pureLeaf_VP h2 (Qk.1 this c (Qz hj))
theorem app_slo {HD:AH}{E:Env}(hr:Rel HD E){id:Nat}{o':AO}{vs new:List AV}{dv x:Value}(hm:E.M id=none)(ho:HD[id]? =some o')(hle:AOle (.arr e sz (vs ++ new)) o')(hd:VR E (.slc sz vs) dv)
 {news:List Value} (hs:SrcRun P x t' sz new.length news E.W) (hf:FlatVR E sz new news) (h0:new≠[]) (hbound:(vs.length+new.length) * by_≤140737488355328) :
 ∃E' v,(Builtin.append_ #[t,t'] ty #[dv,x]).run P E.W= .ok v E'.W∧VR E' (.own id sz (vs.length+new.length)) v∧Rel HD E'∧
  Step HD E HD E'∧(∀j,E.M j=none→E'.M j≠none→j=id):=by
 have hmax:vs.length+new.length≤maxLen:=by
  have:(vs.length+new.length) * 1≤(vs.length+new.length) * by_:=Q2 _ (by omega)
  unfold maxLen;omega
 obtain⟨a,cap,olds,hdv,hcap,hfo,holds⟩:=src_read hr hd (z:=sz) (vs:=vs) (fp:=[]) rfl
 obtain⟨a',f,hdv',hsl,hvv⟩:=hd.slc_inv
 rw[hdv] at hdv'
 cases hdv'
 subst hdv
 have hpos:0<new.length:=Q8.2 h0
 have hold:(Builtin.firstCells i.size vs.length (.slice a vs.length vs.length)).run P E.W.drew= .ok olds.toArray E.W.drew:=by
  cases a with
  | none=>
   have h0:olds=[]:=by
    cases ho:olds with
    | nil=>rfl
    | cons u r=>obtain⟨ad,h,_⟩:=holds 0 u (by rw[ho];rfl);cases h
   subst h0
   exact run_firstCells_none E.W.drew i.size _ _ _
  | some ad=>
   exact run_firstCells_some E.W.drew i.size vs.length ad _ _ olds (by rw[hfo.len,hsz]) (fun j u hj=>by
    obtain⟨ad',h1,h2⟩:=holds j u hj
    cases h1;simpa using h2)
 have hrun:=run_append_new (P:=P) (w:=E.W) (t:=t) (t':=t') (ty:=ty) ht hi hz (base:=a) (len:=vs.length) (cap:=vs.length) (m:=new.length) (olds:=olds) (by rw[hsz];exact hs) (by omega) hold (by unfold maxLen at hmax;exact hmax) (by rw[hby];exact hbound)
 obtain⟨hsb,hh⟩:=drew_same E.W (.cells (olds.toArray ++ news.toArray ++ Builtin.zeroCells z.cells (grownCap E.W (vs.length+new.length) vs.length e - (vs.length+new.length))) e)
 have hge:=grownCap_ge E.W (vs.length+new.length) vs.length e
 have hcs:(olds.toArray ++ news.toArray ++ Builtin.zeroCells z.cells (grownCap E.W (vs.length+new.length) vs.length e - (vs.length+new.length))).size=grownCap E.W (vs.length+new.length) vs.length e * sz:=by
  rw[Qp,Qp,growZ (hzs.trans hsz)]
  simp only[Qo,hf.len,hfo.len,←Qh]
  congr 1;omega
 obtain⟨E',hW,hr',hst,hM,hMid,_⟩:=alloc_rel hr hm ho hle hsb hh (by rw[hcs,Qj];exact Qb _ hge) (ThawS.zero _ _ _) (by
  have:=flat_cells (hfo.append hf) (Builtin.zeroCells z.cells (grownCap E.W (vs.length+new.length) vs.length e - (vs.length+new.length)))
  simpa using this)
 refine⟨E',_,by rw[hrun,hW],?_,hr',hst,hM⟩
 refine .own id sz _ _ _ (by rw[hMid];rfl) (fun h=>by cases h) fun L hL=>?_
 have hLL:L=vs.length+new.length:=by
  rw[hr'.hl] at hL
  simp only[hlOf,ho,Qr] at hL
  rw[hle.len] at hL
  simp only[AO.len,Qj] at hL
  cases hL;rfl
 subst hLL
 exact⟨Qf _,fun _=> .inr ⟨E.W.heap.size,_,e,(0,0),hMid,rfl,hge,grownCap_le_maxLen E.W _ vs.length e hmax,by rw[hW,hh];simp,hcs⟩⟩
end
end Go.Pg
namespace Go.Pg
open Go
variable [Syms]
def putCells (y:AV)(off:Nat)(x:AV):AV:=
 match y with
 | .agg cs=> .agg (lay cs off x.cells)
 | _=>x
def bytesOf:List AV→Option (List UInt8)
 | []=>some []
 | .int .u8 n :: r=>match bytesOf r with
  | some l=>some (UInt8.ofNat n.toNat :: l)
  | none=>none
 | _=>none
def ofBytes (s:List UInt8):List AV:=s.map fun b=> .int .u8 b.toNat
theorem bytesOf_ofBytes (s:List UInt8):bytesOf (ofBytes s)=some s:=by
 induction s with
 | nil=>rfl
 | cons b s ih=>simp only[ofBytes,Xs,bytesOf] at *;rw[ih];simp
def heapK (P:Program)(ev:AEnv)(H:AH)(o:Oper)(K:HK):Prop:=
 match o.op with
 | .load t x=>match opnd ev x with
  | .rp cs=>∃v,ldCells P t cs 0=some v∧K v H [] [] []
  | .ptr id sz len idx off=>match objAt H id with
   | some (e,sz',vs)=>sz'=sz∧vs.length=len∧idx<vs.length∧∃v,ldCells P t (vs.getD idx (dz P e)).cells off=some v∧K v H [] [id] []
   | none=>False
  | _=>False
 | .box t x=>(opnd ev x).definite=true∧K (.ptr H.length (opnd ev x).cells.length 1 0 0) (H ++ [.arr t (opnd ev x).cells.length [opnd ev x]]) [H.length] [] []
 | .alloc t=>(tz P t).definite=true∧K (.ptr H.length (tz P t).cells.length 1 0 0) (H ++ [.arr t (tz P t).cells.length [tz P t]]) [H.length] [] []
 | .store t a x=>match opnd ev a,(tk P t).cells with
  | .ptr id sz len idx off,some (_,n)=>match H[id]? with
   | some (.arr e sz' vs)=>sz'=sz∧vs.length=len∧idx<vs.length∧(opnd ev x).cells.length=n∧0<n∧off+n≤(vs.getD idx (dz P e)).cells.length∧(opnd ev x).leafy=true∧
    K .undef (H.set id (.arr e sz (vs.set idx (putCells (vs.getD idx (dz P e)) off (opnd ev x))))) [] [id] [id]
   | _=>False
  | _,_=>False
 | .buildSlice t len parts=>match tk P t with
  | .slice e sz=>(eb P e).isSome=true∧len * sz≤2 ^ 24∧len≤2 ^ 24∧parts.toList.map (·.1)=Xt len∧(parts.toList.all fun p=>(opnd ev p.2).definite && (opnd ev p.2).cells.length == sz)=true∧
   K (.own H.length sz len) (H ++ [.arr e sz (parts.toList.map fun p=>opnd ev p.2)]) [H.length] [] []
  | _=>False
 | .makeSlice t l c=>match tk P t,opnd ev l,opnd ev c with
  | .slice e sz,.int _ n,.int _ m=>n=m∧0≤n∧∃b,eb P e=some b∧n * b≤140737488355328∧(tz P e).definite=true∧(tz P e).cells.length=sz∧
   K (.own H.length sz n.toNat) (H ++ [.arr e sz (X1 n.toNat (tz P e))]) [H.length] [] []
  | _,_,_=>False
 | .convert src dst x=>match tk P src,tk P dst,opnd ev x with
  | .str,.slice e sz,.str s=>sz=1∧tk P e= .int .u8∧(e == 3)=false∧s.length≤140737488355328∧K (.own H.length 1 s.length) (H ++ [.arr e 1 (ofBytes s)]) [H.length] [] []
  | .slice e _,.str,.nls=>tk P e= .int .u8∧K (.str []) H [] [] []
  | .slice e _,.str,y=>tk P e= .int .u8∧match srcV H y with
   | some (z,vs,fp)=>z=1∧∃bs,bytesOf vs=some bs∧K (.str bs) H [] fp []
   | none=>False
  | .slice e sz,.slice _ _,.own id z n=>src=dst∧sz=1∧tk P e= .int .u8∧(e == 3)=false∧0<n∧match H[id]? with
   | some (.arr e' sz' vs)=>e'=e∧sz'=1∧vs.length=n∧z=1∧K (.own id z n) (H.set id (.arr e' sz' vs)) [] [id] [id]
   | _=>False
  | _,_,_=>False
 | .slice t x lo hi mx=>match tk P t,opnd ev x,lo,hi,mx with
  | .slice _ sz,.own id z len,none,none,none=>z=sz∧K (.own id z len) H [] [] []
  | _,_,_,_,_=>False
 | .call { callee:= .builtin .append,args,argTypes }=>match args.toList,argTypes.toList with
  | [s,x],[t,t']=>match tk P t with
   | .slice e sz=>match eb P e,srcE P H t' sz (opnd ev x) with
    | some b,some (new,fp)=>appK H e sz b (opnd ev s) new fp K
    | _,_=>False
   | _=>False
  | _,_=>False
 | _=>False
structure HCond (H H1:AH) (new fp wr:List Nat):Prop where
 wrfp:∀id∈wr,id∈fp
 wrlt:∀id∈wr,id<H.length
 le:∀id,id∉wr→Has H id H1
 newlt:∀id∈new,H.length≤id
 newup:∀id∈new,id<H1.length
 len:H.length≤H1.length
theorem HCond.read (H:AH)(fp:List Nat):HCond H H [] fp []:=
 ⟨by simp,by simp,fun id _=>Has.refl H id,by simp,by simp,Qf _⟩
theorem HCond.alloc (H:AH)(o:AO)(fp:List Nat):HCond H (H ++ [o]) [H.length] fp []:=by
 refine⟨by simp,by simp,fun id _ x hx=>⟨x,?_,.refl x⟩,by simp,by simp,by simp⟩
 rw[Qd (Qa.1 hx).1];exact hx
theorem HCond.write (H:AH)(id:Nat)(o:AO)(fp:List Nat)(h:id<H.length)(hf:id∈fp):HCond H (H.set id o) [] fp [id]:=by
 refine⟨by simpa using hf,by simpa using h,fun j hj x hx=>⟨x,?_,.refl x⟩,by simp,by simp,by simp⟩
 rw[Q0 (fun e=>hj (by simp [e]))];exact hx
def HSnd (P:Program)(ev:AEnv)(H:AH)(o:Oper)(K:HK):Prop:=
 ∃V H1 new fp wr,K V H1 new fp wr∧HCond H H1 new fp wr∧HeapOK P o (fun E a=>Opd ev E a o) V new fp wr H H1
theorem heapOK_read {P:Program}{o:Oper}{look:Env→Act→Prop}{V:AV}{fp:List Nat}{H:AH}
 (h:∀(HD:AH) E a,look E a→Rel HD E→(∀id∈fp,Has H id HD)→∃v,VR E V v∧(execOp a.eval o).run P E.W= .ok (.value v) E.W):HeapOK P o look V [] fp [] H H:=by
 intro HD E a hl hr _ hfp _ _ K Q hK
 obtain⟨v,hv,hrun⟩:=h HD E a hl hr (fun id hid=>hfp id hid (by simp))
 exact wp_of_value hrun (hK HD E v rfl (fun _ _=>rfl) (by simp) hv hr (Step.refl _ _) (fun id h1 h2=>absurd h1 h2))
theorem heapOK_new {P:Program}{o:Oper}{look:Env→Act→Prop}{V:AV}{fp:List Nat}{H:AH}{x:AO}
 (h:∀(HD:AH) E a,look E a→Rel HD E→(∀id∈fp,id<H.length→Has H id HD)→E.M H.length=none→(∃o',HD[H.length]? =some o'∧AOle x o')→
   ∃E' v,E'.W=E'.W∧VR E' V v∧(execOp a.eval o).run P E.W= .ok (.value v) E'.W∧Rel HD E'∧Step HD E HD E'∧(∀j,E.M j=none→E'.M j≠none→j=H.length)) :
 HeapOK P o look V [H.length] fp [] H (H ++ [x]):=by
 intro HD E a hl hr _ hfp _ hnew K Q hK
 obtain⟨hm,hh⟩:=hnew H.length (by simp)
 obtain⟨E',v,_,hv,hrun,hr',hst,hM⟩:=h HD E a hl hr (fun id hid hlt y hy=>hfp id hid (by simp) y (by rw[Qd hlt];exact hy)) hm (hh x (by simp))
 exact wp_of_value hrun (hK HD E' v rfl (fun _ _=>rfl) (by simp) hv hr' hst (fun id h1 h2=>by simpa using hM id h1 h2))
theorem box_new {HD:AH}{E:Env}(hr:Rel HD E){id:Nat}(hm:E.M id=none){t:TypeId}{x:AV}{v:Value}(hv:VR E x v)(hd:x.definite=true){o':AO}(ho:HD[id]? =some o')(hle:AOle (.arr t x.cells.length [x]) o') :
 ∃E',E'.W=E.W.alloc (.cells v.cells t)∧VR E' (.ptr id x.cells.length 1 0 0) (.pointer (some ⟨E.W.heap.size,0,none⟩))∧Rel HD E'∧Step HD E HD E'∧(∀j,E.M j=none→E'.M j≠none→j=id):=by
 have hc:=cells_VR hv hd
 obtain⟨E',hW,hr',hst,hM,hMid,hhl⟩:=alloc_rel hr hm ho hle (w':=E.W.alloc (.cells v.cells t)) (c:=v.cells) (fz:=(0,0)) ⟨rfl,rfl,rfl⟩ rfl (by simp [hc.1]) (ThawS.zero _ _ _) (fun i y hi=>by
  cases i with
  | zero=>
   simp at hi;subst hi
   refine⟨rfl,fun j cc hj=>?_⟩
   have hlt:j<v.cells.size:=by rw[hc.1];exact(Qa.1 hj).1
   have:=hc.2 j cc hj
   simp only[Qe,Qi hlt,Qs] at this
   exact⟨v.cells[j],by simp [hlt],this⟩
  | succ i=>simp at hi)
 refine⟨E',hW,.ptr id _ 1 0 0 _ (by rw[hMid];rfl) (fun L hL=>?_),hr',hst,hM⟩
 have:L=1:=by
  rw[hr'.hl] at hL
  simp only[hlOf,ho,Qr] at hL
  rw[hle.len] at hL
  simpa [AO.len] using hL.symm
 subst this
 exact⟨Qf _,fun _=>⟨E.W.heap.size,hMid,by simp⟩⟩
theorem arr_new {HD:AH}{E:Env}(hr:Rel HD E){id:Nat}(hm:E.M id=none){e:TypeId}{sz:Nat}{vs:List AV}{o':AO}(ho:HD[id]? =some o')(hle:AOle (.arr e sz vs) o')
 {w':World} {c:Array Value} {fz:Nat×Nat} {cap:Nat} (hs:SameBut E.W w') (hh:w'.heap=E.W.heap.push (.cells c e fz)) (hz:ThawS e sz fz c.size) (hcap:c.size=cap * sz) (hvc:vs.length≤cap) (hcm:cap≤maxLen)
 (hv:∀(i:Nat) v,vs[i]? =some v→v.cells.length=sz∧∀(j:Nat) cc,v.cells[j]? =some cc→∃u,c[i * sz+j]? =some u∧VR E cc u) :
 ∃E',E'.W=w'∧VR E' (.own id sz vs.length) (.slice (some ⟨E.W.heap.size,0,none⟩) vs.length cap)∧Rel HD E'∧Step HD E HD E'∧(∀j,E.M j=none→E'.M j≠none→j=id):=by
 obtain⟨E',hW,hr',hst,hM,hMid,hhl⟩:=alloc_rel hr hm ho hle hs hh (by rw[hcap];exact Qb _ hvc) hz hv
 refine⟨E',hW,.own id sz _ _ cap (by rw[hMid];rfl) (fun h=>by cases h) (fun L hL=>?_),hr',hst,hM⟩
 have:L=vs.length:=by
  rw[hr'.hl] at hL
  simp only[hlOf,ho,Qr] at hL
  rw[hle.len] at hL
  simpa [AO.len] using hL.symm
 subst this
 exact⟨Qf _,fun _=> .inr ⟨E.W.heap.size,c,e,fz,hMid,rfl,hvc,hcm,by rw[hW,hh];simp,hcap⟩⟩
theorem AV.cells_cases (y:AV):(∃cs,y= .agg cs)∨(y.cells=[y]∧∀(off:Nat)(x:AV),putCells y off x=x):=by
 cases y <;> first | (right;exact⟨rfl,fun _ _=>rfl⟩) | (left;exact⟨_,rfl⟩)
theorem putCells_cells {y x:AV}{off n:Nat}(hn:x.cells.length=n)(h0:0<n)(hoff:off+n≤y.cells.length):(putCells y off x).cells=lay y.cells off x.cells:=by
 rcases y.cells_cases with⟨cs,rfl⟩ | ⟨h1,h2⟩
 ·rfl
 ·rw[h2,h1]
  rw[h1] at hoff
  simp only[List.length_cons,Xj,Q6] at hoff
  have ho:off=0:=by omega
  have hn1:n=1:=by omega
  subst ho;subst hn1
  simp [lay,hn]
theorem setCells_VR {E:Env}{y x:AV}{off n sz idx:Nat}{vs:List AV}{c:Array Value}{v:Value}(hy:vs[idx]? =some y)(hx:VR E x v)(hd:x.definite=true)(hn:x.cells.length=n)(h0:0<n)(hoff:off+n≤y.cells.length)
 (hc:vs.length * sz≤c.size)
 (hv:∀(i:Nat) v,vs[i]? =some v→v.cells.length=sz∧∀(j:Nat) cc,v.cells[j]? =some cc→∃u,c[i * sz+j]? =some u∧VR E cc u) :
 ∀(i:Nat) w,(vs.set idx (putCells y off x))[i]? =some w→w.cells.length=sz∧∀(j:Nat) cc,w.cells[j]? =some cc→
  ∃u,(c.toList.take (idx * sz+off) ++ v.cells.toList ++ c.toList.drop (idx * sz+off+v.cells.toList.length)).toArray[i * sz+j]? =some u∧VR E cc u:=by
 have hcv:=cells_VR hx hd
 have hvl:v.cells.toList.length=n:=by rw[Qm,hcv.1,hn]
 have hysz:=(hv idx y hy).1
 have hidx:idx<vs.length:=(Qa.1 hy).1
 have hrow:idx * sz+sz≤c.size:=by
  have:(idx+1) * sz≤vs.length * sz:=Qb _ hidx
  rw[Qh,Qt] at this;omega
 have hpc:=putCells_cells (y:=y) hn h0 hoff
 have hget:∀k,(c.toList.take (idx * sz+off) ++ v.cells.toList ++ c.toList.drop (idx * sz+off+v.cells.toList.length)).toArray[k]? =
  if idx * sz+off≤k∧k<idx * sz+off+n then v.cells[k - (idx * sz+off)]? else c[k]?:=by
  intro k
  have htl:(c.toList.take (idx * sz+off)).length=idx * sz+off:=by simp;omega
  rw[Xn]
  by_cases h1:k<idx * sz+off
  ·rw[if_neg (by omega),Qx,Qd (by omega),Q3,if_pos h1];simp
  ·by_cases h2:k<idx * sz+off+n
   ·rw[if_pos (by omega),Qx,Qg (by omega),htl,Qd (by omega)];simp
   ·rw[if_neg (by omega),Qg (by rw[Qj];omega),Q4,Qj,htl,hvl]
    have:idx * sz+off+n+(k - (idx * sz+off+n))=k:=by omega
    rw[this];simp
 intro i w hw
 rw[Qw] at hw
 by_cases hi:idx=i
 ·subst hi
  rw[if_pos rfl,if_pos hidx] at hw
  cases hw
  have hll:(lay y.cells off x.cells).length=sz:=by rw[←hysz];simp [lay];omega
  refine⟨by rw[hpc,hll],fun j cc hj=>?_⟩
  rw[hpc] at hj
  have hjl:j<sz:=by rw[←hll];exact(Qa.1 hj).1
  rw[hget]
  unfold lay at hj
  by_cases h1:j<off
  ·rw[if_neg (by omega)]
   rw[Qx,Qd (by simp;omega),Q3,if_pos h1] at hj
   exact(hv idx y hy).2 j cc hj
  ·by_cases h2:j<off+n
   ·rw[if_pos (by omega)]
    rw[Qx,Qg (by simp;omega),Qd (by simp;omega)] at hj
    have e1:j - (y.cells.take off).length=j - off:=by simp;omega
    rw[e1] at hj
    have hlt:j - off<v.cells.size:=by rw[hcv.1];exact(Qa.1 hj).1
    have:=hcv.2 _ cc hj
    simp only[Qe,Qi hlt,Qs] at this
    refine⟨v.cells[j - off],?_,this⟩
    have e2:idx * sz+j - (idx * sz+off)=j - off:=by omega
    rw[e2];simp [hlt]
   ·rw[if_neg (by omega)]
    rw[Qg (by simp;omega),Q4] at hj
    have e1:off+x.cells.length+(j - (y.cells.take off ++ x.cells).length)=j:=by simp;omega
    rw[e1] at hj
    exact(hv idx y hy).2 j cc hj
 ·rw[if_neg hi] at hw
  refine⟨(hv i w hw).1,fun j cc hj=>?_⟩
  rw[hget]
  have hjl:j<sz:=by rw[←(hv i w hw).1];exact(Qa.1 hj).1
  rw[if_neg ?_]
  ·exact(hv i w hw).2 j cc hj
  ·intro ⟨h1,h2⟩
   rcases Nat.lt_or_gt_of_ne hi with h | h
   ·have:(idx+1) * sz≤i * sz:=Qb _ h
    rw[Qh,Qt] at this;omega
   ·have:(i+1) * sz≤idx * sz:=Qb _ h
    rw[Qh,Qt] at this;omega
end Go.Pg
namespace Go.Pg
open Go
variable [Syms]
theorem load_sound {P:Program}{ev:AEnv}{H:AH}{K:HK}{dst:Option Tmp}{t:TypeId}{x:Operand}{ty:TypeId}{pos:String}{after:Array Edge}{guard:Option (Nat×Bool)}
 (h:heapK P ev H ⟨dst,.load t x,ty,pos,after,guard⟩ K):HSnd P ev H ⟨dst,.load t x,ty,pos,after,guard⟩ K:=by
 unfold heapK at h
 simp only at h
 split at h
 ·next cs hx=>
  obtain⟨V,hV,hK⟩:=h
  refine⟨V,H,[],[],[],hK,HCond.read H [],heapOK_read fun HD E a hl hr _=>?_⟩
  have h1:=hl x (by simp [Op.operands])
  rw[hx] at h1
  cases h1v:a.eval x <;> rw[h1v] at h1 <;> cases h1
  next b o g hst hc hv=>
  obtain⟨v,h2,h3⟩:=load_run hV (E:=E) (b:=b) (o:=o) (fun j c hj=>⟨_,hc j c hj,(hv j c hj).vr⟩)
  rw[Qu] at h3
  exact⟨v,h2,by simp only[execOp,Instr.loadAt,h1v,Instr.sureAddr,Sem.run_bind,Sem.run_pure,Result.andThen_ok,h3]⟩
 ·next id sz len idx off hx=>
  split at h
  ·next e sz' vs ho=>
   obtain⟨rfl,hlen,hlt0,V,hV,hK⟩:=h
   have hy:vs[idx]? =some (vs.getD idx (dz P e)):=by simp [hlt0]
   refine⟨V,H,[],[id],[],hK,HCond.read H [id],heapOK_read fun HD E a hl hr hfp=>?_⟩
   have h1:=hl x (by simp [Op.operands])
   rw[hx] at h1
   obtain⟨b,hb,hav,hysz,c,fz,hw,_,hc,hv⟩:=ptr_read hr h1 (objAt_has ho (hfp id (by simp))) hlen hy
   obtain⟨v,h2,h3⟩:=load_run hV (E:=E) (b:=b) (o:=idx * sz') (fun j cc hj=>by
    obtain⟨u,h1,h2⟩:=hv j cc hj
    exact⟨u,by simp [World.cell?,hw,h1],h2⟩)
   exact⟨v,h2,by simp only[execOp,Instr.loadAt,hav,Instr.sureAddr,Sem.run_bind,Sem.run_pure,Result.andThen_ok,h3]⟩
  ·exact h.elim
 ·exact h.elim
theorem box_sound {P:Program}{ev:AEnv}{H:AH}{K:HK}{dst:Option Tmp}{t:TypeId}{x:Operand}{ty:TypeId}{pos:String}{after:Array Edge}{guard:Option (Nat×Bool)}
 (h:heapK P ev H ⟨dst,.box t x,ty,pos,after,guard⟩ K):HSnd P ev H ⟨dst,.box t x,ty,pos,after,guard⟩ K:=by
 unfold heapK at h
 simp only at h
 obtain⟨hd,hK⟩:=h
 refine⟨_,_,_,_,_,hK,HCond.alloc H _ [],heapOK_new fun HD E a hl hr _ hm ⟨o',ho,hle⟩=>?_⟩
 obtain⟨E',hW,hv,hr',hst,hM⟩:=box_new hr hm (hl x (by simp [Op.operands])) hd ho hle
 exact⟨E',_,rfl,hv,by rw[hW];simp [execOp,Instr.box,newVar,newRow],hr',hst,hM⟩
theorem alloc_sound {P:Program}{ev:AEnv}{H:AH}{K:HK}{dst:Option Tmp}{t:TypeId}{ty:TypeId}{pos:String}{after:Array Edge}{guard:Option (Nat×Bool)}
 (h:heapK P ev H ⟨dst,.alloc t,ty,pos,after,guard⟩ K):HSnd P ev H ⟨dst,.alloc t,ty,pos,after,guard⟩ K:=by
 unfold heapK at h
 simp only at h
 obtain⟨hd,hK⟩:=h
 refine⟨_,_,_,_,_,hK,HCond.alloc H _ [],heapOK_new fun HD E a hl hr _ hm ⟨o',ho,hle⟩=>?_⟩
 have hz:∃i z,P.info? t=some i∧i.zero=some z∧VR E (tz P t) z:=by
  unfold tz at hd ⊢
  split at hd
  ·next i hi=>
   split at hd
   ·next v hv=>exact⟨i,v,hi,hv,ofV_VR E v⟩
   ·simp [AV.definite] at hd
  ·simp [AV.definite] at hd
 obtain⟨i,z,hi,hz,hv⟩:=hz
 obtain⟨E',hW,hv,hr',hst,hM⟩:=box_new hr hm hv hd ho hle
 exact⟨E',_,rfl,hv,by rw[hW];simp [execOp,Instr.alloc,newVar,newRow,zeroValue,typeInfo,hi,hz],hr',hst,hM⟩
theorem store_sound {P:Program}{ev:AEnv}{H:AH}{K:HK}{dst:Option Tmp}{t:TypeId}{ad x:Operand}{ty:TypeId}{pos:String}{after:Array Edge}{guard:Option (Nat×Bool)}
 (h:heapK P ev H ⟨dst,.store t ad x,ty,pos,after,guard⟩ K):HSnd P ev H ⟨dst,.store t ad x,ty,pos,after,guard⟩ K:=by
 unfold heapK at h
 simp only at h
 split at h
 ·next id sz len idx off b n hx hk=>
  split at h
  ·next e sz' vs ho=>
   obtain⟨rfl,hlen,hlt0,hn,h0,hoff,hleaf,hK⟩:=h
   have hy:vs[idx]? =some (vs.getD idx (dz P e)):=by simp [hlt0]
   have hidl:id<H.length:=(Qa.1 ho).1
   refine⟨_,_,_,_,_,hK,HCond.write H id _ [id] hidl (by simp),?_⟩
   intro HD E a hl hr _ hfp hwr _ K' Q hK'
   have hD:HD[id]? =some (.arr e sz' vs):=by rw[hwr id (by simp)];exact ho
   have h1:=hl ad (by simp [Op.operands])
   have h2:=hl x (by simp [Op.operands])
   rw[hx] at h1
   have hoa:objAt HD id=some (e,sz',vs):=by simp [objAt,hD]
   obtain⟨bl,hb,hav,hysz,c,fz,hw,hth,hc,hv⟩:=ptr_read hr h1 hoa hlen hy
   have hd:(opnd ev x).definite=true:=by
    cases hxx:opnd ev x <;> rw[hxx] at hleaf <;> first | rfl | (simp [AV.leafy,AV.cells,AV.leaf] at hleaf)
   have hcv:=cells_VR h2 hd
   have hidx:idx<vs.length:=(Qa.1 hy).1
   have hrow:idx * sz'+sz'≤c.size:=by
    have:(idx+1) * sz'≤vs.length * sz':=Qb _ hidx
    rw[Qh,Qt] at this;omega
   have hvl:(a.eval x).cells.toList.length=n:=by rw[Qm,hcv.1,hn]
   have hone:∀v∈(a.eval x).cells.toList,v.oneCell'=true:=by
    intro v hv
    obtain⟨k,hk,rfl⟩:=Xq.1 hv
    have hk':k< (opnd ev x).cells.length:=by rw[hn,←hvl];exact hk
    have:=hcv.2 k ((opnd ev x).cells[k]) (by simp [hk'])
    have hka:k< (a.eval x).cells.size:=by simpa using hk
    simp only[Qe,Qi hka,Qs] at this
    simp only[Array.getElem_toList]
    exact leaf_one this (Qk.1 hleaf _ (Xf hk'))
   have hrowv:=hr.row id e sz' vs (.inl hD) _ hb
   have hvall:∀(i:Nat) v,vs[i]? =some v→v.cells.length=sz'∧∀(j:Nat) cc,v.cells[j]? =some cc→∃u,c[i * sz'+j]? =some u∧VR E cc u:=by
    rcases hrowv with⟨h,_⟩ | ⟨b',c',fz',hb',hw',_,_,hv'⟩
    ·cases h
    ·cases hb';rw[hw] at hw';cases hw';exact hv'
   have hst:=run_storeCells_thaw (P:=P) bl (idx * sz'+off) e fz (a.eval x).cells.toList 0 c E.W hw hth.1 (by rw[hvl];omega) hone
   simp only[Qu] at hst
   have hset:=setCells_VR hy h2 hd hn h0 hoff hc hvall
   obtain⟨E',hW,hr',hstep,hM⟩:=write_rel hr (vs':=vs.set idx (putCells (vs.getD idx (dz P e)) off (opnd ev x))) hD hb hw hth (c':=(c.toList.take (idx * sz'+off) ++ (a.eval x).cells.toList ++ c.toList.drop (idx * sz'+off+(a.eval x).cells.toList.length)).toArray)
    (by simp only[Qo,Qj,Xg,Xh,Qm] at hvl ⊢;omega) (by simp) (by simpa using hc) hset
   obtain⟨_,ti,hti,htsz⟩:=tk_cells hk E.W
   have hrun:(execOp a.eval ⟨dst,.store t ad x,ty,pos,after,guard⟩).run P E.W= .ok .skip E'.W:=by
    rw[hW]
    have hsz:(a.eval x).cells.size=n:=by rw[←Qm];exact hvl
    simp only[execOp,Instr.storeAt,hav,Instr.sureAddr,storeVar,Sem.run_bind,Sem.run_pure,Result.andThen_ok,sizeOf,typeInfo,run_program,hti,htsz,hsz,ne_eq,not_true_eq_false,if_false,hst]
   refine wp_of_skip hrun (hK' (HD.set id (.arr e sz' (vs.set idx (putCells (vs.getD idx (dz P e)) off (opnd ev x))))) E' Go.undef (by simp) (fun j hj=>Q0 (fun e=>hj (by simp [e]))) (fun j hj=>?_) .undef hr' hstep (fun j h1 h2=>by rw[hM] at h2;exact absurd h1 h2))
   have:j=id:=by simpa using hj
   subst this
   have hidD:j<HD.length:=(Qa.1 hD).1
   rw[Qn hidD,Qn hidl]
  ·exact h.elim
 ·exact h.elim
theorem srcE_run {P:Program}{H HD:AH}{E:Env}(hr:Rel HD E){t':TypeId}{sz:Nat}{x:AV}{v:Value}(hv:VR E x v){new:List AV}{fp:List Nat}(h:srcE P H t' sz x=some (new,fp))(hfp:∀id∈fp,Has H id HD) :
 ∃news,SrcRun P v t' sz new.length news E.W∧FlatVR E sz new news:=by
 have srcHD:∀{y:AV} {z:Nat} {vs:List AV} {fp:List Nat},srcV H y=some (z,vs,fp)→(∀id∈fp,Has H id HD)→srcV HD y=some (z,vs,fp):=by
  intro y z vs fp h hfp
  cases y <;> simp only[srcV] at h ⊢ <;> try exact h
  all_goals
   split at h
   ·next e s' vs' ho=>
    split at h
    ·next hh=>
     cases h
     rw[objAt_has ho (hfp _ (by simp))]
     simp [hh]
    ·cases h
   ·cases h
 unfold srcE at h
 split at h
 ·next s hk=>
  split at h
  ·next hsz=>
   subst hsz
   cases h
   obtain⟨s',rfl,rfl⟩:=hv.str_inv
   refine⟨s'.data.toList.map fun b=> .int .u8 b.toNat,⟨.inr (tk_str hk).1,by show Result.ok s'.size E.W=Result.ok _ E.W;rw[Xk];rfl,?_,?_⟩,⟨by simp,fun i y hi=>?_⟩⟩
   ·have e:s'.extract 0 s'.data.toList.length=s':=by
     have:s'.data.toList.length=s'.size:=rfl
     rw[this];exact ByteArray.extract_zero_size
    simp only[Builtin.firstCells,Xk,e,Sem.run_pure]
    congr 1
    apply X0
    simp
   ·have e:s'.extract 0 s'.data.toList.length=s':=by
     have:s'.data.toList.length=s'.size:=rfl
     rw[this];exact ByteArray.extract_zero_size
    simp only[Builtin.firstCells,Xk,e,Sem.run_pure]
    congr 1
    apply X0
    simp
   ·simp only[Q5,Qv] at hi
    obtain⟨b,hb,rfl⟩:=hi
    refine⟨rfl,fun j c hj=>?_⟩
    cases j with
    | zero=>simp [AV.cells] at hj;subst hj;exact⟨_,by simp [hb],.int _ _⟩
    | succ j=>simp [AV.cells] at hj
  ·cases h
 ·next e' z' hk=>
  cases h
  have:=hv.nls_inv
  subst this
  exact⟨[],⟨.inl ⟨_,(tk_slice hk).1⟩,by simp [Builtin.lenOf],by simp [Builtin.firstCells],by simp [Builtin.firstCells]⟩,FlatVR.nil E sz⟩
 ·next e' z' y hk hny=>
  split at h
  ·next z vs fp' hs=>
   split at h
   ·next hh=>
    obtain⟨rfl,rfl⟩:=hh
    cases h
    obtain⟨a,cap,us,rfl,_,hf,hc⟩:=src_read hr hv (srcHD hs hfp)
    refine⟨us,⟨.inl ⟨_,(tk_slice hk).1⟩,by simp [Builtin.lenOf],?_,?_⟩,hf⟩
    ·cases a with
     | none=>
      have:us=[]:=by
       cases us with
       | nil=>rfl
       | cons u r=>obtain⟨ad,h,_⟩:=hc 0 u rfl;cases h
      subst this
      exact run_firstCells_none E.W _ _ _ _
     | some ad=>exact run_firstCells_some E.W _ _ ad _ _ us hf.len (fun j u hj=>by obtain⟨ad',h1,h2⟩:=hc j u hj;cases h1;exact h2)
    ·cases a with
     | none=>
      have:us=[]:=by
       cases us with
       | nil=>rfl
       | cons u r=>obtain⟨ad,h,_⟩:=hc 0 u rfl;cases h
      subst this
      exact run_firstCells_none E.W.drew _ _ _ _
     | some ad=>exact run_firstCells_some E.W.drew _ _ ad _ _ us hf.len (fun j u hj=>by obtain⟨ad',h1,h2⟩:=hc j u hj;cases h1;exact h2)
   ·cases h
  ·cases h
 ·cases h
theorem srcV_fp {H:AH}{y:AV}{z:Nat}{vs:List AV}{fp:List Nat}(h:srcV H y=some (z,vs,fp)):∀id∈fp,id<H.length:=by
 intro id hid
 cases y <;> simp only[srcV] at h <;> try (cases h;done)
 ·cases h;simp at hid
 ·cases h;simp at hid
 ·split at h
  ·next ho=>
   split at h
   ·cases h
    simp only[Xu] at hid
    subst hid
    rcases objAt_cases ho with h | h <;> exact(Qa.1 h).1
   ·cases h
  ·cases h
 ·split at h
  ·next ho=>
   split at h
   ·cases h
    simp only[Xu] at hid
    subst hid
    rcases objAt_cases ho with h | h <;> exact(Qa.1 h).1
   ·cases h
  ·cases h
theorem srcE_fp {P:Program}{H:AH}{t':TypeId}{sz:Nat}{y:AV}{new:List AV}{fp:List Nat}(h:srcE P H t' sz y=some (new,fp)):∀id∈fp,id<H.length:=by
 intro id hid
 unfold srcE at h
 split at h
 ·split at h
  ·cases h;simp at hid
  ·cases h
 ·cases h;simp at hid
 ·split at h
  ·next hs=>
   split at h
   ·cases h;exact srcV_fp hs id hid
   ·cases h
  ·cases h
 ·cases h
theorem append_sound {P:Program}{ev:AEnv}{H:AH}{K:HK}{dst:Option Tmp}{args:Array Operand}{argTypes:Array TypeId}{ty:TypeId}{pos:String}{after:Array Edge}{guard:Option (Nat×Bool)}
 (h:heapK P ev H ⟨dst,.call { callee:= .builtin .append,args,argTypes },ty,pos,after,guard⟩ K):HSnd P ev H ⟨dst,.call { callee:= .builtin .append,args,argTypes },ty,pos,after,guard⟩ K:=by
 unfold heapK at h
 simp only at h
 split at h
 ·next s x t t' hargs htys=>
  have ha:args= #[s,x]:=by rw[←Xx];exact hargs
  have ht:argTypes= #[t,t']:=by rw[←Xx];exact htys
  subst ha;subst ht
  split at h
  ·next e sz hk=>
   split at h
   ·next b new fp hb hs=>
    obtain⟨i,z,hi,hz,hzs,hby,hb0⟩:=eb_spec hb
    obtain⟨hu,⟨i',hi',hsz⟩,_⟩:=tk_slice hk
    rw[hi] at hi';cases hi'
    have hrunop:∀{a:Act} {w w':World} {v:Value},(Builtin.append_ #[t,t'] ty #[a.eval s,a.eval x]).run P w= .ok v w'→(execOp a.eval ⟨dst,.call { callee:= .builtin .append,args:= #[s,x],argTypes:= #[t,t'] },ty,pos,after,guard⟩).run P w= .ok (.value v) w':=by
     intro a w w' v h
     simp only[execOp,resolve,invoke,builtin,Sem.run_bind,Sem.run_pure,Result.andThen_ok,List.map_toArray,Xs,List.map_nil,h]
    have hos:∀E a,Opd ev E a ⟨dst,.call { callee:= .builtin .append,args:= #[s,x],argTypes:= #[t,t'] },ty,pos,after,guard⟩→VR E (opnd ev s) (a.eval s)∧VR E (opnd ev x) (a.eval x):=
     fun E a hl=>⟨hl s (by simp [Op.operands,Call.operands]),hl x (by simp [Op.operands,Call.operands])⟩
    have fpl:∀id∈fp,id<H.length:=srcE_fp hs
    unfold appK at h
    split at h
    ·next id z' len hd=>
     split at h
     ·next e' z'' vs ho=>
      obtain⟨rfl,rfl,rfl,hlen,hnot,hleaf,hbound,hK⟩:=h
      have hidl:id<H.length:=(Qa.1 ho).1
      refine⟨_,_,_,_,_,hK,HCond.write H id _ (id :: fp) hidl (by simp),?_⟩
      intro HD E a hl hr _ hfp hwr _ K' Q hK'
      have hD:HD[id]? =some (.arr e' z'' vs):=by rw[hwr id (by simp)];exact ho
      obtain⟨h1,h2⟩:=hos E a hl
      rw[hd] at h1
      obtain⟨news,hsr,hfl⟩:=srcE_run hr h2 hs (fun j hj=>by
       have hne:j≠id:=fun e=>hnot (by rw[←e];exact hj)
       have:=hfp j (by simp [hj]) (by simpa using hne)
       intro y hy
       exact this y (by rw[Q0 (fun e=>hne e.symm)];exact hy))
      obtain⟨E',v,hrun,hv,hr',hst,hM⟩:=app_own (ty:=ty) hu hi hz hzs hsz hby hb0 hr h1 hD hlen hsr hfl hleaf hbound
      refine wp_of_value (hrunop hrun) (hK' _ E' v (by simp) (fun j hj=>Q0 (fun e=>hj (by simp [e]))) (fun j hj=>?_) hv hr' hst (fun j h1 h2=>absurd (hM j h1) h2))
      have:j=id:=by simpa using hj
      subst this
      have hidD:j<HD.length:=(Qa.1 hD).1
      rw[Qn hidD,Qn hidl]
     ·exact h.elim
    ·next hd=>
     obtain⟨hbound,hK⟩:=h
     refine⟨_,_,_,_,_,hK,HCond.alloc H _ fp,heapOK_new fun HD E a hl hr hfp hm ⟨o',ho,hle⟩=>?_⟩
     obtain⟨h1,h2⟩:=hos E a hl
     rw[hd] at h1
     obtain⟨news,hsr,hfl⟩:=srcE_run hr h2 hs (fun j hj=>hfp j hj (fpl j hj))
     obtain⟨E',v,hrun,hv,hr',hst,hM⟩:=app_new (ty:=ty) hu hi hz hzs hsz hby hb0 hr hm ho hle (a:=none) hsr hfl hbound
     exact⟨E',v,rfl,hv,hrunop (by rw[h1.nls_inv];exact hrun),hr',hst,hM⟩
    ·next z' vs hd=>
     unfold nsel at h
     split at h
     ·next hne=>
      obtain⟨rfl,hbound,hK⟩:=h
      refine⟨_,_,_,_,_,hK,HCond.alloc H _ fp,heapOK_new fun HD E a hl hr hfp hm ⟨o',ho,hle⟩=>?_⟩
      obtain⟨h1,h2⟩:=hos E a hl
      rw[hd] at h1
      obtain⟨news,hsr,hfl⟩:=srcE_run hr h2 hs (fun j hj=>hfp j hj (fpl j hj))
      obtain⟨E',v,hrun,hv,hr',hst,hM⟩:=app_slo (ty:=ty) hu hi hz hzs hsz hby hb0 hr hm ho hle h1 hsr hfl (neL_pos hne) hbound
      exact⟨E',v,rfl,hv,hrunop hrun,hr',hst,hM⟩
     split at h
     ·obtain⟨rfl,hpure,hbound,hK⟩:=h
      refine⟨_,_,_,_,_,hK,HCond.read H fp,?_⟩
      intro HD E a hl hr _ hfp _ _ K' Q hK'
      obtain⟨h1,h2⟩:=hos E a hl
      rw[hd] at h1
      obtain⟨news,hsr,hfl⟩:=srcE_run hr h2 hs (fun j hj=>hfp j hj (by simp))
      obtain⟨E',v,hrun,hv,hr',hst,hM⟩:=app_slc (ty:=ty) hu hi hz hsz hby hb0 hr h1 hsr hfl hpure hbound
      exact wp_of_value (hrunop hrun) (hK' HD E' v rfl (fun _ _=>rfl) (by simp) hv hr' hst (fun j h1 h2=>by rw[hM] at h2;exact absurd h1 h2))
     ·next hnil=>
      have hvs:=neL_nil hnil
      subst hvs
      obtain⟨rfl,hbound,hK⟩:=h
      refine⟨_,_,_,_,_,hK,HCond.alloc H _ fp,heapOK_new fun HD E a hl hr hfp hm ⟨o',ho,hle⟩=>?_⟩
      obtain⟨h1,h2⟩:=hos E a hl
      rw[hd] at h1
      obtain⟨news,hsr,hfl⟩:=srcE_run hr h2 hs (fun j hj=>hfp j hj (fpl j hj))
      obtain⟨ad,f,hav,_,_⟩:=h1.slc_inv
      obtain⟨E',v,hrun,hv,hr',hst,hM⟩:=app_new (ty:=ty) hu hi hz hzs hsz hby hb0 hr hm ho hle (a:=ad) hsr hfl hbound
      exact⟨E',v,rfl,hv,hrunop (by rw[hav];exact hrun),hr',hst,hM⟩
    ·exact h.elim
   ·exact h.elim
  ·exact h.elim
 ·exact h.elim
theorem buildSlice_sound {P:Program}{ev:AEnv}{H:AH}{K:HK}{dst:Option Tmp}{t:TypeId}{len:Nat}{parts:Array (Nat×Operand)}{ty:TypeId}{pos:String}{after:Array Edge}{guard:Option (Nat×Bool)}
 (h:heapK P ev H ⟨dst,.buildSlice t len parts,ty,pos,after,guard⟩ K):HSnd P ev H ⟨dst,.buildSlice t len parts,ty,pos,after,guard⟩ K:=by
 unfold heapK at h
 simp only at h
 split at h
 ·next e sz hk=>
  obtain⟨hb,h24,hl24,hidx,hall,hK⟩:=h
  obtain⟨b,hb⟩:=Qq.1 hb
  obtain⟨i,z,hi,hz,hzs,hby,hb0⟩:=eb_spec hb
  obtain⟨hu,⟨i',hi',hsz⟩,_⟩:=tk_slice hk
  rw[hi] at hi';cases hi'
  have hlen:parts.toList.length=len:=by have:=congrArg List.length hidx;simpa using this
  have hlenA:parts.size=len:=by simpa using hlen
  refine⟨_,_,_,_,_,hK,HCond.alloc H _ [],heapOK_new fun HD E a hl hr _ hm ⟨o',ho,hle⟩=>?_⟩
  have hpart:∀(k:Nat) (p:Nat×Operand),parts.toList[k]? =some p→p.1=k∧VR E (opnd ev p.2) (a.eval p.2)∧(opnd ev p.2).definite=true∧(opnd ev p.2).cells.length=sz:=by
   intro k p hp
   have h1:(parts.toList.map (·.1))[k]? =some p.1:=by simp [hp]
   rw[hidx] at h1
   have hkl:k<len:=by rw[←hlen];exact(Qa.1 hp).1
   rw[Xr hkl] at h1
   have h2:=Qk.1 hall p (Qz hp)
   simp only[Bool.and_eq_true,beq_iff_eq] at h2
   refine⟨by simpa using h1.symm,hl p.2 ?_,h2.1,h2.2⟩
   simp only[Op.operands,List.mem_toArray,List.mem_map,Array.mem_toList_iff]
   exact⟨p,by have:=Qz hp;simpa using this,rfl⟩
  have key:∀(l:List (Nat×Operand)) (s:Nat) (cells:Array Value),cells.size=len * sz→s+l.length=len→(∀(k:Nat) (p:Nat×Operand),l[k]? =some p→parts.toList[s+k]? =some p)→
   (∀(k:Nat) (p:Nat×Operand),k<s→parts.toList[k]? =some p→∀(j:Nat) cc,(opnd ev p.2).cells[j]? =some cc→∃u,cells[k * sz+j]? =some u∧VR E cc u)→
   ∃cells',Instr.fill (fun i=>some (i * sz,sz)) cells (l.map fun(i,x)=>(i,a.eval x))=some cells'∧cells'.size=len * sz∧
    ∀(k:Nat) (p:Nat×Operand),parts.toList[k]? =some p→∀(j:Nat) cc,(opnd ev p.2).cells[j]? =some cc→∃u,cells'[k * sz+j]? =some u∧VR E cc u:=by
   intro l
   induction l with
   | nil=>
    intro s cells hs hsl _ hdone
    refine⟨cells,rfl,hs,fun k p hp=>hdone k p ?_ hp⟩
    have:=(Qa.1 hp).1
    simp at hsl;omega
   | cons p l ih=>
    intro s cells hs hsl hsub hdone
    have hp:=hsub 0 p rfl
    rw[Qu] at hp
    obtain⟨h1,h2,h3,h4⟩:=hpart s p hp
    obtain⟨pi,px⟩:=p
    simp only at h1 h2 h3 h4
    subst h1
    have hcv:=cells_VR h2 h3
    have hvs:(a.eval px).cells.size=sz:=by rw[hcv.1,h4]
    have hroom:pi * sz+sz≤len * sz:=by
     have:(pi+1) * sz≤len * sz:=Qb _ (by simp at hsl;omega)
     rw[Qh,Qt] at this;exact this
    simp only[Xs,Instr.fill]
    rw[if_neg (by simp only[hvs,hs,Bool.or_eq_true,decide_eq_true_eq,ne_eq,not_true_eq_false,false_or];omega)]
    have hfold:=foldl_set (pi * sz) (a.eval px).cells.toList 0 cells
    have efold:(a.eval px).cells.zipIdx.foldl (fun cs (p:Value×Nat)=>cs.setIfInBounds (pi * sz+p.2) p.1) cells =
     ((a.eval px).cells.toList.zipIdx 0).foldl (fun cs (p:Value×Nat)=>cs.setIfInBounds (pi * sz+p.2) p.1) cells:=by
     rw[←Array.foldl_toList,Array.toList_zipIdx]
    have hget:∀k,k<len * sz→((a.eval px).cells.zipIdx.foldl (fun cs (p:Value×Nat)=>cs.setIfInBounds (pi * sz+p.2) p.1) cells)[k]? =
     some (if pi * sz≤k∧k<pi * sz+sz then(a.eval px).cells.toList.getD (k - pi * sz) Go.undef else cells.getD k Go.undef):=by
     intro k hk
     have hk':k< ((a.eval px).cells.zipIdx.foldl (fun cs (p:Value×Nat)=>cs.setIfInBounds (pi * sz+p.2) p.1) cells).size:=by rw[efold,hfold.1,hs];exact hk
     have:=hfold.2 k (by rw[hs];exact hk)
     rw[←efold] at this
     simp only[Qu,Qm,hvs] at this
     rw[Qi hk']
     simp only[Qe,Qi hk',Qs] at this
     rw[this];simp [Qe]
    refine ih (pi+1) _ (by rw[efold,hfold.1,hs]) (by simp at hsl;omega) (fun k p hk=>by have:=hsub (k+1) p (by simpa using hk);rwa [show pi+(k+1)=pi+1+k by omega] at this) ?_
    intro k q hk hq j cc hj
    have hjl:j<sz:=by rw[←(hpart k q hq).2.2.2];exact(Qa.1 hj).1
    by_cases he:k=pi
    ·subst he
     rw[hp] at hq;cases hq
     have hlt:k * sz+j<len * sz:=by omega
     refine⟨_,hget _ hlt,?_⟩
     rw[if_pos (by omega)]
     have:=hcv.2 j cc hj
     have e1:k * sz+j - k * sz=j:=by omega
     rw[e1]
     have e3:(a.eval px).cells.toList.getD j Go.undef=(a.eval px).cells.getD j Go.undef:=by simp [List.getD]
     rw[e3];exact this
    ·have hkp:k<pi:=by omega
     obtain⟨u,h5,h6⟩:=hdone k q hkp hq j cc hj
     have hkk:k * sz+sz≤pi * sz:=by
      have:(k+1) * sz≤pi * sz:=Qb _ hkp
      rw[Qh,Qt] at this;exact this
     refine⟨u,?_,h6⟩
     rw[hget _ (by omega),if_neg (by omega)]
     have hlt:=(Ql.1 h5)
     simp [h5]
  have h0:((Xc (len * sz)).map fun k=>z.cells[k % z.cells.size]!).size=len * sz:=by simp
  obtain⟨cells',hfill,hcs,hcv⟩:=key parts.toList 0 ((Xc (len * sz)).map fun k=>z.cells[k % z.cells.size]!) h0 (by omega) (fun k p h=>by simpa using h) (fun k p h=>by omega)
  obtain⟨E',hW,hv,hr',hst,hM⟩:=arr_new hr hm ho hle (w':=E.W.alloc (.cells cells' e)) (c:=cells') (fz:=(0,0)) (cap:=len) ⟨rfl,rfl,rfl⟩ rfl (ThawS.zero _ _ _) hcs (by simp [hlenA]) (by unfold maxLen;omega) (fun k y hk=>by
   simp only[Q5,Qv] at hk
   obtain⟨p,hp,rfl⟩:=hk
   exact⟨(hpart k p hp).2.2.2,fun j cc hj=>hcv k p hp j cc hj⟩)
  have hl0:(parts.toList.map fun p=>opnd ev p.2).length=len:=by simp [hlenA]
  rw[hl0] at hv
  refine⟨E',_,rfl,hv,?_,hr',hst,hM⟩
  rw[hW]
  by_cases hz0:len * sz=0
  ·have hfill':Instr.fill (fun i=>some (i * sz,sz)) #[] (parts.map fun(i,x)=>(i,a.eval x)).toList=some cells':=by
    have e0:(Xc (len * sz)).map (fun k=>z.cells[k % z.cells.size]!)= #[]:=Q7 (by simp [hz0])
    rw[e0] at hfill
    simpa using hfill
   have e1:∀f:Nat→Value,(Xc 0).map f= #[]:=fun f=>Q7 (by simp)
   have h24':¬len * sz > 2 ^ 24:=by omega
   simp only[execOp,Instr.buildSlice,Sem.run_bind,run_underlying hu,Result.andThen_ok,sizeOf,typeInfo,run_program,hi,Sem.run_pure,hsz,if_neg h24',if_pos hz0]
   rw[hz0]
   simp only[e1,hfill',Sem.run_bind,newRow,run_newObj,Sem.run_pure,Result.andThen_ok]
   rfl
  ·have hfill':Instr.fill (fun i=>some (i * sz,sz)) ((Xc (len * sz)).map fun k=>z.cells[k % z.cells.size]!) (parts.map fun(i,x)=>(i,a.eval x)).toList=some cells':=by
    simpa using hfill
   simp only[execOp,Instr.buildSlice,Sem.run_bind,run_underlying hu,Result.andThen_ok,sizeOf,typeInfo,run_program,hi,Sem.run_pure,hsz,if_neg (show ¬len * sz > 2 ^ 24 by omega),if_neg hz0,zeroValue,hz,hfill',newRow,run_newObj]
   rfl
 ·exact h.elim
end Go.Pg
namespace Go.Pg
open Go
variable [Syms]
theorem makeSlice_sound {P:Program}{ev:AEnv}{H:AH}{K:HK}{dst:Option Tmp}{t:TypeId}{l c:Operand}{ty:TypeId}{pos:String}{after:Array Edge}{guard:Option (Nat×Bool)}
 (h:heapK P ev H ⟨dst,.makeSlice t l c,ty,pos,after,guard⟩ K):HSnd P ev H ⟨dst,.makeSlice t l c,ty,pos,after,guard⟩ K:=by
 unfold heapK at h
 simp only at h
 split at h
 ·next e sz k n k' m hk hl hc=>
  obtain⟨rfl,h0,b,hb,hbound,hd,hsz0,hK⟩:=h
  obtain⟨i,z,hi,hz,hzs,hby,hb0⟩:=eb_spec hb
  obtain⟨hu,⟨i',hi',hsz⟩,_⟩:=tk_slice hk
  rw[hi] at hi';cases hi'
  have hnb:n≤140737488355328:=by
   have:n * 1≤n * (b:Int):=Int.mul_le_mul_of_nonneg_left (by omega) h0
   omega
  refine⟨_,_,_,_,_,hK,HCond.alloc H _ [],heapOK_new fun HD E a hl' hr _ hm ⟨o',ho,hle⟩=>?_⟩
  have h1:=hl' l (by simp [Op.operands])
  have h2:=hl' c (by simp [Op.operands])
  rw[hl] at h1
  rw[hc] at h2
  have hrun:=run_make (P:=P) E.W t e i z hu hi hz k k' n n h0 (Int.le_refl _) (by rw[hby,Int.mul_comm];omega) (by omega)
  have hzv:VRl E (tz P e).cells z.cells:=by
   have:VR E (tz P e) z:=by
    have e1:tz P e=ofV z:=by simp [tz,hi,hz]
    rw[e1];exact ofV_VR E z
   exact cells_VR this hd
  have hlen:(X1 n.toNat (tz P e)).length=n.toNat:=by simp
  obtain⟨E',hW,hv,hr',hst,hM⟩:=arr_new hr hm ho hle (w':=E.W.alloc (.cells (madeCells z.cells (n.toNat * i.size)) e)) (c:=madeCells z.cells (n.toNat * i.size)) (fz:=(0,0)) (cap:=n.toNat) ⟨rfl,rfl,rfl⟩ rfl (ThawS.zero _ _ _) (by simp [madeCells,hsz]) (by simp) (by unfold maxLen;omega) (fun j y hj=>by
   have hjl:j<n.toNat:=by rw[←hlen];exact(Qa.1 hj).1
   have hy:y=tz P e:=by
    rw[List.getElem?_replicate,if_pos hjl] at hj
    exact(Option.some.inj hj).symm
   subst hy
   refine⟨hsz0,fun q cc hq=>?_⟩
   have hql:q<sz:=by rw[←hsz0];exact(Qa.1 hq).1
   have hlt:j * sz+q<n.toNat * i.size:=by
    rw[hsz]
    have:(j+1) * sz≤n.toNat * sz:=Qb _ hjl
    rw[Qh,Qt] at this;omega
   have hzz:z.cells.size=sz:=hzs.trans hsz
   have hmod:(j * sz+q) % z.cells.size=q:=by rw[hzz,Q9,Nat.mul_add_mod,Nat.mod_eq_of_lt hql]
   have hqz:q<z.cells.size:=by omega
   have:=hzv.2 q cc hq
   simp only[Qe,Qi hqz,Qs] at this
   refine⟨z.cells[q],?_,this⟩
   simp only[madeCells,Xv,Array.getElem?_range,hlt,if_true,Xl,hmod]
   congr 1
   exact getElem!_pos z.cells q hqz)
  rw[hlen] at hv
  exact⟨E',_,rfl,hv,by rw[hW];simp only[execOp,Sem.run_bind,h1.int_inv,h2.int_inv,hrun];rfl,hr',hst,hM⟩
 ·exact h.elim
theorem convert_sound {P:Program}{ev:AEnv}{H:AH}{K:HK}{dst:Option Tmp}{src dt:TypeId}{x:Operand}{ty:TypeId}{pos:String}{after:Array Edge}{guard:Option (Nat×Bool)}
 (h:heapK P ev H ⟨dst,.convert src dt x,ty,pos,after,guard⟩ K):HSnd P ev H ⟨dst,.convert src dt x,ty,pos,after,guard⟩ K:=by
 unfold heapK at h
 simp only at h
 split at h
 ·next e sz s hks hkd hx=>
  obtain⟨rfl,hke,he3,hbound,hK⟩:=h
  refine⟨_,_,_,_,_,hK,HCond.alloc H _ [],heapOK_new fun HD E a hl hr _ hm ⟨o',ho,hle⟩=>?_⟩
  have h1:=hl x (by simp [Op.operands])
  rw[hx] at h1
  obtain⟨s',hs',rfl⟩:=h1.str_inv
  have hrun:=Lib.run_convert_string_bytes (P:=P) E.W src dt e s' (tk_str hks).1 (tk_slice hkd).1 (tk_int hke).1
  have hsz:s'.data.toList.length=s'.size:=rfl
  have hge:=grownCap_ge E.W s'.size 0 e
  have hmax:=grownCap_le_maxLen E.W s'.size 0 e (by unfold maxLen;omega)
  have hcs:(Lib.bytesCells E.W e s').size=grownCap E.W s'.size 0 e * 1:=by
   have:s'.data.size=s'.size:=rfl
   simp [Lib.bytesCells];omega
  have hheap:(Lib.bytesWorld E.W e s').heap=E.W.heap.push (.cells (Lib.bytesCells E.W e s') e ((Lib.bytesCells E.W e s').size,(Lib.bytesCells E.W e s').size+1)):=by
   apply Array.ext_getElem?
   intro j
   rw[Q1]
   by_cases h:j=E.W.heap.size
   ·subst h;rw[if_pos rfl,Lib.bytesWorld_at_new]
   ·rw[if_neg h]
    rcases Xw j E.W.heap.size with hlt | hge
    ·exact Lib.bytesWorld_at_old E.W e s' j hlt
    ·rw[Xi (by rw[Lib.bytesWorld_size];omega),Xi hge]
  have hblen:(ofBytes s'.data.toList).length=s'.size:=by simp [ofBytes]
  have hthw:ThawS e 1 ((Lib.bytesCells E.W e s').size,(Lib.bytesCells E.W e s').size+1) (Lib.bytesCells E.W e s').size:=by
   refine⟨fun k hk h=>by simp at h;omega,fun hq=>?_,by simp⟩
   rcases hq with hq | hq
   ·rw[he3] at hq;cases hq
   ·exact absurd rfl hq
  obtain⟨E',hW,hv,hr',hst,hM⟩:=arr_new hr hm ho hle (w':=Lib.bytesWorld E.W e s') (cap:=grownCap E.W s'.size 0 e) ⟨by simp [Lib.bytesWorld,World.freeze] <;> rfl,by simp [Lib.bytesWorld,World.freeze] <;> rfl,by simp [Lib.bytesWorld,World.freeze] <;> rfl⟩ hheap hthw hcs (by rw[hblen];exact hge) hmax (fun j y hj=>by
   simp only[ofBytes,Q5,Qv] at hj
   obtain⟨b,hb,rfl⟩:=hj
   refine⟨rfl,fun q cc hq=>?_⟩
   cases q with
   | zero=>
    simp [AV.cells] at hq;subst hq
    refine⟨_,?_,.int _ _⟩
    have hjl:j<s'.data.size:=by have:=(Qa.1 hb).1;simpa using this
    have hbb:s'.data[j]=b:=by have:=(Qa.1 hb).2;simpa using this
    simp only[Lib.bytesCells,Nat.mul_one,Qu]
    rw[Qy (by simpa using hjl)]
    rw[Xv,Qi hjl,hbb]
    rfl
   | succ q=>simp [AV.cells] at hq)
  rw[hblen] at hv
  refine⟨E',_,rfl,?_,by rw[hW];simp only[execOp,Sem.run_bind,hs',hrun];rfl,hr',hst,hM⟩
  exact hv
 ·next e sz hks hkd hx=>
  obtain⟨hke,hK⟩:=h
  refine⟨_,_,_,_,_,hK,HCond.read H [],heapOK_read fun HD E a hl hr _=>?_⟩
  have h1:=hl x (by simp [Op.operands])
  rw[hx] at h1
  refine⟨.string .empty,.str .empty,?_⟩
  simp [execOp,convert,run_underlying (tk_slice hks).1,run_underlying (tk_str hkd).1,run_underlying (tk_int hke).1,h1.nls_inv,Conv.bytesToString]
 ·next e sz y hks hkd _=>
  obtain⟨hke,h⟩:=h
  split at h
  ·next z vs fp hs=>
   obtain⟨rfl,bs,hbs,hK⟩:=h
   refine⟨_,_,_,_,_,hK,HCond.read H fp,heapOK_read fun HD E a hl hr hfp=>?_⟩
   have h1:=hl x (by simp [Op.operands])
   have hsD:srcV HD (opnd ev x)=some (1,vs,fp):=by
    cases hy:opnd ev x <;> rw[hy] at hs <;> simp only[srcV] at hs ⊢ <;> try exact hs
    all_goals
     split at hs
     ·next ho=>
      split at hs
      ·next hh=>
       cases hs
       rw[objAt_has ho (hfp _ (by simp))]
       simp [hh]
      ·cases hs
     ·cases hs
   obtain⟨ad,cap,us,hav,hcap,hf,hc⟩:=src_read hr h1 hsD
   have hints:∀(vs:List AV) (bs:List UInt8) (us:List Value),bytesOf vs=some bs→FlatVR E 1 vs us→∃ns:List Int,us=ns.map (Value.int .u8)∧bs=ns.map (fun n=>UInt8.ofNat n.toNat):=by
    intro vs
    induction vs with
    | nil=>intro bs us h hf;simp only[bytesOf] at h;cases h
           have:us=[]:=Qc (by rw[hf.len];simp)
           subst this;exact⟨[],rfl,rfl⟩
    | cons v vs ih=>
     intro bs us h hf
     cases v <;> first | (simp [bytesOf] at h;done) | skip
     next k n=>
      cases k <;> first | (simp [bytesOf] at h;done) | skip
      simp only[bytesOf] at h
      split at h
      ·next l hl=>
       cases h
       cases us with
       | nil=>have:=hf.len;simp at this
       | cons u us=>
        have hu:u= .int .u8 n:=by
         obtain⟨u',h1,h2⟩:=(hf.at_ 0 _ rfl).2 0 _ rfl
         simp at h1;subst h1;exact h2.int_inv
        obtain⟨ns,h1,h2⟩:=ih l us hl ⟨by have:=hf.len;simp at this ⊢;omega,fun i x hi=>⟨(hf.at_ (i+1) x hi).1,fun j c hj=>by
         obtain⟨u',a1,a2⟩:=(hf.at_ (i+1) x hi).2 j c hj
         refine⟨u',?_,a2⟩
         have e:(i+1) * 1+j=(i * 1+j)+1:=by omega
         rw[e,List.getElem?_cons_succ] at a1;exact a1⟩⟩
        exact⟨n :: ns,by rw[hu,h1];rfl,by rw[h2];rfl⟩
      ·cases h
   obtain⟨ns,hus,hbsn⟩:=hints vs bs us hbs hf
   have hfold:∀(ns:List Int) (s:ByteArray),(ns.foldl (fun r n=>r.push (UInt8.ofNat n.toNat)) s).data.toList=s.data.toList ++ ns.map (fun n=>UInt8.ofNat n.toNat):=by
    intro ns
    induction ns with
    | nil=>intro s;simp
    | cons n ns ih=>intro s;simp only[List.foldl_cons,ih];simp [ByteArray.push]
   have hlen:vs.length=ns.length:=by have:=hf.len;rw[hus] at this;simpa using this.symm
   cases ad with
   | none=>
    have:us=[]:=by
     cases hu:us with
     | nil=>rfl
     | cons u r=>obtain⟨ad,h,_⟩:=hc 0 u (by rw[hu];rfl);cases h
    have hn:ns=[]:=by rw[this] at hus;cases ns <;> simp at hus ⊢
    subst hn
    rw[hbsn]
    refine⟨.string .empty,.str .empty,?_⟩
    simp [execOp,convert,run_underlying (tk_slice hks).1,run_underlying (tk_str hkd).1,run_underlying (tk_int hke).1,hav,Conv.bytesToString]
   | some ad=>
    have hload:(loadCells ad vs.length).run P E.W= .ok (ns.map (Value.int .u8)).toArray E.W:=by
     have:=run_loadCells_list (P:=P) E.W ad us (fun j v hj=>by obtain⟨ad',h1,h2⟩:=hc j v hj;cases h1;exact h2)
     rw[hus] at this
     rw[hlen]
     simpa using this
    have hrun:=run_bytesToString (P:=P) E.W ad vs.length cap ns hload
    refine⟨.string (ns.foldl (fun r n=>r.push (UInt8.ofNat n.toNat)) ByteArray.empty),?_,?_⟩
    ·have:=hfold ns ByteArray.empty
     have e2:(ByteArray.empty).data.toList=[]:=rfl
     rw[e2,List.nil_append] at this
     rw[hbsn,←this];exact .str _
    ·simp only[execOp,convert,Sem.run_bind,run_underlying (tk_slice hks).1,run_underlying (tk_str hkd).1,run_underlying (tk_int hke).1,hav,Result.andThen_ok,hrun]
     rfl
  ·exact h.elim
 ·next e sz e' sz' id z n hks hkd hx=>
  obtain⟨rfl,rfl,hke,he3,hn0,h⟩:=h
  split at h
  ·next e2 z2 vs ho=>
   obtain⟨rfl,rfl,hlen,rfl,hK⟩:=h
   have hidl:id<H.length:=(Qa.1 ho).1
   refine⟨_,_,_,_,_,hK,HCond.write H id _ [id] hidl (by simp),?_⟩
   intro HD E a hl hr _ hfp hwr _ K' Q hK'
   have hD:HD[id]? =some (.arr e2 1 vs):=by rw[hwr id (by simp)];exact ho
   have h1:=hl x (by simp [Op.operands])
   rw[hx] at h1
   have hv1:=h1
   cases h1v:a.eval x <;> rw[h1v] at h1 <;> cases h1
   next ad cap k1 k2 k3=>
   have hown:=(k3 n (by rw[hr.hl];simp [hlOf,hD,AO.len,hlen])).2 rfl
   rcases hown with⟨_,h0,_⟩ | ⟨b,c,ty,fz,m1,m2,m3,m4,m5,m6⟩
   ·omega
   rcases hr.orow id _ _ hD m1 with⟨h0,_⟩ | ⟨b',c',fz',r1,r2,r3,r4,r5⟩
   ·cases h0
   cases r1
   rw[m5] at r2
   cases r2
   have hz':=r4.mark he3
   obtain⟨E',q1,q2,q3,q4⟩:=mark_rel hr hD m1 m5 hz' (w':=E.W.freeze ⟨b,c.size,none⟩ 1) ⟨by simp [World.freeze],by simp [World.freeze],by simp [World.freeze]⟩ (by simp [World.freeze]) (fun k hk=>by simp [World.freeze,Xo,Ne.symm hk]) (by
    simp only[World.freeze,Nat.one_ne_zero,if_false,Xo,if_true,m5,Xl,mkFz])
   have hrun:(execOp a.eval ⟨dst,.convert src src x,ty,pos,after,guard⟩).run P E.W= .ok (.value (.slice ad n cap)) E'.W:=by
    have hshp:E.W.shape? b=some (e2,c.size):=by simp [World.shape?,m5]
    subst m2
    rw[q1]
    simp [execOp,convert,run_underlying (tk_slice hks).1,run_underlying (tk_int hke).1,h1v,markStringish,hshp]
   have hx':=q3.ext hr
   refine wp_of_value hrun (hK' HD E' _ rfl (fun _ _=>rfl) (fun j hj=>?_) (by have:=hv1.mono hx';rw[h1v] at this;exact this) q2 q3 (fun j h1 h2=>by rw[q4] at h2;exact absurd h1 h2))
   have:j=id:=by simpa using hj
   subst this
   rw[hD,Qn hidl]
  ·exact h.elim
 ·exact h.elim
theorem ownAll_sound {P:Program}{ev:AEnv}{H:AH}{K:HK}{dst:Option Tmp}{t:TypeId}{x:Operand}{lo hi mx:Option Operand}{ty:TypeId}{pos:String}{after:Array Edge}{guard:Option (Nat×Bool)}
 (h:heapK P ev H ⟨dst,.slice t x lo hi mx,ty,pos,after,guard⟩ K):HSnd P ev H ⟨dst,.slice t x lo hi mx,ty,pos,after,guard⟩ K:=by
 unfold heapK at h
 simp only at h
 split at h
 ·next e sz id z len hk hx=>
  obtain⟨rfl,hK⟩:=h
  refine⟨_,_,_,_,_,hK,HCond.read H [],heapOK_read fun HD E a hl hr _=>?_⟩
  have h1:=hl x (by simp [Op.operands])
  rw[hx] at h1
  obtain⟨hu,⟨i,hi,hsz⟩,_⟩:=tk_slice hk
  have hel:P.elem t=e:=by simp [Program.elem,hu]
  have hu':P.underlying t=some (.slice (P.elem t)):=by rw[hel];exact hu
  have hs:(sizeOf (P.elem t)).run P E.W= .ok z E.W:=by rw[hel];simp [sizeOf,typeInfo,hi,hsz]
  refine⟨_,h1,?_⟩
  cases h1v:a.eval x <;> rw[h1v] at h1 <;> cases h1
  next ad cap _ _ _=>
  have:=run_slice_all E.W t ad len cap hu'
  simp only[execOp,Sem.run_bind,Option.map_none,h1v,run_sliceAt_slice E.W t _ none none none hu',this,hs,Result.andThen_ok,sliced]
  have e1:∀a:Option Addr,(∀b,a=some b→b.add (0 * z)=b)→(if cap=0 then a else a.map (·.add (0 * z)))=a:=by
   intro a h
   split
   ·rfl
   ·cases a with
    | none=>rfl
    | some b=>rw[Xl,h b rfl]
  rw[e1 ad (fun b _=>by rw[Nat.zero_mul];rfl)]
  rfl
 ·exact h.elim
theorem heapK_sound {P:Program}{ev:AEnv}{H:AH}{o:Oper}{K:HK}(h:heapK P ev H o K):HSnd P ev H o K:=by
 obtain⟨dst,op,ty,pos,after,guard⟩:=o
 cases op with
 | load t x=>exact load_sound h
 | box t x=>exact box_sound h
 | alloc t=>exact alloc_sound h
 | store t a x=>exact store_sound h
 | buildSlice t n p=>exact buildSlice_sound h
 | makeSlice t l c=>exact makeSlice_sound h
 | convert s d x=>exact convert_sound h
 | slice t x lo hi mx=>exact ownAll_sound h
 | call c=>
  obtain⟨callee,args,argTypes⟩:=c
  cases callee with
  | builtin b=>cases b <;> first | exact append_sound h | exact h.elim
  | value f=>exact h.elim
  | invoke r m=>exact h.elim
 | _=>exact h.elim
end Go.Pg
