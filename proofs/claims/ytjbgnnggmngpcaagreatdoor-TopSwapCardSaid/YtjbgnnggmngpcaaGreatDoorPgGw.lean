/- Pg: abstract values, what operations, regions, calls come to on them. -/
import Derived.Test.YtjbgnnggmngpcaaGreatDoorPgCall
import Derived.RangeFuncSeq
import Derived.Below
set_option linter.unusedVariables false
set_option linter.unusedSimpArgs false
set_option linter.unusedSectionVars false
open List renaming getElem?_eq_some_iff → Qa,mem_of_getElem? → Qb,all_eq_true → Qc,getElem?_set_ne → Qd,getElem?_append_left → Qg,getElem?_set_self → Qi
open Option renaming map_none → Qe,map_some → Qf,bind_some → Qj
open Nat renaming le_refl → Qh
namespace Go.Pg
open Go
variable [Syms]
theorem adopt_rel {HD:AH}{E:Env}(hr:Rel HD E){id nid n:Nat}{e:TypeId}{sz:Nat}{vs:List AV}{m:Option Nat}(ho:HD[id]? =some (.arr e sz vs))(hm:E.M id=some m)
 (hn:E.M nid=none) {o':AO} (ho':HD[nid]? =some o') (hle:AOle (.arr e sz (vs.take n)) o') :
 ∃E',E'.W=E.W∧Rel (HD.set id .dead) E'∧Step HD E (HD.set id .dead) E'∧(∀j,E.M j=none→E'.M j≠none→j=nid)∧E'.M nid=some m:=by
 have hidl:id<HD.length:=(Qa.1 ho).1
 have hnl:nid<HD.length:=(Qa.1 ho').1
 have hne:nid≠id:=fun h=>by rw[h,hm] at hn;cases hn
 have hget:∀j:Nat,(HD.set id AO.dead)[j]? =if j=id then some AO.dead else HD[j]?:=by
  intro j
  rw[List.getElem?_set]
  by_cases h:id=j
  ·subst h;simp [hidl]
  ·rw[if_neg h,if_neg (fun x=>h x.symm)]
 let E':Env:={ W:=E.W,M:=fun j=>if j=nid then some m else E.M j,st:=fun b=>E.st b∨(o'= .frz e sz (vs.take n)∧m=some b),hl:=hlOf (HD.set id .dead) }
 have hlive:∀b,Live (HD.set id .dead) E'.M b→Live HD E.M b∨E.W.heap.size≤b:=by
  rintro b ⟨j,o,h1,hl,h2⟩
  rw[hget] at h1
  split at h1
  ·cases h1;cases hl
  ·by_cases hj:j=nid
   ·have h3:E'.M j=some m:=by simp only[E',if_pos hj]
    rw[h3] at h2
    simp only[Option.some.injEq] at h2
    subst h2
    exact .inl ⟨id,_,ho,rfl,hm⟩
   ·have h3:E'.M j=E.M j:=by simp only[E',if_neg hj]
    rw[h3] at h2
    exact .inl ⟨j,o,h1,hl,h2⟩
 have hst:Step HD E (HD.set id .dead) E':=by
  refine⟨⟨rfl,rfl,rfl,Qh _,fun b _ _=>rfl,fun b c ty fz h=>⟨c,_,h,rfl⟩,?_,fun b hb=> .inl hb⟩,⟨fun j hj=>?_,fun j L' hj hL=>?_⟩,hlive⟩
  ·rintro b _ (h | ⟨_,h⟩)
   ·exact .inl h
   ·subst h;exact .inr ⟨id,_,ho,rfl,hm⟩
  ·simp only[E'];split
   ·rfl
   ·exact hj
  ·simp only[E',hlOf,hget] at hL
   rw[hr.hl]
   split at hL
   ·simp [AO.len] at hL
   ·next hj'=>
    refine⟨L',hL,Qh _,fun _=>?_⟩
    have:j≠nid:=fun h=>by rw[h,hn] at hj;cases hj
    simp only[E',if_neg this]
 have hx:=hst.ext hr
 have take:∀{m0:Option Nat},ARow E m0 e sz vs→ARow E m0 e sz (vs.take n):=by
  intro m0 h
  rcases h with⟨h0,h1⟩ | ⟨b',c0,fz',h1,h2,h3,h4,h5⟩
  ·exact .inl ⟨h0,by rw[h1];simp⟩
  ·refine .inr ⟨b',c0,fz',h1,h2,Nat.le_trans (Nat.mul_le_mul_right _ (by simp;omega)) h3,h4,fun i v hi=>?_⟩
   rw[List.getElem?_take] at hi
   split at hi
   ·exact h5 i v hi
   ·cases hi
 have row0:=hr.row id e sz vs (.inl ho) m hm
 refine⟨E',rfl,⟨rfl,?_,?_,?_,?_,?_,?_⟩,hst,?_,by simp [E']⟩
 ·intro j hj
  have:j≠nid:=fun h=>by subst h;simp at hj;omega
  simp only[E',if_neg this];exact hr.dom j (by simpa using hj)
 ·intro j o m' h hmj
  rw[hget] at h
  by_cases hj:j=id
  ·rw[if_pos hj] at h;cases h;trivial
  ·rw[if_neg hj] at h
   by_cases hj':j=nid
   ·subst hj'
    simp only[E',if_true,Option.some.injEq] at hmj
    subst hmj
    rw[ho'] at h;cases h
    exact ORow.of_le hle (ORow.mono (o:= .arr e sz (vs.take n)) hx (take row0) fun _ _=>rfl)
   ·simp only[E',if_neg hj'] at hmj
    exact(hr.orow j o m' h hmj).mono hx fun _ _=>rfl
 ·intro j o b h hlv hmj
  rw[hget] at h
  split at h
  ·cases h;cases hlv
  ·next hj=>
   by_cases hj':j=nid
   ·subst hj'
    simp only[E',if_true,Option.some.injEq] at hmj
    subst hmj
    rintro(h' | ⟨h',_⟩)
    ·exact hr.nst id e sz vs b ho hm h'
    ·rw[ho',h'] at h;cases h;cases hlv
   ·simp only[E',if_neg hj'] at hmj
    rintro(h' | ⟨_,h'⟩)
    ·exact hr.nst' j o b h hlv hmj h'
    ·subst h';exact hj (hr.inj' j id _ _ b h ho hlv rfl hmj hm)
 ·intro j o b h hfx hmj
  rw[hget] at h
  split at h
  ·cases h;cases hfx
  ·next hj=>
   by_cases hj':j=nid
   ·subst hj'
    simp only[E',if_true,Option.some.injEq] at hmj
    subst hmj
    rw[ho'] at h;cases h
    rcases hle with h1 | ⟨_,_,_,h1,h2⟩ | ⟨_,h1,_⟩
    ·subst h1;cases hfx
    ·cases h1;exact .inr ⟨h2,rfl⟩
    ·cases h1
   ·simp only[E',if_neg hj'] at hmj
    exact .inl (hr.fst' j o b h hfx hmj)
 ·intro j j' o1 o2 b h1 h2 l1 l2 m1 m2
  rw[hget] at h1 h2
  split at h1
  ·cases h1;cases l1
  ·next a1=>
   split at h2
   ·cases h2;cases l2
   ·next a2=>
    by_cases c1:j=nid <;> by_cases c2:j'=nid
    ·rw[c1,c2]
    ·simp only[E',if_pos c1,if_neg c2,Option.some.injEq] at m1 m2
     subst m1
     exact absurd (hr.inj' j' id _ _ b h2 ho l2 rfl m2 hm) a2
    ·simp only[E',if_neg c1,if_pos c2,Option.some.injEq] at m1 m2
     subst m2
     exact absurd (hr.inj' j id _ _ b h1 ho l1 rfl m1 hm) a1
    ·simp only[E',if_neg c1,if_neg c2] at m1 m2
     exact hr.inj' j j' _ _ b h1 h2 l1 l2 m1 m2
 ·rintro b (hb | ⟨_,hb⟩)
  ·exact hr.stlt b hb
  ·subst hb;exact hr.block_lt (.inl ho) hm
 ·intro j h1 h2
  by_cases hj:j=nid
  ·exact hj
  ·simp only[E',if_neg hj] at h2;exact absurd h1 h2
def sliceOwn (P:Program)(ev:AEnv)(H:AH)(o:Oper)(K:HK):Prop:=
 match o.op with
 | .slice t x lo hi mx=>match tk P t,opnd ev x with
  | .slice _ sz,.own id z len=>match lo,hi,mx with
   | none,none,none=>z=sz∧K (.own id z len) H [] [] []
   | none,some hi,none=>match opnd ev hi,H[id]? with
    | .int _ n,some (.arr e z' vs)=>z=sz∧z'=z∧vs.length=len∧0≤n∧n≤len∧
     K (.own H.length z n.toNat) (H.set id .dead ++ [.arr e z (vs.take n.toNat)]) [H.length] [id] [id]
    | _,_=>False
   | some lo,hi,none=>match objAt H id with
    | some (_,z',vs)=>z'=z∧vs.length=len∧vs.all AV.pureB=true∧sliceL sz (.sl z vs) (some (opnd ev lo)) (hi.map (opnd ev)) none fun V=>K V (freeze [id] H) [] [id] []
    | none=>False
   | none,some hi,some mx=>match objAt H id with
    | some (_,z',vs)=>z'=z∧vs.length=len∧vs.all AV.pureB=true∧sliceL sz (.sl z vs) none (some (opnd ev hi)) (some (opnd ev mx)) fun V=>K V (freeze [id] H) [] [id] []
    | none=>False
   | _,_,_=>False
  | _,_=>False
 | _=>False
theorem sliceOwn_sound {P:Program}{ev:AEnv}{H:AH}{o:Oper}{K:HK}(h:sliceOwn P ev H o K):HSnd P ev H o K:=by
 obtain⟨dst,op,ty,pos,after,guard⟩:=o
 unfold sliceOwn at h
 simp only at h
 split at h
 ·next t x lo hi mx=>
  split at h
  ·next e0 sz id z len hk hx=>
   split at h
   ·apply ownAll_sound
    unfold heapK
    simp only[hk,hx]
    exact h
   ·next hi'=>
    split at h
    ·next k n e z' vs hn ho=>
     obtain⟨rfl,rfl,hlen,hn0,hnl,hK⟩:=h
     have hidl:id<H.length:=(Qa.1 ho).1
     refine⟨_,_,_,_,_,hK,⟨by simp,by simpa using hidl,fun j hj y hy=>?_,by simp,by simp,by simp⟩,?_⟩
     ·have hj':j≠id:=by simpa using hj
      have hjl:=(Qa.1 hy).1
      exact⟨y,by rw[Qg (by simpa using hjl),Qd (fun e=>hj' e.symm)];exact hy,.refl y⟩
     ·intro HD E a hl hr _ _ hwr hnew K' Q hK'
      have hD:HD[id]? =some (.arr e z' vs):=by rw[hwr id (by simp)];exact ho
      obtain⟨hmn,hh⟩:=hnew H.length (by simp)
      obtain⟨o',ho',hle⟩:=hh (.arr e z' (vs.take n.toNat)) (by rw[List.getElem?_append_right (by simp)];simp)
      have h1:=hl x (by simp [Op.operands])
      rw[hx] at h1
      have h2:=hl hi' (by simp [Op.operands])
      rw[hn] at h2
      generalize hav:a.eval x=v at h1
      cases h1 with
      | own _ _ _ ad cap hm hz hown=>
      obtain⟨m,hm⟩:=Option.isSome_iff_exists.1 hm
      obtain⟨E',hW,hr',hst,hM,hMn⟩:=adopt_rel hr hD hm hmn ho' hle
      obtain⟨hu,⟨i,hi,hsz⟩,_⟩:=tk_slice hk
      have hel:P.elem t=e0:=by simp [Program.elem,hu]
      have hu':P.underlying t=some (.slice (P.elem t)):=by rw[hel];exact hu
      have hs:(sizeOf (P.elem t)).run P E.W= .ok z' E.W:=by rw[hel];simp [sizeOf,typeInfo,hi,hsz]
      have hown':=(hown vs.length (objAt_hl hr (by unfold objAt;rw[hD]))).2 hlen.symm
      have hcap:len≤cap:=by
       rcases hown' with⟨_,h0,h1⟩ | ⟨_,_,_,_,_,_,h1,_⟩ <;> omega
      have hrun:(execOp a.eval ⟨dst,.slice t x none (some hi') none,ty,pos,after,guard⟩).run P E.W= .ok (.value (.slice (if cap=0 then ad else ad.map (·.add (0 * z'))) n.toNat cap)) E'.W:=by
       rw[hW]
       simp only[execOp,Sem.run_bind,Qe,Qf,hav,h2.int_inv,run_sliceAt_slice E.W t _ none _ none hu',run_slice_h E.W t ad len cap hu' k n hn0 (by omega),hs,Result.andThen_ok,sliced]
       simp
      have e1:(if cap=0 then ad else ad.map (·.add (0 * z')))=ad:=by
       split
       ·rfl
       ·cases ad with
        | none=>rfl
        | some b=>simp [Addr.add]
      rw[e1] at hrun
      refine wp_of_value hrun (hK' _ E' _ (by simp) (fun j hj=>Qd (fun e=>hj (by simp [e]))) (fun j hj=>?_) ?_ hr' hst (fun j h1 h2=>by simpa using hM j h1 h2))
      ·have:j=id:=by simpa using hj
       subst this
       have hidD:j<HD.length:=(Qa.1 hD).1
       rw[Qi hidD,Qg (by simpa using hidl),Qi hidl]
      ·have hnid:H.length≠id:=by omega
       refine .own _ _ _ ad cap (by rw[hMn];rfl) (fun h0=>by have:=hz h0;omega) fun L hL=>?_
       rw[hr'.hl] at hL
       have hLn:L=n.toNat:=by
        unfold hlOf at hL
        rw[Qd (fun e=>hnid e.symm),ho'] at hL
        have h9:o'.len=some (min n.toNat vs.length):=by rw[hle.len];simp [AO.len]
        simp only[Qj,h9,Option.some.injEq] at hL
        omega
       refine⟨by omega,fun _=>?_⟩
       rw[hMn,hW]
       rw[hm] at hown'
       rcases hown' with⟨a1,a2,a3⟩ | ⟨b,c,ty',fz,a1,a2,a3,a4,a5,a6⟩
       ·exact .inl ⟨a1,by omega,a3⟩
       ·exact .inr ⟨b,c,ty',fz,a1,a2,by omega,a4,a5,a6⟩
    ·exact h.elim
   ·next lo'=>
    split at h
    ·next e z' vs ho=>
     obtain⟨rfl,hlen,hpure,hsl⟩:=h
     obtain⟨V,hK,hV⟩:=sliceL_sound hsl hk
     refine⟨V,_,_,_,_,hK,⟨by simp,by simp,fun j _ y hy=>freeze_le [id] H j y hy,by simp,by simp,by rw[freeze_length];exact Qh _⟩,?_⟩
     intro HD E a hl hr _ hfp _ _ K' Q hK'
     have hf:HD[id]? =some (.frz e z' vs):=by
      have h1:=freeze_mem [id] H id (by simp) e z' vs ho
      obtain⟨o',h2,h3⟩:=hfp id (by simp) (by simp) _ h1
      rw[fixO_stay (o:= .frz e z' vs) h3] at h2;exact h2
     have h1:=hl x (by simp [Op.operands])
     rw[hx] at h1
     have hvp:=frz_sl hr h1 hf hlen (ws:=vs) rfl fun i x y hx hy=>by
      rw[hx] at hy;cases hy
      refine⟨rfl,fun j c c' u h1 h2 h3=>?_⟩
      rw[h1] at h2;cases h2
      exact pureLeaf_VP h3 (Qc.1 (Qc.1 hpure x (Qb hx)) c (Qb h1))
     obtain⟨r,hr1,hr2⟩:=hV E (a.eval x) (some (a.eval lo')) (hi.map a.eval) none hvp.vr (hl lo' (by simp [Op.operands])) (by
      cases hi with
      | none=>trivial
      | some y=>exact hl y (by simp [Op.operands])) trivial
     refine wp_of_value (v:=r) (w':=E.W) ?_ (hK' HD E r rfl (fun _ _=>rfl) (by simp) hr1 hr (Step.refl _ _) (fun id h1 h2=>absurd h1 h2))
     simp only[execOp,Sem.run_bind,Qf,Qe,hr2];rfl
    ·exact h.elim
   ·next hi' mx'=>
    split at h
    ·next e z' vs ho=>
     obtain⟨rfl,hlen,hpure,hsl⟩:=h
     obtain⟨V,hK,hV⟩:=sliceL_sound hsl hk
     refine⟨V,_,_,_,_,hK,⟨by simp,by simp,fun j _ y hy=>freeze_le [id] H j y hy,by simp,by simp,by rw[freeze_length];exact Qh _⟩,?_⟩
     intro HD E a hl hr _ hfp _ _ K' Q hK'
     have hf:HD[id]? =some (.frz e z' vs):=by
      have h1:=freeze_mem [id] H id (by simp) e z' vs ho
      obtain⟨o',h2,h3⟩:=hfp id (by simp) (by simp) _ h1
      rw[fixO_stay (o:= .frz e z' vs) h3] at h2;exact h2
     have h1:=hl x (by simp [Op.operands])
     rw[hx] at h1
     have hvp:=frz_sl hr h1 hf hlen (ws:=vs) rfl fun i x y hx hy=>by
      rw[hx] at hy;cases hy
      refine⟨rfl,fun j c c' u h1 h2 h3=>?_⟩
      rw[h1] at h2;cases h2
      exact pureLeaf_VP h3 (Qc.1 (Qc.1 hpure x (Qb hx)) c (Qb h1))
     obtain⟨r,hr1,hr2⟩:=hV E (a.eval x) none (some (a.eval hi')) (some (a.eval mx')) hvp.vr trivial (hl hi' (by simp [Op.operands])) (hl mx' (by simp [Op.operands]))
     refine wp_of_value (v:=r) (w':=E.W) ?_ (hK' HD E r rfl (fun _ _=>rfl) (by simp) hr1 hr (Step.refl _ _) (fun id h1 h2=>absurd h1 h2))
     simp only[execOp,Sem.run_bind,Qf,Qe,hr2];rfl
    ·exact h.elim
   ·exact h.elim
  ·exact h.elim
 ·exact h.elim
end Go.Pg
namespace Go.Pg
open Go Go.RowKit
variable [Syms]
structure OwnStep (S:Nat→Prop) (A B:World):Prop where
 os:B.os=A.os
 tape:B.tape=A.tape
 output:B.output=A.output
 size:A.heap.size≤B.heap.size
 keep:∀b,b<A.heap.size→¬S b→B.heap[b]? =A.heap[b]?
 shape:∀(b:Nat) (c:Array Value) (ty:TypeId) (fz:Nat×Nat),A.heap[b]? =some (.cells c ty fz)→∃c' fz',B.heap[b]? =some (.cells c' ty fz')∧c'.size=c.size
def grow (S:Nat→Prop)(A B:World):Nat→Prop:=fun b=>S b∨(A.heap.size≤b∧b<B.heap.size)
structure Tell where
 ι:Type
 i0:ι
 R:ι→List AV→ι→Prop
 D:ι→Prop
def seqR (xs:List (List AV)):Nat→List AV→Nat→Prop:=fun k x k'=>xs[k]? =some x∧k'=k+1
def Tell.seq (xs:List (List AV)):Tell:=⟨Nat,0,seqR xs,fun k=>k=xs.length⟩
def TellsV (W:World)(st:Nat→Prop)(x:List AV)(v:Array Value):Prop:=v.size=x.length∧∀(j:Nat) c,x[j]? =some c→VP W st c (v.getD j Go.undef)
def IterW (P:Program)(g:FuncId)(lb:Array Value)(X:Tell)(st:Nat→Prop)(w:World):Prop:=
 ∀(l:Nat) (J Jx:X.ι→(Nat→Prop)→World→Prop) (W:World),Below w.heap.size w W→
  (∀k S A B,J k S A→OwnStep S A B→J k (grow S A B) B)→(∀k S A B,Jx k S A→OwnStep S A B→Jx k (grow S A B) B)→
  (∀k S A,J k S A→∀b,st b→A.heap[b]? =W.heap[b]?)→(∀k S A,Jx k S A→∀b,st b→A.heap[b]? =W.heap[b]?)→
  (∀(n:Nat) i i' x S A v,X.R i x i'→TellsV w st x v→(∀b,S b→W.heap.size≤b∧b<A.heap.size)→J i S A→YieldAt Fence.wide n P l v A fun e B=>(A.heap.size≤B.heap.size∧∀b,S b→B.heap[b]? =A.heap[b]?)∧
    ((e= .returned (.bool true)∧J i' S B)∨(e= .returned (.bool false)∧Jx i' S B)))→
  J X.i0 (fun _=>False) W→
  Calls P g (#[.func (.yield l) #[] #[]] ++ lb) W fun e B=>(∃v,e= .returned v)∧((∃i S,X.D i∧J i S B)∨∃i S,Jx i S B)
def ItR (P:Program)(g:FuncId)(caps:List AV)(X:Tell):Prop:=
 ∀(W:World) (st:Nat→Prop) (lb:Array Value),(∀b,st b→b<W.heap.size)→lb.size=caps.length→(∀(i:Nat) c,caps[i]? =some c→VP W st c (lb.getD i Go.undef))→IterW P g lb X st W
end Go.Pg
namespace Go.Pg
open Go
variable [Syms]
def sliceWin (P:Program)(ev:AEnv)(H:AH)(o:Oper)(K:HK):Prop:=
 match o.op with
 | .slice t x (some lo) (some hi) none=>match tk P t,opnd ev x,opnd ev lo,opnd ev hi with
  | .slice _ sz,.own id z len,.int _ a,.int _ b=>z=sz∧hlOf H id=some len∧0≤a∧a≤b∧b≤len∧K (.win id z len a.toNat (b.toNat - a.toNat)) H [] [id] []
  | _,_,_,_=>False
 | _=>False
theorem sliceWin_sound {P:Program}{ev:AEnv}{H:AH}{o:Oper}{K:HK}(h:sliceWin P ev H o K):HSnd P ev H o K:=by
 obtain⟨dst,op,ty,pos,after,guard⟩:=o
 unfold sliceWin at h
 simp only at h
 split at h
 rotate_left
 ·exact h.elim
 next t x lo hi=>
 split at h
 rotate_left
 ·exact h.elim
 next e0 sz id z len k1 a k2 b hk hx hlo hhi=>
 obtain⟨rfl,hhl,ha0,hab,hbl,hK⟩:=h
 refine⟨_,_,_,_,_,hK,HCond.read H [id],heapOK_read fun HD E act hl hr hfp=>?_⟩
 have h1:=hl x (by simp [Op.operands])
 rw[hx] at h1
 have h2:=hl lo (by simp [Op.operands])
 rw[hlo] at h2
 have h3:=hl hi (by simp [Op.operands])
 rw[hhi] at h3
 generalize hav:act.eval x=v at h1
 cases h1 with
 | own _ _ _ ad cap hm hz hown=>
 have hD:E.hl id=some len:=by
  rw[hr.hl]
  unfold hlOf at hhl ⊢
  cases ho:H[id]? with
  | none=>rw[ho] at hhl;simp at hhl
  | some y=>
   rw[ho] at hhl
   obtain⟨y',h4,h5⟩:=hfp id (by simp) y ho
   rw[h4]
   simp only[Qj] at hhl ⊢
   rw[h5.len];exact hhl
 have hown':=(hown len hD).2 rfl
 have hcap:len≤cap:=by
  rcases hown' with⟨_,h0,h1⟩ | ⟨_,_,_,_,_,_,h1,_⟩ <;> omega
 obtain⟨hu,⟨i,hi',hsz⟩,_⟩:=tk_slice hk
 have hel:P.elem t=e0:=by simp [Program.elem,hu]
 have hu':P.underlying t=some (.slice (P.elem t)):=by rw[hel];exact hu
 have hs:(sizeOf (P.elem t)).run P E.W= .ok z E.W:=by rw[hel];simp [sizeOf,typeInfo,hi',hsz]
 refine⟨.slice (if cap=a.toNat then ad else ad.map (·.add (a.toNat * z))) (b.toNat - a.toNat) (cap - a.toNat),?_,?_⟩
 ·refine .win id z len a.toNat (b.toNat - a.toNat) _ _ (by omega) hm fun L hL=>?_
  rw[hD] at hL
  cases hL
  refine⟨Qh _,fun _ hpos=>?_⟩
  rcases hown' with⟨_,h0,_⟩ | ⟨b',c,ty',fz,q1,q2,q3,q4,q5,q6⟩
  ·omega
  ·refine⟨b',q1,?_⟩
   rw[if_neg (by omega),q2]
   simp [Addr.add]
   try exact fun h=>h.symm
 ·simp only[execOp,Sem.run_bind,Qe,Qf,hav,h2.int_inv,h3.int_inv,run_sliceAt_slice E.W t _ _ _ none hu',run_slice_lh E.W t ad len cap hu' k1 k2 a b ha0 hab (by omega),hs,Result.andThen_ok,sliced]
  rfl
end Go.Pg
