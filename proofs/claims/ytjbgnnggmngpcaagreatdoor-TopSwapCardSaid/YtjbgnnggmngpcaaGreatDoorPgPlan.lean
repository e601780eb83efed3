/- Pg, part 14: from a run of a region's operations to its plan; what a region comes to. -/
import Derived.Test.YtjbgnnggmngpcaaGreatDoorPgRun
set_option linter.unusedVariables false
set_option linter.unusedSimpArgs false
set_option linter.unusedSectionVars false
open Option renaming getD_some → Qa,map_some → Qb
open List renaming all_eq_true → Qc,range → Qe,mem_append_left → Qf,mem_append → Qg
open Array renaming getElem?_eq_some_iff → Qd
open Bool renaming or_eq_true → Qh,not_true → Qi
open Nat renaming le_refl → Qj
namespace Go.Pg
open Go
variable [Syms]
def mkPlan (N:Nat)(ev:AEnv)(H:AH)(tr:List Ent):Plan where
 heap i:=((tr[i]?).map (·.heap)).getD false
 want i:=((tr[i]?).map (·.want)).getD false
 V i:=((tr[i]?).map (·.V)).getD .undef
 new i:=((tr[i]?).map (·.new)).getD []
 fp i:=((tr[i]?).map (·.fp)).getD []
 wr i:=((tr[i]?).map (·.wr)).getD []
 ro i:=((tr[i]?).map (·.ro)).getD []
 H i:=hAt tr H i
 env t:=look t ev
 N:=N
def dstsOK (ops:Array Oper)(N:Nat):Bool:=ops.toList.all fun o=>match o.dst with
 | some t=>decide (t<N)
 | none=>true
theorem seqEnv_mk {P:Program}{pu:Prop}{ops:Array Oper}{N:Nat}{ev:AEnv}{H:AH}{tr:List Ent}(h:RunOK P pu ops ops.toList ev H tr) :
 ∀i,i≤ops.size→∀t,seqEnv ops (mkPlan N ev H tr) i t=look t (evAt ops.toList tr ev i):=by
 intro i
 induction i with
 | zero=>intro _ t;cases hl:ops.toList <;> cases tr <;> rfl
 | succ i ih=>
  intro hi t
  have ho:ops.toList[i]? =some ops[i]:=by simp
  obtain⟨e,h1,h2,h3,h4⟩:=h.at_ i _ ho
  rw[h4]
  simp only[seqEnv]
  have hd:dstOf ops i=(ops[i]).dst:=by simp [dstOf,show i<ops.size by omega]
  have hV:(mkPlan N ev H tr).V i=e.V:=by simp [mkPlan,h1]
  rw[hd,hV,ih (by omega) t]
  unfold stepEv
  cases (ops[i]).dst with
  | none=>simp
  | some u=>
   simp only[look]
   by_cases hu:u=t
   ·subst hu;simp
   ·rw[if_neg (by simpa using hu),if_neg (fun x=>hu x.symm)]
theorem opd_of_looked {ops:Array Oper}{N:Nat}{P:Program}{pu:Prop}{ev:AEnv}{H:AH}{tr:List Ent}(h:RunOK P pu ops ops.toList ev H tr){i:Nat}{o:Oper}(ho:ops[i]? =some o){E:Env}{a:Act}
 (hl:Looked ops (mkPlan N ev H tr) i E a):Opd (evAt ops.toList tr ev i) E a o:=by
 intro x hx
 cases x with
 | tmp t=>
  have hi:i<ops.size:=(Qd.1 ho).1
  have:=hl t (by
   simp only[looks,ho,Qb,Qa,Oper.looksAt,Qg,List.mem_filterMap]
   exact .inl ⟨.tmp t,by simpa using hx,rfl⟩)
  rw[seqEnv_mk h i (by omega)] at this
  exact this
 | const v=>exact ofV_VR E v
 | func f=>exact .fn f [] #[] rfl (fun i c hc=>by simp at hc)
 | global g=>exact .top _
theorem planOK_mk {P:Program}{pu:Prop}{ops:Array Oper}{N:Nat}{ev:AEnv}{H:AH}{tr:List Ent}(h:RunOK P pu ops ops.toList ev H tr)(hd:dstsOK ops N=true) :
 PlanOK P ops (mkPlan N ev H tr):=by
 have at_:∀(i:Nat),i<ops.size→∃o e,ops[i]? =some o∧tr[i]? =some e∧EntOK P pu ops (evAt ops.toList tr ev i) (hAt tr H i) o e∧hAt tr H (i+1)=e.H1:=by
  intro i hi
  have ho:ops.toList[i]? =some ops[i]:=by simp
  obtain⟨e,h1,h2,h3,_⟩:=h.at_ i _ ho
  exact⟨ops[i],e,by simp [hi],h1,h2,h3⟩
 have cond:∀(i:Nat),i<ops.size→HCond ((mkPlan N ev H tr).H i) ((mkPlan N ev H tr).H (i+1)) ((mkPlan N ev H tr).new i) ((mkPlan N ev H tr).fp i) ((mkPlan N ev H tr).wr i):=by
  intro i hi
  obtain⟨o,e,h1,h2,h3,h4⟩:=at_ i hi
  simp only[mkPlan,h2,Qb,Qa,h4]
  have hone:=h3.2.1
  unfold OneOK at hone
  split at hone
  ·obtain⟨_,a1,a2,a3,a4,_⟩:=hone;rw[a1,a2,a3,a4]
   exact⟨by simp,by simp,fun id _=> .refl _ _,by simp,by simp,Qj _⟩
  ·exact hone.elim
  ·obtain⟨_,a1,a2,a3,a4,_⟩:=hone;rw[a1,a2,a3,a4]
   exact⟨by simp,by simp,fun id _=> .refl _ _,by simp,by simp,Qj _⟩
  ·obtain⟨_,a1,a2⟩:=hone
   refine⟨fun id h=>a1.wrfp id (Qf _ h),fun id h=>a1.wrlt id (Qf _ h),fun id h=>?_,a1.newlt,a1.newup,a1.len⟩
   by_cases hr:id∈e.ro
   ·intro x hx;exact⟨x,by rw[(a2 id hr).1];exact hx,.refl x⟩
   ·exact a1.le id fun hh=>(Qg.1 hh).elim h hr
 refine⟨?_,?_,?_,?_,fun i id hi h=>(cond i hi).wrfp id h,fun i id hi h=>(cond i hi).wrlt id h,fun i id hi h=>(cond i hi).le id h,fun i id hi h=>(cond i hi).newlt id h,fun i id hi h=>(cond i hi).newup id h,fun i hi=>(cond i hi).len,?_⟩
 ·intro i o ho
  have hi:i<ops.size:=(Qd.1 ho).1
  obtain⟨o',e,h1,h2,h3,h4⟩:=at_ i hi
  rw[ho] at h1;cases h1
  unfold OpOK
  have hone:=h3.2.1
  unfold OneOK at hone
  simp only[mkPlan,h2,Qb,Qa,h4]
  cases hw:e.want <;> cases hh:e.heap <;> rw[hw,hh] at hone <;> simp only at hone ⊢
  ·exact hone.1
  ·exact fun E a hl=>hone.1 E a (opd_of_looked h ho hl)
  ·exact fun HD E a hl=>hone.1 HD E a (opd_of_looked h ho hl)
 ·intro i o ho
  have hi:i<ops.size:=(Qd.1 ho).1
  obtain⟨o',e,h1,h2,h3,h4⟩:=at_ i hi
  rw[ho] at h1;cases h1
  have hg:=h3.1
  unfold GuardOK at hg
  unfold WantOK
  have hw:(mkPlan N ev H tr).want i=e.want:=by simp [mkPlan,h2]
  rw[hw]
  split
  ·next hn=>rw[hn] at hg;exact hg
  ·next j wt hn=>
   rw[hn] at hg
   obtain⟨t,ht,hg⟩:=hg
   exact⟨t,ht,by rw[seqEnv_mk h i (by omega)];exact hg⟩
 ·intro i t hi ht
  have ho:ops.toList[i]? =some ops[i]:=by simp
  have:=Qc.1 hd _ (List.mem_of_getElem? ho)
  have hdd:(ops[i]).dst=some t:=by simpa [dstOf,hi] using ht
  rw[hdd] at this
  exact of_decide_eq_true this
 ·intro i hi hh
  obtain⟨o,e,h1,h2,h3,h4⟩:=at_ i hi
  simp only[mkPlan,h2,Qb,Qa] at hh ⊢
  have hone:=h3.2.1
  unfold OneOK at hone
  rw[hh] at hone
  cases hw:e.want <;> rw[hw] at hone <;> simp only at hone <;> exact⟨hone.2.2.1,hone.2.2.2.1,hone.2.2.2.2.1⟩
 ·intro i id hi hro
  obtain⟨o,e,h1,h2,h3,h4⟩:=at_ i hi
  have htl:tr.length=ops.size:=by rw[h.len];simp
  simp only[mkPlan,h2,Qb,Qa] at hro
  have hone:=h3.2.1
  have hlive:id∈e.fp∧livesAt (hAt tr H i) id=true:=by
   unfold OneOK at hone
   split at hone
   ·rw[hone.2.2.2.2.2] at hro;simp at hro
   ·exact hone.elim
   ·rw[hone.2.2.2.2.2] at hro;simp at hro
   ·exact⟨hone.2.1.wrfp id (List.mem_append_right _ hro),(hone.2.2 id hro).2⟩
  refine⟨by simp only[mkPlan,h2,Qb,Qa];exact hlive.1,fun k hik hk hn=>?_⟩
  show(hAt tr H k)[id]? =(hAt tr H i)[id]?
  obtain⟨d,rfl⟩:∃d,k=i+d:=⟨k - i,by omega⟩
  clear hik
  induction d with
  | zero=>rfl
  | succ d ih=>
   have hd:=ih (by omega) (fun j a b=>hn j a (by omega))
   rw[←hd]
   have hle:=(cond (i+d) (by omega)).le id (hn (i+d) (by omega) (by omega))
   have l1:=h.ro i e h2 id hro (i+(d+1)) (by omega) (by omega)
   have l0:livesAt (hAt tr H (i+d)) id=true:=by unfold livesAt at hlive ⊢;rw[hd];exact hlive.2
   unfold livesAt livesO at l0 l1
   cases h0:(hAt tr H (i+d))[id]? with
   | none=>rw[h0] at l0;cases l0
   | some x=>
    obtain⟨x',g1,g2⟩:=hle x h0
    have g1:(hAt tr H (i+(d+1)))[id]? =some x':=g1
    rw[g1] at l1
    rw[g1]
    rcases g2.frz with rfl | ⟨_,g3⟩
    ·rfl
    ·have l1:x'.lives=true:=l1
     rw[AO.fixed_lives g3] at l1;cases l1
def mkMs (ops:Array Oper):List Nat:=
 (Qe ops.size).foldl (fun ms i=>ms ++ [orMask ms (preds ops i)]) []
def statOrd (P:Program)(ops:Array Oper)(ms:List Nat):Bool:=
 (Qe ops.size).all fun j=>!((ops[j]?).map (wrOp P)).getD false || (Qe ops.size).all fun i=>
   (i == j) || !((ops[i]?).map memOp).getD false || (if i<j then anc ms j i else anc ms i j)
def dynOrd (ms:List Nat)(tr:Acc):Bool:=
 (Qe tr.length).all fun j=>((tr[j]?).getD ([],[],[],[])).2.2.1.all fun id=>(Qe tr.length).all fun i=>
   (i == j) || !((((tr[i]?).getD ([],[],[],[])).2.1.contains id) || (((tr[i]?).getD ([],[],[],[])).1.contains id)) || (if i<j then anc ms j i else anc ms i j)
theorem heapOrd_stat {P:Program}{pu:Prop}{ops:Array Oper}{N:Nat}{ev:AEnv}{H:AH}{tr:List Ent}(h:RunOK P pu ops ops.toList ev H tr){ms:List Nat}(hpu:pu)(hs:statOrd P ops ms=true) :
 HeapOrd ops ms (mkPlan N ev H tr):=by
 intro i j id hi hj hne hw ht
 have at_:∀(i:Nat),i<ops.size→∃o e,ops[i]? =some o∧tr[i]? =some e∧EntOK P pu ops (evAt ops.toList tr ev i) (hAt tr H i) o e:=by
  intro i hi
  have ho:ops.toList[i]? =some ops[i]:=by simp
  obtain⟨e,h1,h2,h3,_⟩:=h.at_ i _ ho
  exact⟨ops[i],e,by simp [hi],h1,h2⟩
 obtain⟨o,e,a1,a2,a3⟩:=at_ j hj
 obtain⟨o',e',b1,b2,b3⟩:=at_ i hi
 simp only[mkPlan,a2,b2,Qb,Qa] at hw ht
 have h1:=Qc.1 hs j (by simpa using hj)
 have hwo:wrOp P o=true:=by
  cases hx:wrOp P o with
  | true=>rfl
  | false=>rw[a3.2.2.2 hpu hx] at hw;cases hw
 simp only[a1,Qb,Qa,hwo,Qi,Bool.false_or] at h1
 have h2:=Qc.1 h1 i (by simpa using hi)
 have hmo:memOp o'=true:=by
  cases hx:memOp o' with
  | true=>rfl
  | false=>
   have hh:=b3.2.2.1 hpu hx
   have hone:=b3.2.1
   unfold OneOK at hone
   rw[hh] at hone
   cases hw':e'.want <;> rw[hw'] at hone <;> simp only at hone <;> rw[hone.2.2.1,hone.2.2.2.1] at ht <;> simp at ht
 simp only[b1,Qb,Qa,hmo,Qi,Bool.or_false,Qh,beq_iff_eq] at h2
 rcases h2 with h2 | h2
 ·exact absurd h2 hne
 ·by_cases hij:i<j
  ·rw[if_pos hij] at h2 ⊢;exact h2
  ·rw[if_neg hij] at h2 ⊢;exact h2
theorem accOf_get (tr:List Ent)(i:Nat):(accOf tr []).reverse[i]? =(tr[i]?).map fun e=>(e.new,e.fp,e.wr,e.ro):=by
 simp [accOf]
theorem heapOrd_dyn {P:Program}{pu:Prop}{ops:Array Oper}{N:Nat}{ev:AEnv}{H:AH}{tr:List Ent}(h:RunOK P pu ops ops.toList ev H tr){ms:List Nat}(hs:dynOrd ms (accOf tr []).reverse=true) :
 HeapOrd ops ms (mkPlan N ev H tr):=by
 intro i j id hi hj hne hw ht
 have hlen:(accOf tr []).reverse.length=ops.size:=by simp [accOf,h.len]
 have h1:=Qc.1 hs j (by rw[hlen];simpa using hj)
 rw[accOf_get] at h1
 cases hjt:tr[j]? with
 | none=>simp [mkPlan,hjt] at hw
 | some e=>
  simp only[mkPlan,hjt,Qb,Qa] at hw h1
  have h2:=Qc.1 (Qc.1 h1 id hw) i (by rw[hlen];simpa using hi)
  rw[accOf_get] at h2
  cases hit:tr[i]? with
  | none=>simp [mkPlan,hit] at ht
  | some e'=>
   simp only[mkPlan,hit,Qb,Qa] at ht h2
   simp only[Qh,beq_iff_eq,Bool.not_eq_true',Bool.or_eq_false_iff,List.contains_eq_mem,decide_eq_false_iff_not] at h2
   rcases h2 with(h2 | h2) | h2
   ·exact absurd h2 hne
   ·rcases ht with ht | ht
    ·exact absurd ht h2.1
    ·exact absurd ht h2.2
   ·by_cases hij:i<j
    ·rw[if_pos hij] at h2 ⊢;exact h2
    ·rw[if_neg hij] at h2 ⊢;exact h2
end Go.Pg
