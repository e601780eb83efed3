/- Pg: abstract values, what operations, regions, calls come to on them. -/
import Derived.Test.YtjbgnnggmngpcaaGreatDoorPgGe
import Derived.Lib.Bytealg
import Derived.Test.YtjbgnnggmngpcaaGreatDoorPgYld2
set_option linter.unusedVariables false
set_option linter.unusedSimpArgs false
set_option linter.unusedSectionVars false
namespace Go.Pg
open Go Go.RowKit
variable [Syms]
theorem ext_pure {P:Program}{fid:FuncId}{e:Array Value→Sem Value}{xs:List AV}{v:AV}{ev:AEnv}{o:Oper}
 (hrun:∀(args:Array Value) (w:World),(callFunc fid args).run P w=((e args).run P w).andThen fun v w'=> .ok (.value v) w')
 (hv:∀(E:Env) (vals:Array Value),VRs E xs vals→∃u,VR E v u∧(e vals).run P E.W= .ok u E.W) (ho:CallIs ev o fid xs):PureOK P o (fun E a=>Opd ev E a o) v:=by
 intro E a hl
 obtain⟨f,args,ats,ho1,h⟩:=ho
 obtain⟨h1,h2⟩:=opd_args ho1 hl
 rcases h with⟨cap,hf,rfl⟩ | ⟨cap,hf,rfl⟩
 ·rw[hf] at h1
  obtain⟨us,hfe,hus,husv⟩:=h1.fn_inv
  obtain⟨u,g1,g2⟩:=hv E (args.map a.eval ++ us) (h2.append ⟨hus,husv⟩)
  refine⟨u,g1,?_⟩
  have:=hrun (args.map a.eval ++ us) E.W
  rw[g2] at this
  simp [execOp,ho1,resolve,hfe,Deferred.ofValue,invoke,this]
 ·rw[hf] at h1
  obtain⟨us,hfe,hus,husv⟩:∃us:Array Value,a.eval f= .func (.func fid) us #[]∧us.size=cap.length∧∀i c,cap[i]? =some c→VR E c (us.getD i Go.undef):=by
   generalize a.eval f=v at h1
   cases h1 with | mth _ _ us h1 h2=>exact⟨us,rfl,h1,h2⟩
  obtain⟨u,g1,g2⟩:=hv E (us ++ args.map a.eval) (VRs.append ⟨hus,husv⟩ h2)
  refine⟨u,g1,?_⟩
  have:=hrun (us ++ args.map a.eval) E.W
  rw[g2] at this
  simp [execOp,ho1,resolve,hfe,Deferred.ofValue,invoke,this]
theorem VRs.two' {E:Env}{a b:AV}{vals:Array Value}(h:VRs E [a,b] vals):∃u v,vals= #[u,v]∧VR E a u∧VR E b v:=by
 obtain⟨h1,h2⟩:=h
 obtain⟨l⟩:=vals
 match l,h1 with
 | [u,v],_=>exact⟨u,v,rfl,h2 0 a rfl,h2 1 b rfl⟩
def cntB (c:UInt8):List UInt8→Nat
 | []=>0
 | b :: r=>if b == c then cntB c r+1 else cntB c r
theorem cntB_eq (c:UInt8):∀(l:List UInt8),cntB c l=Lib.countByte l c:=by
 intro l
 induction l with
 | nil=>rfl
 | cons b r ih=>
  unfold cntB Lib.countByte
  rw[List.count_cons,ih]
  unfold Lib.countByte
  split <;> rfl
theorem ext_count {P:Program}{fid:FuncId}{s:List UInt8}{n:Int}{ev:AEnv}{o:Oper}
 (hrun:∀(args:Array Value) (w:World),(callFunc fid args).run P w=((Extern.BytealgCount.count args).run P w).andThen fun v w'=> .ok (.value v) w') (ho:CallIs ev o fid [.str s,.int .u8 n]) :
 PureOK P o (fun E a=>Opd ev E a o) (.int .i64 (cntB n.toNat.toUInt8 s)):=by
 refine ext_pure hrun (fun E vals hv=>?_) ho
 obtain⟨u,v,rfl,h1,h2⟩:=hv.two'
 obtain⟨b,rfl,hb⟩:=h1.str_inv
 rw[h2.int_inv]
 refine⟨_,.int _ _,?_⟩
 rw[Lib.run_countString,cntB_eq,hb]
theorem ext_index {P:Program}{fid:FuncId}{s:List UInt8}{n:Int}{ev:AEnv}{o:Oper}
 (hrun:∀(args:Array Value) (w:World),(callFunc fid args).run P w=((Extern.BytealgIndexByte.indexByte args).run P w).andThen fun v w'=> .ok (.value v) w') (ho:CallIs ev o fid [.str s,.int .u8 n]) :
 PureOK P o (fun E a=>Opd ev E a o) (.int .i64 (Lib.indexByte s n.toNat.toUInt8)):=by
 refine ext_pure hrun (fun E vals hv=>?_) ho
 obtain⟨u,v,rfl,h1,h2⟩:=hv.two'
 obtain⟨b,rfl,hb⟩:=h1.str_inv
 rw[h2.int_inv]
 refine⟨_,.int _ _,?_⟩
 rw[Lib.run_indexByteString,hb]
end Go.Pg
namespace Go.Pg
open Go Go.RowKit
variable [Syms]
theorem Ready.keep {P:Program}{N l:Nat}{r:Loop}{H0 H:AH}{E0 E:Env}{ev:AEnv}{a:Act}(h:Ready E0.W l r)(hr:Rel H0 E0)(ha:At N H0 E0 ev H E a):Ready E.W l r:=by
 have hl:l<E0.W.heap.size:=(Array.getElem?_eq_some_iff.1 h.at_).1
 refine⟨?_,h.state,h.pending,h.assign,h.body⟩
 rw[ha.step.mv.keep l hl ?_,h.at_]
 rintro⟨id,o,h1,h2,h3⟩
 obtain⟨o2,h4,h5⟩:=bk_orow (hr.orow id o _ h1 h3) (AO.lives_dead h2)
 rw[h.at_] at h4;cases h4
 cases h5
section
variable {P:Program} {N:Nat} {H0:AH} {E0:Env}
end
end Go.Pg
namespace Go.Pg
open Go Go.RowKit
variable [Syms]
section
variable {P:Program} {N:Nat} {H0:AH} {E0:Env} {l:Nat} {r:Loop}
end
end Go.Pg
namespace Go.Pg
open Go Go.RowKit
variable [Syms]
end Go.Pg
namespace Go.Pg
open Go Go.RowKit
variable [Syms]
end Go.Pg
namespace Go.Pg
open Go Go.RowKit
variable [Syms]
theorem callsR_wrap {P:Program}{f:FuncId}{args args':List AV}{H:AH}{n:Nat}{e:TypeId}{l:List AV}(h:CallsR P f args [] (.own 0 1 n) [.arr e 1 l])
 (hl:∀v∈l,∃k x,v= .int k x)
 (hv:∀(E:Env) (vals:Array Value),Rel H E→VRs E args' vals→∃st2:Nat→Prop,(∀b,st2 b→b<E.W.heap.size)∧VRs { W:=E.W,M:=fun _=>none,st:=st2,hl:=hlOf [] } args vals) :
 CallsR P f args' H (.own H.length 1 n) (H ++ [.arr e 1 l]):=by
 intro E vals hr hvs
 obtain⟨st2,hlt,hv2⟩:=hv E vals hr hvs
 obtain⟨E2,hE2⟩:∃E2:Env,E2={ W:=E.W,M:=fun _=>none,st:=st2,hl:=hlOf [] }:=⟨_,rfl⟩
 rw[←hE2] at hv2
 have hW2:E2.W=E.W:=by rw[hE2]
 have hr2:Rel [] E2:=by
  subst hE2
  exact⟨rfl,fun _ _=>rfl,fun id o m h=>by simp at h,fun id o b h=>by simp at h,fun id o b h=>by simp at h,fun id id' o o' b h=>by simp at h,hlt⟩
 rw[←hW2]
 refine(h E2 vals hr2 hv2).mono fun e' W' ⟨v,E',g1,g2,g3,g4,g5⟩=>?_
 have hH:∀j:Nat,(H ++ [AO.arr e 1 l])[j]? =if j<H.length then H[j]? else if j=H.length then some (.arr e 1 l) else none:=by
  intro j
  rw[List.getElem?_append]
  split
  ·rfl
  ·split
   ·next h1=>subst h1;simp
   ·rw[List.getElem?_singleton,if_neg (by omega)]
 obtain⟨E3,hE3⟩:∃E3:Env,E3={ W:=E'.W,M:=fun id=>if id<H.length then E.M id else if id=H.length then E'.M 0 else none,st:=E.st,hl:=hlOf (H ++ [.arr e 1 l]) }:=⟨_,rfl⟩
 have nolive:∀b,¬Live [] E2.M b:=fun b ⟨id,o,h1,_⟩=>by simp at h1
 have keep:∀b,b<E.W.heap.size→E'.W.heap[b]? =E.W.heap[b]?:=fun b hb=>by
  rw[g5.mv.keep b (by rw[hW2];exact hb) (nolive b),hW2]
 have hnew:∀b,E'.M 0=some (some b)→E.W.heap.size≤b:=fun b hb=>by
  rcases g5.live b ⟨0,_,rfl,rfl,hb⟩ with h | h
  ·exact(nolive b h).elim
  ·rw[hW2] at h;exact h
 have hMlt:∀id,id<H.length→E3.M id=E.M id:=fun id hid=>by rw[hE3];simp only[if_pos hid]
 have hMn:E3.M H.length=E'.M 0:=by rw[hE3];simp
 have hhl:∀id,id<H.length→E3.hl id=E.hl id:=fun id hid=>by
  rw[hE3,hr.hl]
  show hlOf _ id=hlOf _ id
  unfold hlOf
  rw[hH,if_pos hid]
 have hsz:E.W.heap.size≤E'.W.heap.size:=by have:=g5.mv.size;rwa [hW2] at this
 have hsome:∀id,(E.M id).isSome=true→id<H.length:=fun id hi=>by
  rcases Nat.lt_or_ge id H.length with h | h
  ·exact h
  ·rw[hr.dom id h] at hi;cases hi
 have hstep:Step H E (H ++ [.arr e 1 l]) E3:=by
  refine⟨⟨?_,?_,?_,?_,fun b hb _=>?_,fun b c ty fz hb=>?_,fun b _ hb=>?_,fun b hb=>?_⟩,⟨fun id hi=>?_,fun id L' hi hL=>?_⟩,?_⟩
  ·rw[hE3];have:=g5.mv.os;rwa [hW2] at this
  ·rw[hE3];have:=g5.mv.tape;rwa [hW2] at this
  ·rw[hE3];have:=g5.mv.output;rwa [hW2] at this
  ·rw[hE3];exact hsz
  ·rw[hE3];exact keep b hb
  ·refine⟨c,fz,?_,rfl⟩
   rw[hE3]
   show E'.W.heap[b]? =_
   rw[keep b (Array.getElem?_eq_some_iff.1 hb).1,hb]
  ·rw[hE3] at hb;exact .inl hb
  ·rw[hE3];exact hb
  ·rw[hMlt id (hsome id hi)];exact hi
  ·rw[hhl id (hsome id hi)] at hL
   exact⟨L',hL,Nat.le_refl _,fun _=>hMlt id (hsome id hi)⟩
  ·rintro b ⟨id,o,h1,h2,h3⟩
   rw[hH] at h1
   split at h1
   ·next hid=>rw[hMlt id hid] at h3;exact .inl ⟨id,o,h1,h2,h3⟩
   ·split at h1
    ·next hid=>subst hid;rw[hMn] at h3;exact .inr (hnew b h3)
    ·cases h1
 have hx:=hstep.ext hr
 have hrel:Rel (H ++ [.arr e 1 l]) E3:=by
  refine⟨by rw[hE3],fun id hid=>?_,fun id o m h1 h2=>?_,fun id o b h1 h2 h3=>?_,fun id o b h1 h2 h3=>?_,fun id id' o o' b h1 h2 l1 l2 m1 m2=>?_,fun b hb=>?_⟩
  ·rw[hE3]
   simp only[List.length_append,List.length_cons,List.length_nil] at hid
   simp only
   rw[if_neg (by omega),if_neg (by omega)]
  ·rw[hH] at h1
   split at h1
   ·next hid=>
    rw[hMlt id hid] at h2
    by_cases hd:o= .dead
    ·subst hd;trivial
    refine(hr.orow id o m h1 h2).mono hx fun b hb=>?_
    subst hb
    have:E3.W=E'.W:=by rw[hE3]
    rw[this]
    exact keep b ((hr.orow id o _ h1 h2).block hd)
   ·split at h1
    ·next hid=>
     subst hid;cases h1
     rw[hMn] at h2
     have hrow:=g4.orow 0 _ m rfl h2
     have hW3:E3.W=E'.W:=by rw[hE3]
     rcases hrow with h0 | ⟨b,c,fz,a1,a2,a3,a4,a5⟩
     ·exact .inl h0
     ·refine .inr ⟨b,c,fz,a1,by rw[hW3];exact a2,a3,a4,fun i v hi=>⟨(a5 i v hi).1,fun j cc hj=>?_⟩⟩
      obtain⟨u,b1,b2⟩:=(a5 i v hi).2 j cc hj
      refine⟨u,b1,?_⟩
      obtain⟨k,x,rfl⟩:=hl v (List.mem_of_getElem? hi)
      simp only[AV.cells] at hj
      cases j with
      | zero=>simp only[List.getElem?_cons_zero,Option.some.injEq] at hj;subst hj;cases b2;exact .int _ _
      | succ j=>simp at hj
    ·cases h1
  ·rw[hH] at h1
   split at h1
   ·next hid=>rw[hMlt id hid] at h3;rw[hE3];exact hr.nst' id o b h1 h2 h3
   ·split at h1
    ·next hid=>
     subst hid;rw[hMn] at h3;rw[hE3]
     intro hb
     have:=hr.stlt b hb
     have:=hnew b h3
     omega
    ·cases h1
  ·rw[hH] at h1
   split at h1
   ·next hid=>rw[hMlt id hid] at h3;rw[hE3];exact hr.fst' id o b h1 h2 h3
   ·split at h1
    ·cases h1;cases h2
    ·cases h1
  ·have old:∀id o,(H ++ [AO.arr e 1 l])[id]? =some o→o.lives=true→E3.M id=some (some b)→id<H.length→b<E.W.heap.size:=fun id o h1 h2 h3 hid=>by
    rw[hH,if_pos hid] at h1
    rw[hMlt id hid] at h3
    exact hr.lt' h1 (AO.lives_dead h2) h3
   have atn:∀id o,(H ++ [AO.arr e 1 l])[id]? =some o→¬id<H.length→id=H.length:=fun id o h1 hid=>by
    have:=(List.getElem?_eq_some_iff.1 h1).1
    simp at this;omega
   by_cases c1:id<H.length <;> by_cases c2:id'<H.length
   ·rw[hH,if_pos c1] at h1
    rw[hH,if_pos c2] at h2
    rw[hMlt id c1] at m1
    rw[hMlt id' c2] at m2
    exact hr.inj' id id' o o' b h1 h2 l1 l2 m1 m2
   ·have:=old id o h1 l1 m1 c1
    have e2:=atn id' o' h2 c2
    subst e2
    rw[hMn] at m2
    have:=hnew b m2
    omega
   ·have:=old id' o' h2 l2 m2 c2
    have e2:=atn id o h1 c1
    subst e2
    rw[hMn] at m1
    have:=hnew b m1
    omega
   ·rw[atn id o h1 c1,atn id' o' h2 c2]
  ·rw[hE3] at hb ⊢
   have:=hr.stlt b hb
   show b<E'.W.heap.size
   omega
 refine⟨v,E3,g1,by rw[hE3];exact g2,?_,hrel,hstep⟩
 cases g3 with
 | own _ _ _ a cap k1 k2 k3=>
  refine .own _ _ _ a cap (by rw[hMn];exact k1) k2 fun L hL=>?_
  have:E'.hl 0=some L:=by
   rw[g4.hl]
   rw[hrel.hl] at hL
   have e1:hlOf (H ++ [.arr e 1 l]) H.length=some l.length:=by
    unfold hlOf;rw[hH];simp [AO.len]
   rw[e1] at hL
   rw[←hL];rfl
  rw[hMn]
  have:=k3 L this
  rw[show E3.W=E'.W by rw[hE3]]
  exact this
end Go.Pg
