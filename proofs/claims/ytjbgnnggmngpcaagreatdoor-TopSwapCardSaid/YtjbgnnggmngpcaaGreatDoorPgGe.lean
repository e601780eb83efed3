/- Pg: abstract values, what operations, regions, calls come to on them. -/
import Derived.Test.YtjbgnnggmngpcaaGreatDoorPgGd
set_option linter.unusedVariables false
set_option linter.unusedSimpArgs false
set_option linter.unusedSectionVars false
open Bool renaming and_eq_true → Qa,not_eq_true' → Qk,or_eq_true → Qn
open Nat renaming le_refl → Qb
open Array renaming getElem?_eq_some_iff → Qc
open List renaming all_eq_true → Qd,getElem?_eq_getElem → Qe,getElem?_cons_zero → Qf,append_eq_nil_iff → Qg,mem_filter → Qh,mem_of_getElem? → Qi,range → Qj,nodup_append → Ql,getElem?_map → Qm,mem_cons → Qo
namespace Go.Pg
open Go Go.RowKit
variable [Syms]
theorem plain_ok {x:Option HV}{V:AV}{H1:AH}{m:Foot}(h:plain x= .ok (V,H1,m)):∃y:HV,x=some y∧V=y.1∧H1=y.2.1∧m=(y.2.2.1,y.2.2.2.1,y.2.2.2.2,[]):=by
 unfold plain at h
 split at h
 ·cases h;exact⟨_,rfl,rfl,rfl,rfl⟩
 ·cases h
theorem pu_ok {H:AH}{x:Option AV}{V:AV}{H1:AH}{m:Foot}(h:pu H x= .ok (V,H1,m)):x=some V∧H1=H∧m=([],[],[],[]):=by
 unfold pu at h
 split at h
 ·cases h;exact⟨rfl,rfl,rfl⟩
 ·cases h
theorem eqOpK_eq:∀(a b:OpK),eqOpK a b=true→a=b:=by
 intro a b h
 cases a <;> cases b <;> simp [eqOpK] at h ⊢ <;> assumption
theorem findT_mem {k:OpK}{xs:List AV}{v:AV}:∀{l:List (OpK×List AV×AV)},findT k xs l=some v→(k,xs,v)∈l
 | (k',ys,w) :: r,h=>by
  unfold findT at h
  split at h
  ·next he=>
   simp only[Qa] at he
   obtain⟨h1,h2⟩:=he
   cases eqOpK_eq _ _ h1
   cases beqL_eq _ _ h2
   cases h
   simp
  ·exact List.mem_cons_of_mem _ (findT_mem h)
theorem tokO_ok {P:Program}(htb:TblOK P){ev:AEnv}{o:Oper}{V:AV}(h:tokO ev o=some V):PureOK P o (fun E a=>Opd ev E a o) V:=by
 unfold tokO at h
 split at h
 ·next k xs hk=>
  split at h
  ·exact htb _ _ _ (findT_mem h) _ _ hk
  ·cases h
 ·cases h
theorem oneE_ok {P:Program}{cf:CallF}(hcf:CfOK P cf){kill:Bool}{ev:AEnv}{H:AH}{o:Oper}{V:AV}{H1:AH}{m:Foot}(h:oneE P cf kill false ev H o= .ok (V,H1,m)):OneIs P ev H o V H1 m:=by
 unfold oneE at h
 split at h
 ·next V' hn=>cases h;exact .pure (tokO_ok hcf.1 hn)
 replace hcf:=hcf.2
 split at h
 ·next V' hn=>cases h;exact .pure (newP_ok hn)
 ·split at h
  ·next x hx=>
   obtain⟨y,hy,rfl,rfl,rfl⟩:=plain_ok h
   cases hy
   exact .hsnd (newH_ok hx)
  ·have hh:∀{x:Option HV},(∀y,x=some y→HSnd P ev H o (isHV y))→plain x= .ok (V,H1,m)→OneIs P ev H o V H1 m:=by
    intro x hx h
    obtain⟨y,hy,rfl,rfl,rfl⟩:=plain_ok h
    exact .hsnd (hx y hy)
   have h1:∀{h:plain (heapO P ev H o)= .ok (V,H1,m)},OneIs P ev H o V H1 m:=fun{h}=>hh (fun y hy=>heapK_sound (heapO_K hy)) h
   have h2:∀{h:plain (mapO P ev H o)= .ok (V,H1,m)},OneIs P ev H o V H1 m:=fun{h}=>hh (fun y hy=>mapK_sound (mapO_K hy)) h
   have h3:∀{h:plain (sliceOwnO P kill ev H o)= .ok (V,H1,m)},OneIs P ev H o V H1 m:=fun{h}=>hh (fun y hy=>sliceOwn_sound (sliceOwnO_K hy)) h
   have h4:∀{h:pu H (pureO P ev o)= .ok (V,H1,m)},OneIs P ev H o V H1 m:=fun{h}=>by
    obtain⟨g1,rfl,rfl⟩:=pu_ok h
    exact .old g1
   unfold oldE at h
   split at h
   ·exact h1 (h:=h)
   ·exact h1 (h:=h)
   ·exact h1 (h:=h)
   ·exact h1 (h:=h)
   ·exact h1 (h:=h)
   ·exact h1 (h:=h)
   ·split at h
    ·exact h1 (h:=h)
    ·exact h1 (h:=h)
    ·exact h4 (h:=h)
   ·split at h
    ·exact h3 (h:=h)
    ·exact h4 (h:=h)
   ·exact h1 (h:=h)
   ·exact h2 (h:=h)
   ·next f args ats ho=>
    split at h
    ·next fid cap hf=>exact hcf _ _ _ _ _ _ h ev o ⟨f,args,ats,ho,.inl ⟨cap,hf,rfl⟩⟩
    ·next fid cap hf=>exact hcf _ _ _ _ _ _ h ev o ⟨f,args,ats,ho,.inr ⟨cap,hf,rfl⟩⟩
    ·simp at h
    ·cases h
   ·exact h2 (h:=h)
   ·exact h2 (h:=h)
   ·exact h2 (h:=h)
   ·exact h2 (h:=h)
   ·exact h2 (h:=h)
   ·exact h2 (h:=h)
   ·exact h4 (h:=h)
theorem OneIs.split {P:Program}{ev:AEnv}{H:AH}{o:Oper}{V:AV}{H1:AH}{m m':Foot}(h:OneIs P ev H o V H1 m)(h1:m'.1=m.1)(h2:m'.2.1=m.2.1)(h3:∀id,id∈m'.2.2.1 ++ m'.2.2.2↔id∈m.2.2.1 ++ m.2.2.2)(h4:∀id∈m'.2.2.2,id∈m.2.2.2):OneIs P ev H o V H1 m':=by
 obtain⟨hp,h⟩:=h
 refine⟨hp,?_⟩
 unfold OneOK at h ⊢
 simp only at h ⊢
 rw[h1,h2]
 cases hp with
 | false=>
  simp only at h ⊢
  obtain⟨k1,k2,k3,k4,k5,k6⟩:=h
  have e:m'.2.2.1 ++ m'.2.2.2=[]:=by
   rw[k5,k6] at h3
   cases hq:m'.2.2.1 ++ m'.2.2.2 with
   | nil=>rfl
   | cons a r=>have:=(h3 a).1 (by rw[hq];simp);simp at this
  exact⟨k1,k2,k3,k4,(Qg.1 e).1,(Qg.1 e).2⟩
 | true=>
  simp only at h ⊢
  obtain⟨k1,k2,k3⟩:=h
  refine⟨?_,?_,fun id hid=>k3 id (h4 id hid)⟩
  ·intro HD E a q1 q2 q3 q4 q5 q6 K Q q7
   exact k1 HD E a q1 q2 q3 (fun id i1 i2=>q4 id i1 (fun hh=>i2 ((h3 id).1 hh))) (fun id i1=>q5 id ((h3 id).2 i1)) q6 K Q (fun HD' E' v r1 r2 r3 r4 r5 r6 r7=>q7 HD' E' v r1 (fun id i1=>r2 id (fun hh=>i1 ((h3 id).2 hh))) (fun id i1=>r3 id ((h3 id).1 i1)) r4 r5 r6 r7)
  ·exact⟨fun id i1=>k2.wrfp id ((h3 id).1 i1),fun id i1=>k2.wrlt id ((h3 id).1 i1),fun id i1=>k2.le id (fun hh=>i1 ((h3 id).2 hh)),k2.newlt,k2.newup,k2.len⟩
theorem splitRo_mem {bad:List Nat}{m:Foot}:∀id,id∈(splitRo bad m).2.2.1 ++ (splitRo bad m).2.2.2↔id∈m.2.2.1 ++ m.2.2.2:=by
 intro id
 simp only[splitRo,List.mem_append,Qh,Qk,List.contains_eq_mem,decide_eq_true_eq,decide_eq_false_iff_not]
 by_cases hb:id∈bad <;> simp [hb]
theorem runE_ok {P:Program}{cf:CallF}(hcf:CfOK P cf){kill:Bool}{ops:Array Oper}{b:Bool}{bad:List Nat}:∀(l:List Oper)(i:Nat)(ev:AEnv)(H:AH)(acc:Acc)(ev':AEnv)(H':AH)(acc':Acc),
 runE P cf kill false ops b bad i l ev H acc= .ok (ev',H',acc')→(b=true→roA H acc=true)→
 ∃tr,RunOK P False ops l ev H tr∧(b=true→acc'=accOf tr acc)∧(b=true→∀m∈acc,∀id∈m.2.2.2,∀k,k≤tr.length→livesAt (hAt tr H k) id=true)∧evAt l tr ev l.length=ev'∧hAt tr H l.length=H':=by
 intro l
 induction l with
 | nil=>
  intro i ev H acc ev' H' acc' h hro
  cases h
  refine⟨[],⟨rfl,fun i e he=>by simp at he,fun i o ho=>by simp at ho⟩,fun _=>rfl,fun hb m hm id hid k hk=>?_,rfl,rfl⟩
  simp only[List.length_nil,Nat.le_zero] at hk
  subst hk
  exact roA_mem (hro hb) m hm id hid
 | cons o r ih=>
  intro i ev H acc ev' H' acc' h hro
  unfold runE at h
  have step:∀(e:Ent) (x:Foot),EntOK P False ops ev H o e→(b=true→x=(e.new,e.fp,e.wr,e.ro))→(b=false→e.ro=[])→(b=true→roA e.H1 (x :: acc)=true)→runE P cf kill false ops b bad (i+1) r (stepEv o e.V ev) e.H1 (x :: acc)= .ok (ev',H',acc')→
   ∃tr,RunOK P False ops (o :: r) ev H tr∧(b=true→acc'=accOf tr acc)∧(b=true→∀m∈acc,∀id∈m.2.2.2,∀k,k≤tr.length→livesAt (hAt tr H k) id=true)∧evAt (o :: r) tr ev (r.length+1)=ev'∧hAt tr H (r.length+1)=H':=by
   intro e x he hx hx0 hr1 h
   obtain⟨tr,h6,h8,h9,h7,h10⟩:=ih _ _ _ _ _ _ _ h hr1
   refine⟨e :: tr,runOK_cons he h6 fun id hid k hk=>?_,fun hm=>by rw[h8 hm,hx hm];simp [accOf],fun hd m hm id hid k hk=>?_,h7,h10⟩
   ·cases hd:b with
    | false=>rw[hx0 hd] at hid;simp at hid
    | true=>exact h9 hd x (by simp) id (by rw[hx hd];exact hid) k hk
   ·cases k with
    | zero=>exact roA_mem (hro hd) m hm id hid
    | succ k=>exact h9 hd m (by simp [hm]) id hid k (by simpa using hk)
  have yes:((oneE P cf kill false ev H o).tag (0,i)).bind (fun(V,H1,m0)=>let m:=splitRo bad m0
   if b && !roA H1 (m :: acc) then .no [(2,i)] else runE P cf kill false ops b bad (i+1) r (stepEv o V ev) H1 (m :: acc))= .ok (ev',H',acc')→GuardOK ops ev o true→
   ∃tr,RunOK P False ops (o :: r) ev H tr∧(b=true→acc'=accOf tr acc)∧(b=true→∀m∈acc,∀id∈m.2.2.2,∀k,k≤tr.length→livesAt (hAt tr H k) id=true)∧evAt (o :: r) tr ev (r.length+1)=ev'∧hAt tr H (r.length+1)=H':=by
   intro h hg
   obtain⟨⟨V,H1,m0⟩,h1,h2⟩:=Er.bind_ok h
   have hone:=oneE_ok hcf (Er.tag_ok h1)
   dsimp only at h2
   split at h2
   ·cases h2
   ·next hc=>
    rcases Bool.eq_false_or_eq_true b with hb | hb
    ·
     simp only[hb,Bool.true_and,Qk,Bool.not_eq_false] at hc
     obtain⟨hp,hok⟩:=hone.split (m':=splitRo bad m0) rfl rfl splitRo_mem (fun id hid=>(Qh.1 hid).1)
     refine step ⟨hp,true,V,(splitRo bad m0).1,(splitRo bad m0).2.1,(splitRo bad m0).2.2.1,H1,(splitRo bad m0).2.2.2⟩ (splitRo bad m0) ⟨hg,hok,fun hf=>hf.elim,fun hf=>hf.elim⟩ (fun _=>rfl) (fun hf=>by rw[hb] at hf;cases hf) (fun _=>hc) h2
    ·
     obtain⟨hp,hok⟩:=hone.split (m':=(m0.1,m0.2.1,m0.2.2.1 ++ m0.2.2.2,[])) rfl rfl (fun id=>by simp) (by simp)
     refine step ⟨hp,true,V,m0.1,m0.2.1,m0.2.2.1 ++ m0.2.2.2,H1,[]⟩ (splitRo bad m0) ⟨hg,hok,fun hf=>hf.elim,fun hf=>hf.elim⟩ (fun hf=>by rw[hb] at hf;cases hf) (fun _=>rfl) (fun hf=>by rw[hb] at hf;cases hf) h2
  simp only[List.length_cons]
  split at h
  ·cases h
  ·next hg=>
   have hg:=gw_some hg
   refine step ⟨false,false,.undef,[],[],[],H,[]⟩ ([],[],[],[]) ⟨hg,⟨fun E=> .undef,rfl,rfl,rfl,rfl,rfl⟩,fun hf=>hf.elim,fun hf=>hf.elim⟩ (fun _=>rfl) (fun _=>rfl) (fun hb=>by rw[roA_skip];exact hro hb) h
  ·next hn1 hn2=>
   cases hq:gw ops ev o with
   | none=>exact absurd hq hn1
   | some x=>
    cases x with
    | none=>exact yes h (gw_none hq)
    | some w=>
     cases w with
     | false=>exact absurd hq hn2
     | true=>exact yes h (gw_some hq)
end Go.Pg
namespace Go.Pg
open Go Go.RowKit
variable [Syms]
def isQ (e:Exit)(ev:AEnv)(H:AH):APost:=fun e1 ev1 H1=>e1=e∧ev1=ev∧H1=H
section
variable {P:Program} {N:Nat} {H0:AH} {E0:Env}
theorem regOne_ok {cf:CallF}(hcf:CfOK P cf){kill:Bool}{id:Nat}{ops:Array Oper}{ev:AEnv}{H:AH}{b:Bool}{bad:List Nat}{ev':AEnv}{H':AH}(h:regOne P cf kill false id ops ev H b bad= .ok (ev',H')) :
 ∃tr,RunOK P False ops ops.toList ev H tr∧(b=true→dynOrd (mkMs ops) (accOf tr []).reverse=true)∧evAt ops.toList tr ev ops.toList.length=ev'∧hAt tr H ops.toList.length=H':=by
 unfold regOne at h
 obtain⟨⟨ev1,H1,acc⟩,h1,h2⟩:=Er.bind_ok h
 obtain⟨tr,g1,g2,_,g4,g5⟩:=runE_ok hcf _ _ _ _ _ _ _ _ (Er.tag_ok h1) (fun _=>rfl)
 dsimp only at h2
 split at h2
 ·cases h2
 ·next hc=>
  cases h2
  refine⟨tr,g1,fun hb=>?_,g4,g5⟩
  rw[←g2 hb]
  simpa [hb] using hc
theorem run_AWp (hmix:P.follows .mixedOrders=true){id:Nat}{ops:Array Oper}{draw:Bool}{ev:AEnv}{H:AH}{tr:List Ent}{rd:Option Nat}{q:Bool}(hok:regOK P N true ops draw=true)
 (hrun:RunOK P False ops ops.toList ev H tr) (hdyn:draw=true→dynOrd (mkMs ops) (accOf tr []).reverse=true) :
 AWp P N H0 E0 (.region id ops draw) (isQ .normal (evAt ops.toList tr ev ops.toList.length) (hAt tr H ops.toList.length)) ev H rd q:=by
 have hQn:NoOut (isQ .normal (evAt ops.toList tr ev ops.toList.length) (hAt tr H ops.toList.length)):=fun ev H h=>by cases h.1
 simp only[regOK,Qa] at hok
 obtain⟨⟨hok1,hnd⟩,hok2⟩:=hok
 have hnd':∀(i:Nat) (o:Oper),ops[i]? =some o→noDefer o=true:=fun i o ho=>Qd.1 hnd o (by simpa using Array.mem_of_getElem? ho)
 have hpl:=planOK_mk (N:=N) hrun hok1
 have hsz:ops.toList.length=ops.size:=by simp
 intro n E a ha hdf
 have fin:∀(E1:Env),At N H0 E0 ev H E1 a→∀(a':Act) (E':Env),a'.tmps.size=(mkPlan N ev H tr).N→a'.defers=a.defers→
  (∀t,VR E' (seqEnv ops (mkPlan N ev H tr) ops.size t) (a'.tmps.getD t Go.undef))→Rel ((mkPlan N ev H tr).H ops.size) E'→Step ((mkPlan N ev H tr).H 0) E1 ((mkPlan N ev H tr).H ops.size) E'→
  ∃ev' H' E'',isQ .normal (evAt ops.toList tr ev ops.toList.length) (hAt tr H ops.toList.length) .normal ev' H'∧E'.W=E''.W∧At N H0 E0 ev' H' E'' a'∧DF q a':=by
  intro E1 h1 a' E' a1 a2 a3 a4 a5
  have h0:(mkPlan N ev H tr).H 0=H:=by cases tr <;> rfl
  rw[h0] at a5
  refine⟨_,_,E',⟨rfl,rfl,rfl⟩,rfl,⟨a1,by rw[a2];exact Marks.step h1.rel a5 h1.defers,fun t=>?_,?_,?_⟩,fun hs=>by rw[a2];exact hdf hs⟩
  ·rw[hsz,←seqEnv_mk (N:=N) hrun ops.size (Qb _)];exact a3 t
  ·rw[hsz];exact a4
  ·rw[hsz];exact h1.step.trans a5
 have h0:(mkPlan N ev H tr).H 0=H:=by cases tr <;> rfl
 cases draw with
 | false=>
  refine wpIn_region (wpOps_FW hQn.lets hnd' _ _ _ ?_)
  exact region_seq hpl ha.size ha.env (by rw[h0];exact ha.rel) (fun a' E' a1 a2 a3 a4 a5=>fin E ha a' E' a1 a2 a3 a4 a5)
 | true=>
  simp only[Bool.not_true,Bool.false_or,Qa] at hok2
  have hd:=ha.drew (E.W.drawn+1)
  have hord:HeapOrd ops (mkMs ops) (mkPlan N ev H tr):=heapOrd_dyn hrun (hdyn rfl)
  refine wpIn_region_any hmix (wpAny_FW hQn.lets hnd' _ _ _ _ ?_)
  exact region_any (E0:={ E with W:={ E.W with drawn:=E.W.drawn+1 } }) hok2.1 hord hpl hd.size hd.env (by rw[h0];exact hd.rel) (fun a' E' a1 a2 a3 a4 a5=>fin _ hd a' E' a1 a2 a3 a4 a5)
theorem regE_ok {cf:CallF}(hcf:CfOK P cf)(hmix:P.follows .mixedOrders=true){kill:Bool}{id:Nat}{ops:Array Oper}{draw:Bool}{ev:AEnv}{H:AH}{rd:Option Nat}{q:Bool}{ev':AEnv}{H':AH}(hok:regOK P N true ops draw=true)
 (h:regE P cf kill false id ops draw ev H= .ok (ev',H')):AWp P N H0 E0 (.region id ops draw) (isQ .normal ev' H') ev H rd q:=by
 have one:∀{b:Bool} {bad:List Nat},(draw=true→b=true)→regOne P cf kill false id ops ev H b bad= .ok (ev',H')→AWp P N H0 E0 (.region id ops draw) (isQ .normal ev' H') ev H rd q:=by
  intro b bad hb h
  obtain⟨tr,h1,h2,h3,h4⟩:=regOne_ok hcf h
  have:=run_AWp (N:=N) (H0:=H0) (E0:=E0) (id:=id) (rd:=rd) (q:=q) hmix hok h1 (fun hd=>h2 (hb hd))
  rw[h3,h4] at this
  exact this
 unfold regE at h
 split at h
 ·next x t t' hf=>
  split at h
  ·cases h
  ·next hd=>
   refine regN_sound (C:=[]) (CtrOK.nil P) hmix (mrg:=false) (dyn:=true) (fun ev H h=>by cases h.1) hok ?_
   unfold regN
   rw[hf]
   refine⟨by simpa using hd,?_⟩
   split at h
   ·next i hx=>
    rw[hx]
    unfold nextA
    dsimp only
    split at h
    ·next ho=>
     cases h
     rw[ho]
     exact⟨fun _=>⟨rfl,rfl,rfl⟩,fun j k v hj=>by simp at hj⟩
    ·next k v ho=>
     cases h
     rw[ho]
     refine⟨fun hh=>(by cases hh),fun j k' v' hj=>?_⟩
     cases j with
     | zero=>
      simp only[Qf,Option.some.injEq,Prod.mk.injEq] at hj
      obtain⟨rfl,rfl⟩:=hj
      exact⟨rfl,rfl,rfl⟩
     | succ j=>simp at hj
    ·cases h
   ·cases h
 ·split at h
  ·split at h
   ·next x hx=>cases h;exact one (fun _=>rfl) hx
   ·obtain⟨⟨ev1,H1,acc⟩,h1,h2⟩:=Er.bind_ok h
    exact one (fun _=>rfl) h2
   ·cases h
  ·next hd=>exact one (fun hh=>absurd hh hd) h
theorem look_compact (t:Tmp):∀(ev:AEnv)(seen:List Nat),seen.contains t=false→look t (compactE seen ev)=look t ev:=by
 intro ev
 induction ev with
 | nil=>intro seen _;rfl
 | cons p r ih=>
  intro seen hs
  obtain⟨u,v⟩:=p
  simp only[compactE]
  split
  ·next hc=>
   rw[ih seen hs]
   simp only[look]
   rw[if_neg]
   intro e;subst e;rw[hs] at hc;cases hc
  ·simp only[look]
   split
   ·rfl
   ·next hne=>exact ih (u :: seen) (by simp only[List.contains_cons,hs,Bool.or_false,beq_eq_false_iff_ne];exact hne)
theorem At.compact {ev:AEnv}{H:AH}{E:Env}{a:Act}(h:At N H0 E0 ev H E a):At N H0 E0 (compactE [] ev) H E a:=
 ⟨h.size,h.defers,fun t=>by rw[look_compact t ev [] (by simp)];exact h.env t,h.rel,h.step⟩
def leftOK:Exit→Bool
 | .normal | .ret | .exit _=>true
 | _=>false
theorem loopE_ok {b:Code}{f:AEnv→AH→Er St}{rd:Option Nat}{q:Bool}(hf:∀ev H e ev' H',f ev H= .ok (e,ev',H')→leftOK e=true∧AWp P N H0 E0 b (isQ e ev' H') ev H rd q) :
 ∀(n:Nat) (ev:AEnv) (H:AH) (e:Exit) (ev':AEnv) (H':AH),loopE f n ev H= .ok (e,ev',H')→leftOK e=true∧AWp P N H0 E0 (.loop b) (isQ e ev' H') ev H rd q:=by
 intro n ev H e ev' H' h
 have hleft:∀(n:Nat) (ev:AEnv) (H:AH),loopE f n ev H= .ok (e,ev',H')→leftOK e=true:=by
  intro n
  induction n with
  | zero=>intro ev H h;cases h
  | succ n ih=>
   intro ev H h
   unfold loopE at h
   obtain⟨⟨e1,ev1,H1⟩,h1,h2⟩:=Er.bind_ok h
   dsimp only at h2
   split at h2
   ·exact ih _ _ h2
   ·cases h2;exact(hf _ _ _ _ _ h1).1
 refine⟨hleft n ev H h,?_⟩
 intro k E a ha hdf
 refine wpIn_loop_ghost (P:=P) (fun m a w=>∃ev H E',loopE f m ev H= .ok (e,ev',H')∧w=E'.W∧At N H0 E0 ev H E' a∧DF q a) n ⟨ev,H,E,h,rfl,ha,hdf⟩ ?_
 rintro m a' w' ⟨ev2,H2,E',h2,rfl,ha',hdf'⟩
 cases m with
 | zero=>cases h2
 | succ m=>
  unfold loopE at h2
  obtain⟨⟨e1,ev1,H1⟩,h3,h4⟩:=Er.bind_ok h2
  refine wpIn_mono ((hf _ _ _ _ _ h3).2 k E' a' ha' hdf') fun e2 a2 w2 ⟨ev3,H3,E3,hq,hw,ha3,hdf3⟩=>?_
  subst hw
  obtain⟨rfl,rfl,rfl⟩:=hq
  dsimp only at h4
  cases e2 with
  | normal=>exact⟨m,by omega,_,_,E3,h4,rfl,ha3.compact,hdf3⟩
  | _=>cases h4;exact⟨_,_,E3,⟨rfl,rfl,rfl⟩,rfl,ha3,hdf3⟩
end
end Go.Pg
namespace Go.Pg
open Go Go.RowKit
variable [Syms]
def roundR (Q:APost)(ev0:AEnv)(p:Prop)(Hn:AH):APost
 | .normal,_,H'=>p∧H'=Hn
 | .ret,_,H'=>Q .ret ev0 H'
 | .exit i,_,H'=>Q (.exit i) ev0 H'
 | _,_,_=>False
def BodyOK (P:Program)(N:Nat)(body:Code)(Q:APost)(ev0:AEnv)(p:Prop)(Hn:AH)(ev':AEnv)(H':AH):Prop:=
 ∀(E:Env) (l:Nat),Rel H' E→AWp P N H' E body (roundR Q ev0 p Hn) ev' H' (some l) true
theorem AWp.range {P:Program}{N:Nat}{H0:AH}{E0:Env}{g:Operand}{ps:Array Tmp}{assign body:Code}{Q:APost}{ev:AEnv}{H:AH}{fid:FuncId}{cap as:List AV}{ids:List Nat}{X:Tell}
 (hpN:∀p∈ps.toList,p<N) (hpd:ps.toList.Nodup) (hf:opnd ev g= .fn fid cap) (hcal:cal P fid=true) (hres:resL (res8 H) cap=some (as,ids)) (hit:ItR P fid as X)
 (Hk:X.ι→AH) (pre:X.ι→Prop) (hp0:pre X.i0) (h00:Hk X.i0=freeze ids H)
 (hround:∀k x k',X.R k x k'→x.length=ps.toList.length∧(pre k→∀(E:Env) (l:Nat),Rel (Hk k) E→
   AWp P N (Hk k) E assign (thenA (BodyOK P N body Q ev (pre k') (Hk k')) (fun _ _ _=>False)) (parE ps.toList x ++ ev) (Hk k) (some l) true))
 (hfin:∀k,X.D k→pre k→Q .normal ev (Hk k)):AWp P N H0 E0 (.rangeFunc g ps assign body) Q ev H:=by
 intro n E a ha hdf
 have hfv:=opnd_VR ha.env g
 rw[hf] at hfv
 obtain⟨us,hfe,hus,husv⟩:=hfv.fn_inv
 obtain⟨E1,hr1,hW1,hM1,hst1⟩:=ha.rel.le (freeze_le ids H)
 have hx1:=hst1.ext ha.rel
 have ha1:At N H0 E0 ev (freeze ids H) E1 a:=⟨ha.size,by rw[hW1];exact ha.defers,fun t=>(ha.env t).mono hx1,hr1,ha.step.trans hst1⟩
 obtain⟨h3,h4⟩:=resL_get _ _ _ hres
 have hcaps:∀(i:Nat) c,as[i]? =some c→VP E1.W E1.st c (us.getD i Go.undef):=by
  intro i c hc
  have hil:i<cap.length:=by rw[←h3];exact(List.getElem?_eq_some_iff.1 hc).1
  obtain⟨y,k,h5,h6,h7⟩:=h4 i _ (Qe hil)
  rw[hc] at h6;cases h6
  refine res_sound hr1 8 _ _ k _ h5 ((husv i _ (by simp [hil])).mono hx1) (fun id hid o ho=>freeze_at ids H id o (h7 id hid) ho)
 obtain⟨Eb,hEb⟩:∃Eb,Eb=E1:=⟨_,rfl⟩
 have hWb:Eb.W=E1.W:=by rw[hEb]
 have hab:At N H0 E0 ev (freeze ids H) Eb a:=by rw[hEb];exact ha1
 have hstb:∀b,E1.st b→Eb.st b:=by rw[hEb];exact fun _ h=>h
 have has:At N (freeze ids H) Eb ev (Hk X.i0) Eb { a with defers:=[] }:=by
  rw[h00]
  exact⟨hab.size,trivial,hab.env,hab.rel,Step.refl _ _⟩
 have hW:Eb.W=E.W:=hWb.trans hW1
 rw[←hW]
 have eg:∀(args:Array Value) (w:World),(callFunc fid args).run P w= .ok (.enter fid args) w:=by
  intro args w
  unfold cal at hcal
  split at hcal
  ·next fn hfn=>
   simp only[Qa,bne_iff_ne,ne_eq] at hcal
   obtain⟨hn,hb⟩:=hcal
   have hb':¬fn.body=none:=by
    intro hbb;rw[hbb] at hb;cases hb
   simp [callFunc,hfn,hn,hb']
  ·cases hcal
 have hiw:=hit Eb.W E1.st us (fun b hb=>by rw[hWb];exact hr1.stlt b hb) (by rw[hus,h3]) (fun i c hc=>by rw[hWb];exact hcaps i c hc)
 have mem:∀(W:World) (B:Nat) (ds:List Deferred),Marks W B ds→∀d∈ds,∃D,D<W.heap.size∧d={ target:= .collected D,args:= #[] }:=by
  intro W B ds
  induction ds with
  | nil=>intro _ d hd;simp at hd
  | cons d ds ih=>
   rintro⟨⟨D,_,g2,g3,_⟩,g5⟩ d' hd'
   rcases Qo.1 hd' with rfl | hd'
   ·exact⟨D,(Qc.1 g3).1,g2⟩
   ·exact ih g5 d' hd'
 have older:=mem _ _ _ hab.defers
 have atEnd:∀(D:Nat) (H'':AH) (Ek:Env),Eb.W.heap.size≤D→Ek.W.heap[D]? =some (.deferred (some []))→Rel H'' Ek→Step (freeze ids H) Eb H'' Ek→At N H0 E0 ev H'' Ek { a with defers:={ target:= .collected D,args:= #[] } :: a.defers }:=by
  intro D H'' Ek hD hDk h1 h2
  refine⟨hab.size,⟨⟨D,Nat.le_trans hab.step.mv.size hD,rfl,hDk,fun d' hd'=>?_⟩,Marks.step hab.rel h2 hab.defers⟩,fun t=>(hab.env t).mono (h2.ext hab.rel),h1,hab.step.trans h2⟩
  obtain⟨D',g1,g2⟩:=older d' hd'
  exact⟨D',by omega,g2⟩
 refine range_law (n:=n) (gf:=fid) (lb:=us) (X:=X) (st:=E1.st) hfe eg hiw (fun i x i' hx=>by rw[(hround i x i' hx).1];simp) (fun b hb=>by rw[hWb];exact hr1.stlt b hb)
  (fun k S W=>pre k∧∃Ek,Ek.W=W∧Rel (Hk k) Ek∧Step (freeze ids H) Eb (Hk k) Ek∧StC Eb.W.heap.size Ek∧∀b,S b→¬Touch (Hk k) Ek b∧Eb.W.heap.size≤b)
  (fun c S W=>∃e H'' Ek,((c= .ret∧e=Exit.ret)∨∃id,c= .exit id∧e=Exit.exit id)∧Q e ev H''∧Ek.W=W∧Rel H'' Ek∧Step (freeze ids H) Eb H'' Ek∧StC Eb.W.heap.size Ek∧∀b,S b→¬Touch H'' Ek b∧Eb.W.heap.size≤b)
  (fun k S a' W=>∃ev' H' E',BodyOK P N body Q ev (pre k) (Hk k) ev' H'∧E'.W=W∧a'.tmps.size=N∧a'.defers=[]∧(∀t,VR E' (look t ev') (a'.tmps.getD t Go.undef))∧Rel H' E'∧Step (freeze ids H) Eb H' E'∧StC Eb.W.heap.size E'∧∀b,S b→¬Touch H' E' b∧Eb.W.heap.size≤b)
  ?_ ?_ ?_ ?_ ?_ ?_ ?_ ⟨hp0,shr Eb.W.heap.size Eb,rfl,has.rel.shr _,has.step.shr hab.rel,shr_StC _ _,fun b hb=>hb.elim⟩ ?_ ?_ ?_ ?_
 ·rintro k S A B row ⟨hpk,Ek,rfl,g1,g2,g3,g4⟩ hg hrow
  obtain⟨t1,t2,t3,_⟩:=turn_ok (Qb _) g1 g2 g3 hg (fun r e=>⟨(hrow r e).1,(hrow r e).2.2⟩)
  exact⟨hpk,_,rfl,t1,t2,t3,g4⟩
 ·rintro c S A B row ⟨e,H'',Ek,hce,hq,rfl,g1,g2,g3,g4⟩ hg hrow
  obtain⟨t1,t2,t3,_⟩:=turn_ok (Qb _) g1 g2 g3 hg (fun r e=>⟨(hrow r e).1,(hrow r e).2.2⟩)
  exact⟨e,H'',_,hce,hq,rfl,t1,t2,t3,g4⟩
 ·rintro k S a' A B row ⟨ev',H',E',hq,rfl,g1,g2,g3,g4,g5,g6,g7⟩ hg hrow
  obtain⟨t1,t2,t3,t4⟩:=turn_ok (Qb _) g4 g5 g6 hg (fun r e=>⟨(hrow r e).1,(hrow r e).2.2⟩)
  exact⟨ev',H',_,hq,rfl,g1,g2,fun t=>(g3 t).mono t4,t1,t2,t3,g7⟩
 ·rintro k S A B ⟨hpk,Ek,rfl,g1,g2,g3,g4⟩ ho
  obtain⟨t1,t2,_⟩:=turn_own g1 g2 g4 ho
  have hlt:=fun b=>touch_lt (b:=b) g1
  refine⟨hpk,shr Eb.W.heap.size { Ek with W:=B },rfl,t1.shr _,t2.shr hab.rel,shr_StC _ _,fun b hb=>?_⟩
  rcases hb with hb | hb
  ·exact⟨fun ht=>(g4 b hb).1 (by rcases ht.shr with h | h;exact .inl h;exact .inr h),(g4 b hb).2⟩
  ·refine⟨fun ht=>?_,by have:=g2.mv.size;omega⟩
   have h1:Touch (Hk k) Ek b:=by rcases ht.shr with h | h;exact .inl h;exact .inr h
   have:=hlt b h1
   omega
 ·rintro c S A B ⟨e,H'',Ek,hce,hq,rfl,g1,g2,g3,g4⟩ ho
  obtain⟨t1,t2,_⟩:=turn_own g1 g2 g4 ho
  have hlt:=fun b=>touch_lt (b:=b) g1
  refine⟨e,H'',shr Eb.W.heap.size { Ek with W:=B },hce,hq,rfl,t1.shr _,t2.shr hab.rel,shr_StC _ _,fun b hb=>?_⟩
  rcases hb with hb | hb
  ·exact⟨fun ht=>(g4 b hb).1 (by rcases ht.shr with h | h;exact .inl h;exact .inr h),(g4 b hb).2⟩
  ·refine⟨fun ht=>?_,by have:=g2.mv.size;omega⟩
   have h1:Touch H'' Ek b:=by rcases ht.shr with h | h;exact .inl h;exact .inr h
   have:=hlt b h1
   omega
 ·rintro k S A ⟨_,Ek,rfl,g1,g2,g3,_⟩ b hb
  refine g2.mv.keep b (by rw[hWb];exact hr1.stlt b hb) ?_
  rintro⟨id,o,q1,ql,q2⟩
  exact hab.rel.nst' id o b q1 ql q2 (hstb b hb)
 ·rintro c S A ⟨e,H'',Ek,_,_,rfl,g1,g2,g3,_⟩ b hb
  refine g2.mv.keep b (by rw[hWb];exact hr1.stlt b hb) ?_
  rintro⟨id,o,q1,ql,q2⟩
  exact hab.rel.nst' id o b q1 ql q2 (hstb b hb)
 ·rintro l n k x k' S v W hx hv hSb ⟨hpk,Ek,rfl,g1,g2,g3,g4⟩
  obtain⟨hxl,hA⟩:=hround k x k' hx
  have hA:=hA hpk
  obtain⟨hvs,hvv⟩:=hv
  have hxk:=g2.ext hab.rel
  have hfold:(ps.zip v).foldl (fun t (x:Tmp×Value)=>match x with | (p,v)=>t.setIfInBounds p v) a.tmps=(ps.toList.zip v.toList).foldl (fun t (p:Nat×Value)=>t.setIfInBounds p.1 p.2) a.tmps:=by
   rw[←Array.foldl_toList,Array.toList_zip]
  have hat:At N (Hk k) Ek (parE ps.toList x ++ ev) (Hk k) Ek { tmps:=(ps.zip v).foldl (fun t (x:Tmp×Value)=>match x with | (p,v)=>t.setIfInBounds p v) a.tmps,defers:=[] }:=by
   refine⟨?_,trivial,?_,g1,Step.refl _ _⟩
   ·show((ps.zip v).foldl _ a.tmps).size=N
    rw[hfold,foldl_set_size];exact hab.size
   ·show ∀t,VR Ek _ (((ps.zip v).foldl _ a.tmps).getD t Go.undef)
    rw[hfold]
    refine par_env _ _ _ _ _ hxl (by rw[Array.length_toList,hvs,hxl]) hpd (fun p hp=>by rw[hab.size];exact hpN p hp) (fun j c hj=>?_) (fun j=>(hab.env j).mono hxk)
    have h5:=(hvv j c hj).mono (W':=Ek.W) (st':=Ek.st) (fun b hb=>g2.mv.grow b (hstb b hb)) (fun b hb=>by
     refine g2.mv.keep b (by rw[hWb];exact hr1.stlt b hb) ?_
     rintro⟨id,o,q1,ql,q2⟩
     exact hab.rel.nst' id o b q1 ql q2 (hstb b hb))
    have h6:=h5.vr
    have:v.toList.getD j Go.undef=v.getD j Go.undef:=by simp [List.getD_eq_getElem?_getD,Array.getD_eq_getD_getElem?]
    rw[this];exact h6
  refine wpIn_mono (hA Ek l g1 n Ek _ hat (fun _=>rfl)) fun e a' w' ⟨ev',H',E',hq,hw,ha',hdf'⟩=>?_
  subst hw
  have hks:KeepS S Ek.W E'.W:=fun b hb=>ha'.step.mv.keep b (hSb b hb) (fun hL=>(g4 b hb).1 (.inr hL))
  cases e with
  | normal=>exact⟨Step.keepsFrom g1 ha'.step _,hks,ev',H',shr Eb.W.heap.size E',hq,rfl,ha'.size,hdf' rfl,fun t=>(ha'.env t).shr,ha'.rel.shr _,(g2.trans ha'.step).shr hab.rel,shr_StC _ _,fun b hb=>⟨fun ht=>(g4 b hb).1 (ha'.step.touch (hSb b hb) ht.shr),(g4 b hb).2⟩⟩
  | _=>exact hq
 ·rintro l n k S a' W hSb ⟨ev',H',E',hq,rfl,q1,q2,q3,q4,q5,q6,q7⟩
  have hat:At N H' E' ev' H' E' a':=⟨q1,by rw[q2];trivial,q3,q4,Step.refl _ _⟩
  refine wpIn_mono (hq E' l q4 n E' a' hat (fun _=>q2)) fun e a2 w2 ⟨ev2,H2,E2,hq2,hw2,ha2,hdf2⟩=>?_
  subst hw2
  have hst2:=q5.trans ha2.step
  have hk2:=Step.keepsFrom q4 ha2.step Eb.W.heap.size
  have hks:KeepS S E'.W E2.W:=fun b hb=>ha2.step.mv.keep b (hSb b hb) (fun hL=>(q7 b hb).1 (.inr hL))
  have ht2:∀b,S b→¬Touch H2 E2 b∧Eb.W.heap.size≤b:=fun b hb=>⟨fun ht=>(q7 b hb).1 (ha2.step.touch (hSb b hb) ht),(q7 b hb).2⟩
  cases e with
  | normal=>
   obtain⟨hpn,hH2⟩:=hq2
   subst hH2
   exact⟨hk2,hks,hpn,shr Eb.W.heap.size E2,rfl,ha2.rel.shr _,hst2.shr hab.rel,shr_StC _ _,fun b hb=>⟨fun ht=>(ht2 b hb).1 ht.shr,(ht2 b hb).2⟩⟩
  | ret=>exact⟨hk2,hks,.ret,H2,shr Eb.W.heap.size E2,.inl ⟨rfl,rfl⟩,hq2,rfl,ha2.rel.shr _,hst2.shr hab.rel,shr_StC _ _,fun b hb=>⟨fun ht=>(ht2 b hb).1 ht.shr,(ht2 b hb).2⟩⟩
  | exit id=>exact⟨hk2,hks,.exit id,H2,shr Eb.W.heap.size E2,.inr ⟨id,rfl,rfl⟩,hq2,rfl,ha2.rel.shr _,hst2.shr hab.rel,shr_StC _ _,fun b hb=>⟨fun ht=>(ht2 b hb).1 ht.shr,(ht2 b hb).2⟩⟩
  | _=>exact hq2
 ·rintro D k S W hD hXD ⟨hpk,Ek,rfl,g1,g2,g3,_⟩ hDk
  exact⟨ev,_,Ek,hfin k hXD hpk,rfl,atEnd D _ Ek hD hDk g1 g2,fun hh=>by cases hh⟩
 ·rintro D c S W hD ⟨e,H'',Ek,hce,hq,rfl,g1,g2,g3,_⟩ hDk
  rcases hce with⟨rfl,rfl⟩ | ⟨id,rfl,rfl⟩
  ·exact wpIn_ret ⟨ev,_,Ek,hq,rfl,atEnd D _ Ek hD hDk g1 g2,fun hh=>by cases hh⟩
  ·exact wpIn_exit ⟨ev,_,Ek,hq,rfl,atEnd D _ Ek hD hDk g1 g2,fun hh=>by cases hh⟩
end Go.Pg
namespace Go.Pg
open Go Go.RowKit
variable [Syms]
structure Ready (W:World) (l:Nat) (r:Loop):Prop where
 at_:W.heap[l]? =some (.loop r)
 state:r.state= .ready
 pending:r.pending=none
 assign:r.assign= .skip
 body:∃i,r.body= .block i (.exit i)
def CallsY (P:Program)(f:FuncId)(k:Nat)(args:List AV)(H:AH)(Hr:AH):Prop:=
 ∀(E:Env) (vals:Array Value) (l:Nat) (r:Loop),Rel H E→VRs E (.yld l :: args) vals→Ready E.W l r→r.params.size=k→Calls P f vals E.W fun e W'=>∃v E',e= .returned v∧E'.W=W'∧Rel Hr E'∧Step H E Hr E'
theorem AWp.idle {P:Program}{N:Nat}{H0:AH}{E0:Env}{g:Operand}{ps:Array Tmp}{i:Nat}{ev:AEnv}{H H1:AH}{fid:FuncId}{cap:List AV}(h0:Rel H0 E0)(hf:opnd ev g= .fn fid cap)(hcal:cal P fid=true)
 (hY:CallsY P fid ps.size cap H H1):AWp P N H0 E0 (.rangeFunc g ps .skip (.block i (.exit i))) (isQ .normal ev H1) ev H:=by
 intro n E a ha hdf
 obtain⟨Es,hEs⟩:∃Es,Es=shr E0.W.heap.size E:=⟨_,rfl⟩
 have hWs:Es.W=E.W:=by rw[hEs];rfl
 have hrs:Rel H Es:=by rw[hEs];exact ha.rel.shr _
 have hss:Step H0 E0 H Es:=by rw[hEs];exact ha.step.shr h0
 have hes:∀t,VR Es (look t ev) (a.tmps.getD t Go.undef):=fun t=>by rw[hEs];exact(ha.env t).shr
 have hcs:StC Es.W.heap.size Es:=fun b hb=> .inl (hrs.stlt b hb)
 rw[←hWs]
 have hfv:=opnd_VR hes g
 rw[hf] at hfv
 obtain⟨us,hfe,hus,husv⟩:=hfv.fn_inv
 refine wpIn_rangeFunc ?_
 intro fn hfn
 rw[show FW none=Fence.wide from rfl,show Fence.wide.round=none from rfl]
 obtain⟨rec,hrec⟩:∃rec:Loop,rec={ state:= .ready,pending:=none,fn,tmps:=a.tmps,params:=ps,assign:= .skip,body:= .block i (.exit i),defers:=Es.W.heap.size }:=⟨_,rfl⟩
 obtain⟨W1,hW1⟩:∃W1,(Es.W.alloc (.deferred (some []))).alloc (.loop rec)=W1:=⟨_,rfl⟩
 have hL1:W1.heap[Es.W.heap.size+1]? =some (.loop rec):=by
  rw[←hW1];have:=World.alloc_heap_new (Es.W.alloc (.deferred (some []))) (.loop rec);rwa [World.size_alloc] at this
 have hK1:W1.heap[Es.W.heap.size]? =some (.deferred (some [])):=by
  rw[←hW1];exact(Below.heap_alloc _ _ _ (by simp)).trans (World.alloc_heap_new Es.W _)
 have hsz1:W1.heap.size=Es.W.heap.size+2:=by rw[←hW1];simp
 obtain⟨t1,t2,t3,t4⟩:=turn_ok (Qb _) hrs (Step.refl H Es) hcs (World.grownBy_alloc Es.W (.deferred (some [])) none) (fun r e=>by cases e)
 obtain⟨u1,u2,u3,u4⟩:=turn_ok (Qb _) t1 t2 t3 (World.grownBy_alloc (Es.W.alloc (.deferred (some []))) (.loop rec) none) (fun r e=>by cases e)
 obtain⟨E1,hE1⟩:∃E1:Env,E1={ Es with W:=W1 }:=⟨_,rfl⟩
 have hW:E1.W=W1:=by rw[hE1]
 have r1:Rel H E1:=by rw[hE1,←hW1];exact u1
 have s1:Step H Es H E1:=by rw[hE1,←hW1];exact u2
 have x1:EExt Es E1:=s1.ext hrs
 have hready:Ready E1.W (Es.W.heap.size+1) rec:=by
  rw[hW]
  exact⟨hL1,by rw[hrec],by rw[hrec],by rw[hrec],i,by rw[hrec]⟩
 have hvals:VRs E1 (.yld (Es.W.heap.size+1) :: cap) (#[.func (.yield (Es.W.heap.size+1)) #[] #[]] ++ us):=by
  refine VRs.append (xs:=[.yld (Es.W.heap.size+1)]) ⟨rfl,fun k c hc=>?_⟩ ⟨hus,fun k c hc=>(husv k c hc).mono x1⟩
  cases k with
  | zero=>simp at hc;subst hc;exact .yld _
  | succ k=>simp at hc
 have hcalls:=hY E1 _ _ rec r1 hvals hready (by rw[hrec])
 refine⟨Es.W.heap.size+1,[{ target:= .collected Es.W.heap.size,args:= #[] }],W1,{ target:= .fn (.func fid) us,args:= #[.func (.yield (Es.W.heap.size+1)) #[] #[]] },W1,fid,
  #[.func (.yield (Es.W.heap.size+1)) #[] #[]] ++ us,W1,?_,?_,?_,?_,?_,?_⟩
 ·rw[←hW1,hrec];exact run_enterLoop_outer _ _ _ _ _
 ·simp only[resolve,hfe]
  simp [go_sem]
 ·intro f' _;exact trivial
 ·simp [invoke,go_sem,cal_run hcal]
 ·intro h;cases h
 ·rw[hW] at hcalls
  refine callsIn_wide.2 (hcalls.mono ?_)
  rintro e W2 ⟨v,E',rfl,rfl,g1,g2⟩
  have keepb:∀(b:Nat) (o:Obj),W1.heap[b]? =some o→bk o=true→E'.W.heap[b]? =some o:=by
   intro b o hb hk
   rw[g2.mv.keep b (by rw[hW];exact(Qc.1 hb).1) ?_,hW,hb]
   rintro⟨id,o',k1,k2,k3⟩
   obtain⟨o2,k4,k5⟩:=bk_orow (r1.orow id o' _ k1 k3) (AO.lives_dead k2)
   rw[hW,hb] at k4;cases k4
   rw[hk] at k5;cases k5
  have hl2:=keepb _ _ hL1 rfl
  have hk2:=keepb _ _ hK1 rfl
  have s2:Step H Es H1 E':=s1.trans g2
  obtain⟨v1,v2,v3,v4⟩:=turn_ok (Qb _) (g1.shr Es.W.heap.size) (s2.shr hrs) (shr_StC _ _) (grownBy_putObj' E'.W (Es.W.heap.size+1) (.loop { rec with state:= .exhausted })) (fun r e=>by
   cases e
   exact⟨by omega,_,hl2,rfl⟩)
  refine⟨none,_,by have:=run_endLoop (P:=P) hl2 (by rw[hrec];simp);rw[this,hrec],?_⟩
  have hk3:(E'.W.putObj (Es.W.heap.size+1) (.loop { rec with state:= .exhausted })).heap[Es.W.heap.size]? =some (.deferred (some [])):=(World.putObj_heap_other (by omega)).trans hk2
  have mem:∀(W:World) (B:Nat) (ds:List Deferred),Marks W B ds→∀d∈ds,∃D,D<W.heap.size∧d={ target:= .collected D,args:= #[] }:=by
   intro W B ds
   induction ds with
   | nil=>intro _ d hd;simp at hd
   | cons d ds ih=>
    rintro⟨⟨D,_,q2,q3,_⟩,q5⟩ d' hd'
    rcases Qo.1 hd' with rfl | hd'
    ·exact⟨D,(Qc.1 q3).1,q2⟩
    ·exact ih q5 d' hd'
  have hdm:Marks Es.W E0.W.heap.size a.defers:=by rw[hWs];exact ha.defers
  have older:=mem _ _ _ hdm
  refine⟨ev,H1,_,⟨rfl,rfl,rfl⟩,?_,⟨ha.size,⟨⟨Es.W.heap.size,hss.mv.size,rfl,hk3,fun d' hd'=>?_⟩,Marks.step hrs v2 hdm⟩,fun t=>(((hes t).mono x1).mono (g2.ext r1)).shr.mono v4,v1,hss.trans v2⟩,fun hh=>by cases hh⟩
  ·rw[hrec]
  ·obtain⟨D',q1,q2⟩:=older d' hd'
   exact⟨D',by omega,q2⟩
end Go.Pg
namespace Go.Pg
open Go Go.RowKit
variable [Syms]
section
variable {P:Program} {N:Nat}
theorem AWp.mono {H0:AH}{E0:Env}{c:Code}{Q Q':APost}{ev:AEnv}{H:AH}{rd:Option Nat}{q:Bool}(h:AWp P N H0 E0 c Q ev H rd q)(hq:∀e ev H,Q e ev H→Q' e ev H):AWp P N H0 E0 c Q' ev H rd q:=
 fun n E a ha hdf=>wpIn_mono (h n E a ha hdf) fun e a' w' ⟨ev',H',E',h1,h2,h3,h4⟩=>⟨ev',H',E',hq _ _ _ h1,h2,h3,h4⟩
def TlOK (P:Program)(tl:FuncId→List AV→Option (List (List AV))):Prop:=∀fid as xs,tl fid as=some xs→ItR P fid as (Tell.seq xs)
theorem rounds_spec {f:List AV→AH→Er (Exit×AH)}:∀(xs:List (List AV))(H:AH)(e:Exit)(H':AH),roundsE f xs H= .ok (e,H')→
 ∃(Hk:Nat→AH) (pre:Nat→Prop),Hk 0=H∧pre 0∧(∀(k:Nat) x,xs[k]? =some x→pre k→∃e1 H1,f x (Hk k)= .ok (e1,H1)∧(e1= .normal→pre (k+1)∧Hk (k+1)=H1)∧(e1≠ .normal→e=e1∧H'=H1))∧(pre xs.length→e= .normal∧H'=Hk xs.length):=by
 intro xs
 induction xs with
 | nil=>
  intro H e H' h
  cases h
  exact⟨fun _=>H,fun _=>True,rfl,trivial,fun k x hx=>by simp at hx,fun _=>⟨rfl,rfl⟩⟩
 | cons x r ih=>
  intro H e H' h
  unfold roundsE at h
  obtain⟨⟨e1,H1⟩,h1,h2⟩:=Er.bind_ok h
  dsimp only at h2
  by_cases he:e1= .normal
  ·subst he
   obtain⟨Hk,pre,g1,g2,g3,g4⟩:=ih H1 e H' h2
   refine⟨fun k=>match k with | 0=>H | k+1=>Hk k,fun k=>match k with | 0=>True | k+1=>pre k,rfl,trivial,fun k y hy hp=>?_,fun hp=>g4 hp⟩
   cases k with
   | zero=>
    simp only[Qf,Option.some.injEq] at hy
    subst hy
    exact⟨_,_,h1,fun _=>⟨g2,g1⟩,fun hh=>absurd rfl hh⟩
   | succ k=>exact g3 k y (by simpa using hy) hp
  ·have h3:(e,H')=(e1,H1):=by
    cases e1 <;> first | exact absurd rfl he | (cases h2;rfl)
   cases h3
   refine⟨fun _=>H,fun k=>k=0,rfl,rfl,fun k y hy hp=>?_,fun hp=>by simp at hp⟩
   subst hp
   simp only[Qf,Option.some.injEq] at hy
   subst hy
   exact⟨_,_,h1,fun hh=>absurd hh he,fun _=>⟨rfl,rfl⟩⟩
def exB (id:Nat):Exit→Exit
 | .exit i=>if i=id then .normal else .exit i
 | e=>e
def IdOK (P:Program)(idl:IdF):Prop:=∀fid k cap H H1,idl fid k cap H=some H1→CallsY P fid k cap H H1
theorem loopE_left {f:AEnv→AH→Er St}(hf:∀ev H e ev' H',f ev H= .ok (e,ev',H')→leftOK e=true):∀(n:Nat)(ev:AEnv)(H:AH)(e:Exit)(ev':AEnv)(H':AH),loopE f n ev H= .ok (e,ev',H')→leftOK e=true:=by
 intro n
 induction n with
 | zero=>intro ev H e ev' H' h;cases h
 | succ n ih=>
  intro ev H e ev' H' h
  unfold loopE at h
  obtain⟨⟨e1,ev1,H1⟩,h1,h2⟩:=Er.bind_ok h
  dsimp only at h2
  split at h2
  ·exact ih _ _ _ _ _ h2
  ·cases h2;exact hf _ _ _ _ _ h1
theorem roundsE_left {f:List AV→AH→Er (Exit×AH)}(hf:∀x H e H',f x H= .ok (e,H')→leftOK e=true):∀(xs:List (List AV))(H:AH)(e:Exit)(H':AH),roundsE f xs H= .ok (e,H')→leftOK e=true:=by
 intro xs
 induction xs with
 | nil=>intro H e H' h;cases h;rfl
 | cons x r ih=>
  intro H e H' h
  unfold roundsE at h
  obtain⟨⟨e1,H1⟩,h1,h2⟩:=Er.bind_ok h
  dsimp only at h2
  split at h2
  ·exact ih _ _ _ h2
  ·cases h2;exact hf _ _ _ _ h1
theorem evC_left {cf:CallF}{tl:FuncId→List AV→Option (List (List AV))}{idl:IdF}{kill:Bool}:∀(c:Code)(ev:AEnv)(H:AH)(e:Exit)(ev':AEnv)(H':AH),evC P cf tl idl kill c ev H= .ok (e,ev',H')→leftOK e=true:=by
 intro c
 induction c with
 | skip=>intro ev H e ev' H' h;cases h;rfl
 | exit id=>intro ev H e ev' H' h;cases h;rfl
 | ret=>intro ev H e ev' H' h;cases h;rfl
 | region id ops draw=>
  intro ev H e ev' H' h
  simp only[evC] at h
  obtain⟨⟨ev1,H1⟩,h1,h2⟩:=Er.bind_ok h
  cases h2;rfl
 | seq x y ihx ihy=>
  intro ev H e ev' H' h
  simp only[evC] at h
  obtain⟨⟨e1,ev1,H1⟩,h1,h2⟩:=Er.bind_ok h
  dsimp only at h2
  split at h2
  ·exact ihy _ _ _ _ _ h2
  ·cases h2;exact ihx _ _ _ _ _ h1
 | cond c x y ihx ihy=>
  intro ev H e ev' H' h
  simp only[evC] at h
  split at h
  ·exact ihx _ _ _ _ _ h
  ·exact ihy _ _ _ _ _ h
  ·cases h
 | block id b ih=>
  intro ev H e ev' H' h
  simp only[evC] at h
  obtain⟨⟨e1,ev1,H1⟩,h1,h2⟩:=Er.bind_ok h
  dsimp only at h2
  split at h2
  ·split at h2 <;> (cases h2;rfl)
  ·cases h2;exact ih _ _ _ _ _ h1
 | loop b ih=>
  intro ev H e ev' H' h
  exact loopE_left (fun ev H e ev' H' h=>ih ev H e ev' H' h) _ _ _ _ _ _ h
 | rangeFunc g ps assign body iha ihb=>
  intro ev H e ev' H' h
  simp only[evC] at h
  split at h
  ·split at h
   ·cases h
   ·split at h
    ·split at h
     ·cases h;rfl
     ·cases h
    ·split at h
     ·split at h
      ·split at h
       ·cases h
       ·obtain⟨⟨e1,H1⟩,h1,h2⟩:=Er.bind_ok h
        cases h2
        refine roundsE_left (fun x H e H' h=>?_) _ _ _ _ h1
        obtain⟨⟨e2,ev2,H2⟩,r1,r2⟩:=Er.bind_ok h
        dsimp only at r2
        split at r2
        ·obtain⟨⟨e3,ev3,H3⟩,r3,r4⟩:=Er.bind_ok r2
         cases r4
         exact ihb _ _ _ _ _ r3
        ·cases r2
      ·cases h
     ·cases h
  ·cases h
 | scope=>intro ev H e ev' H' h;simp only[evC] at h;cases h
 | label=>intro ev H e ev' H' h;simp only[evC] at h;cases h
 | goto=>intro ev H e ev' H' h;simp only[evC] at h;cases h
 | refuse=>intro ev H e ev' H' h;simp only[evC] at h;cases h
theorem idle_eq {assign body:Code}(h:idle assign body=true):∃i,assign= .skip∧body= .block i (.exit i):=by
 unfold idle at h
 split at h
 ·next i j=>exact⟨i,rfl,by rw[eq_of_beq h]⟩
 ·cases h
theorem evC_ok {cf:CallF}(hcf:CfOK P cf){tl:FuncId→List AV→Option (List (List AV))}(htl:TlOK P tl){idl:IdF}(hid:IdOK P idl)(hmix:P.follows .mixedOrders=true){kill:Bool} :
 ∀(c:Code) (H0:AH) (E0:Env) (ev:AEnv) (H:AH) (e:Exit) (ev':AEnv) (H':AH) (rd:Option Nat) (q:Bool),Rel H0 E0→codeT P N c=true→((rd=none∧q=false)∨noRange c=true)→
  evC P cf tl idl kill c ev H= .ok (e,ev',H')→leftOK e=true∧AWp P N H0 E0 c (isQ e ev' H') ev H rd q:=by
 intro c
 induction c with
 | skip=>intro H0 E0 ev H e ev' H' rd q _ _ _ h;cases h;exact⟨rfl,fun n E a ha hdf=>wpIn_skip ⟨_,_,E,⟨rfl,rfl,rfl⟩,rfl,ha,hdf⟩⟩
 | exit id=>intro H0 E0 ev H e ev' H' rd q _ _ _ h;cases h;exact⟨rfl,fun n E a ha hdf=>wpIn_exit ⟨_,_,E,⟨rfl,rfl,rfl⟩,rfl,ha,hdf⟩⟩
 | ret=>intro H0 E0 ev H e ev' H' rd q _ _ _ h;cases h;exact⟨rfl,fun n E a ha hdf=>wpIn_ret ⟨_,_,E,⟨rfl,rfl,rfl⟩,rfl,ha,hdf⟩⟩
 | region id ops draw=>
  intro H0 E0 ev H e ev' H' rd q h0 hok _ h
  simp only[evC] at h
  obtain⟨⟨ev1,H1⟩,h1,h2⟩:=Er.bind_ok h
  cases h2
  exact⟨rfl,regE_ok hcf hmix hok h1⟩
 | seq x y ihx ihy=>
  intro H0 E0 ev H e ev' H' rd q h0 hok hr h
  simp only[codeT,Qa] at hok
  simp only[noRange,Qa] at hr
  simp only[evC] at h
  obtain⟨⟨e1,ev1,H1⟩,h1,h2⟩:=Er.bind_ok h
  obtain⟨g1,g2⟩:=ihx H0 E0 ev H e1 ev1 H1 rd q h0 hok.1 (hr.imp id (·.1)) h1
  dsimp only at h2
  have key:leftOK e=true∧(∀(e2:Exit),e2=e1→e2≠ .normal→e=e1∧ev'=ev1∧H'=H1)∧(e1= .normal→AWp P N H0 E0 y (isQ e ev' H') ev1 H1 rd q):=by
   by_cases he:e1= .normal
   ·subst he
    obtain⟨k1,k2⟩:=ihy H0 E0 ev1 H1 e ev' H' rd q h0 hok.2 (hr.imp id (·.2)) h2
    exact⟨k1,fun e2 h3 h4=>absurd h3 h4,fun _=>k2⟩
   ·have h3:(e,ev',H')=(e1,ev1,H1):=by
     cases e1 <;> first | exact absurd rfl he | (cases h2;rfl)
    cases h3
    exact⟨g1,fun _ _ _=>⟨rfl,rfl,rfl⟩,fun hh=>absurd hh he⟩
  refine⟨key.1,fun n E a ha hdf=>?_⟩
  refine wpIn_seq (wpIn_mono (g2 n E a ha hdf) fun e2 a' w' ⟨ev2,H2,E2,hq,hw,ha',hdf'⟩=>?_)
  subst hw
  obtain⟨rfl,rfl,rfl⟩:=hq
  cases e2 with
  | normal=>exact key.2.2 rfl n E2 a' ha' hdf'
  | _=>
   obtain⟨rfl,rfl,rfl⟩:=key.2.1 _ rfl (by simp)
   exact⟨_,_,E2,⟨rfl,rfl,rfl⟩,rfl,ha',hdf'⟩
 | cond c x y ihx ihy=>
  intro H0 E0 ev H e ev' H' rd q h0 hok hr h
  simp only[codeT,Qa] at hok
  simp only[noRange,Qa] at hr
  simp only[evC] at h
  split at h
  ·next hb=>
   obtain⟨k1,k2⟩:=ihx H0 E0 ev H e ev' H' rd q h0 hok.1 (hr.imp id (·.1)) h
   refine⟨k1,fun n E a ha hdf=>?_⟩
   have hv:=opnd_VR ha.env c
   rw[hb] at hv
   exact wpIn_cond_split (t:=true) hv.bool_inv (fun _=>k2 n E a ha hdf) (fun hf=>by cases hf)
  ·next hb=>
   obtain⟨k1,k2⟩:=ihy H0 E0 ev H e ev' H' rd q h0 hok.2 (hr.imp id (·.2)) h
   refine⟨k1,fun n E a ha hdf=>?_⟩
   have hv:=opnd_VR ha.env c
   rw[hb] at hv
   exact wpIn_cond_split (t:=false) hv.bool_inv (fun hf=>by cases hf) (fun _=>k2 n E a ha hdf)
  ·cases h
 | block id b ih=>
  intro H0 E0 ev H e ev' H' rd q h0 hok hr h
  simp only[evC] at h
  obtain⟨⟨e1,ev1,H1⟩,h1,h2⟩:=Er.bind_ok h
  obtain⟨g1,g2⟩:=ih H0 E0 ev H e1 ev1 H1 rd q h0 hok hr h1
  dsimp only at h2
  have key:leftOK e=true∧ev'=ev1∧H'=H1∧e=exB id e1:=by
   cases e1 with
   | exit i=>
    dsimp only at h2
    simp only[exB]
    split at h2
    ·next he=>cases h2;rw[if_pos he];exact⟨rfl,rfl,rfl,rfl⟩
    ·next he=>cases h2;rw[if_neg he];exact⟨rfl,rfl,rfl,rfl⟩
   | _=>cases h2;exact⟨g1,rfl,rfl,rfl⟩
  obtain⟨k1,rfl,rfl,rfl⟩:=key
  refine⟨k1,fun n E a ha hdf=>?_⟩
  refine wpIn_block (wpIn_mono (g2 n E a ha hdf) fun e2 a' w' ⟨ev2,H2,E2,hq,hw,ha',hdf'⟩=>?_)
  obtain⟨rfl,rfl,rfl⟩:=hq
  cases e2 with
  | exit i=>
   simp only[Exit.inBlock,exB]
   split
   ·exact⟨_,_,E2,⟨rfl,rfl,rfl⟩,hw,ha',hdf'⟩
   ·exact⟨_,_,E2,⟨rfl,rfl,rfl⟩,hw,ha',hdf'⟩
  | _=>exact⟨_,_,E2,⟨rfl,rfl,rfl⟩,hw,ha',hdf'⟩
 | loop b ih=>
  intro H0 E0 ev H e ev' H' rd q h0 hok hr h
  exact loopE_ok (fun ev H e ev' H' h=>ih H0 E0 ev H e ev' H' rd q h0 hok hr h) _ _ _ _ _ _ h
 | rangeFunc g ps assign body iha ihb=>
  intro H0 E0 ev H e ev' H' rd q h0 hok hr h
  obtain⟨rfl,rfl⟩:rd=none∧q=false:=hr.resolve_right (by simp [noRange])
  simp only[codeT,Qa] at hok
  obtain⟨⟨⟨⟨⟨hok1,hok2⟩,hnr1⟩,hnr2⟩,hpN⟩,hpd⟩:=hok
  have hpd:=of_decide_eq_true hpd
  have hpN:∀p∈ps.toList,p<N:=fun p hp=>of_decide_eq_true (Qd.1 hpN p hp)
  simp only[evC] at h
  split at h
  ·next fid cap hf=>
   split at h
   ·cases h
   ·next hcal=>
    split at h
    ·next hidle=>
     obtain⟨i,rfl,rfl⟩:=idle_eq hidle
     split at h
     ·next H1 hH1=>cases h;exact⟨rfl,AWp.idle h0 hf hcal (hid _ _ _ _ _ hH1)⟩
     ·cases h
    split at h
    ·next as ids hres=>
     split at h
     ·next xs hxs=>
      split at h
      ·cases h
      next hxl=>
      obtain⟨⟨e1,H1⟩,h1,h2⟩:=Er.bind_ok h
      cases h2
      obtain⟨Hk,pre,g1,g2,g3,g4⟩:=rounds_spec _ _ _ _ h1
      have hbody:∀(k:Nat) x,xs[k]? =some x→pre k→x.length=ps.toList.length∧∃ev2 H2 e3 ev3 H3,evC P cf tl idl kill assign (parE ps.toList x ++ ev) (Hk k)= .ok (.normal,ev2,H2)∧evC P cf tl idl kill body ev2 H2= .ok (e3,ev3,H3)∧(e3= .normal→pre (k+1)∧Hk (k+1)=H3)∧(e3≠ .normal→e1=e3∧H1=H3):=by
       intro k x hx hp
       obtain⟨e3,H3,q1,q2,q3⟩:=g3 k x hx hp
       ·
        refine⟨by simpa using Qd.1 hxl x (Qi hx),?_⟩
        obtain⟨⟨e2,ev2,H2⟩,r1,r2⟩:=Er.bind_ok q1
        dsimp only at r2
        split at r2
        ·obtain⟨⟨e4,ev4,H4⟩,r3,r4⟩:=Er.bind_ok r2
         cases r4
         exact⟨ev2,H2,_,ev4,_,r1,r3,q2,q3⟩
        ·cases r2
      have hleft:leftOK e1=true:=by
       by_cases hn:∃k x,xs[k]? =some x∧pre k∧¬pre (k+1)
       ·obtain⟨k,x,hx,hp,hnp⟩:=hn
        obtain⟨_,ev2,H2,e3,ev3,H3,r1,r2,r3,r4⟩:=hbody k x hx hp
        have he3:e3≠ .normal:=fun hh=>hnp (r3 hh).1
        rw[(r4 he3).1]
        exact evC_left _ _ _ _ _ _ r2
       ·have hall:∀k,k≤xs.length→pre k:=by
         intro k
         induction k with
         | zero=>intro _;exact g2
         | succ k ih=>
          intro hk
          refine Classical.byContradiction fun hnp=>hn ⟨k,xs[k],by simp,ih (by omega),hnp⟩
        rw[(g4 (hall _ (Qb _))).1];rfl
      refine⟨hleft,AWp.range (X:=Tell.seq xs) hpN hpd hf hcal hres (htl _ _ _ hxs) Hk pre g2 g1 (fun k x k' hx=>?_) (fun k hk hp=>?_)⟩
      ·obtain⟨hx,rfl⟩:=hx
       have hlen:x.length=ps.toList.length:=by simpa using Qd.1 hxl x (Qi hx)
       refine⟨hlen,fun hp E l hE=>?_⟩
       obtain⟨_,ev2,H2,e3,ev3,H3,r1,r2,r3,r4⟩:=hbody k x hx hp
       refine(iha (Hk k) E _ _ _ _ _ (some l) true hE hok1 (.inr hnr1) r1).2.mono fun e5 ev5 H5 hq=>?_
       obtain⟨rfl,rfl,rfl⟩:=hq
       intro E6 l6 hE6
       refine(ihb _ E6 _ _ _ _ _ (some l6) true hE6 hok2 (.inr hnr2) r2).2.mono fun e7 ev7 H7 hq=>?_
       obtain⟨rfl,rfl,rfl⟩:=hq
       cases e7 with
       | normal=>exact⟨(r3 rfl).1,(r3 rfl).2.symm⟩
       | ret=>obtain⟨r5,r6⟩:=r4 (by simp);exact⟨r5.symm,rfl,r6.symm⟩
       | exit i=>obtain⟨r5,r6⟩:=r4 (by simp);exact⟨r5.symm,rfl,r6.symm⟩
       | _=>obtain⟨r5,r6⟩:=r4 (by simp);rw[r5] at hleft;cases hleft
      ·have hk:k=xs.length:=hk
       subst hk
       obtain⟨r5,r6⟩:=g4 hp
       exact⟨r5.symm,rfl,r6.symm⟩
     ·cases h
    ·cases h
  ·cases h
 | scope=>intro H0 E0 ev H e ev' H' rd q _ _ _ h;simp only[evC] at h;cases h
 | label=>intro H0 E0 ev H e ev' H' rd q _ _ _ h;simp only[evC] at h;cases h
 | goto=>intro H0 E0 ev H e ev' H' rd q _ _ _ h;simp only[evC] at h;cases h
 | refuse=>intro H0 E0 ev H e ev' H' rd q _ _ _ h;simp only[evC] at h;cases h
end
end Go.Pg
namespace Go.Pg
open Go Go.RowKit
variable [Syms]
theorem subLB_ok {g:AV→AV→Bool}{g':AV→AV→Prop}(hg:∀x y,g x y=true→g' x y):∀xs ys,subLB g xs ys=true→subL g' xs ys:=by
 intro xs
 induction xs with
 | nil=>intro ys h;cases ys with
  | nil=>trivial
  | cons y s=>cases h
 | cons x r ih=>
  intro ys h
  cases ys with
  | nil=>cases h
  | cons y s=>
   simp only[subLB,Qa] at h
   exact⟨hg x y h.1,ih s h.2⟩
theorem resInB_ok {H:AH}{F:List Nat}{x y:AV}(h:resInB H F x y=true):resIn H F x y:=by
 unfold resInB at h
 unfold resIn
 split at h
 ·next z ids hr=>
  rw[hr]
  simp only[Qa] at h
  exact⟨beqV_eq _ _ h.1,h.2⟩
 ·cases h
theorem resInM_ok {H:AH}{F:List Nat}{x y:AV}(h:resInM H F x y=true):resIn H F x y:=by
 unfold resInM at h
 unfold resIn
 split at h
 ·next z ids hr=>
  rw[hr]
  simp only[Qa] at h
  refine⟨?_,h.2⟩
  have h1:=h.1
  unfold fmB at h1
  split at h1
  ·rw[beqE_eq _ _ h1]
  ·cases h1
 ·cases h
theorem pick_some {pick:List Nat}{i j:Nat}(h:(pick[i]? == some j)=true):(pick.map some)[i]? =some (some j):=by
 have:=eq_of_beq h
 simp [this]
theorem subVB_ok {H:AH}{F pick:List Nat}:∀(d:Nat)(x y:AV),subVB H F pick d x y=true→subV H F (pick.map some) d x y:=by
 intro d
 induction d with
 | zero=>intro x y h;cases h
 | succ d ih=>
  intro x y h
  unfold subVB at h
  split at h
  ·trivial
  ·simp only[Qa,beq_iff_eq] at h
   obtain⟨⟨h1,h2⟩,h3⟩:=h
   exact⟨by simp [h1],h2,h3⟩
  ·simp only[Qa,beq_iff_eq] at h
   obtain⟨⟨⟨⟨h1,h2⟩,h3⟩,h4⟩,h5⟩:=h
   exact⟨by simp [h1],h2,h3,h4,h5⟩
  ·simp only[Qa,beq_iff_eq] at h
   obtain⟨⟨⟨⟨h1,h2⟩,h3⟩,h4⟩,h5⟩:=h
   exact⟨by simp [h1],h2,h3,h4,h5⟩
  ·exact subLB_ok ih _ _ h
  ·exact subLB_ok ih _ _ h
  ·simp only[Qa,beq_iff_eq] at h
   exact⟨h.1,subLB_ok ih _ _ h.2⟩
  ·exact resInB_ok h
  ·simp only[Qa,beq_iff_eq] at h
   exact⟨h.1,beqL_eq _ _ h.2⟩
  ·simp only[Qa,beq_iff_eq] at h
   exact⟨h.1,beqL_eq _ _ h.2⟩
  ·simp only[Qa,beq_iff_eq] at h
   exact h
  ·simp only[beq_iff_eq] at h;exact h
  ·simp only[beq_iff_eq] at h;exact h
  ·trivial
  ·trivial
  ·trivial
  ·simp only[beq_iff_eq] at h;exact h
  ·simp only[Qa,beq_iff_eq] at h
   obtain⟨⟨h1,h2⟩,h3⟩:=h
   exact⟨by simp [h1],h2,h3⟩
  ·exact pick_some h
  ·exact beqL_eq _ _ h
  ·exact resInB_ok h
  ·exact beqE_eq _ _ h
  ·exact resInM_ok h
  ·cases h
theorem subOB_ok {H:AH}{F pick:List Nat}{p:Nat}{y:AO}(h:subOB H F pick H[p]? y=true):subO H F (pick.map some) (some p) y:=by
 have hc:∀x z,subCB H F pick x z=true→subC H F (pick.map some) x z:=fun x z h=>subLB_ok (subVB_ok 8) _ _ h
 unfold subOB at h
 unfold subO
 split at h
 ·next ho=>
  simp only[Qa,beq_iff_eq] at h
  dsimp only
  rw[ho]
  exact⟨h.1.1,h.1.2,.inr (subLB_ok hc _ _ h.2)⟩
 ·next ho=>
  simp only[Qa,Qn,beq_iff_eq] at h
  dsimp only
  rw[ho]
  refine⟨h.1.1,h.1.2,?_⟩
  rcases h.2 with h2 | h2
  ·exact .inl ⟨beqL_eq _ _ h2.1,h2.2⟩
  ·exact .inr (subLB_ok hc _ _ h2)
 ·next ho=>dsimp only;rw[ho];exact beqE_eq _ _ h
 ·next ho=>dsimp only;rw[ho];exact beqE_eq _ _ h
 ·next ho=>dsimp only;rw[ho];exact eq_of_beq h
 ·dsimp only
  cases H[p]? with
  | none=>trivial
  | some o=>cases o <;> trivial
 ·cases h
theorem subOBs_ok {H:AH}{F pick:List Nat}:∀(ps:List Nat)(K:AH),subOBs H F pick ps K=true→subOs H F (pick.map some) (ps.map some) K:=by
 intro ps
 induction ps with
 | nil=>intro K h;cases K with
  | nil=>trivial
  | cons y r=>cases h
 | cons p ps ih=>
  intro K h
  cases K with
  | nil=>cases h
  | cons y r=>
   simp only[subOBs,Qa] at h
   exact⟨subOB_ok h.1,ih r h.2⟩
theorem resE_ok {P:Program}{ev:AEnv}{H:AH}:∀(rs:List ResultVar)(l:List AV)(K:List AV→Prop),resE P ev H rs=some l→K l→resK P ev H rs K:=by
 intro rs
 induction rs with
 | nil=>intro l K h hk;simp only[resE] at h;cases h;exact hk
 | cons r rs ih=>
  intro l K h hk
  cases r with
  | tmp t=>
   simp only[resE] at h
   obtain⟨l',hl,rfl⟩:=Option.map_eq_some_iff.1 h
   exact ih l' _ hl hk
  | cell p t=>
   simp only[resE] at h
   simp only[resK]
   split at h
   ·next e1=>
    rw[e1]
    dsimp only
    split at h
    ·next e2=>
     rw[e2]
     dsimp only
     split at h
     ·next c=>
      split at h
      ·next v l' hv hl=>
       cases h
       exact⟨c.1,c.2.1,c.2.2,v,hv,ih l' _ hl hk⟩
      ·cases h
     ·cases h
    ·cases h
   ·cases h
theorem pickOK_of {n0:Nat}{l:List Nat}{al:List Bool}(hl:l.Nodup)(hn:∀a∈l,n0≤a):pickOK n0 ((Qj n0 ++ l).map some) al=true:=by
 have hnd:(Qj n0 ++ l).Nodup:=by
  rw[Ql]
  exact⟨List.nodup_range,hl,fun a ha b hb=>by have:=hn b hb;simp at ha;omega⟩
 unfold pickOK
 simp only[Qa,Qd,List.mem_range,Qn,beq_iff_eq]
 refine⟨?_,fun i hi j hj=>?_⟩
 ·rw[←List.map_take,List.take_left' (by simp)]
 ·by_cases hij:i=j
  ·exact .inl (.inl (.inl (.inl hij)))
  ·refine .inl (.inl (.inr ?_))
   simp only[bne_iff_ne,ne_eq]
   intro he
   simp only[List.length_map] at hi hj
   rw[Qm,Qm,Qe hi,Qe hj] at he
   simp only[Option.map_some,Option.some.injEq] at he
   exact hij ((List.getElem_inj hnd).1 he)
theorem gcE_pick {n0:Nat}{r r':AV}{H H1:AH}{pick F:List Nat}(h:gcE n0 r H=some (r',H1,pick,F)):F=fixedIds H∧∃l:List Nat,pick=Qj n0 ++ l∧l.Nodup∧∀a∈l,n0≤a:=by
 unfold gcE at h
 dsimp only at h
 split at h
 ·cases h
  refine⟨rfl,_,rfl,?_,fun a ha=>by simpa using (Qh.1 ha).2⟩
  refine List.Pairwise.filter _ ?_
  have:∀(n:Nat) (todo seen:List Nat),seen.Nodup→(reach H n todo seen).Nodup:=by
   intro n
   induction n with
   | zero=>intro todo seen h;cases todo <;> exact h
   | succ n ih=>
    intro todo seen h
    cases todo with
    | nil=>exact h
    | cons id r=>
     have hnd:¬seen.contains id=true→(seen ++ [id]).Nodup:=fun hc=>by
      rw[Ql]
      exact⟨h,by simp,fun a ha b hb=>by simp at hb;subst hb;rintro rfl;exact hc (by simpa using ha)⟩
     unfold reach
     split
     ·exact ih _ _ h
     ·next hc=>
      split
      ·exact ih _ _ (hnd hc)
      ·exact ih _ _ (hnd hc)
      ·exact ih _ _ (hnd hc)
      ·exact ih _ _ h
  exact this _ _ _ (by simp)
 ·cases h
structure LfOK (P:Program) (L:Lf):Prop where
 tb:TblOK P
 fn:∀fid as H r H',L.fn fid as H=some (r,H')→CallsR P fid as H r H'
 tl:TlOK P L.tl
 idl:IdOK P L.idl
 ext:∀fid xs v (ev:AEnv) (o:Oper),L.ext fid xs=some v→CallIs ev o fid xs→PureOK P o (fun E a=>Opd ev E a o) v
theorem extC_ok {P:Program}{L:Lf}(hL:LfOK P L){cf:CallF}(hcf:CfOK P cf):CfOK P (extC L cf):=by
 refine⟨hL.tb,?_⟩
 intro fid xs H V H1 m h ev o ho
 unfold extC at h
 split at h
 ·next v hv=>cases h;exact .pure (hL.ext _ _ _ _ _ hv ho)
 ·exact hcf.2 _ _ _ _ _ _ h ev o ho
theorem bodyE_ok {P:Program}{L:Lf}(hL:LfOK P L)(hmix:P.follows .mixedOrders=true){cf:CallF}(hcf:CfOK P cf){fid:FuncId}{fn:Func}{c:Code}(hf:P.funcs[fid]? =some fn)(hb:fn.body=some c){as:List AV}{H:AH}{r:AV}{H1:AH}
 (h:bodyE P L cf fid fn c as H= .ok (r,H1)):CallsR P fid as H r H1:=by
 unfold bodyE at h
 split at h
 ·cases h
 ·next hok=>
  simp only[Qa] at hok
  obtain⟨⟨e,ev,H'⟩,h1,h2⟩:=Er.bind_ok h
  have key:(e= .normal∨e= .ret)∧∃l,resE P ev H' fn.results.toList=some l∧subS H.length [(0,tupA l)] H' [(0,r)] H1:=by
   have fin:(match resE P ev H' fn.results.toList with
    | some l=>match gcE H.length (tupA l) H' with
     | some (r,H1,pick,F)=>match gcOK (tupA l) H' r H1 pick F with
      | true=>Er.ok (r,H1)
      | false=> .no [(785,fid)]
     | none=> .no [(779,fid)]
    | none=> .no [(780,fid)])=Er.ok (r,H1)→∃l,resE P ev H' fn.results.toList=some l∧subS H.length [(0,tupA l)] H' [(0,r)] H1:=by
    intro h
    split at h
    ·next l hl=>
     refine⟨l,hl,?_⟩
     split at h
     ·next r' H1' pick F hg=>
      split at h
      ·next hgc=>
       cases h
       obtain⟨rfl,l',rfl,g1,g2⟩:=gcE_pick hg
       unfold gcOK at hgc
       simp only[Qa] at hgc
       refine⟨fixedIds H',(Qj H.length ++ l').map some,pickOK_of g1 g2,?_,?_⟩
       ·rw[freeze_fixed fun a ha=>fixedIds_mem ha]
        exact subOBs_ok _ _ hgc.1
       ·rw[freeze_fixed fun a ha=>fixedIds_mem ha]
        exact⟨subVB_ok 8 _ _ hgc.2,trivial⟩
      ·cases h
     ·cases h
    ·cases h
   dsimp only at h2
   split at h2
   ·exact⟨.inl rfl,fin h2⟩
   ·exact⟨.inr rfl,fin h2⟩
   ·cases h2
  obtain⟨he,l,hl,hs⟩:=key
  refine callsR_ofW hf hb (Nat.le_of_ble_eq_true hok.2) fun E hE=>?_
  refine(evC_ok (N:=fn.ntmps) hcf hL.tl hL.idl hmix c H E _ _ _ _ _ none false hE hok.1 (.inl ⟨rfl,rfl⟩) (Er.tag_ok h1)).2.mono fun e1 ev1 H2 hq=>?_
  obtain⟨rfl,rfl,rfl⟩:=hq
  rcases he with rfl | rfl
  ·exact resE_ok _ l _ hl hs
  ·exact resE_ok _ l _ hl hs
theorem evF_ok {P:Program}{L:Lf}(hL:LfOK P L)(hmix:P.follows .mixedOrders=true):∀(n:Nat)(fid:FuncId)(as:List AV)(H:AH)(r:AV)(H':AH),evF P L n fid as H= .ok (r,H')→CallsR P fid as H r H':=by
 intro n
 induction n with
 | zero=>intro fid as H r H' h;cases h
 | succ n ih=>
  intro fid as H r H' h
  unfold evF at h
  split at h
  ·next x hx=>cases h;exact hL.fn _ _ _ _ _ hx
  ·split at h
   ·next fn hfn=>
    split at h
    ·next c hc=>exact bodyE_ok hL hmix (extC_ok hL (callE_ok hL.tb ih)) hfn hc h
    ·cases h
   ·cases h
end Go.Pg
