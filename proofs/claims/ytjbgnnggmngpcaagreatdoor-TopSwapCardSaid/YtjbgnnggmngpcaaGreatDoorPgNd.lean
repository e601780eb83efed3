/- Pg, part 31: calls whose result is one of many; calls that give back an object to write on. -/
import Derived.Test.YtjbgnnggmngpcaaGreatDoorPgGr
import Derived.Test.YtjbgnnggmngpcaaGreatDoorPgYld4
set_option linter.unusedVariables false
set_option linter.unusedSimpArgs false
set_option linter.unusedSectionVars false
open Array renaming getD_eq_getD_getElem? → Qa,replicate → Qc
open List renaming length_eq_one_iff → Qb
namespace Go.Pg
open Go Go.RowKit
variable [Syms]
def CallsE (P:Program)(f:FuncId)(args:List AV)(H:AH){ξ:Type}(X:ξ→Prop)(r:ξ→AV)(H':ξ→AH):Prop:=
 ∀(E:Env) (vals:Array Value),Rel H E→VRs E args vals→Calls P f vals E.W fun e W'=>
  ∃x v E',X x∧e= .returned v∧E'.W=W'∧VR E' (r x) v∧Rel (H' x) E'∧Step H E (H' x) E'
theorem callsE_ofW {P:Program}{ξ:Type}{X:ξ→Prop}{f:FuncId}{fn:Func}{c:Code}{args:List AV}{H:AH}{r:ξ→AV}{Hr:ξ→AH}
 (hf:P.funcs[f]? =some fn) (hb:fn.body=some c) (hn:args.length≤fn.ntmps)
 (h:∀E,Rel H E→AWp P fn.ntmps H E c (fun e ev H'=>∃x,X x∧retS P H.length fn.results.toList (r x) (Hr x) e ev H') (envOf 0 args) H):CallsE P f args H X r Hr:=by
 intro E vals hr hvs
 refine(callsIn_wide (n:=0)).1 (callsIn_of_wp_marks hf hb trivial ?_ rfl)
 have hat:At fn.ntmps H E (envOf 0 args) H E { tmps:=vals ++ Qc (fn.ntmps - vals.size) Go.undef,defers:=[] }:=by
  refine⟨by simp [hvs.1];omega,trivial,fun t=>?_,hr,Step.refl _ _⟩
  rw[look_envOf]
  simp only[Nat.zero_le,if_true,Nat.sub_zero]
  cases ht:args[t]? with
  | none=>exact .top _
  | some v=>
   have hlt:t<vals.size:=by rw[hvs.1];exact(List.getElem?_eq_some_iff.1 ht).1
   have:=hvs.2 t v ht
   have e:(vals ++ Qc (fn.ntmps - vals.size) Go.undef).getD t Go.undef=vals.getD t Go.undef:=by
    simp only[Qa]
    rw[Array.getElem?_append_left hlt]
   simp only[Option.getD_some]
   rw[e];exact this
 have fin:∀{x:ξ} {ev':AEnv} {H':AH} {E':Env} {a':Act},X x→(resK P ev' H' fn.results.toList fun l=>subS H.length [(0,tupA l)] H' [(0,r x)] (Hr x))→At fn.ntmps H E ev' H' E' a'→
  ∃v,(results fn a'.tmps).run P E'.W= .ok v E'.W∧∃x v' E2,X x∧Ending.returned v= .returned v'∧E2.W=E'.W∧VR E2 (r x) v'∧Rel (Hr x) E2∧Step H E (Hr x) E2:=by
  intro x ev' H' E' a' hx hs ha
  obtain⟨l,vs,hsub,hrun,hlen,hvr⟩:=resK_run ha _ _ hs
  have hv:=results_run hrun
  generalize hvv:(if h:vs.length=1 then vs[0] else Value.tuple vs.toArray)=v at hv
  refine⟨v,hv,x,v,?_⟩
  have htup:VR E' (tupA l) v:=by
   rw[←hvv]
   have gen:VR E' (.tuple l) (.tuple vs.toArray):= .tuple _ _ (by simpa using hlen) fun i c hc=>by
    have:=hvr i c hc
    simpa [Qa] using this
   by_cases h1:vs.length=1
   ·rw[dif_pos h1]
    clear hsub hrun hv gen hvv
    obtain⟨y,rfl⟩:=Qb.1 (hlen.symm.trans h1)
    obtain⟨v,rfl⟩:=Qb.1 h1
    simpa [tupA] using hvr 0 y rfl
   ·rw[dif_neg h1]
    have:tupA l= .tuple l:=by
     unfold tupA
     split
     ·simp at hlen;exact absurd hlen h1
     ·rfl
    rw[this];exact gen
  have h1:At 1 H E [(0,tupA l)] H' E' { tmps:= #[v],defers:=[] }:=by
   refine⟨rfl,trivial,fun t=>?_,ha.rel,ha.step⟩
   simp only[look]
   split
   ·next ht=>subst ht;exact htup
   ·exact .top _
  obtain⟨E2,hW,h2⟩:=h1.sub hr hsub
  refine⟨E2,hx,rfl,hW,?_,h2.rel,h2.step⟩
  have:=h2.env 0
  simpa [look] using this
 refine wpIn_mono (h E hr 0 E _ hat (fun hh=>by cases hh)) fun e a' w' ⟨ev',H',E',hq,hw,ha,_⟩=>?_
 subst hw
 have leave:∀x,X x→(resK P ev' H' fn.results.toList fun l=>subS H.length [(0,tupA l)] H' [(0,r x)] (Hr x))→LeavesInM Fence.wide 0 P fn a'.tmps (fun e W'=>∃x v E',X x∧e=Ending.returned v∧E'.W=W'∧VR E' (r x) v∧Rel (Hr x) E'∧Step H E (Hr x) E') a'.defers .returning E'.W:=by
  intro x hx hk
  have hs:At fn.ntmps H E ev' H' (shr E.W.heap.size E') a':=⟨ha.size,ha.defers,fun t=>(ha.env t).shr,ha.rel.shr _,ha.step.shr hr⟩
  exact leaves_marks (fn:=fn) a'.defers (shr E.W.heap.size E') a'.tmps hs (shr_StC _ _) (fun E2 h2=>fin (a':={ tmps:=a'.tmps,defers:=[] }) hx hk h2)
 cases e with
 | normal=>obtain⟨x,hx,hq⟩:=hq;exact leave x hx hq
 | ret=>obtain⟨x,hx,hq⟩:=hq;exact leave x hx hq
 | _=>obtain⟨x,hx,hq⟩:=hq;exact hq.elim
def retE (P:Program)(n0:Nat)(rs:List ResultVar){ξ:Type}(X:ξ→Prop)(r:ξ→AV)(Hr:ξ→AH):APost
 | .normal,ev,H=>resK P ev H rs fun l=>∃x,X x∧subA n0 [(0,tupA l)] H [(0,r x)] (Hr x)
 | .ret,ev,H=>resK P ev H rs fun l=>∃x,X x∧subA n0 [(0,tupA l)] H [(0,r x)] (Hr x)
 | _,_,_=>False
theorem resK_ex {P:Program}{ev:AEnv}{H:AH}{ξ:Type}{K:ξ→List AV→Prop}:∀(rs:List ResultVar),resK P ev H rs (fun l=>∃x,K x l)→∃x,resK P ev H rs (K x):=by
 intro rs
 suffices ∀(rs:List ResultVar) (G:List AV→List AV),resK P ev H rs (fun l=>∃x,K x (G l))→∃x,resK P ev H rs (fun l=>K x (G l)) from this rs id
 intro rs
 induction rs with
 | nil=>intro G h;exact h
 | cons r rs ih=>
  intro G h
  cases r with
  | tmp t=>exact ih (fun l=>G (look t ev :: l)) h
  | cell p t=>
   simp only[resK] at h ⊢
   split at h
   ·split at h
    ·obtain⟨h1,h2,h3,v,h4,h5⟩:=h
     obtain⟨x,h6⟩:=ih (fun l=>G (v :: l)) h5
     exact⟨x,h1,h2,h3,v,h4,h6⟩
    ·exact h.elim
   ·exact h.elim
theorem resK_const {P:Program}{ev:AEnv}{H:AH}{p:Prop}:∀(rs:List ResultVar),resK P ev H rs (fun _=>p)→p:=by
 intro rs
 induction rs with
 | nil=>intro hh;exact hh
 | cons r rs ih=>
  intro hh
  cases r with
  | tmp t=>exact ih hh
  | cell p t=>
   simp only[resK] at hh
   split at hh
   ·split at hh
    ·obtain⟨_,_,_,_,_,hh⟩:=hh;exact ih hh
    ·exact hh.elim
   ·exact hh.elim
theorem retE_S {P:Program}{n0:Nat}{rs:List ResultVar}{ξ:Type}{X:ξ→Prop}{r:ξ→AV}{Hr:ξ→AH}(e:Exit)(ev:AEnv)(H:AH)(h:retE P n0 rs X r Hr e ev H):∃x,X x∧retS P n0 rs (r x) (Hr x) e ev H:=by
 cases e <;> first
  | (obtain⟨x,h⟩:=resK_ex rs h
     by_cases hx:X x
     ·exact⟨x,hx,resK_mono _ _ _ (fun l hh=>subS_of hh.2) h⟩
     ·exact absurd (resK_const rs (resK_mono _ _ (fun _=>X x) (fun l hh=>hh.1) h)) hx)
  | exact h.elim
theorem callsE_of {P:Program}{C:Ctr}(hC:CtrOK P C)(hmix:P.follows .mixedOrders=true){mrg:Bool}{dyn:List Nat}{f:FuncId}{fn:Func}{c:Code}{args:List AV}{H:AH}{ξ:Type}{X:ξ→Prop}{r:ξ→AV}{Hr:ξ→AH}
 (hf:P.funcs[f]? =some fn) (hb:fn.body=some c) (hn:args.length≤fn.ntmps) (hok:codeOK P fn.ntmps dyn c=true)
 (h:wpA P C H.length mrg dyn c (retE P H.length fn.results.toList X r Hr) (envOf 0 args) H):CallsE P f args H X r Hr:=
 callsE_ofW hf hb hn fun E hr=>wpA_sound hC hmix c H E _ _ _ none false hr (fun ev H ⟨x,_,h⟩=>h) hok (.inl ⟨rfl,rfl⟩) (wpA_mono _ _ _ _ _ (fun e ev H h=>retE_S e ev H h) h)
end Go.Pg
