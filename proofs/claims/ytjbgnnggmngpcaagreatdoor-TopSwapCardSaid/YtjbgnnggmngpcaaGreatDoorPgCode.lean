/- Pg, part 16: code on abstract states; a function's contract. -/
import Derived.Test.YtjbgnnggmngpcaaGreatDoorPgRng2
import Derived.Deep.LoopGhost
set_option linter.unusedVariables false
set_option linter.unusedSimpArgs false
set_option linter.unusedSectionVars false
open Array renaming getD_eq_getD_getElem? → Qa,getElem?_setIfInBounds_ne → Qc,getElem?_eq_some_iff → Qf,mem_of_getElem? → Ql,replicate → Qo
open Bool renaming and_eq_true → Qb,false_or → Qp
open Nat renaming le_refl → Qd
open List renaming mem_cons_of_mem → Qe,getElem?_eq_some_iff → Qg,all_eq_true → Qh,getElem?_cons_zero → Qi,length_eq_one_iff → Qj,foldl_cons → Qk,getElem?_toArray → Qm,cons_append → Qn,range → Qq
namespace Go.Pg
open Go Go.RowKit
variable [Syms]
abbrev APost:=Exit→AEnv→AH→Prop
def NoOut (Q:APost):Prop:=∀ev H,¬Q .outgrown ev H
def DF (q:Bool)(a:Act):Prop:=q=true→a.defers=[]
def AWp (P:Program)(N:Nat)(H0:AH)(E0:Env)(c:Code)(Q:APost)(ev:AEnv)(H:AH)(rd:Option Nat:=none)(q:Bool:=false):Prop:=
 ∀n E a,At N H0 E0 ev H E a→DF q a→c.wpIn (FW rd) n P (fun e a' w'=>∃ev' H' E',Q e ev' H'∧w'=E'.W∧At N H0 E0 ev' H' E' a'∧DF q a') a E.W
theorem NoOut.lets {N:Nat}{H0:AH}{E0:Env}{q:Bool}{Q:APost}(h:NoOut Q):¬LetsOut (fun e a' w'=>∃ev' H' E',Q e ev' H'∧w'=E'.W∧At N H0 E0 ev' H' E' a'∧DF q a'):=by
 rintro⟨a,w,ev',H',E',hq,_⟩
 exact h ev' H' hq
def thenA (K:AEnv→AH→Prop)(Q:APost):APost
 | .normal=>K
 | e=>Q e
def blockA (id:Nat)(Q:APost):APost
 | .exit i=>if i=id then Q .normal else Q (.exit i)
 | e=>Q e
def selC (b:Bool)(C:Ctr):Ctr:=
 match b with
 | true=>pureC C
 | false=>C
theorem selC_true (C:Ctr):selC true C=pureC C:=(rfl)
theorem selC_false (C:Ctr):selC false C=C:=(rfl)
theorem CtrOK.sel {P:Program}{C:Ctr}(h:CtrOK P C)(b:Bool):CtrOK P (selC b C):=by
 cases b
 ·exact h
 ·exact h.pure
def regA (P:Program)(C:Ctr)(mrg dyn:Bool)(ops:Array Oper)(draw:Bool)(ev:AEnv)(H:AH)(K:AEnv→AH→Prop):Prop:=
 runOps P (selC (draw && !dyn) C) (mrg && !dyn) dyn ops ops.toList ev H [] fun ev' H' acc=>(dyn=true→draw=true→dynOrd (mkMs ops) acc.reverse=true)∧K ev' H'
def regOK (P:Program)(N:Nat)(dyn:Bool)(ops:Array Oper)(draw:Bool):Bool:=
 dstsOK ops N && ops.toList.all noDefer && (!draw || (slotsOK ops (mkMs ops) && (dyn || statOrd P ops (mkMs ops))))
def nextG (ops:List Oper):Option (Operand×Tmp×Tmp):=
 match ops with
 | [⟨some t,.next x false,_,_,_,none⟩,⟨some t',.extract (.tmp s) 0,_,_,_,none⟩]=>if s=t then some (x,t,t') else none
 | _=>none
def isNext (o:Oper):Bool:=
 match o.op with
 | .next _ _=>true
 | _=>false
def nextF (ops:List Oper):Option (Operand×Tmp×Tmp):=
 match ops with
 | o :: r=>if isNext o=true then nextG (o :: r) else none
 | []=>none
theorem nextF_G {ops:List Oper}{p:Operand×Tmp×Tmp}(h:nextF ops=some p):nextG ops=some p:=by
 unfold nextF at h
 split at h
 ·split at h
  ·exact h
  ·cases h
 ·cases h
def nextA (x:AV)(t t':Tmp)(K:AEnv→AH→Prop)(ev:AEnv)(H:AH):Prop:=
 match x with
 | .it id=>match H[id]? with
  | some (.it _ es)=>(es=[]→K ((t',.bool false) :: (t,.top) :: ev) H)∧∀(j:Nat) k v,es[j]? =some (k,v)→K ((t',.bool true) :: (t,.top) :: ev) (H.set id (.it (some (k,v)) (es.eraseIdx j)))
  | _=>False
 | _=>False
def regN (P:Program)(C:Ctr)(mrg dyn:Bool)(ops:Array Oper)(draw:Bool)(ev:AEnv)(H:AH)(K:AEnv→AH→Prop):Prop:=
 match nextF ops.toList with
 | some (x,t,t')=>draw=false∧nextA (opnd ev x) t t' K ev H
 | none=>regA P C mrg dyn ops draw ev H K
def LoopA (n0:Nat)(W:APost→AEnv→AH→Prop)(Q:APost)(ev:AEnv)(H:AH):Prop:=
 ∃(α:Type) (st:α→AEnv×AH) (pre:α→Prop) (μ:α→Nat),(∃x,pre x∧subS n0 ev H (st x).1 (st x).2)∧
  ∀x,pre x→W (thenA (fun ev' H'=>∃y,pre y∧μ y<μ x∧subS n0 ev' H' (st y).1 (st y).2) Q) (st x).1 (st x).2
def csel (c:AV)(a b:Prop):Prop:=
 match c with
 | .bool t=>(t=true→a)∧(t=false→b)
 | _=>False
def parE:List Tmp→List AV→AEnv
 | p :: ps,x :: xs=>(p,x) :: parE ps xs
 | _,_=>[]
def roundQ (m:Nat)(Q:APost)(ev0:AEnv)(p:Prop)(st:AEnv×AH):APost
 | .normal,ev',H'=>p∧subS m ev' H' st.1 st.2
 | .ret,_,H'=>Q .ret ev0 H'
 | .exit i,_,H'=>Q (.exit i) ev0 H'
 | _,_,_=>False
def RangeA (n0:Nat)(WA WB:Nat→APost→AEnv→AH→Prop)(ps:List Tmp)(X:Tell)(Q:APost)(ev:AEnv)(H:AH):Prop:=
 ∃(ev0:AEnv) (Hf:AH) (st:X.ι→AEnv×AH) (pre:X.ι→Prop),subS n0 ev H ev0 Hf∧subS Hf.length ev0 Hf (st X.i0).1 (st X.i0).2∧pre X.i0∧
  (∀k x k',X.R k x k'→x.length=ps.length∧(pre k→WA (st k).2.length (thenA (fun ev' H'=>WB H'.length (roundQ Hf.length Q ev0 (pre k') (st k')) ev' H') (fun _ _ _=>False)) (parE ps x ++ ev0) (st k).2))∧
  (∀k,X.D k→pre k→Q .normal ev0 (st k).2)
def rangeT (C:Ctr)(g:AV)(H:AH)(K:Tell→AH→Prop):Prop:=
 match g with
 | .fn fid cap=>match resL (res8 H) cap with
  | some (as,ids)=>iterC fid as (fun xs=>K xs (freeze ids H)) C
  | none=>False
 | _=>False
def wpA (P:Program)(C:Ctr)(n0:Nat)(mrg:Bool)(dyn:List Nat)(c:Code)(Q:APost)(ev:AEnv)(H:AH):Prop:=
 match c with
 | .skip=>Q .normal ev H
 | .region id ops draw=>regN P C mrg (dyn.contains id) ops draw ev H (Q .normal)
 | .seq x y=>wpA P C n0 mrg dyn x (thenA (wpA P C n0 mrg dyn y Q) Q) ev H
 | .cond c x y=>csel (mkG (opnd ev c)) (wpA P C n0 mrg dyn x Q ev H) (wpA P C n0 mrg dyn y Q ev H)
 | .block id b=>wpA P C n0 mrg dyn b (blockA id Q) ev H
 | .loop b=>LoopA n0 (wpA P C n0 mrg dyn b) Q (mark ev) H
 | .rangeFunc g ps assign body=>rangeT C (mkG (opnd ev g)) H fun xs H'=>RangeA n0 (fun m=>wpA P C m mrg dyn assign) (fun m=>wpA P C m mrg dyn body) ps.toList xs Q (mark ev) H'
 | .exit id=>Q (.exit id) ev H
 | .ret=>Q .ret ev H
 | _=>False
termination_by structural c
def noRange:Code→Bool
 | .seq x y=>noRange x && noRange y
 | .cond _ x y=>noRange x && noRange y
 | .block _ b=>noRange b
 | .loop b=>noRange b
 | .rangeFunc _ _ _ _=>false
 | _=>true
def codeOK (P:Program)(N:Nat)(dyn:List Nat):Code→Bool
 | .region id ops draw=>regOK P N (dyn.contains id) ops draw
 | .seq x y=>codeOK P N dyn x && codeOK P N dyn y
 | .cond _ x y=>codeOK P N dyn x && codeOK P N dyn y
 | .block _ b=>codeOK P N dyn b
 | .loop b=>codeOK P N dyn b
 | .rangeFunc _ ps x y=>codeOK P N dyn x && codeOK P N dyn y && noRange x && noRange y && ps.toList.all (fun p=>decide (p<N)) && decide ps.toList.Nodup
 | _=>true
section
variable {P:Program} {N:Nat} {H0:AH} {E0:Env}
theorem At.drew {ev:AEnv}{H:AH}{E:Env}{a:Act}(h:At N H0 E0 ev H E a)(n:Nat):At N H0 E0 ev H { E with W:={ E.W with drawn:=n } } a:=by
 have hst:Step H E H { E with W:={ E.W with drawn:=n } }:=
  ⟨⟨rfl,rfl,rfl,Qd _,fun _ _ _=>rfl,fun _ c _ _ h=>⟨c,_,h,rfl⟩,fun _ _ h=> .inl h,fun _ h=>h⟩,⟨fun _ h=>h,fun _ L _ h=>⟨L,h,Qd _,fun _=>rfl⟩⟩,fun _ h=> .inl h⟩
 have hx:=hst.ext h.rel
 have hr:=h.rel
 exact⟨h.size,Marks.step h.rel hst h.defers,fun t=>(h.env t).mono hx,⟨hr.hl,hr.dom,fun id o m hh hm=>(hr.orow id o m hh hm).mono hx fun _ _=>rfl,hr.nst',hr.fst',hr.inj',hr.stlt⟩,h.step.trans hst⟩
theorem regA_sound {C:Ctr}(hC:CtrOK P C)(hmix:P.follows .mixedOrders=true){mrg dyn:Bool}{id:Nat}{ops:Array Oper}{draw:Bool}{ev:AEnv}{H:AH}{Q:APost}{rd:Option Nat}{q:Bool}(hQn:NoOut Q)
 (hok:regOK P N dyn ops draw=true) (h:regA P C mrg dyn ops draw ev H (Q .normal)):AWp P N H0 E0 (.region id ops draw) Q ev H rd q:=by
 obtain⟨tr,acc,hrun,hacc,_,hdyn,hQ⟩:=runOps_sound (hC.sel (draw && !dyn)) (by intro h;simp [h]) _ _ _ _ _ h
 simp only[regOK,Qb] at hok
 obtain⟨⟨hok1,hnd⟩,hok2⟩:=hok
 have hnd':∀(i:Nat) (o:Oper),ops[i]? =some o→noDefer o=true:=fun i o ho=>Qh.1 hnd o (by simpa using Ql ho)
 have hpl:=planOK_mk (N:=N) hrun hok1
 have hsz:ops.toList.length=ops.size:=by simp
 rw[hsz] at hQ
 intro n E a ha hdf
 have fin:∀(E1:Env),At N H0 E0 ev H E1 a→∀(a':Act) (E':Env),a'.tmps.size=(mkPlan N ev H tr).N→a'.defers=a.defers→
  (∀t,VR E' (seqEnv ops (mkPlan N ev H tr) ops.size t) (a'.tmps.getD t Go.undef))→Rel ((mkPlan N ev H tr).H ops.size) E'→Step ((mkPlan N ev H tr).H 0) E1 ((mkPlan N ev H tr).H ops.size) E'→
  ∃ev' H' E'',Q .normal ev' H'∧E'.W=E''.W∧At N H0 E0 ev' H' E'' a'∧DF q a':=by
  intro E1 h1 a' E' a1 a2 a3 a4 a5
  have h0:(mkPlan N ev H tr).H 0=H:=by cases tr <;> rfl
  rw[h0] at a5
  refine⟨_,_,E',hQ,rfl,⟨a1,by rw[a2];exact Marks.step h1.rel a5 h1.defers,fun t=>?_,a4,h1.step.trans a5⟩,fun hs=>by rw[a2];exact hdf hs⟩
  rw[←seqEnv_mk (N:=N) hrun ops.size (Qd _)];exact a3 t
 have h0:(mkPlan N ev H tr).H 0=H:=by cases tr <;> rfl
 cases draw with
 | false=>
  refine wpIn_region (wpOps_FW hQn.lets hnd' _ _ _ ?_)
  exact region_seq hpl ha.size ha.env (by rw[h0];exact ha.rel) (fun a' E' a1 a2 a3 a4 a5=>fin E ha a' E' a1 a2 a3 a4 a5)
 | true=>
  simp only[Bool.not_true,Qp,Qb] at hok2
  have hd:=ha.drew (E.W.drawn+1)
  have hord:HeapOrd ops (mkMs ops) (mkPlan N ev H tr):=by
   cases dyn with
   | true=>
    have h1:=hdyn rfl rfl
    rw[hacc rfl] at h1
    exact heapOrd_dyn hrun h1
   | false=>simp only[Qp] at hok2;exact heapOrd_stat hrun (purC_pure C) hok2.2
  refine wpIn_region_any hmix (wpAny_FW hQn.lets hnd' _ _ _ _ ?_)
  exact region_any (E0:={ E with W:={ E.W with drawn:=E.W.drawn+1 } }) hok2.1 hord hpl hd.size hd.env (by rw[h0];exact hd.rel) (fun a' E' a1 a2 a3 a4 a5=>fin _ hd a' E' a1 a2 a3 a4 a5)
theorem At.put' {N:Nat}{H0:AH}{E0:Env}{ev:AEnv}{H:AH}{E:Env}{a:Act}(h:At N H0 E0 ev H E a){t:Nat}(ht:t<N){x:AV}{v:Value}(hv:VR E x v):At N H0 E0 ((t,x) :: ev) H E (a.put (some t) v):=by
 refine⟨by simp [Act.put,h.size],h.defers,fun s=>?_,h.rel,h.step⟩
 simp only[look,Act.put,Qa]
 by_cases e:s=t
 ·subst e
  rw[if_pos rfl]
  simpa [h.size,ht] using hv
 ·rw[if_neg e]
  have h1:=h.env s
  rw[Qa] at h1
  rw[Qc (Ne.symm e)]
  exact h1
theorem regN_sound {C:Ctr}(hC:CtrOK P C)(hmix:P.follows .mixedOrders=true){mrg dyn:Bool}{id:Nat}{ops:Array Oper}{draw:Bool}{ev:AEnv}{H:AH}{Q:APost}{rd:Option Nat}{q:Bool}(hQn:NoOut Q)
 (hok:regOK P N dyn ops draw=true) (h:regN P C mrg dyn ops draw ev H (Q .normal)):AWp P N H0 E0 (.region id ops draw) Q ev H rd q:=by
 unfold regN at h
 split at h
 ·next x t t' hf=>
  obtain⟨rfl,h⟩:=h
  replace hf:=nextF_G hf
  unfold nextG at hf
  split at hf
  ·next t1 x1 ty1 pos1 af1 t2 s ty2 pos2 af2 hops=>
   split at hf
   ·next hs=>
    cases hf
    subst hs
    have hops':ops= #[⟨some s,.next x false,ty1,pos1,af1,none⟩,⟨some t',.extract (.tmp s) 0,ty2,pos2,af2,none⟩]:=by rw[←Array.toList_inj,hops]
    simp only[regOK,Qb] at hok
    obtain⟨⟨hok1,hnd⟩,_⟩:=hok
    have ht:s<N∧t'<N:=by
     rw[hops'] at hok1
     simpa [dstsOK] using hok1
    have hnd':∀(i:Nat) (o:Oper),ops[i]? =some o→noDefer o=true:=fun i o ho=>Qh.1 hnd o (by simpa using Ql ho)
    unfold nextA at h
    split at h
    ·next oid hx=>
     split at h
     ·next cur es ho=>
      intro n E a ha hdf
      refine wpIn_region (wpOps_FW hQn.lets hnd' _ _ _ ?_)
      rw[hops']
      show wpOps P _ _ (Qq 2) a E.W
      rw[show Qq 2=[0,1] from rfl,wpOps_cons]
      unfold wpOp
      simp only[Qm,Qi,Region.wanted,if_true]
      refine .inl ?_
      have hv:=opnd_VR ha.env x
      rw[hx] at hv
      have ext:∀(a1:Act) (E1:Env) (H1:AH) (b:Bool) (us:Array Value),At N H0 E0 ((s,.top) :: ev) H1 E1 a1→a1.defers=a.defers→a1.tmps.getD s Go.undef= .tuple us→us[0]? =some (.bool b)→Q .normal ((t',.bool b) :: (s,.top) :: ev) H1→
       wpOps P #[⟨some s,.next x false,ty1,pos1,af1,none⟩,⟨some t',.extract (.tmp s) 0,ty2,pos2,af2,none⟩] (fun e a' w'=>∃ev' H' E',Q e ev' H'∧w'=E'.W∧At N H0 E0 ev' H' E' a'∧DF q a') [1] a1 E1.W:=by
       intro a1 E1 H1 b us h1 hd1 h2 h3 hQ
       rw[wpOps_cons]
       unfold wpOp
       simp only[Qm,List.getElem?_cons_succ,Qi,Region.wanted,if_true]
       refine .inl (wp_of_value (v:= .bool b) (w':=E1.W) ?_ ?_)
       ·simp [execOp,Act.eval,h2,Instr.extract,h3]
       ·simp only[wpOps]
        exact⟨_,H1,E1,hQ,rfl,h1.put' ht.2 (.bool b),fun hq=>by show a1.defers=[];rw[hd1];exact hdf hq⟩
      rcases next_run (P:=P) ha.rel ho hv ty1 with⟨h1,h2⟩ | ⟨j,k,v,kv,xv,E',h1,h2,h3,h4,h5,h6⟩
      ·refine wp_of_value (v:= .tuple #[.bool false]) (w':=E.W) (by simp only[execOp,Sem.run_bind,h2,Result.andThen,Sem.run_pure,map_eq_pure_bind]) ?_
       refine ext _ E H false #[.bool false] (ha.put' ht.1 (.top _)) rfl ?_ rfl (h.1 h1)
       simp [Act.put,Qa,ha.size,ht.1]
      ·refine wp_of_value (v:= .tuple #[.bool true,kv,xv]) (w':=E'.W) (by simp only[execOp,Sem.run_bind,h2,Result.andThen,Sem.run_pure,map_eq_pure_bind]) ?_
       have hx':=h6.ext ha.rel
       have hat:At N H0 E0 ev (H.set oid (.it (some (k,v)) (es.eraseIdx j))) E' a:=⟨ha.size,Marks.step ha.rel h6 ha.defers,fun u=>(ha.env u).mono hx',h5,ha.step.trans h6⟩
       refine ext _ E' _ true #[.bool true,kv,xv] (hat.put' ht.1 (.top _)) rfl ?_ rfl (h.2 j k v h1)
       simp [Act.put,Qa,ha.size,ht.1]
     ·exact h.elim
    ·exact h.elim
   ·cases hf
  ·cases hf
 ·exact regA_sound hC hmix hQn hok h
theorem NoOut.thenA {K:AEnv→AH→Prop}{Q:APost}(h:NoOut Q):NoOut (Go.Pg.thenA K Q):=fun ev H hq=>h ev H hq
theorem NoOut.blockA {id:Nat}{Q:APost}(h:NoOut Q):NoOut (Go.Pg.blockA id Q):=fun ev H hq=>h ev H hq
theorem Step.keepsFrom {H H':AH}{E E':Env}(hr:Rel H E)(h:Step H E H' E')(B:Nat):KeepsB B E.W E'.W:=by
 refine⟨h.mv.size,fun k o _ ho hn=>?_⟩
 rw[h.mv.keep k (Qf.1 ho).1 ?_,ho]
 rintro⟨id,o',h1,hl,h2⟩
 obtain⟨o2,h3,h4⟩:=bk_orow (hr.orow id o' _ h1 h2) (AO.lives_dead hl)
 rw[ho] at h3;cases h3
 rw[hn] at h4;cases h4
theorem foldl_set_size:∀(l:List (Nat×Value))(t:Array Value),(l.foldl (fun t (p:Nat×Value)=>t.setIfInBounds p.1 p.2) t).size=t.size:=by
 intro l
 induction l with
 | nil=>intro t;rfl
 | cons p l ih=>intro t;rw[Qk,ih];simp
theorem foldl_set_other:∀(l:List (Nat×Value))(t:Array Value)(j:Nat),(∀p∈l,p.1≠j)→(l.foldl (fun t (p:Nat×Value)=>t.setIfInBounds p.1 p.2) t).getD j Go.undef=t.getD j Go.undef:=by
 intro l
 induction l with
 | nil=>intro t j _;rfl
 | cons p l ih=>
  intro t j h
  rw[Qk,ih _ j (fun q hq=>h q (Qe _ hq))]
  simp only[Qa]
  rw[Qc (h p (by simp))]
theorem par_env {E:Env}:∀(ps:List Tmp)(x:List AV)(v:List Value)(t:Array Value)(ev:AEnv),x.length=ps.length→v.length=ps.length→ps.Nodup→(∀p∈ps,p<t.size)→
 (∀(j:Nat) c,x[j]? =some c→VR E c (v.getD j Go.undef))→(∀j,VR E (look j ev) (t.getD j Go.undef))→∀j,VR E (look j (parE ps x ++ ev)) (((ps.zip v).foldl (fun t (p:Nat×Value)=>t.setIfInBounds p.1 p.2) t).getD j Go.undef):=by
 intro ps
 induction ps with
 | nil=>
  intro x v t ev hx hv _ _ _ he j
  cases x with
  | nil=>exact he j
  | cons c x=>simp at hx
 | cons p ps ih=>
  intro x v t ev hx hv hn hp hc he j
  cases x with
  | nil=>simp at hx
  | cons c x=>
   cases v with
   | nil=>simp at hv
   | cons u v=>
    rw[List.zip_cons_cons,Qk]
    simp only[parE,Qn,look]
    rw[List.nodup_cons] at hn
    by_cases e:j=p
    ·subst e
     rw[if_pos rfl,foldl_set_other _ _ _ (fun q hq e=>hn.1 (by
      have:=(List.of_mem_zip (by simpa using hq:(q.1,q.2)∈ps.zip v)).1
      rw[←e];exact this))]
     have h0:=hc 0 c rfl
     have:(t.setIfInBounds j u).getD j Go.undef=u:=by
      rw[Qa]
      simp [hp j (by simp)]
     rw[this]
     exact h0
    ·rw[if_neg e]
     have key:∀ev',(∀i,i≠p→VR E (look i ev') (t.getD i Go.undef))→VR E (look j (parE ps x ++ ev')) (((ps.zip v).foldl (fun t (p:Nat×Value)=>t.setIfInBounds p.1 p.2) (t.setIfInBounds p u)).getD j Go.undef):=by
      intro ev' hev'
      have h1:=ih x v (t.setIfInBounds p u) ((p,.top) :: ev') (by simpa using hx) (by simpa using hv) hn.2 (fun q hq=>by simp;exact hp q (Qe _ hq)) (fun i c' hc'=>by simpa using hc (i+1) c' (by simpa using hc')) (fun i=>by
       simp only[look]
       by_cases e2:i=p
       ·rw[if_pos e2];exact .top _
       ·rw[if_neg e2]
        have:(t.setIfInBounds p u).getD i Go.undef=t.getD i Go.undef:=by
         simp only[Qa]
         rw[Qc (Ne.symm e2)]
        rw[this]
        exact hev' i e2) j
      have hl:look j (parE ps x ++ (p,.top) :: ev')=look j (parE ps x ++ ev'):=by
       clear h1 ih hc hx hv hp hn
       induction parE ps x with
       | nil=>simp only[List.nil_append,look,if_neg e]
       | cons q l ihl=>simp only[Qn,look,ihl]
      rwa [hl] at h1
     exact key ev (fun i _=>he i)
theorem wpA_sound {C:Ctr}(hC:CtrOK P C)(hmix:P.follows .mixedOrders=true){mrg:Bool}{dyn:List Nat} :
 ∀(c:Code) (H0:AH) (E0:Env) (Q:APost) (ev:AEnv) (H:AH) (rd:Option Nat) (q:Bool),Rel H0 E0→NoOut Q→codeOK P N dyn c=true→((rd=none∧q=false)∨noRange c=true)→wpA P C H0.length mrg dyn c Q ev H→AWp P N H0 E0 c Q ev H rd q:=by
 intro c
 induction c with
 | skip=>intro H0 E0 Q ev H rd q h0 hQn _ hr h n E a ha hdf;exact wpIn_skip ⟨ev,H,E,h,rfl,ha,hdf⟩
 | region id ops draw=>intro H0 E0 Q ev H rd q h0 hQn hok hr h;exact regN_sound hC hmix hQn hok h
 | seq x y ihx ihy=>
  intro H0 E0 Q ev H rd q h0 hQn hok hr h n E a ha hdf
  simp only[codeOK,Qb] at hok
  simp only[noRange,Qb] at hr
  refine wpIn_seq (wpIn_mono (ihx H0 E0 _ ev H rd q h0 hQn.thenA hok.1 (hr.imp id (·.1)) h n E a ha hdf) fun e a' w' ⟨ev',H',E',hq,hw,ha',hdf'⟩=>?_)
  subst hw
  cases e with
  | normal=>exact ihy H0 E0 Q ev' H' rd q h0 hQn hok.2 (hr.imp id (·.2)) hq n E' a' ha' hdf'
  | _=>exact⟨ev',H',E',hq,rfl,ha',hdf'⟩
 | cond c x y ihx ihy=>
  intro H0 E0 Q ev H rd q h0 hQn hok hr h n E a ha hdf
  simp only[codeOK,Qb] at hok
  simp only[noRange,Qb] at hr
  simp only[wpA,csel,mkG] at h
  split at h
  ·next b hb=>
   have hv:=opnd_VR ha.env c
   rw[hb] at hv
   refine wpIn_cond_split (t:=b) hv.bool_inv (fun ht=>ihx H0 E0 Q ev H rd q h0 hQn hok.1 (hr.imp id (·.1)) (h.1 ht) n E a ha hdf) (fun hf=>ihy H0 E0 Q ev H rd q h0 hQn hok.2 (hr.imp id (·.2)) (h.2 hf) n E a ha hdf)
  ·exact h.elim
 | block id b ih=>
  intro H0 E0 Q ev H rd q h0 hQn hok hr h n E a ha hdf
  refine wpIn_block (wpIn_mono (ih H0 E0 _ ev H rd q h0 hQn.blockA hok hr h n E a ha hdf) fun e a' w' ⟨ev',H',E',hq,hw,ha'⟩=>?_)
  cases e with
  | exit i=>
   simp only[blockA] at hq
   simp only[Exit.inBlock]
   split at hq
   ·next he=>rw[if_pos he];exact⟨ev',H',E',hq,hw,ha'⟩
   ·next he=>rw[if_neg he];exact⟨ev',H',E',hq,hw,ha'⟩
  | _=>exact⟨ev',H',E',hq,hw,ha'⟩
 | loop b ih=>
  intro H0 E0 Q ev H rd q h0 hQn hok hr h n E a ha hdf
  obtain⟨α,st,pre,μ,⟨x0,hx0,hs0⟩,hround⟩:=h
  obtain⟨E1,hW1,ha1⟩:=ha.sub h0 hs0
  rw[←hW1]
  refine wpIn_loop_ghost (P:=P) (fun n a w=>∃x E',pre x∧μ x=n∧w=E'.W∧At N H0 E0 (st x).1 (st x).2 E' a∧DF q a) (μ x0) ⟨x0,E1,hx0,rfl,rfl,ha1,hdf⟩ ?_
  rintro m a' w' ⟨x,E',hx,hn,rfl,ha',hdf'⟩
  refine wpIn_mono (ih H0 E0 _ _ _ rd q h0 hQn.thenA hok hr (hround x hx) n E' a' ha' hdf') fun e a2 w2 ⟨ev2,H2,E2,hq,hw,ha2,hdf2⟩=>?_
  subst hw
  cases e with
  | normal=>
   obtain⟨y,hy,hlt,hs⟩:=hq
   obtain⟨E3,hW3,ha3⟩:=ha2.sub h0 hs
   exact⟨μ y,by omega,y,E3,hy,rfl,hW3.symm,ha3,hdf2⟩
  | _=>exact⟨ev2,H2,E2,hq,rfl,ha2,hdf2⟩
 | exit id=>intro H0 E0 Q ev H rd q h0 hQn _ hr h n E a ha hdf;exact wpIn_exit ⟨ev,H,E,h,rfl,ha,hdf⟩
 | ret=>intro H0 E0 Q ev H rd q h0 hQn _ hr h n E a ha hdf;exact wpIn_ret ⟨ev,H,E,h,rfl,ha,hdf⟩
 | rangeFunc g ps assign body iha ihb=>
  intro H0 E0 Q ev H rd q h0 hQn hok hr h n E a ha hdf
  obtain⟨rfl,rfl⟩:rd=none∧q=false:=hr.resolve_right (by simp [noRange])
  simp only[codeOK,Qb] at hok
  obtain⟨⟨⟨⟨⟨hok1,hok2⟩,hnr1⟩,hnr2⟩,hpN⟩,hpd⟩:=hok
  have hpd:=of_decide_eq_true hpd
  have hpN:∀p∈ps.toList,p<N:=fun p hp=>of_decide_eq_true (Qh.1 hpN p hp)
  simp only[wpA,mkG,rangeT] at h
  split at h
  case h_2=>exact h.elim
  next fid cap hf=>
  split at h
  case h_2=>exact h.elim
  next as ids hres=>
  obtain⟨hcal,xs,hit,hR⟩:=iterC_sound hC h
  obtain⟨ev0,Hf,st,pre,hs0,hs1,hp0,hround,hfin⟩:=hR
  have hfv:=opnd_VR ha.env g
  rw[hf] at hfv
  obtain⟨us,hfe,hus,husv⟩:=hfv.fn_inv
  obtain⟨E1,hr1,hW1,hM1,hst1⟩:=ha.rel.le (freeze_le ids H)
  have hx1:=hst1.ext ha.rel
  have ha1:At N H0 E0 ev (freeze ids H) E1 a:=⟨ha.size,by rw[hW1];exact ha.defers,fun t=>(ha.env t).mono hx1,hr1,ha.step.trans hst1⟩
  obtain⟨h3,h4⟩:=resL_get _ _ _ hres
  have hcaps:∀(i:Nat) c,as[i]? =some c→VP E1.W E1.st c (us.getD i Go.undef):=by
   intro i c hc
   have hil:i<cap.length:=by rw[←h3];exact(Qg.1 hc).1
   obtain⟨y,k,h5,h6,h7⟩:=h4 i _ (List.getElem?_eq_getElem hil)
   rw[hc] at h6;cases h6
   refine res_sound hr1 8 _ _ k _ h5 ((husv i _ (by simp [hil])).mono hx1) (fun id hid o ho=>freeze_at ids H id o (h7 id hid) ho)
  obtain⟨Eb,hWb,hab,hstb,_⟩:=ha1.sub' h0 hs0
  obtain⟨Es,hWs,has⟩:=(show At N Hf Eb ev0 Hf Eb { a with defers:=[] } from⟨hab.size,trivial,hab.env,hab.rel,Step.refl _ _⟩).sub hab.rel hs1
  have hW:Eb.W=E.W:=hWb.trans hW1
  rw[←hW]
  have eg:∀(args:Array Value) (w:World),(callFunc fid args).run P w= .ok (.enter fid args) w:=by
   intro args w
   unfold cal at hcal
   split at hcal
   ·next fn hfn=>
    simp only[Qb,bne_iff_ne,ne_eq] at hcal
    obtain⟨hn,hb⟩:=hcal
    have hb':¬fn.body=none:=by
     intro hbb;rw[hbb] at hb;cases hb
    simp [callFunc,hfn,hn,hb']
   ·cases hcal
  have hiw:=hit Eb.W E1.st us (fun b hb=>by rw[hWb];exact hr1.stlt b hb) (by rw[hus,h3]) (fun i c hc=>by rw[hWb];exact hcaps i c hc)
  have mem:∀(W:World) (B:Nat) (ds:List Deferred),Marks W B ds→∀d∈ds,∃D,D<W.heap.size∧d={ target:= .collected D,args:= #[] }:=by
   intro W B ds
   induction ds with
   | nil=>intro _ d hd;simp at hd
   | cons d ds ih=>
    rintro⟨⟨D,_,g2,g3,_⟩,g5⟩ d' hd'
    rcases List.mem_cons.1 hd' with rfl | hd'
    ·exact⟨D,(Qf.1 g3).1,g2⟩
    ·exact ih g5 d' hd'
  have older:=mem _ _ _ hab.defers
  have atEnd:∀(D:Nat) (H'':AH) (Ek:Env),Eb.W.heap.size≤D→Ek.W.heap[D]? =some (.deferred (some []))→Rel H'' Ek→Step Hf Eb H'' Ek→At N H0 E0 ev0 H'' Ek { a with defers:={ target:= .collected D,args:= #[] } :: a.defers }:=by
   intro D H'' Ek hD hDk h1 h2
   refine⟨hab.size,⟨⟨D,Nat.le_trans hab.step.mv.size hD,rfl,hDk,fun d' hd'=>?_⟩,Marks.step hab.rel h2 hab.defers⟩,fun t=>(hab.env t).mono (h2.ext hab.rel),h1,hab.step.trans h2⟩
   obtain⟨D',g1,g2⟩:=older d' hd'
   exact⟨D',by omega,g2⟩
  refine range_law (n:=n) (gf:=fid) (lb:=us) (X:=xs) (st:=E1.st) hfe eg hiw (fun i x i' hx=>by rw[(hround i x i' hx).1];simp) (fun b hb=>by rw[hWb];exact hr1.stlt b hb)
   (fun k S W=>pre k∧∃Ek,Ek.W=W∧Rel (st k).2 Ek∧Step Hf Eb (st k).2 Ek∧StC Eb.W.heap.size Ek∧∀b,S b→¬Touch (st k).2 Ek b∧Eb.W.heap.size≤b)
   (fun c S W=>∃e H'' Ek,((c= .ret∧e=Exit.ret)∨∃id,c= .exit id∧e=Exit.exit id)∧Q e ev0 H''∧Ek.W=W∧Rel H'' Ek∧Step Hf Eb H'' Ek∧StC Eb.W.heap.size Ek∧∀b,S b→¬Touch H'' Ek b∧Eb.W.heap.size≤b)
   (fun k S a' W=>∃ev' H' E',wpA P C H'.length mrg dyn body (roundQ Hf.length Q ev0 (pre k) (st k)) ev' H'∧E'.W=W∧a'.tmps.size=N∧a'.defers=[]∧(∀t,VR E' (look t ev') (a'.tmps.getD t Go.undef))∧Rel H' E'∧Step Hf Eb H' E'∧StC Eb.W.heap.size E'∧∀b,S b→¬Touch H' E' b∧Eb.W.heap.size≤b)
   ?_ ?_ ?_ ?_ ?_ ?_ ?_ ⟨hp0,shr Eb.W.heap.size Es,hWs,has.rel.shr _,has.step.shr hab.rel,shr_StC _ _,fun b hb=>hb.elim⟩ ?_ ?_ ?_ ?_
  ·rintro k S A B row ⟨hpk,Ek,rfl,g1,g2,g3,g4⟩ hg hrow
   obtain⟨t1,t2,t3,_⟩:=turn_ok (Qd _) g1 g2 g3 hg (fun r e=>⟨(hrow r e).1,(hrow r e).2.2⟩)
   exact⟨hpk,_,rfl,t1,t2,t3,g4⟩
  ·rintro c S A B row ⟨e,H'',Ek,hce,hq,rfl,g1,g2,g3,g4⟩ hg hrow
   obtain⟨t1,t2,t3,_⟩:=turn_ok (Qd _) g1 g2 g3 hg (fun r e=>⟨(hrow r e).1,(hrow r e).2.2⟩)
   exact⟨e,H'',_,hce,hq,rfl,t1,t2,t3,g4⟩
  ·rintro k S a' A B row ⟨ev',H',E',hq,rfl,g1,g2,g3,g4,g5,g6,g7⟩ hg hrow
   obtain⟨t1,t2,t3,t4⟩:=turn_ok (Qd _) g4 g5 g6 hg (fun r e=>⟨(hrow r e).1,(hrow r e).2.2⟩)
   exact⟨ev',H',_,hq,rfl,g1,g2,fun t=>(g3 t).mono t4,t1,t2,t3,g7⟩
  ·rintro k S A B ⟨hpk,Ek,rfl,g1,g2,g3,g4⟩ ho
   obtain⟨t1,t2,_⟩:=turn_own g1 g2 g4 ho
   have hlt:=fun b=>touch_lt (b:=b) g1
   refine⟨hpk,shr Eb.W.heap.size { Ek with W:=B },rfl,t1.shr _,t2.shr hab.rel,shr_StC _ _,fun b hb=>?_⟩
   rcases hb with hb | hb
   ·exact⟨fun ht=>(g4 b hb).1 (by rcases ht.shr with h | h;exact .inl h;exact .inr h),(g4 b hb).2⟩
   ·refine⟨fun ht=>?_,by have:=g2.mv.size;omega⟩
    have h1:Touch (st k).2 Ek b:=by rcases ht.shr with h | h;exact .inl h;exact .inr h
    have:=hlt b h1
    omega
  ·rintro c S A B ⟨e,H'',Ek,hce,hq,rfl,g1,g2,g3,g4⟩ ho
   obtain⟨t1,t2,_⟩:=turn_own g1 g2 g4 ho
   have hlt:=fun b=>touch_lt (b:=b) g1
   refine⟨e,H'',shr Eb.W.heap.size { Ek with W:=B },hce,hq,rfl,t1.shr _,t2.shr hab.rel,shr_StC _ _,fun b hb=>?_⟩
   rcases hb with hb | hb
   ·exact⟨fun ht=>(g4 b hb).1 (by rcases ht.shr with h | h;exact .inl h;exact .inr h),(g4 b hb).2⟩
   ·refine⟨fun ht=>?_,by have:=g2.mv.size;omega⟩
    have h1:Touch H'' Ek b:=by rcases ht.shr with h | h;exact .inl h;exact .inr h
    have:=hlt b h1
    omega
  ·rintro k S A ⟨_,Ek,rfl,g1,g2,g3,_⟩ b hb
   refine g2.mv.keep b (by rw[hWb];exact hr1.stlt b hb) ?_
   rintro⟨id,o,q1,ql,q2⟩
   exact hab.rel.nst' id o b q1 ql q2 (hstb b hb)
  ·rintro c S A ⟨e,H'',Ek,_,_,rfl,g1,g2,g3,_⟩ b hb
   refine g2.mv.keep b (by rw[hWb];exact hr1.stlt b hb) ?_
   rintro⟨id,o,q1,ql,q2⟩
   exact hab.rel.nst' id o b q1 ql q2 (hstb b hb)
  ·rintro l n k x k' S v W hx hv hSb ⟨hpk,Ek,rfl,g1,g2,g3,g4⟩
   obtain⟨hxl,hA⟩:=hround k x k' hx
   have hA:=hA hpk
   obtain⟨hvs,hvv⟩:=hv
   have hxk:=g2.ext hab.rel
   have hfold:(ps.zip v).foldl (fun t (x:Tmp×Value)=>match x with | (p,v)=>t.setIfInBounds p v) a.tmps=(ps.toList.zip v.toList).foldl (fun t (p:Nat×Value)=>t.setIfInBounds p.1 p.2) a.tmps:=by
    rw[←Array.foldl_toList,Array.toList_zip]
   have hat:At N (st k).2 Ek (parE ps.toList x ++ ev0) (st k).2 Ek { tmps:=(ps.zip v).foldl (fun t (x:Tmp×Value)=>match x with | (p,v)=>t.setIfInBounds p v) a.tmps,defers:=[] }:=by
    refine⟨?_,trivial,?_,g1,Step.refl _ _⟩
    ·show((ps.zip v).foldl _ a.tmps).size=N
     rw[hfold,foldl_set_size];exact hab.size
    ·show ∀t,VR Ek _ (((ps.zip v).foldl _ a.tmps).getD t Go.undef)
     rw[hfold]
     refine par_env _ _ _ _ _ hxl (by rw[Array.length_toList,hvs,hxl]) hpd (fun p hp=>by rw[hab.size];exact hpN p hp) (fun j c hj=>?_) (fun j=>(hab.env j).mono hxk)
     have h5:=(hvv j c hj).mono (W':=Ek.W) (st':=Ek.st) (fun b hb=>g2.mv.grow b (hstb b hb)) (fun b hb=>by
      refine g2.mv.keep b (by rw[hWb];exact hr1.stlt b hb) ?_
      rintro⟨id,o,q1,ql,q2⟩
      exact hab.rel.nst' id o b q1 ql q2 (hstb b hb))
     have h6:=h5.vr
     have:v.toList.getD j Go.undef=v.getD j Go.undef:=by simp [List.getD_eq_getElem?_getD,Qa]
     rw[this];exact h6
   refine wpIn_mono (iha (st k).2 Ek _ _ _ (some l) true g1 (fun ev H hh=>hh) hok1 (.inr hnr1) hA n Ek _ hat (fun _=>rfl)) fun e a' w' ⟨ev',H',E',hq,hw,ha',hdf'⟩=>?_
   subst hw
   have hks:KeepS S Ek.W E'.W:=fun b hb=>ha'.step.mv.keep b (hSb b hb) (fun hL=>(g4 b hb).1 (.inr hL))
   cases e with
   | normal=>exact⟨Step.keepsFrom g1 ha'.step _,hks,ev',H',shr Eb.W.heap.size E',hq,rfl,ha'.size,hdf' rfl,fun t=>(ha'.env t).shr,ha'.rel.shr _,(g2.trans ha'.step).shr hab.rel,shr_StC _ _,fun b hb=>⟨fun ht=>(g4 b hb).1 (ha'.step.touch (hSb b hb) ht.shr),(g4 b hb).2⟩⟩
   | _=>exact hq
  ·rintro l n k S a' W hSb ⟨ev',H',E',hq,rfl,q1,q2,q3,q4,q5,q6,q7⟩
   have hat:At N H' E' ev' H' E' a':=⟨q1,by rw[q2];trivial,q3,q4,Step.refl _ _⟩
   refine wpIn_mono (ihb H' E' _ _ _ (some l) true q4 (fun ev H hh=>hh) hok2 (.inr hnr2) hq n E' a' hat (fun _=>q2)) fun e a2 w2 ⟨ev2,H2,E2,hq2,hw2,ha2,hdf2⟩=>?_
   subst hw2
   have hst2:=q5.trans ha2.step
   have hk2:=Step.keepsFrom q4 ha2.step Eb.W.heap.size
   have hks:KeepS S E'.W E2.W:=fun b hb=>ha2.step.mv.keep b (hSb b hb) (fun hL=>(q7 b hb).1 (.inr hL))
   have ht2:∀b,S b→¬Touch H2 E2 b∧Eb.W.heap.size≤b:=fun b hb=>⟨fun ht=>(q7 b hb).1 (ha2.step.touch (hSb b hb) ht),(q7 b hb).2⟩
   cases e with
   | normal=>
    obtain⟨hpn,hq2⟩:=hq2
    obtain⟨E3,hW3,ha3,_,ht3⟩:=(show At N Hf Eb ev2 H2 E2 a2 from⟨ha2.size,by rw[hdf2 rfl];trivial,ha2.env,ha2.rel,hst2⟩).sub' hab.rel hq2
    exact⟨hk2,hks,hpn,shr Eb.W.heap.size E3,hW3,ha3.rel.shr _,ha3.step.shr hab.rel,shr_StC _ _,fun b hb=>⟨fun ht=>(ht2 b hb).1 (ht3 b ht.shr),(ht2 b hb).2⟩⟩
   | ret=>exact⟨hk2,hks,.ret,H2,shr Eb.W.heap.size E2,.inl ⟨rfl,rfl⟩,hq2,rfl,ha2.rel.shr _,hst2.shr hab.rel,shr_StC _ _,fun b hb=>⟨fun ht=>(ht2 b hb).1 ht.shr,(ht2 b hb).2⟩⟩
   | exit id=>exact⟨hk2,hks,.exit id,H2,shr Eb.W.heap.size E2,.inr ⟨id,rfl,rfl⟩,hq2,rfl,ha2.rel.shr _,hst2.shr hab.rel,shr_StC _ _,fun b hb=>⟨fun ht=>(ht2 b hb).1 ht.shr,(ht2 b hb).2⟩⟩
   | _=>exact hq2
  ·rintro D k S W hD hXD ⟨hpk,Ek,rfl,g1,g2,g3,_⟩ hDk
   exact⟨ev0,_,Ek,hfin k hXD hpk,rfl,atEnd D _ Ek hD hDk g1 g2,fun hh=>by cases hh⟩
  ·rintro D c S W hD ⟨e,H'',Ek,hce,hq,rfl,g1,g2,g3,_⟩ hDk
   rcases hce with⟨rfl,rfl⟩ | ⟨id,rfl,rfl⟩
   ·exact wpIn_ret ⟨ev0,_,Ek,hq,rfl,atEnd D _ Ek hD hDk g1 g2,fun hh=>by cases hh⟩
   ·exact wpIn_exit ⟨ev0,_,Ek,hq,rfl,atEnd D _ Ek hD hDk g1 g2,fun hh=>by cases hh⟩
 | scope=>intro H0 E0 Q ev H rd q h0 hQn _ hr h;exact h.elim
 | label=>intro H0 E0 Q ev H rd q h0 hQn _ hr h;exact h.elim
 | goto=>intro H0 E0 Q ev H rd q h0 hQn _ hr h;exact h.elim
 | refuse=>intro H0 E0 Q ev H rd q h0 hQn _ hr h;exact h.elim
end
def envOf:Nat→List AV→AEnv
 | _,[]=>[]
 | i,v :: r=>(i,v) :: envOf (i+1) r
def resK (P:Program)(ev:AEnv)(H:AH):List ResultVar→(List AV→Prop)→Prop
 | [],K=>K []
 | .tmp t :: r,K=>resK P ev H r fun l=>K (look t ev :: l)
 | .cell p t :: r,K=>match look p ev with
  | .ptr id sz len idx off=>match objAt H id with
   | some (e,sz',vs)=>sz'=sz∧vs.length=len∧idx<vs.length∧∃v,ldCells P t (vs.getD idx (dz P e)).cells off=some v∧resK P ev H r fun l=>K (v :: l)
   | none=>False
  | _=>False
def tupA:List AV→AV
 | [v]=>v
 | l=> .tuple l
def retS (P:Program)(n0:Nat)(rs:List ResultVar)(r:AV)(Hr:AH):APost
 | .normal,ev,H=>resK P ev H rs fun l=>subS n0 [(0,tupA l)] H [(0,r)] Hr
 | .ret,ev,H=>resK P ev H rs fun l=>subS n0 [(0,tupA l)] H [(0,r)] Hr
 | _,_,_=>False
def retA (P:Program)(n0:Nat)(rs:List ResultVar)(r:AV)(Hr:AH):APost
 | .normal,ev,H=>resK P ev H rs fun l=>subA n0 [(0,tupA l)] H [(0,r)] Hr
 | .ret,ev,H=>resK P ev H rs fun l=>subA n0 [(0,tupA l)] H [(0,r)] Hr
 | _,_,_=>False
theorem resK_mono {P:Program}{ev:AEnv}{H:AH}:∀(rs:List ResultVar)(K K':List AV→Prop),(∀l,K l→K' l)→resK P ev H rs K→resK P ev H rs K':=by
 intro rs
 induction rs with
 | nil=>intro K K' hk h;exact hk _ h
 | cons r rs ih=>
  intro K K' hk h
  cases r with
  | tmp t=>exact ih _ _ (fun l=>hk _) h
  | cell p t=>
   simp only[resK] at h ⊢
   split at h
   ·split at h
    ·obtain⟨h1,h2,h3,v,h4,h5⟩:=h
     exact⟨h1,h2,h3,v,h4,ih _ _ (fun l=>hk _) h5⟩
    ·exact h.elim
   ·exact h.elim
theorem retA_S {P:Program}{n0:Nat}{rs:List ResultVar}{r:AV}{Hr:AH}(e:Exit)(ev:AEnv)(H:AH)(h:retA P n0 rs r Hr e ev H):retS P n0 rs r Hr e ev H:=by
 cases e <;> first | exact resK_mono _ _ _ (fun l=>subS_of) h | exact h
theorem runOps_mono {P:Program}{C:Ctr}{mrg dyn:Bool}{ops:Array Oper}{K K':AEnv→AH→Acc→Prop}(hk:∀ev H acc,K ev H acc→K' ev H acc) :
 ∀(l:List Oper) (ev:AEnv) (H:AH) (acc:Acc),runOps P C mrg dyn ops l ev H acc K→runOps P C mrg dyn ops l ev H acc K':=by
 intro l
 induction l with
 | nil=>intro ev H acc h;exact⟨h.1,hk _ _ _ h.2⟩
 | cons o r ih=>
  intro ev H acc h
  unfold runOps at h ⊢
  refine⟨h.1,?_⟩
  replace h:=h.2
  unfold gsel at h ⊢
  split at h
  ·exact h.elim
  ·exact⟨h.1,ih _ _ _ h.2⟩
  ·unfold ksel at h ⊢
   split at h
   ·exact⟨h.1,ih _ _ _ h.2⟩
   ·exact⟨h.1,ih _ _ _ h.2⟩
   ·exact⟨fun hw=>⟨(h.1 hw).1,ih _ _ _ (h.1 hw).2⟩,fun hw=>ih _ _ _ (h.2 hw)⟩
theorem thenA_mono {K K':AEnv→AH→Prop}{Q Q':APost}(hk:∀ev H,K ev H→K' ev H)(hq:∀e ev H,Q e ev H→Q' e ev H):∀e ev H,thenA K Q e ev H→thenA K' Q' e ev H:=by
 intro e ev H h
 cases e <;> first | exact hk _ _ h | exact hq _ _ _ h
theorem iterC_mono {f:FuncId}{as:List AV}{K K':Tell→Prop}(hk:∀xs,K xs→K' xs):∀{C:Ctr},iterC f as K C→iterC f as K' C:=by
 intro C
 induction C with
 | nil=>intro h;exact h
 | cons p r ih=>
  intro h
  simp only[iterC] at h ⊢
  split
  ·next e=>rw[if_pos e] at h;exact⟨h.1,h.2.1,h.2.2.1,hk _ h.2.2.2⟩
  ·next e=>rw[if_neg e] at h;exact ih h
theorem rangeT_mono {C:Ctr}{g:AV}{H:AH}{K K':Tell→AH→Prop}(hk:∀xs H',K xs H'→K' xs H')(h:rangeT C g H K):rangeT C g H K':=by
 unfold rangeT at h ⊢
 split
 ·next fid cap=>
  simp only at h
  split
  ·next as ids hres=>
   rw[hres] at h
   exact iterC_mono (fun xs=>hk xs _) h
  ·next hres=>rw[hres] at h;exact h.elim
 ·next hg=>
  split at h
  ·next fid cap=>exact absurd rfl (hg fid cap)
  ·exact h
theorem roundQ_mono {m:Nat}{Q Q':APost}{ev0:AEnv}{p:Prop}{st:AEnv×AH}(hq:∀e ev H,Q e ev H→Q' e ev H):∀e ev H,roundQ m Q ev0 p st e ev H→roundQ m Q' ev0 p st e ev H:=by
 intro e ev H h
 cases e <;> first | exact hq _ _ _ h | exact h
theorem wpA_mono' {P:Program}{C:Ctr}{mrg:Bool}{dyn:List Nat}:∀(c:Code)(n0:Nat)(Q Q':APost)(ev:AEnv)(H:AH),(∀e ev H,Q e ev H→Q' e ev H)→wpA P C n0 mrg dyn c Q ev H→wpA P C n0 mrg dyn c Q' ev H:=by
 intro c
 induction c with
 | skip=>intro n0 Q Q' ev H hq h;exact hq _ _ _ h
 | region id ops draw=>
  intro n0 Q Q' ev H hq h
  simp only[wpA,regN] at h ⊢
  split
  ·next x t t' hf=>
   rw[hf] at h
   refine⟨h.1,?_⟩
   have h2:=h.2
   unfold nextA at h2 ⊢
   split
   ·next oid hx=>
    rw[hx] at h2
    simp only at h2
    split
    ·next cur es ho=>
     rw[ho] at h2
     exact⟨fun he=>hq _ _ _ (h2.1 he),fun j k v hj=>hq _ _ _ (h2.2 j k v hj)⟩
    ·next hn=>
     split at h2
     ·next cur es ho=>exact absurd ho (hn cur es)
     ·exact h2
   ·next hn=>
    split at h2
    ·next oid hx=>exact absurd hx (hn oid)
    ·exact h2
  ·next hf=>
   rw[hf] at h
   exact runOps_mono (fun _ _ _ h=>⟨h.1,hq _ _ _ h.2⟩) _ _ _ _ h
 | seq x y ihx ihy=>intro n0 Q Q' ev H hq h;exact ihx _ _ _ _ _ (thenA_mono (fun _ _ h=>ihy _ _ _ _ _ hq h) hq) h
 | cond c x y ihx ihy=>
  intro n0 Q Q' ev H hq h
  simp only[wpA,csel,mkG] at h ⊢
  split at h
  ·exact⟨fun ht=>ihx _ _ _ _ _ hq (h.1 ht),fun ht=>ihy _ _ _ _ _ hq (h.2 ht)⟩
  ·exact h.elim
 | block id b ih=>
  intro n0 Q Q' ev H hq h
  refine ih _ _ _ _ _ (fun e ev H h=>?_) h
  cases e with
  | exit i=>
   simp only[blockA] at h ⊢
   split at h
   ·next he=>rw[if_pos he];exact hq _ _ _ h
   ·next he=>rw[if_neg he];exact hq _ _ _ h
  | _=>exact hq _ _ _ h
 | loop b ih=>
  intro n0 Q Q' ev H hq h
  obtain⟨α,st,pre,μ,h0,hr⟩:=h
  exact⟨α,st,pre,μ,h0,fun x hx=>ih _ _ _ _ _ (thenA_mono (fun _ _ h=>h) hq) (hr x hx)⟩
 | exit id=>intro n0 Q Q' ev H hq h;exact hq _ _ _ h
 | ret=>intro n0 Q Q' ev H hq h;exact hq _ _ _ h
 | rangeFunc g ps assign body iha ihb=>
  intro n0 Q Q' ev H hq h
  refine rangeT_mono (fun xs H' hR=>?_) h
  obtain⟨ev0,Hf,st,pre,s0,s1,p0,hr,hf⟩:=hR
  exact⟨ev0,Hf,st,pre,s0,s1,p0,fun k x k' hx=>⟨(hr k x k' hx).1,fun hpk=>iha _ _ _ _ _ (thenA_mono (fun ev H h=>ihb _ _ _ _ _ (roundQ_mono hq) h) (fun _ _ _ h=>h)) ((hr k x k' hx).2 hpk)⟩,fun k hk hp=>hq _ _ _ (hf k hk hp)⟩
 | _=>intro n0 Q Q' ev H hq h;exact h.elim
theorem wpA_mono {P:Program}{C:Ctr}{n0:Nat}{mrg:Bool}{dyn:List Nat}(c:Code)(Q Q':APost)(ev:AEnv)(H:AH)(hq:∀e ev H,Q e ev H→Q' e ev H)(h:wpA P C n0 mrg dyn c Q ev H):wpA P C n0 mrg dyn c Q' ev H:=wpA_mono' c n0 Q Q' ev H hq h
theorem look_envOf (t:Nat):∀(l:List AV)(i:Nat),look t (envOf i l)=if i≤t then(l[t - i]?).getD .top else .top:=by
 intro l
 induction l with
 | nil=>intro i;simp [envOf,look]
 | cons v l ih=>
  intro i
  simp only[envOf,look]
  by_cases h:t=i
  ·subst h;simp
  ·rw[if_neg h,ih]
   by_cases h1:i≤t
   ·rw[if_pos (show i+1≤t by omega),if_pos h1]
    rw[show t - i=(t - (i+1))+1 by omega]
    simp
   ·rw[if_neg h1,if_neg (by omega)]
def rvRun (tmps:Array Value):ResultVar→Sem Value
 | .tmp t=>pure (tmps.getD t undef)
 | .cell a t=>do loadVar t (←asAddr (tmps.getD a undef))
theorem resK_run {P:Program}{N:Nat}{H0:AH}{E0:Env}{ev:AEnv}{H:AH}{E:Env}{a:Act}(ha:At N H0 E0 ev H E a):∀(rs:List ResultVar)(K:List AV→Prop),resK P ev H rs K→
 ∃(l:List AV) (vs:List Value),K l∧(rs.mapM (rvRun a.tmps)).run P E.W= .ok vs E.W∧vs.length=l.length∧∀(i:Nat) x,l[i]? =some x→VR E x (vs.getD i Go.undef):=by
 intro rs
 induction rs with
 | nil=>intro K h;exact⟨[],[],h,rfl,rfl,fun i x h=>by simp at h⟩
 | cons r rs ih=>
  intro K h
  have fin:∀(x:AV) (v:Value),VR E x v→(rvRun a.tmps r).run P E.W= .ok v E.W→resK P ev H rs (fun l=>K (x :: l))→
   ∃(l:List AV) (vs:List Value),K l∧((r :: rs).mapM (rvRun a.tmps)).run P E.W= .ok vs E.W∧vs.length=l.length∧∀(i:Nat) x,l[i]? =some x→VR E x (vs.getD i Go.undef):=by
   intro x v hv hr h
   obtain⟨l,vs,h1,h2,h3,h4⟩:=ih _ h
   refine⟨x :: l,v :: vs,h1,by rw[List.mapM_cons];simp only[Sem.run_bind,hr,Result.andThen_ok,h2,Sem.run_pure],by simp [h3],fun i y hy=>?_⟩
   cases i with
   | zero=>simp at hy;subst hy;exact hv
   | succ i=>simpa using h4 i y (by simpa using hy)
  cases r with
  | tmp t=>exact fin _ _ (ha.env t) (by simp [rvRun]) h
  | cell p t=>
   simp only[resK] at h
   split at h
   ·next id sz len idx off hp=>
    split at h
    ·next e sz' vs ho=>
     obtain⟨rfl,hlen,hlt0,V,hV,h⟩:=h
     have hy:vs[idx]? =some (vs.getD idx (dz P e)):=by simp [hlt0]
     have h1:=ha.env p
     rw[hp] at h1
     obtain⟨b,hb,hav,hysz,c,fz,hw,_,hc,hv⟩:=ptr_read ha.rel h1 ho hlen hy
     obtain⟨v,h2,h3⟩:=load_run hV (E:=E) (b:=b) (o:=idx * sz') (fun j cc hj=>by
      obtain⟨u,h1,h2⟩:=hv j cc hj
      exact⟨u,by simp [World.cell?,hw,h1],h2⟩)
     exact fin V v h2 (by simp only[rvRun,hav,asAddr,Sem.run_bind,Sem.run_pure,Result.andThen_ok,h3]) h
    ·exact h.elim
   ·exact h.elim
theorem results_run {P:Program}{w:World}{tmps:Array Value}{fn:Func}{vs:List Value}(h:(fn.results.toList.mapM (rvRun tmps)).run P w= .ok vs w) :
 (results fn tmps).run P w= .ok (if h:vs.length=1 then vs[0] else .tuple vs.toArray) w:=by
 have e:results fn tmps=(do let vs ←fn.results.mapM (rvRun tmps);pure (if h:vs.size=1 then vs[0] else .tuple vs)):=by
  unfold results rvRun;rfl
 rw[e,Array.mapM_eq_mapM_toList]
 simp only[map_eq_pure_bind,Sem.run_bind,h,Result.andThen_ok,Sem.run_pure,bind_assoc,pure_bind]
 simp
theorem Marks.putObj {W:World}{B D:Nat}{o:Obj}:∀{ds:List Deferred},Marks W B ds→(∀d∈ds,∃D',D'<D∧d={ target:= .collected D',args:= #[] })→Marks (W.putObj D o) B ds:=by
 intro ds
 induction ds with
 | nil=>intro _ _;trivial
 | cons d ds ih=>
  rintro⟨⟨D1,h1,h2,h3,h4⟩,h5⟩ h
  obtain⟨D',g1,g2⟩:=h d (by simp)
  have e:D1=D':=by
   rw[h2] at g2
   simpa using g2
  exact⟨⟨D1,h1,h2,(World.putObj_heap_other (by omega)).trans h3,h4⟩,ih h5 (fun d' hd'=>h d' (Qe _ hd'))⟩
theorem leaves_marks {P:Program}{fn:Func}{N n:Nat}{H0:AH}{E0:Env}{ev:AEnv}{H:AH}{R:Ending→World→Prop}:∀(ds:List Deferred)(E:Env)(tm:Array Value),
 At N H0 E0 ev H E { tmps:=tm,defers:=ds }→StC E0.W.heap.size E→(∀E2,At N H0 E0 ev H E2 { tmps:=tm,defers:=[] }→∃v,(results fn tm).run P E2.W= .ok v E2.W∧R (.returned v) E2.W)→
 LeavesInM Fence.wide n P fn tm R ds .returning E.W:=by
 intro ds
 induction ds with
 | nil=>intro E tm ha hc h;exact h E ha
 | cons d ds ih=>
  intro E tm ha hc h
  obtain⟨⟨D,h1,h2,h3,h4⟩,h5⟩:=ha.defers
  have hrow:∀r,some D=some r→E0.W.heap.size≤r∧∃o:Obj,E.W.heap[r]? =some o∧bk o=true:=fun r e=>by
   cases e
   exact⟨h1,_,h3,rfl⟩
  obtain⟨t1,t2,t3,t4⟩:=turn_ok (Qd _) ha.rel ha.step hc (grownBy_putObj' E.W D (.deferred none)) hrow
  refine⟨by simp,.inl ⟨D,E.W.putObj D (.deferred none),by rw[h2],run_takeDeferred h3,?_⟩⟩
  exact ih { E with W:=E.W.putObj D (.deferred none) } tm ⟨ha.size,Marks.putObj h5 h4,fun t=>(ha.env t).mono t4,t1,t2⟩ t3 h
theorem callsR_ofW {P:Program}{f:FuncId}{fn:Func}{c:Code}{args:List AV}{H:AH}{r:AV}{Hr:AH}
 (hf:P.funcs[f]? =some fn) (hb:fn.body=some c) (hn:args.length≤fn.ntmps)
 (h:∀E,Rel H E→AWp P fn.ntmps H E c (retS P H.length fn.results.toList r Hr) (envOf 0 args) H):CallsR P f args H r Hr:=by
 intro E vals hr hvs
 refine(callsIn_wide (n:=0)).1 (callsIn_of_wp_marks hf hb trivial ?_ rfl)
 have hat:At fn.ntmps H E (envOf 0 args) H E { tmps:=vals ++ Qo (fn.ntmps - vals.size) Go.undef,defers:=[] }:=by
  refine⟨by simp [hvs.1];omega,trivial,fun t=>?_,hr,Step.refl _ _⟩
  rw[look_envOf]
  simp only[Nat.zero_le,if_true,Nat.sub_zero]
  cases ht:args[t]? with
  | none=>exact .top _
  | some v=>
   have hlt:t<vals.size:=by rw[hvs.1];exact(Qg.1 ht).1
   have:=hvs.2 t v ht
   have e:(vals ++ Qo (fn.ntmps - vals.size) Go.undef).getD t Go.undef=vals.getD t Go.undef:=by
    simp only[Qa]
    rw[Array.getElem?_append_left hlt]
   simp only[Option.getD_some]
   rw[e];exact this
 have fin:∀{ev':AEnv} {H':AH} {E':Env} {a':Act},(resK P ev' H' fn.results.toList fun l=>subS H.length [(0,tupA l)] H' [(0,r)] Hr)→At fn.ntmps H E ev' H' E' a'→
  ∃v,(results fn a'.tmps).run P E'.W= .ok v E'.W∧∃v' E2,Ending.returned v= .returned v'∧E2.W=E'.W∧VR E2 r v'∧Rel Hr E2∧Step H E Hr E2:=by
  intro ev' H' E' a' hs ha
  obtain⟨l,vs,hsub,hrun,hlen,hvr⟩:=resK_run ha _ _ hs
  have hv:=results_run hrun
  generalize hvv:(if h:vs.length=1 then vs[0] else Value.tuple vs.toArray)=v at hv
  refine⟨v,hv,v,?_⟩
  have htup:VR E' (tupA l) v:=by
   rw[←hvv]
   have gen:VR E' (.tuple l) (.tuple vs.toArray):= .tuple _ _ (by simpa using hlen) fun i c hc=>by
    have:=hvr i c hc
    simpa [Qa] using this
   by_cases h1:vs.length=1
   ·rw[dif_pos h1]
    clear hsub hrun hv gen hvv
    obtain⟨x,rfl⟩:=Qj.1 (hlen.symm.trans h1)
    obtain⟨v,rfl⟩:=Qj.1 h1
    simpa [tupA] using hvr 0 x rfl
   ·rw[dif_neg h1]
    have:tupA l= .tuple l:=by
     unfold tupA
     split
     ·simp at hlen;exact absurd hlen h1
     ·rfl
    rw[this];exact gen
  have h1:At 1 H E [(0,tupA l)] H' E' { tmps:= #[v],defers:=[] }:=by
   refine⟨rfl,trivial,fun t=>?_,ha.rel,ha.step⟩
   simp only[look]
   split
   ·next ht=>subst ht;exact htup
   ·exact .top _
  obtain⟨E2,hW,h2⟩:=h1.sub hr hsub
  refine⟨E2,rfl,hW,?_,h2.rel,h2.step⟩
  have:=h2.env 0
  simpa [look] using this
 refine wpIn_mono (h E hr 0 E _ hat (fun hh=>by cases hh)) fun e a' w' ⟨ev',H',E',hq,hw,ha,_⟩=>?_
 subst hw
 have leave:(resK P ev' H' fn.results.toList fun l=>subS H.length [(0,tupA l)] H' [(0,r)] Hr)→LeavesInM Fence.wide 0 P fn a'.tmps (fun e W'=>∃v E',e=Ending.returned v∧E'.W=W'∧VR E' r v∧Rel Hr E'∧Step H E Hr E') a'.defers .returning E'.W:=by
  intro hk
  have hs:At fn.ntmps H E ev' H' (shr E.W.heap.size E') a':=⟨ha.size,ha.defers,fun t=>(ha.env t).shr,ha.rel.shr _,ha.step.shr hr⟩
  exact leaves_marks (fn:=fn) a'.defers (shr E.W.heap.size E') a'.tmps hs (shr_StC _ _) (fun E2 h2=>fin (a':={ tmps:=a'.tmps,defers:=[] }) hk h2)
 cases e with
 | normal=>exact leave hq
 | ret=>exact leave hq
 | _=>exact hq.elim
theorem callsR_ofS {P:Program}{C:Ctr}(hC:CtrOK P C)(hmix:P.follows .mixedOrders=true){mrg:Bool}{dyn:List Nat}{f:FuncId}{fn:Func}{c:Code}{args:List AV}{H:AH}{r:AV}{Hr:AH}
 (hf:P.funcs[f]? =some fn) (hb:fn.body=some c) (hn:args.length≤fn.ntmps) (hok:codeOK P fn.ntmps dyn c=true)
 (h:wpA P C H.length mrg dyn c (retS P H.length fn.results.toList r Hr) (envOf 0 args) H):CallsR P f args H r Hr:=
 callsR_ofW hf hb hn fun E hr=>wpA_sound hC hmix c H E _ _ _ none false hr (fun ev H h=>h) hok (.inl ⟨rfl,rfl⟩) h
theorem AWp.seq {P:Program}{N:Nat}{H0:AH}{E0:Env}{x y:Code}{Q:APost}{ev:AEnv}{H:AH}(h:AWp P N H0 E0 x (thenA (AWp P N H0 E0 y Q) Q) ev H):AWp P N H0 E0 (.seq x y) Q ev H:=by
 intro n E a ha hdf
 refine wpIn_seq (wpIn_mono (h n E a ha hdf) fun e a' w' ⟨ev',H',E',hq,hw,ha',hdf'⟩=>?_)
 subst hw
 cases e with
 | normal=>exact hq n E' a' ha' hdf'
 | _=>exact⟨ev',H',E',hq,rfl,ha',hdf'⟩
theorem At.put {P:Program}{N:Nat}{H0:AH}{E0:Env}{ev:AEnv}{H:AH}{E:Env}{a:Act}(h:At N H0 E0 ev H E a){t:Nat}(ht:t<N){x:AV}{v:Value}(hv:VR E x v):At N H0 E0 ((t,x) :: ev) H E (a.put (some t) v):=by
 refine⟨by simp [Act.put,h.size],h.defers,fun s=>?_,h.rel,h.step⟩
 simp only[look,Act.put,Qa]
 by_cases e:s=t
 ·subst e
  rw[if_pos rfl]
  simpa [h.size,ht] using hv
 ·rw[if_neg e]
  have h1:=h.env s
  rw[Qa] at h1
  rw[Qc (Ne.symm e)]
  exact h1
theorem callsR_of {P:Program}{C:Ctr}(hC:CtrOK P C)(hmix:P.follows .mixedOrders=true){mrg:Bool}{dyn:List Nat}{f:FuncId}{fn:Func}{c:Code}{args:List AV}{H:AH}{r:AV}{Hr:AH}
 (hf:P.funcs[f]? =some fn) (hb:fn.body=some c) (hn:args.length≤fn.ntmps) (hok:codeOK P fn.ntmps dyn c=true)
 (h:wpA P C H.length mrg dyn c (retA P H.length fn.results.toList r Hr) (envOf 0 args) H):CallsR P f args H r Hr:=
 callsR_ofS hC hmix hf hb hn hok (wpA_mono _ _ _ _ _ (fun e ev H h=>retA_S e ev H h) h)
end Go.Pg
