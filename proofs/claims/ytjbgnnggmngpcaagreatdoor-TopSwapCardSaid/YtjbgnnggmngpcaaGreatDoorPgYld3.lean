/- Pg, part 29: code that calls a yield: the whole of a function's code; an iterator's contract. -/
import Derived.Test.YtjbgnnggmngpcaaGreatDoorPgYldr
set_option linter.unusedVariables false
set_option linter.unusedSimpArgs false
set_option linter.unusedSectionVars false
open Array renaming getD_eq_getD_getElem? → Qa,getElem?_append_left → Qb,replicate → Qe,mem_of_getElem? → Qf
open Bool renaming and_eq_true → Qc
open List renaming all_eq_true → Qd
open Option renaming getD_some → Qg
namespace Go.Pg
open Go Go.RowKit
variable [Syms]
def thenY {ι:Type}(K:YK ι)(Q:YPost ι):YPost ι
 | .normal=>K
 | e=>Q e
def blockY {ι:Type}(id:Nat)(Q:YPost ι):YPost ι
 | .exit i=>if i=id then Q .normal else Q (.exit i)
 | e=>Q e
def regY {ι:Type}(P:Program)(C:Ctr)(l:Nat)(R:ι→List AV→ι→Prop)(mrg dyn yd:Bool)(ops:Array Oper)(draw:Bool)(T:Option ι)(ev:AEnv)(H:AH)(K:YK ι):Prop:=
 match draw with
 | true=>match yd with
  | true=>seqOK ops=true∧runYD P C l R ops ops.toList T ev H K
  | false=>nextF ops.toList=none∧regA P C mrg dyn ops true ev H (K T)
 | false=>match nextF ops.toList with
  | some (x,t,t')=>nextA (opnd ev x) t t' (K T) ev H
  | none=>runY P C l R ops ops.toList T ev H K
def LoopY {ι:Type}(W:YPost ι→Option ι→AEnv→AH→Prop)(Q:YPost ι)(T:Option ι)(ev:AEnv)(H:AH):Prop:=
 ∃(α:Type) (st:α→Option ι×AEnv×AH) (pre:α→Prop) (μ:α→Nat),(∃x,pre x∧T=(st x).1∧subS 0 ev H (st x).2.1 (st x).2.2)∧
  ∀x,pre x→W (thenY (fun T' ev' H'=>∃y,pre y∧μ y<μ x∧T'=(st y).1∧subS 0 ev' H' (st y).2.1 (st y).2.2) Q) (st x).1 (st x).2.1 (st x).2.2
def wpY {ι:Type}(P:Program)(C:Ctr)(l:Nat)(R:ι→List AV→ι→Prop)(mrg:Bool)(dyn:List Nat)(c:Code)(Q:YPost ι)(T:Option ι)(ev:AEnv)(H:AH):Prop:=
 match c with
 | .skip=>Q .normal T ev H
 | .region id ops draw=>regY P C l R mrg (dyn.contains id) (dyn.contains (id+1000000)) ops draw T ev H (Q .normal)
 | .seq x y=>wpY P C l R mrg dyn x (thenY (wpY P C l R mrg dyn y Q) Q) T ev H
 | .cond c x y=>csel (mkG (opnd ev c)) (wpY P C l R mrg dyn x Q T ev H) (wpY P C l R mrg dyn y Q T ev H)
 | .block id b=>wpY P C l R mrg dyn b (blockY id Q) T ev H
 | .loop b=>LoopY (wpY P C l R mrg dyn b) Q T (mark ev) H
 | .exit id=>Q (.exit id) T ev H
 | .ret=>Q .ret T ev H
 | _=>False
termination_by structural c
def endT {ι:Type}(m:ι→Prop):Option ι→Prop
 | none=>True
 | some k=>m k
def endY {ι:Type}(m:ι→Prop):YPost ι
 | .normal,T,_,_=>endT m T
 | .ret,T,_,_=>endT m T
 | _,_,_,_=>False
def NoOutY {ι:Type}(Q:YPost ι):Prop:=∀T ev H,¬Q .outgrown T ev H
theorem NoOutY.thenY {ι:Type}{K:YK ι}{Q:YPost ι}(h:NoOutY Q):NoOutY (Go.Pg.thenY K Q):=fun T ev H hq=>h T ev H hq
theorem NoOutY.blockY {ι:Type}{id:Nat}{Q:YPost ι}(h:NoOutY Q):NoOutY (Go.Pg.blockY id Q):=fun T ev H hq=>h T ev H hq
section
variable {ι:Type} {P:Program} {N l:Nat} {st0:Nat→Prop} {W0:World} {J Jx:JJ ι} {R:ι→List AV→ι→Prop}
theorem AtI.sub {S:Nat→Prop}{n0:Nat}{ev ev':AEnv}{H H':AH}{E:Env}{a:Act}(ha:AtI N st0 n0 S ev H E a)(hs:subS 0 ev H ev' H'):∃E1,E1.W=E.W∧AtI N st0 n0 S ev' H' E1 a:=by
 obtain⟨E1,h1,h2,h3,h4,h5,h6,_⟩:=sub_core ha.rel ha.env hs
 refine⟨E1,h1,ha.size,ha.defers,h3,h2,fun b hb=>ha.own b ?_,fun b hb=>h4 b (ha.st b hb),fun b hb=>by rw[h1];exact ha.lo b hb,by rw[h1];exact ha.ge⟩
 rcases hb with hb | hb
 ·exact h5 b hb
 ·exact .inr (h6 b hb)
theorem wpY_sound (hL:Lets P l R st0 W0 J Jx){C:Ctr}(hC:CtrOK P C)(hmix:P.follows .mixedOrders=true){mrg:Bool}{dyn:List Nat} :
 ∀(c:Code) (Q:YPost ι) (T:Option ι) (ev:AEnv) (H:AH),NoOutY Q→codeOK P N dyn c=true→wpY P C l R mrg dyn c Q T ev H→YWp P N st0 W0.heap.size J Jx c Q T ev H:=by
 intro c
 induction c with
 | skip=>intro Q T ev H _ _ h n S E a ha hj;exact wpIn_skip ⟨T,ev,H,E,S,h,rfl,ha,hj⟩
 | region id ops draw=>
  intro Q T ev H hno hok h
  cases draw with
  | true=>
   have h:regY P C l R mrg (dyn.contains id) (dyn.contains (id+1000000)) ops true T ev H (Q .normal):=h
   unfold regY at h
   cases hyd:dyn.contains (id+1000000) with
   | true=>
    rw[hyd] at h
    simp only[codeOK,regOK,Qc] at hok
    obtain⟨⟨hok1,hnd⟩,_⟩:=hok
    exact regionYD hL hC hmix hok1 (fun i o ho=>Qd.1 hnd o (by simpa using Qf ho)) h.1 h.2
   | false=>
    rw[hyd] at h
    refine YWp.of_wpA hL hC hmix (mrg:=mrg) (dyn:=dyn) (fun ev H=>hno T ev H) hok rfl ?_
    show regN P C mrg (dyn.contains id) ops true ev H _
    unfold regN
    rw[h.1]
    exact h.2
  | false=>
   have h:(match nextF ops.toList with
    | some (x,t,t')=>nextA (opnd ev x) t t' (Q .normal T) ev H
    | none=>runY P C l R ops ops.toList T ev H (Q .normal)):=h
   cases hnx:nextF ops.toList with
   | some q=>
    rw[hnx] at h
    refine YWp.of_wpA hL hC hmix (mrg:=mrg) (dyn:=dyn) (fun ev H=>hno T ev H) hok rfl ?_
    show regN P C mrg (dyn.contains id) ops false ev H _
    unfold regN
    rw[hnx]
    exact⟨rfl,h⟩
   | none=>
   rw[hnx] at h
   intro n S E a ha hj
   simp only[codeOK,regOK,Qc] at hok
   obtain⟨⟨hok1,hnd⟩,_⟩:=hok
   have hnd':∀(i:Nat) (o:Oper),ops[i]? =some o→noDefer o=true:=fun i o ho=>Qd.1 hnd o (by simpa using Qf ho)
   refine wpIn_region ?_
   rw[List.range_eq_range']
   exact runY_sound hL hC hok1 hnd' (fun T' ev' H' S' E' a' g1 g2 g3=>⟨T',ev',H',E',S',g1,rfl,g2,g3⟩) ops.size 0 (by omega) T ev H S E a h ha hj
 | seq x y ihx ihy=>
  intro Q T ev H hno hok h n S E a ha hj
  simp only[codeOK,Qc] at hok
  refine wpIn_seq (wpIn_mono (ihx _ T ev H hno.thenY hok.1 h n S E a ha hj) fun e a' w' ⟨T',ev',H',E',S',hq,hw,ha',hj'⟩=>?_)
  subst hw
  cases e with
  | normal=>exact ihy Q T' ev' H' hno hok.2 hq n S' E' a' ha' hj'
  | _=>exact⟨T',ev',H',E',S',hq,rfl,ha',hj'⟩
 | cond c x y ihx ihy=>
  intro Q T ev H hno hok h n S E a ha hj
  simp only[codeOK,Qc] at hok
  simp only[wpY,csel,mkG] at h
  split at h
  ·next b hb=>
   have hv:=opnd_VR ha.env c
   rw[hb] at hv
   refine wpIn_cond_split (t:=b) hv.bool_inv (fun ht=>ihx Q T ev H hno hok.1 (h.1 ht) n S E a ha hj) (fun hf=>ihy Q T ev H hno hok.2 (h.2 hf) n S E a ha hj)
  ·exact h.elim
 | block id b ih=>
  intro Q T ev H hno hok h n S E a ha hj
  refine wpIn_block (wpIn_mono (ih _ T ev H hno.blockY hok h n S E a ha hj) fun e a' w' ⟨T',ev',H',E',S',hq,hw,ha',hj'⟩=>?_)
  cases e with
  | exit i=>
   simp only[blockY] at hq
   simp only[Exit.inBlock]
   split at hq
   ·next he=>rw[if_pos he];exact⟨T',ev',H',E',S',hq,hw,ha',hj'⟩
   ·next he=>rw[if_neg he];exact⟨T',ev',H',E',S',hq,hw,ha',hj'⟩
  | _=>exact⟨T',ev',H',E',S',hq,hw,ha',hj'⟩
 | loop b ih=>
  intro Q T ev H hno hok h n S E a ha hj
  obtain⟨α,st,pre,μ,⟨x0,hx0,hT0,hs0⟩,hround⟩:=h
  obtain⟨E1,hW1,ha1⟩:=ha.sub hs0
  rw[←hW1]
  refine wpIn_loop_ghost (P:=P) (fun n a w=>∃x S' E',pre x∧μ x=n∧w=E'.W∧AtI N st0 W0.heap.size S' (st x).2.1 (st x).2.2 E' a∧JT J Jx (st x).1 S' E'.W) (μ x0) ⟨x0,S,E1,hx0,rfl,rfl,ha1,by rw[hW1,←hT0];exact hj⟩ ?_
  rintro m a' w' ⟨x,S',E',hx,hn,rfl,ha',hj'⟩
  refine wpIn_mono (ih _ _ _ _ hno.thenY hok (hround x hx) n S' E' a' ha' hj') fun e a2 w2 ⟨T2,ev2,H2,E2,S2,hq,hw,ha2,hj2⟩=>?_
  subst hw
  cases e with
  | normal=>
   obtain⟨y,hy,hlt,hT,hs⟩:=hq
   obtain⟨E3,hW3,ha3⟩:=ha2.sub hs
   exact⟨μ y,by omega,y,S2,E3,hy,rfl,hW3.symm,ha3,by rw[hW3,←hT];exact hj2⟩
  | _=>exact⟨T2,ev2,H2,E2,S2,hq,rfl,ha2,hj2⟩
 | exit id=>intro Q T ev H _ _ h n S E a ha hj;exact wpIn_exit ⟨T,ev,H,E,S,h,rfl,ha,hj⟩
 | ret=>intro Q T ev H _ _ h n S E a ha hj;exact wpIn_ret ⟨T,ev,H,E,S,h,rfl,ha,hj⟩
 | _=>intro Q T ev H _ _ h;exact h.elim
end
theorem itU_of {P:Program}{C:Ctr}(hC:CtrOK P C)(hmix:P.follows .mixedOrders=true){mrg:Bool}{dyn:List Nat}{f:FuncId}{fn:Func}{c:Code}{caps:List AV}{X:Tell}
 (hf:P.funcs[f]? =some fn) (hb:fn.body=some c) (hn:caps.length+1≤fn.ntmps) (hres:fn.results= #[]) (hok:codeOK P fn.ntmps dyn c=true)
 (h:∀l,wpY P C l X.R mrg dyn c (endY X.D) (some X.i0) (envOf 0 (.yld l :: caps)) []):ItR P f caps X:=by
 intro W st lb hst hlb hcaps
 ·intro l J Jx W' hbelow hown hownx hst' hstx hyield hJ0
  have hL:Lets P l X.R st W' J Jx:=by
   refine⟨hown,hownx,hst',hstx,fun n k k' S A x hR hx hS hJ=>?_⟩
   refine hyield n k k' x S A _ hR ⟨by simp,fun j c hj=>?_⟩ hS hJ
   have:((x.map (AV.conc 4)).toArray).getD j Go.undef=c.conc 4:=by
    simp [Qa,hj]
   rw[this]
   exact conc_VP 4 c (Qd.1 hx c (List.mem_of_getElem? hj))
  refine(callsIn_wide (n:=0)).1 (callsIn_of_wp hf hb trivial ?_ rfl)
  let E:Env:={ W:=W',M:=fun _=>none,st:=st,hl:=hlOf [] }
  have hsz:(#[Value.func (.yield l) #[] #[]] ++ lb).size=caps.length+1:=by simp [hlb];omega
  have ha:AtI fn.ntmps st W'.heap.size (fun _=>False) (envOf 0 (.yld l :: caps)) [] E { tmps:=(#[Value.func (.yield l) #[] #[]] ++ lb) ++ Qe (fn.ntmps - (#[Value.func (.yield l) #[] #[]] ++ lb).size) Go.undef,defers:=[] }:=by
   refine⟨by simp only[Array.size_append,Array.size_replicate,hsz] at *;omega,rfl,fun t=>?_,⟨rfl,fun _ _=>rfl,fun id e sz vs h=>by simp at h,fun id e sz vs b h=>by simp at h,fun id e sz vs b h=>by simp at h,fun id id' e sz vs e' sz' vs' b h=>by simp at h,fun b hb=>Nat.lt_of_lt_of_le (hst b hb) hbelow.size⟩,fun b hb=>?_,fun b hb=>hb,fun b hb=>hb.elim,Nat.le_refl _⟩
   ·rw[look_envOf]
    simp only[Nat.zero_le,if_true,Nat.sub_zero]
    cases t with
    | zero=>
     have:((#[Value.func (.yield l) #[] #[]] ++ lb) ++ Qe (fn.ntmps - (#[Value.func (.yield l) #[] #[]] ++ lb).size) Go.undef).getD 0 Go.undef= .func (.yield l) #[] #[]:=by
      simp only[Qa]
      rw[Qb (by rw[hsz];omega),Qb (by simp)]
      rfl
     simp only[this,List.getElem?_cons_zero,Qg]
     exact .yld l
    | succ t=>
     simp only[List.getElem?_cons_succ]
     cases ht:caps[t]? with
     | none=>exact .top _
     | some v=>
      have hlt:t<lb.size:=by rw[hlb];exact(List.getElem?_eq_some_iff.1 ht).1
      have:((#[Value.func (.yield l) #[] #[]] ++ lb) ++ Qe (fn.ntmps - (#[Value.func (.yield l) #[] #[]] ++ lb).size) Go.undef).getD (t+1) Go.undef=lb.getD t Go.undef:=by
       simp only[Qa]
       rw[Qb (by simp;omega),Array.getElem?_append_right (by simp)]
       simp
      simp only[Qg,this]
      exact((hcaps t v ht).mono (W':=W') (st':=st) (fun b hb=>hb) (fun b hb=>hbelow.block b (hst b hb))).vr (E:=E)
   ·rcases hb with hb | ⟨id,o,h1,_⟩
    ·exact .inl hb
    ·simp at h1
  refine wpIn_mono (wpY_sound hL hC hmix c _ _ _ _ (fun T ev H hh=>hh) hok (h l) 0 _ E _ ha hJ0) fun e a' w' ⟨T',ev',H',E',S',hq,hw,ha',hj'⟩=>?_
  subst hw
  have fin:endT X.D T'→a'.defers=[]∧∃v,(results fn a'.tmps).run P E'.W= .ok v E'.W∧((∃v',Ending.returned v= .returned v')∧((∃i S,X.D i∧J i S E'.W)∨∃k S,Jx k S E'.W)):=by
   intro hT
   refine⟨ha'.defers,.tuple #[],by simp [results,hres],⟨_,rfl⟩,?_⟩
   cases T' with
   | none=>obtain⟨k,hk⟩:=hj';exact .inr ⟨k,S',hk⟩
   | some k=>exact .inl ⟨k,S',hT,hj'⟩
  cases e with
  | normal=>exact fin hq
  | ret=>exact fin hq
  | _=>exact hq.elim
theorem itV_of {P:Program}{C:Ctr}(hC:CtrOK P C)(hmix:P.follows .mixedOrders=true){mrg:Bool}{dyn:List Nat}{f:FuncId}{fn:Func}{c:Code}{caps:List AV}{ι:Type}{i0:ι}{R:ι→List AV→ι→Prop}{D:ι→Prop}
 (hf:P.funcs[f]? =some fn) (hb:fn.body=some c) (hn:caps.length+1≤fn.ntmps) (hres:fn.results= #[]) (hok:codeOK P fn.ntmps dyn c=true)
 (h:∀l,wpY P C l R mrg dyn c (endY D) (some i0) (envOf 0 (.yld l :: caps)) []):ItR P f caps ⟨ι,i0,R,D⟩:=
 itU_of (X:=⟨ι,i0,R,D⟩) hC hmix hf hb hn hres hok h
theorem itR_of {P:Program}{C:Ctr}(hC:CtrOK P C)(hmix:P.follows .mixedOrders=true){mrg:Bool}{dyn:List Nat}{f:FuncId}{fn:Func}{c:Code}{caps:List AV}{xs:List (List AV)}
 (hf:P.funcs[f]? =some fn) (hb:fn.body=some c) (hn:caps.length+1≤fn.ntmps) (hres:fn.results= #[]) (hok:codeOK P fn.ntmps dyn c=true) (_hx:∀x∈xs,x.all (AV.okS 4)=true)
 (h:∀l,wpY P C l (seqR xs) mrg dyn c (endY (fun k=>k=xs.length)) (some (0:Nat)) (envOf 0 (.yld l :: caps)) []):ItR P f caps (Tell.seq xs):=
 itU_of (X:=Tell.seq xs) hC hmix hf hb hn hres hok h
end Go.Pg
