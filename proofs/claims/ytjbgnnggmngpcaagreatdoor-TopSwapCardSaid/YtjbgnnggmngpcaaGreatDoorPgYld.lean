/- Pg, part 27: iterators by the layer: code that calls a yield. -/
import Derived.Test.YtjbgnnggmngpcaaGreatDoorPgDat
set_option linter.unusedVariables false
set_option linter.unusedSimpArgs false
set_option linter.unusedSectionVars false
open List renaming getElem?_eq_some_iff → Qa,all_eq_true → Qc
open Array renaming getD_eq_getD_getElem? → Qb
namespace Go.Pg
open Go Go.RowKit
variable [Syms]
def AV.okS:Nat→AV→Bool
 | _,.int _ _=>true
 | _,.bool _=>true
 | _,.str _=>true
 | _,.cst _=>true
 | d+1,.agg cs=>cs.all (okS d)
 | _,_=>false
def AV.conc:Nat→AV→Value
 | _,.int k n=> .int k n
 | _,.bool b=> .bool b
 | _,.str s=> .string ⟨s.toArray⟩
 | _,.cst v=>v
 | d+1,.agg cs=> .agg (cs.map (conc d)).toArray
 | _,_=>Go.undef
theorem conc_eq {E:Env}:∀(d:Nat)(c:AV)(u:Value),VR E c u→c.okS d=true→u=c.conc d:=by
 intro d
 induction d with
 | zero=>
  intro c u h hc
  cases h <;> simp [AV.okS] at hc <;> simp [AV.conc]
 | succ d ih=>
  intro c u h hc
  cases h with
  | int k n=>rfl
  | bool b=>rfl
  | str s=>simp [AV.conc]
  | cst v=>rfl
  | agg cs us hs hv=>
   simp only[AV.okS,Qc] at hc
   simp only[AV.conc]
   congr 1
   refine Array.ext (by simp [hs]) fun i h1 h2=>?_
   have hi:i<cs.length:=by rw[←hs];exact h1
   have:=ih cs[i] _ (hv i cs[i] (by simp [hi])) (hc _ (List.getElem_mem hi))
   simp only[Qb,Array.getElem?_eq_getElem h1,Option.getD_some] at this
   simp [this]
  | _=>simp [AV.okS] at hc
theorem conc_VP {W:World}{st:Nat→Prop}:∀(d:Nat)(c:AV),c.okS d=true→VP W st c (c.conc d):=by
 intro d
 induction d with
 | zero=>
  intro c hc
  cases c <;> simp [AV.okS] at hc <;> simp only[AV.conc]
  ·exact .int _ _
  ·exact .bool _
  ·next s=>simpa using VP.str (W:=W) (st:=st) ⟨s.toArray⟩
  ·exact .cst _
 | succ d ih=>
  intro c hc
  cases c with
  | int k n=>exact .int _ _
  | bool b=>exact .bool _
  | str s=>simpa [AV.conc] using VP.str (W:=W) (st:=st) ⟨s.toArray⟩
  | cst v=>exact .cst _
  | agg cs=>
   simp only[AV.okS,Qc] at hc
   simp only[AV.conc]
   refine .agg cs _ (by simp) fun i c hi=>?_
   have h1:=(Qa.1 hi).1
   have h2:=(Qa.1 hi).2
   have:((cs.map (AV.conc d)).toArray).getD i Go.undef=c.conc d:=by
    simp [Qb,hi]
   rw[this]
   exact ih c (hc c (List.mem_of_getElem? hi))
  | _=>simp [AV.okS] at hc
theorem touch_of {H:AH}{E:Env}(hr:Rel H E){id b:Nat}{o:AO}(h:H[id]? =some o)(hd:o≠ .dead)(hm:E.M id=some (some b)):Touch H E b:=by
 by_cases hl:o.lives=true
 ·exact .inr ⟨id,o,h,hl,hm⟩
 ·have hf:o.fixed=true:=by cases o <;> first | rfl | exact absurd rfl hl | exact absurd rfl hd
  exact .inl (hr.fst' id o b h hf hm)
theorem VR.keepT {H:AH}{E:Env}{B:World}(hr:Rel H E)(hk:∀b,Touch H E b→B.heap[b]? =E.W.heap[b]?){x:AV}{v:Value}(h:VR E x v):VR { E with W:=B } x v:=by
 have hst:∀b,E.st b→B.heap[b]? =E.W.heap[b]?:=fun b hb=>hk b (.inl hb)
 have sl:∀{vs:List AV} {ad:Option Addr} {sz:Nat} {f:Nat→Nat→Value},SlAt E.W E.st vs ad sz f→SlAt B E.st vs ad sz f:=fun hs=>hs.monoW (fun _ h=>h) hst
 induction h with
 | top v=>exact .top v
 | undef=>exact .undef
 | nls=>exact .nls
 | nfn=>exact .nfn
 | npt=>exact .npt
 | yld l=>exact .yld l
 | cst v=>exact .cst v
 | int k n=>exact .int k n
 | bool b=>exact .bool b
 | str s=>exact .str s
 | agg cs us hs _ ih=>exact .agg cs us hs ih
 | tuple cs us hs _ ih=>exact .tuple cs us hs ih
 | sl sz vs a cap f hc hs hv=>exact .sl sz vs a cap f hc (sl hs) (fun i v j c a b=>(hv i v j c a b).mono (fun _ h=>h) hst)
 | slc sz vs a f hs hv=>exact .slc sz vs a f (sl hs) (fun i v j c a b=>(hv i v j c a b).mono (fun _ h=>h) hst)
 | own id sz len a cap hm ha hl=>
  refine .own id sz len a cap hm ha fun L hL=>⟨(hl L hL).1,fun he=>?_⟩
  rcases(hl L hL).2 he with h | ⟨b,c,ty,fz,h1,h2,h3,h4,h5,h6⟩
  ·exact .inl h
  ·refine .inr ⟨b,c,ty,fz,h1,h2,h3,h4,?_,h6⟩
   rw[←h5]
   refine hk b ?_
   rw[hr.hl] at hL
   unfold hlOf at hL
   cases ho:H[id]? with
   | none=>rw[ho] at hL;simp at hL
   | some o=>
    rw[ho] at hL
    exact touch_of hr ho (by rintro rfl;simp [AO.len] at hL) h1
 | ptr id sz len idx off v hm hl=>exact .ptr id sz len idx off v hm hl
 | win id sz tot off len a cap hc hm hl=>exact .win id sz tot off len a cap hc hm hl
 | mp id b hm hl=>exact .mp id b hm hl
 | it id b hm hl=>exact .it id b hm hl
 | rp cs b o f hst' hc hv=>exact .rp cs b o f hst' (fun j c hj=>by rw[cell_of_heap (hst b (hst' (by have:=(Qa.1 hj).1;omega)))];exact hc j c hj) (fun j c hj=>(hv j c hj).mono (fun _ h=>h) hst)
 | fm es b a cl g1 g2 g3 g4 g5 g6=>exact .fm es b a cl g1 ((hst b g1).trans g2) g3 g4 (fun i k x hi=>(g5 i k x hi).mono (fun _ h=>h) hst) (fun i k x hi=>(g6 i k x hi).mono (fun _ h=>h) hst)
 | fn f cap us hs _ ih=>exact .fn f cap us hs ih
 | mth f cap us hs _ ih=>exact .mth f cap us hs ih
 | sym i v hv=>exact .sym i v (hv.mono (fun _ h=>h) hst)
 | ows id sz j v _ ih=>exact .ows id sz j v ih
 | condT a v _ ih=>exact .condT a v ih
 | condF a=>exact .condF a
theorem Rel.keepT {H:AH}{E:Env}{B:World}(hr:Rel H E)(hz:E.W.heap.size≤B.heap.size)(hk:∀b,Touch H E b→B.heap[b]? =E.W.heap[b]?):Rel H { E with W:=B }:=by
 have hst:∀b,E.st b→B.heap[b]? =E.W.heap[b]?:=fun b hb=>hk b (.inl hb)
 have ents:∀{es a},EntsAt E es a→EntsAt { E with W:=B } es a:=fun he=>⟨he.size,fun i k x hi=>let⟨e,h1,h2,h3⟩:=he.ent i k x hi;⟨e,h1,h2.mono (fun _ h=>h) hst,h3.mono (fun _ h=>h) hst⟩⟩
 refine⟨hr.hl,hr.dom,?_,hr.nst',hr.fst',hr.inj',fun b hb=>Nat.lt_of_lt_of_le (hr.stlt b hb) hz⟩
 intro id o m h hm
 have h0:=hr.orow id o m h hm
 have key:∀b,m=some b→o≠ .dead→B.heap[b]? =E.W.heap[b]?:=fun b hb hd=>by subst hb;exact hk b (touch_of hr h hd hm)
 have arow:∀{e sz vs},o≠ .dead→ARow E m e sz vs→ARow { E with W:=B } m e sz vs:=by
  rintro e sz vs hd (h1 | ⟨b,c,fz,h1,h2,h3,h4,h5⟩)
  ·exact .inl h1
  ·refine .inr ⟨b,c,fz,h1,(key b h1 hd).trans h2,h3,h4,fun i v hv=>⟨(h5 i v hv).1,fun j cc hcc=>?_⟩⟩
   obtain⟨u,hu,hvr⟩:=(h5 i v hv).2 j cc hcc
   exact⟨u,hu,hvr.keepT hr hk⟩
 have mrow:∀{es},o≠ .dead→MRow E m es→MRow { E with W:=B } m es:=by
  rintro es hd ⟨b,a,cl,h1,h2,h3,h4⟩
  exact⟨b,a,cl,h1,(key b h1 hd).trans h2,ents h3,h4⟩
 cases o with
 | dead=>trivial
 | arr e sz vs=>exact arow (by simp) h0
 | frz e sz vs=>exact arow (by simp) h0
 | tok i=>exact arow (by simp) h0
 | mp es=>exact mrow (by simp) h0
 | fmp es=>exact mrow (by simp) h0
 | it cur es=>
  obtain⟨b,bm,seen,a,cl,h1,h2,h3,h4,h5,h6,h7⟩:=h0
  exact⟨b,bm,seen,a,cl,h1,(key b h1 (by simp)).trans h2,h3,(hst bm h3).trans h4,ents h5,h6,fun k x hc=>let⟨i,e,k1,k2,k3,k4⟩:=h7 k x hc;⟨i,e,k1,k2,k3.mono (fun _ h=>h) hst,k4.mono (fun _ h=>h) hst⟩⟩
structure AtI (N:Nat) (st0:Nat→Prop) (n0:Nat) (S:Nat→Prop) (ev:AEnv) (H:AH) (E:Env) (a:Act):Prop where
 size:a.tmps.size=N
 defers:a.defers=[]
 env:∀t,VR E (look t ev) (a.tmps.getD t Go.undef)
 rel:Rel H E
 own:∀b,Touch H E b→st0 b∨S b
 st:∀b,st0 b→E.st b
 lo:∀b,S b→n0≤b∧b<E.W.heap.size
 ge:n0≤E.W.heap.size
abbrev JJ (ι:Type):=ι→(Nat→Prop)→World→Prop
def JT {ι:Type}(J Jx:JJ ι):Option ι→(Nat→Prop)→World→Prop
 | some k,S,W=>J k S W
 | none,S,W=>∃k,Jx k S W
structure Lets {ι:Type} (P:Program) (l:Nat) (R:ι→List AV→ι→Prop) (st0:Nat→Prop) (W0:World) (J Jx:JJ ι):Prop where
 own:∀k S A B,J k S A→OwnStep S A B→J k (grow S A B) B
 ownx:∀k S A B,Jx k S A→OwnStep S A B→Jx k (grow S A B) B
 st:∀k S A,J k S A→∀b,st0 b→A.heap[b]? =W0.heap[b]?
 stx:∀k S A,Jx k S A→∀b,st0 b→A.heap[b]? =W0.heap[b]?
 yield:∀(n:Nat) k k' S A x,R k x k'→x.all (AV.okS 4)=true→(∀b,S b→W0.heap.size≤b∧b<A.heap.size)→J k S A→YieldAt Fence.wide n P l (x.map (AV.conc 4)).toArray A fun e B=>(A.heap.size≤B.heap.size∧∀b,S b→B.heap[b]? =A.heap[b]?)∧
  ((e= .returned (.bool true)∧J k' S B)∨(e= .returned (.bool false)∧Jx k' S B))
abbrev YPost (ι:Type):=Exit→Option ι→AEnv→AH→Prop
def YRes {ι:Type}(N:Nat)(st0:Nat→Prop)(n0:Nat)(J Jx:JJ ι)(Q:YPost ι):Exit→Act→World→Prop:=fun e a' w'=>
 ∃T' ev' H' E' S',Q e T' ev' H'∧w'=E'.W∧AtI N st0 n0 S' ev' H' E' a'∧JT J Jx T' S' E'.W
def YWp {ι:Type}(P:Program)(N:Nat)(st0:Nat→Prop)(n0:Nat)(J Jx:JJ ι)(c:Code)(Q:YPost ι)(T:Option ι)(ev:AEnv)(H:AH):Prop:=
 ∀n S E a,AtI N st0 n0 S ev H E a→JT J Jx T S E.W→c.wpIn Fence.wide n P (YRes N st0 n0 J Jx Q) a E.W
section
variable {ι:Type} {P:Program} {N l:Nat} {st0:Nat→Prop} {W0:World} {J Jx:JJ ι} {R:ι→List AV→ι→Prop}
theorem AtI.step (hL:Lets P l R st0 W0 J Jx){S:Nat→Prop}{ev ev':AEnv}{H H':AH}{E E':Env}{a a':Act}{T:Option ι}(h:AtI N st0 W0.heap.size S ev H E a)(hj:JT J Jx T S E.W)
 (hs:a'.tmps.size=N) (hd:a'.defers=[]) (he:∀t,VR E' (look t ev') (a'.tmps.getD t Go.undef)) (hr:Rel H' E') (hst:Step H E H' E') :
 AtI N st0 W0.heap.size (grow S E.W E'.W) ev' H' E' a'∧JT J Jx T (grow S E.W E'.W) E'.W:=by
 have ho:OwnStep S E.W E'.W:=by
  refine⟨hst.mv.os,hst.mv.tape,hst.mv.output,hst.mv.size,fun b hb hS=>hst.mv.keep b hb fun hL=>?_,hst.mv.shape⟩
  rcases h.own b (.inr hL) with h1 | h1
  ·obtain⟨id,o,g1,gl,g2⟩:=hL
   exact h.rel.nst' id o b g1 gl g2 (h.st b h1)
  ·exact hS h1
 have hge:=h.ge
 refine⟨⟨hs,hd,he,hr,fun b hb=>?_,fun b hb=>hst.mv.grow b (h.st b hb),fun b hb=>?_,Nat.le_trans hge hst.mv.size⟩,?_⟩
 ·by_cases hlt:b<E.W.heap.size
  ·exact(h.own b (hst.touch hlt hb)).imp id .inl
  ·exact .inr (.inr ⟨by omega,touch_lt hr hb⟩)
 ·rcases hb with hb | hb
  ·have:=h.lo b hb
   have:=hst.mv.size
   omega
  ·exact⟨by omega,hb.2⟩
 ·cases T with
  | some k=>exact hL.own k S _ _ hj ho
  | none=>obtain⟨k,hk⟩:=hj;exact⟨k,hL.ownx k S _ _ hk ho⟩
theorem JT.still (hL:Lets P l R st0 W0 J Jx){T:Option ι}{S:Nat→Prop}{A:World}(h:JT J Jx T S A):∀b,st0 b→A.heap[b]? =W0.heap[b]?:=by
 cases T with
 | some k=>exact hL.st k S A h
 | none=>obtain⟨k,hk⟩:=h;exact hL.stx k S A hk
theorem YWp.of_wpA (hL:Lets P l R st0 W0 J Jx){C:Ctr}(hC:CtrOK P C)(hmix:P.follows .mixedOrders=true){mrg:Bool}{dyn:List Nat}{c:Code}{Q:YPost ι}{T:Option ι}{ev:AEnv}{H:AH}
 (hno:∀ev H,¬Q .outgrown T ev H) (hok:codeOK P N dyn c=true) (hnr:noRange c=true) (h:wpA P C H.length mrg dyn c (fun e ev' H'=>Q e T ev' H') ev H):YWp P N st0 W0.heap.size J Jx c Q T ev H:=by
 intro n S E a ha hj
 have hat:At N H E ev H E a:=⟨ha.size,by rw[ha.defers];trivial,ha.env,ha.rel,Step.refl _ _⟩
 refine wpIn_mono (wpA_sound hC hmix c H E _ ev H none true ha.rel (fun ev H=>hno ev H) hok (.inr hnr) h n E a hat (fun _=>ha.defers)) fun e a' w' ⟨ev',H',E',hq,hw,ha',hd⟩=>?_
 obtain⟨h1,h2⟩:=ha.step hL hj ha'.size (hd rfl) ha'.env ha'.rel ha'.step
 exact⟨T,ev',H',E',_,hq,hw,h1,h2⟩
def plainO (o:Oper):Oper:={ o with guard:=none }
theorem oper_at {C:Ctr}(hC:CtrOK P C){ev:AEnv}{H:AH}{o:Oper}(hd:dstsOK #[plainO o] N=true)(h:chk P C false ev H (plainO o)){E:Env}{a:Act}(hs:a.tmps.size=N)(hr:Rel H E)(he:∀t,VR E (look t ev) (a.tmps.getD t Go.undef))
 {K:Act→World→Prop} {Q:Exit→Act→World→Prop}
 (hK:∀a' E',a'.tmps.size=N→a'.defers=a.defers→(∀t,VR E' (look t (stepEv o (valV P C ev H (plainO o)) ev)) (a'.tmps.getD t Go.undef))→Rel (heapV P C ev H (plainO o)) E'→Step H E (heapV P C ev H (plainO o)) E'→K a' E'.W):o.wp P a E.W K Q:=by
 have hrun:runOps P C false false #[plainO o] [plainO o] ev H [] (fun ev' H' _=>ev'=stepEv o (valV P C ev H (plainO o)) ev∧H'=heapV P C ev H (plainO o)):=by
  unfold runOps
  have hg:gw #[plainO o] ev (plainO o)=some none:=rfl
  rw[mkG_eq,hg]
  exact⟨rfl,h,rfl,rfl,rfl⟩
 obtain⟨tr,acc,hro,_,_,hev,hH⟩:=runOps_sound hC (by intro h;simp) _ _ _ _ _ hrun
 have hpl:=planOK_mk (N:=N) (ops:= #[plainO o]) hro hd
 have h0:(mkPlan N ev H tr).H 0=H:=by cases tr <;> rfl
 have hseq:=region_seq (Q:=fun e a' w'=>match e with | .normal=>K a' w' | _=>False) (E0:=E) (a0:=a) hpl hs he (by rw[h0];exact hr) (fun a' E' g1 g2 g3 g4 g5=>by
  have hH1:(mkPlan N ev H tr).H 1=heapV P C ev H (plainO o):=hH
  rw[h0] at g5
  rw[show(#[plainO o]:Array Oper).size=1 from rfl] at g3 g4 g5
  rw[hH1] at g4 g5
  refine hK a' E' g1 g2 (fun t=>?_) g4 g5
  have h3:=g3 t
  have e1:=seqEnv_mk (N:=N) hro 1 (Nat.le_refl _) (t:=t)
  rw[e1] at h3
  have e2:evAt [plainO o] tr ev 1=stepEv o (valV P C ev H (plainO o)) ev:=hev
  rw[e2] at h3
  exact h3)
 have:wpOps P #[plainO o] (fun e a' w'=>match e with | .normal=>K a' w' | _=>False) [0] a E.W:=hseq
 rw[wpOps_cons] at this
 unfold wpOp at this
 simp only[List.getElem?_toArray,List.getElem?_cons_zero,Region.wanted,plainO,if_true] at this
 rcases this with h1 | h1
 ·unfold Oper.wp at h1 ⊢
  have e1:execOp a.eval { o with guard:=none }=execOp a.eval o:=rfl
  rw[e1] at h1
  generalize (execOp a.eval o).run P E.W=r at h1
  cases r with
  | ok x w'=>
   cases x with
   | enter f args=>
    rw[Oper.upon_enter] at h1 ⊢
    refine h1.mono fun e w'' he=>?_
    cases e with
    | returned v=>exact he
    | panicked ch=>exact he.elim
    | outgrown=>obtain⟨_,_,hh⟩:=he;exact hh.elim
   | row row args=>exact h1
   | value v=>exact h1
   | skip=>exact h1
   | defer d=>exact h1
   | _=>exact h1.elim
  | halt x w'=>cases x <;> exact h1.elim
 ·obtain⟨_,_,_,hh⟩:=h1
  exact hh.elim
end
end Go.Pg
