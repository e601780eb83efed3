/- Pg, part 17: what the evaluation by simp looks at, and what not. -/
import Derived.Test.YtjbgnnggmngpcaaGreatDoorPgCode
set_option linter.unusedVariables false
set_option linter.unusedSimpArgs false
set_option linter.unusedSectionVars false
open List renaming getD_eq_getElem?_getD → Qa,getElem?_eq_getElem → Qb,getElem?_map → Qc,length_map → Qd
namespace Go.Pg
open Go
variable [Syms]
class Hid (α:Type) where
 val:α
section
variable {P:Program} {C:Ctr} {mrg dyn:Bool} {dl:List Nat} {ops:Array Oper} {ev:AEnv} {H:AH} {acc:Acc} {n0:Nat}
def runH (P:Program)(C:Ctr)(mrg dyn:Bool) [ops:Hid (Array Oper)] [l:Hid (List Oper)] (ev:AEnv)(H:AH)(acc:Acc) [K:Hid (AEnv→AH→Acc→Prop)]:Prop:=
 runOps P C mrg dyn ops.val l.val ev H acc K.val
def gselH (g:Option (Option Bool)) [a:Hid Prop] [b:Hid (Bool→Prop)]:Prop:=gsel g a.val b.val
def kselH (k:Nat) [a:Hid Prop] [b:Hid Prop] [c:Hid Prop]:Prop:=ksel k a.val b.val c.val
def bsel (t:Bool)(a b:Prop):Prop:=match t with | true=>a | false=>b
def bselH (t:Bool) [a:Hid Prop] [b:Hid Prop]:Prop:=bsel t a.val b.val
def cselH (c:AV) [a:Hid Prop] [b:Hid Prop]:Prop:=csel c a.val b.val
def wpH (P:Program)(C:Ctr)(n0:Nat)(mrg:Bool)(dl:List Nat) [c:Hid Code] [Q:Hid APost] (ev:AEnv)(H:AH):Prop:=wpA P C n0 mrg dl c.val Q.val ev H
def loopH (n0:Nat) [W:Hid (APost→AEnv→AH→Prop)] [Q:Hid APost] (ev:AEnv)(H:AH):Prop:=LoopA n0 W.val Q.val ev H
theorem wpA_H {c:Code}{Q:APost}:wpA P C n0 mrg dl c Q ev H= @wpH _ P C n0 mrg dl ⟨c⟩ ⟨Q⟩ ev H:=(rfl)
theorem wpH_skip {Q:APost}: @wpH _ P C n0 mrg dl ⟨.skip⟩ ⟨Q⟩ ev H=Q .normal ev H:=(rfl)
theorem wpH_ret {Q:APost}: @wpH _ P C n0 mrg dl ⟨.ret⟩ ⟨Q⟩ ev H=Q .ret ev H:=(rfl)
theorem wpH_exit {id:Nat}{Q:APost}: @wpH _ P C n0 mrg dl ⟨.exit id⟩ ⟨Q⟩ ev H=Q (.exit id) ev H:=(rfl)
theorem wpH_seq {x y:Code}{Q:APost}: @wpH _ P C n0 mrg dl ⟨.seq x y⟩ ⟨Q⟩ ev H= @wpH _ P C n0 mrg dl ⟨x⟩ ⟨thenA (wpA P C n0 mrg dl y Q) Q⟩ ev H:=(rfl)
theorem wpH_cond {c:Operand}{x y:Code}{Q:APost}: @wpH _ P C n0 mrg dl ⟨.cond c x y⟩ ⟨Q⟩ ev H =
 @cselH (opnd ev c) ⟨@wpH _ P C n0 mrg dl ⟨x⟩ ⟨Q⟩ ev H⟩ ⟨@wpH _ P C n0 mrg dl ⟨y⟩ ⟨Q⟩ ev H⟩:=(rfl)
theorem wpH_block {id:Nat}{b:Code}{Q:APost}: @wpH _ P C n0 mrg dl ⟨.block id b⟩ ⟨Q⟩ ev H= @wpH _ P C n0 mrg dl ⟨b⟩ ⟨blockA id Q⟩ ev H:=(rfl)
theorem wpH_loop {b:Code}{Q:APost}: @wpH _ P C n0 mrg dl ⟨.loop b⟩ ⟨Q⟩ ev H= @loopH n0 ⟨wpA P C n0 mrg dl b⟩ ⟨Q⟩ ev H:=(rfl)
def regH (P:Program)(C:Ctr)(n0:Nat)(mrg:Bool)(dl:List Nat)(id:Nat)(l:List Oper)(draw:Bool) [Q:Hid APost] (ev:AEnv)(H:AH):Option (Operand×Tmp×Tmp)→Prop
 | some (x,t,t')=>draw=false∧nextA (opnd ev x) t t' (Q.val .normal) ev H
 | none=> @bselH (dl.contains id) ⟨@runH _ P C false true ⟨l.toArray⟩ ⟨l⟩ ev H [] ⟨fun ev' H' acc=>(draw=true→dynOrd (mkMs l.toArray) acc.reverse=true)∧Q.val .normal ev' H'⟩⟩
  ⟨@runH _ P (selC draw C) mrg false ⟨l.toArray⟩ ⟨l⟩ ev H [] ⟨fun ev' H' _=>Q.val .normal ev' H'⟩⟩
theorem wpH_region {id:Nat}{l:List Oper}{draw:Bool}{Q:APost}: @wpH _ P C n0 mrg dl ⟨.region id l.toArray draw⟩ ⟨Q⟩ ev H= @regH _ P C n0 mrg dl id l draw ⟨Q⟩ ev H (nextF l):=by
 show regN P C mrg (dl.contains id) l.toArray draw ev H (Q .normal)=_
 unfold regN
 have e:nextF l.toArray.toList=nextF l:=rfl
 rw[e]
 cases nextF l with
 | some p=>obtain⟨x,t,t'⟩:=p;rfl
 | none=>
  show runOps P (selC (draw && !(dl.contains id)) C) (mrg && !(dl.contains id)) (dl.contains id) l.toArray l ev H [] _=bsel (dl.contains id) (runOps P C false true l.toArray l ev H [] _) (runOps P (selC draw C) mrg false l.toArray l ev H [] _)
  cases dl.contains id <;> cases draw <;> simp [bsel,selC]
theorem regH_none {id:Nat}{l:List Oper}{draw:Bool}{Q:APost}: @regH _ P C n0 mrg dl id l draw ⟨Q⟩ ev H none= @bselH (dl.contains id) ⟨@runH _ P C false true ⟨l.toArray⟩ ⟨l⟩ ev H [] ⟨fun ev' H' acc=>(draw=true→dynOrd (mkMs l.toArray) acc.reverse=true)∧Q .normal ev' H'⟩⟩
 ⟨@runH _ P (selC draw C) mrg false ⟨l.toArray⟩ ⟨l⟩ ev H [] ⟨fun ev' H' _=>Q .normal ev' H'⟩⟩:=(rfl)
theorem regH_some {id:Nat}{l:List Oper}{draw:Bool}{Q:APost}{x:Operand}{t t':Tmp}: @regH _ P C n0 mrg dl id l draw ⟨Q⟩ ev H (some (x,t,t'))=(draw=false∧nextA (opnd ev x) t t' (Q .normal) ev H):=(rfl)
def nextM (o:Option AO)(id:Nat)(t t':Tmp) [K:Hid (AEnv→AH→Prop)] (ev:AEnv)(H:AH):Prop:=match o with
 | some (.it _ es)=>(es=[]→K.val ((t',.bool false) :: (t,.top) :: ev) H)∧∀(j:Nat) k v,es[j]? =some (k,v)→K.val ((t',.bool true) :: (t,.top) :: ev) (H.set id (.it (some (k,v)) (es.eraseIdx j)))
 | _=>False
theorem nextA_it {id:Nat}{t t':Tmp}{K:AEnv→AH→Prop}:nextA (.it id) t t' K ev H= @nextM H[id]? id t t' ⟨K⟩ ev H:=(rfl)
theorem bselH_true {a b:Prop}: @bselH true ⟨a⟩ ⟨b⟩=a:=(rfl)
theorem bselH_false {a b:Prop}: @bselH false ⟨a⟩ ⟨b⟩=b:=(rfl)
theorem runH_nil {K:AEnv→AH→Acc→Prop}: @runH _ P C mrg dyn ⟨ops⟩ ⟨[]⟩ ev H acc ⟨K⟩=(roOK dyn H acc=true∧K ev H acc):=(rfl)
def setG (t:Nat)(v:AV):AEnv→AEnv
 | []=>[]
 | (s,x) :: r=>if s=t then(s,v) :: r else(s,x) :: setG t v r
theorem setG_eq {t:Nat}{v:AV}(hv:v≠ .top):∀{ev:AEnv},look t ev=v→setG t v ev=ev
 | [],h=>rfl
 | (s,x) :: r,h=>by
  simp only[look] at h
  simp only[setG]
  by_cases e:t=s
  ·subst e
   simp only[if_true] at h ⊢
   rw[h]
  ·rw[if_neg e] at h
   rw[if_neg (fun e'=>e e'.symm),setG_eq hv h]
def fixG (ops:Array Oper)(ev:AEnv)(o:Oper)(w:Bool):AEnv:=
 match o.guard with
 | none=>ev
 | some (j,wt)=>match dstOf ops j with
  | none=>ev
  | some t=>match look t ev with
   | .bool _=>setG t (.bool (if w then wt else !wt)) ev
   | .cond _ (.bool _)=>if w then setG t (.cond true (.bool wt)) ev else ev
   | _=>ev
theorem fixG_eq {o:Oper}{w:Bool}(h:gw ops ev o=some (some w)):fixG ops ev o w=ev:=by
 unfold gw at h
 unfold fixG
 split
 ·rfl
 ·next j wt hj=>
  rw[hj] at h
  simp only at h
  split
  ·rfl
  ·next t ht=>
   rw[ht] at h
   simp only at h
   split
   ·next b hb=>
    rw[hb] at h
    refine setG_eq (by simp) ?_
    rw[hb]
    simp only[Option.some.injEq] at h
    subst h
    cases wt <;> cases b <;> rfl
   ·next g b hb=>
    rw[hb] at h
    simp only[Option.some.injEq] at h
    subst h
    by_cases hg:(g && if wt=true then b else !b)=true
    ·rw[if_pos hg]
     refine setG_eq (v:= .cond true (.bool wt)) (by simp) ?_
     rw[hb]
     simp only[Bool.and_eq_true] at hg
     rw[hg.1]
     have:=hg.2
     cases wt <;> cases b <;> simp_all
    ·rw[if_neg hg]
   ·rfl
def iselH (t:Bool) [a:Hid Prop] [b:Hid Prop]:Prop:=(t=true→a.val)∧(t=false→b.val)
theorem iselH_true {a b:Prop}: @iselH true ⟨a⟩ ⟨b⟩=a:=by simp [iselH]
theorem iselH_false {a b:Prop}: @iselH false ⟨a⟩ ⟨b⟩=b:=by simp [iselH]
theorem iselH_if {t:Bool}{a b:Prop}: @iselH t ⟨a⟩ ⟨b⟩=((t=true→a)∧(t=false→b)):=(rfl)
theorem runH_cons {o:Oper}{r:List Oper}{K:AEnv→AH→Acc→Prop}: @runH _ P C mrg dyn ⟨ops⟩ ⟨o :: r⟩ ev H acc ⟨K⟩=(roOK dyn H acc=true∧
 @gselH (gw ops ev o)
  ⟨chk P C dyn ev H o∧ @runH _ P C mrg dyn ⟨ops⟩ ⟨r⟩ (stepEv o (valV P C ev H o) ev) (heapV P C ev H o) (footV P C ev H o :: acc) ⟨K⟩⟩
  ⟨fun w=> @kselH (gkind mrg o)
   ⟨(w=true→pickO ev o)∧ @runH _ P C mrg dyn ⟨ops⟩ ⟨r⟩ (stepEv o (.cond w (valV P C ev H o)) ev) H (([],[],[],[]) :: acc) ⟨K⟩⟩
   ⟨(w=true→mergeK P C ev H o)∧ @runH _ P C mrg dyn ⟨ops⟩ ⟨r⟩ (stepEv o (.cond w (valV P C (stripE ev) H o)) ev) H (([],[],[],[]) :: acc) ⟨K⟩⟩
   ⟨@iselH w ⟨chk P C dyn ev H o∧ @runH _ P C mrg dyn ⟨ops⟩ ⟨r⟩ (stepEv o (valV P C ev H o) (fixG ops ev o true)) (heapV P C ev H o) (footV P C ev H o :: acc) ⟨K⟩⟩
    ⟨@runH _ P C mrg dyn ⟨ops⟩ ⟨r⟩ (stepEv o .undef (fixG ops ev o false)) H (([],[],[],[]) :: acc) ⟨K⟩⟩⟩⟩):=by
 have base: @runH _ P C mrg dyn ⟨ops⟩ ⟨o :: r⟩ ev H acc ⟨K⟩=(roOK dyn H acc=true∧
  @gselH (gw ops ev o)
   ⟨chk P C dyn ev H o∧ @runH _ P C mrg dyn ⟨ops⟩ ⟨r⟩ (stepEv o (valV P C ev H o) ev) (heapV P C ev H o) (footV P C ev H o :: acc) ⟨K⟩⟩
   ⟨fun w=> @kselH (gkind mrg o)
    ⟨(w=true→pickO ev o)∧ @runH _ P C mrg dyn ⟨ops⟩ ⟨r⟩ (stepEv o (.cond w (valV P C ev H o)) ev) H (([],[],[],[]) :: acc) ⟨K⟩⟩
    ⟨(w=true→mergeK P C ev H o)∧ @runH _ P C mrg dyn ⟨ops⟩ ⟨r⟩ (stepEv o (.cond w (valV P C (stripE ev) H o)) ev) H (([],[],[],[]) :: acc) ⟨K⟩⟩
    ⟨(w=true→chk P C dyn ev H o∧ @runH _ P C mrg dyn ⟨ops⟩ ⟨r⟩ (stepEv o (valV P C ev H o) ev) (heapV P C ev H o) (footV P C ev H o :: acc) ⟨K⟩)∧
      (w=false→ @runH _ P C mrg dyn ⟨ops⟩ ⟨r⟩ (stepEv o .undef ev) H (([],[],[],[]) :: acc) ⟨K⟩)⟩⟩):=rfl
 rw[base]
 refine congrArg (And _) ?_
 unfold gselH gsel
 cases hg:gw ops ev o with
 | none=>rfl
 | some g=>
  cases g with
  | none=>rfl
  | some w=>
   cases w with
   | true=>
    show ksel (gkind mrg o) _ _ ((true=true→chk P C dyn ev H o∧_)∧(true=false→_))=ksel (gkind mrg o) _ _ (@iselH true ⟨chk P C dyn ev H o∧ @runH _ P C mrg dyn ⟨ops⟩ ⟨r⟩ (stepEv o (valV P C ev H o) (fixG ops ev o true)) (heapV P C ev H o) (footV P C ev H o :: acc) ⟨K⟩⟩ ⟨_⟩)
    rw[fixG_eq hg,iselH_true]
    simp only[Bool.true_eq_false,false_implies,and_true,forall_const]
   | false=>
    show ksel (gkind mrg o) _ _ ((false=true→_)∧(false=false→_))=ksel (gkind mrg o) _ _ (@iselH false ⟨_⟩ ⟨@runH _ P C mrg dyn ⟨ops⟩ ⟨r⟩ (stepEv o .undef (fixG ops ev o false)) H (([],[],[],[]) :: acc) ⟨K⟩⟩)
    rw[fixG_eq hg,iselH_false]
    simp only[Bool.false_eq_true,false_implies,true_and,forall_const]
theorem gselH_plain {a:Prop}{b:Bool→Prop}: @gselH (some none) ⟨a⟩ ⟨b⟩=a:=(rfl)
theorem gselH_if {w:Bool}{a:Prop}{b:Bool→Prop}: @gselH (some (some w)) ⟨a⟩ ⟨b⟩=b w:=(rfl)
theorem kselH_0 {a b c:Prop}: @kselH 0 ⟨a⟩ ⟨b⟩ ⟨c⟩=a:=(rfl)
theorem kselH_1 {a b c:Prop}: @kselH 1 ⟨a⟩ ⟨b⟩ ⟨c⟩=b:=(rfl)
theorem kselH_2 {a b c:Prop}: @kselH 2 ⟨a⟩ ⟨b⟩ ⟨c⟩=c:=(rfl)
theorem cselH_bool {t:Bool}{a b:Prop}: @cselH (.bool t) ⟨a⟩ ⟨b⟩= @iselH t ⟨a⟩ ⟨b⟩:=(rfl)
theorem thenA_normal {K:AEnv→AH→Prop}{Q:APost}:thenA K Q .normal ev H=K ev H:=rfl
theorem thenA_exit {K:AEnv→AH→Prop}{Q:APost}{i:Nat}:thenA K Q (.exit i) ev H=Q (.exit i) ev H:=rfl
theorem thenA_ret {K:AEnv→AH→Prop}{Q:APost}:thenA K Q .ret ev H=Q .ret ev H:=rfl
theorem blockA_normal {id:Nat}{Q:APost}:blockA id Q .normal ev H=Q .normal ev H:=rfl
theorem blockA_ret {id:Nat}{Q:APost}:blockA id Q .ret ev H=Q .ret ev H:=rfl
theorem blockA_exit {id i:Nat}{Q:APost}:blockA id Q (.exit i) ev H=if i=id then Q .normal ev H else Q (.exit i) ev H:=by
 simp only[blockA];split <;> rfl
end
theorem getD_map {α β:Type}(f:α→β)(l:List α)(i:Nat)(d:α):(l.map f).getD i (f d)=f (l.getD i d):=by
 simp [Qa,Qc]
theorem getD_str (l:List (List UInt8))(i:Nat):(l.map AV.str).getD i (.str [])= .str (l.getD i []):=getD_map _ _ _ _
theorem pickOK_nil {al:List Bool}:pickOK 0 [] al=true:=by simp [pickOK]
theorem pickOK_one {x:Option Nat}{al:List Bool}:pickOK 0 [x] al=true:=by
 simp [pickOK]
theorem loopH_intro {P:Program}{C:Ctr}{n0:Nat}{mrg:Bool}{dyn:List Nat}{b:Code}{Q:APost}{ev:AEnv}{H:AH}{α:Type}(st:α→AEnv×AH)(pre:α→Prop)(μ:α→Nat)(x0:α)(h0:pre x0)
 (hs:subA n0 ev H (st x0).1 (st x0).2)
 (hr:∀x,pre x→wpA P C n0 mrg dyn b (thenA (fun ev' H'=>∃y,pre y∧μ y<μ x∧subA n0 ev' H' (st y).1 (st y).2) Q) (st x).1 (st x).2): @loopH n0 ⟨wpA P C n0 mrg dyn b⟩ ⟨Q⟩ ev H:=
 ⟨α,st,pre,μ,⟨x0,h0,subS_of hs⟩,fun x hx=>wpA_mono _ _ _ _ _ (thenA_mono (fun _ _ ⟨y,h1,h2,h3⟩=>⟨y,h1,h2,subS_of h3⟩) (fun _ _ _ h=>h)) (hr x hx)⟩
def rangG (P:Program)(C:Ctr)(n0:Nat)(mrg:Bool)(dl:List Nat)(ps:List Tmp)(xs:Tell) [a:Hid Code] [b:Hid Code] [Q:Hid APost] (ev:AEnv)(H:AH):Prop:=
 RangeA n0 (fun m=>wpA P C m mrg dl a.val) (fun m=>wpA P C m mrg dl b.val) ps xs Q.val ev H
def rangH (P:Program)(C:Ctr)(n0:Nat)(mrg:Bool)(dl:List Nat)(g:AV)(ps:List Tmp) [a:Hid Code] [b:Hid Code] [Q:Hid APost] (ev:AEnv)(H:AH):Prop:=
 rangeT C g H fun xs H'=> @rangG _ P C n0 mrg dl ps xs a b Q ev H'
def rangR (P:Program)(C:Ctr)(n0:Nat)(mrg:Bool)(dl:List Nat)(fid:Nat)(r:Option (List AV×List Nat))(ps:List Tmp) [a:Hid Code] [b:Hid Code] [Q:Hid APost] (ev:AEnv)(H:AH):Prop:=
 match r with
 | some (as,ids)=>iterC fid as (fun xs=> @rangG _ P C n0 mrg dl ps xs a b Q ev (freeze ids H)) C
 | none=>False
section
variable {P:Program} {C:Ctr} {mrg:Bool} {dl:List Nat} {n0:Nat} {ev:AEnv} {H:AH}
theorem wpH_range {g:Operand}{ps:Array Tmp}{x y:Code}{Q:APost}: @wpH _ P C n0 mrg dl ⟨.rangeFunc g ps x y⟩ ⟨Q⟩ ev H= @rangH _ P C n0 mrg dl (opnd ev g) ps.toList ⟨x⟩ ⟨y⟩ ⟨Q⟩ (mark ev) H:=(rfl)
theorem rangH_fn {fid:Nat}{cap:List AV}{ps:List Tmp}{x y:Code}{Q:APost}: @rangH _ P C n0 mrg dl (.fn fid cap) ps ⟨x⟩ ⟨y⟩ ⟨Q⟩ ev H= @rangR _ P C n0 mrg dl fid (resL (res8 H) cap) ps ⟨x⟩ ⟨y⟩ ⟨Q⟩ ev H:=by
 unfold rangH rangeT rangR
 simp only
 cases resL (res8 H) cap <;> rfl
theorem rangR_some {fid:Nat}{as:List AV}{ids:List Nat}{ps:List Tmp}{x y:Code}{Q:APost}: @rangR _ P C n0 mrg dl fid (some (as,ids)) ps ⟨x⟩ ⟨y⟩ ⟨Q⟩ ev H=iterC fid as (fun xs=> @rangG _ P C n0 mrg dl ps xs ⟨x⟩ ⟨y⟩ ⟨Q⟩ ev (freeze ids H)) C:=(rfl)
theorem parE_cons {p:Tmp}{ps:List Tmp}{x:AV}{xs:List AV}:parE (p :: ps) (x :: xs)=(p,x) :: parE ps xs:=(rfl)
theorem parE_nil:parE [] []=[]:=(rfl)
def rqH (m:Nat) [Q:Hid APost] (ev0:AEnv)(p:Prop)(st:AEnv×AH):APost
 | .normal,ev',H'=>p∧subA m ev' H' st.1 st.2
 | .ret,_,H'=>Q.val .ret ev0 H'
 | .exit i,_,H'=>Q.val (.exit i) ev0 H'
 | _,_,_=>False
theorem rqH_normal {m:Nat}{Q:APost}{ev0:AEnv}{p:Prop}{st:AEnv×AH}: @rqH m ⟨Q⟩ ev0 p st .normal ev H=(p∧subA m ev H st.1 st.2):=(rfl)
theorem rqH_ret {m:Nat}{Q:APost}{ev0:AEnv}{p:Prop}{st:AEnv×AH}: @rqH m ⟨Q⟩ ev0 p st .ret ev H=Q .ret ev0 H:=(rfl)
theorem rqH_exit {m:Nat}{Q:APost}{ev0:AEnv}{p:Prop}{st:AEnv×AH}{i:Nat}: @rqH m ⟨Q⟩ ev0 p st (.exit i) ev H=Q (.exit i) ev0 H:=(rfl)
end
theorem rangG_intro {P:Program}{C:Ctr}{n0:Nat}{mrg:Bool}{dyn:List Nat}{x y:Code}{Q:APost}{ps:List Tmp}{xs:List (List AV)}{ev:AEnv}{H:AH}{α:Type}(L:List α)(enc:α→List AV)(d:α)(ev0:AEnv)(Hf:AH)(st:Nat→AEnv×AH)(pre:Nat→Prop)
 (hx:xs=L.map enc) (h0:subA n0 ev H ev0 Hf) (h1:subA Hf.length ev0 Hf (st 0).1 (st 0).2) (hp:pre 0)
 (hl:∀x,(enc x).length=ps.length)
 (hr:∀k,k<L.length→pre k→wpA P C (st k).2.length mrg dyn x (thenA (fun ev' H'=>wpA P C H'.length mrg dyn y (@rqH Hf.length ⟨Q⟩ ev0 (pre (k+1)) (st (k+1))) ev' H') (fun _ _ _=>False)) (parE ps (enc (L.getD k d)) ++ ev0) (st k).2)
 (hf:pre L.length→Q .normal ev0 (st L.length).2): @rangG _ P C n0 mrg dyn ps (Tell.seq xs) ⟨x⟩ ⟨y⟩ ⟨Q⟩ ev H:=by
 refine⟨ev0,Hf,st,pre,subS_of h0,subS_of h1,hp,fun(k:Nat) u (k':Nat) hu=>?_,fun(k:Nat) hk=>?_⟩
 rotate_left
 ·have hk:k=xs.length:=hk
  rw[hk,hx,Qd];exact hf
 obtain⟨hu,rfl⟩:xs[k]? =some u∧k'=k+1:=hu
 have hk:k<L.length:=by
  have:=(List.getElem?_eq_some_iff.1 hu).1
  rwa [hx,Qd] at this
 have e:u=enc (L.getD k d):=by
  rw[hx,Qc,Qb hk] at hu
  rw[Qa,Qb hk]
  simpa using hu.symm
 rw[e]
 refine⟨hl _,fun hpk=>wpA_mono _ _ _ _ _ (thenA_mono (fun ev' H' hh=>wpA_mono _ _ _ _ _ (fun e ev2 H2 hq=>?_) hh) (fun _ _ _ hh=>hh)) (hr k hk hpk)⟩
 cases e <;> first | exact⟨hq.1,subS_of hq.2⟩ | exact hq
theorem rangU_intro {P:Program}{C:Ctr}{n0:Nat}{mrg:Bool}{dyn:List Nat}{x y:Code}{Q:APost}{ps:List Tmp}{X:Tell}{ev:AEnv}{H:AH}(ev0:AEnv)(Hf:AH)(st:X.ι→AEnv×AH)(pre:X.ι→Prop)
 (h0:subA n0 ev H ev0 Hf) (h1:subA Hf.length ev0 Hf (st X.i0).1 (st X.i0).2) (hp:pre X.i0)
 (hl:∀k u k',X.R k u k'→u.length=ps.length)
 (hr:∀k u k',X.R k u k'→pre k→wpA P C (st k).2.length mrg dyn x (thenA (fun ev' H'=>wpA P C H'.length mrg dyn y (@rqH Hf.length ⟨Q⟩ ev0 (pre k') (st k')) ev' H') (fun _ _ _=>False)) (parE ps u ++ ev0) (st k).2)
 (hf:∀k,X.D k→pre k→Q .normal ev0 (st k).2): @rangG _ P C n0 mrg dyn ps X ⟨x⟩ ⟨y⟩ ⟨Q⟩ ev H:=by
 refine⟨ev0,Hf,st,pre,subS_of h0,subS_of h1,hp,fun k u k' hu=>⟨hl k u k' hu,fun hpk=>?_⟩,hf⟩
 refine wpA_mono _ _ _ _ _ (thenA_mono (fun ev' H' hh=>wpA_mono _ _ _ _ _ (fun e ev2 H2 hq=>?_) hh) (fun _ _ _ hh=>hh)) (hr k u k' hu hpk)
 cases e <;> first | exact⟨hq.1,subS_of hq.2⟩ | exact hq
theorem wrap64 {n:Int}(h1: -9223372036854775808≤n)(h2:n≤9223372036854775807):IntKind.i64.wrap n=n:=by
 rw[IntKind.wrap_i64];omega
end Go.Pg
