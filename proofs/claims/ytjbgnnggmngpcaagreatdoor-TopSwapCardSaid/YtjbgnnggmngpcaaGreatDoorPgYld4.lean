/- Pg, part 30: code that calls a yield: what the evaluation by simp looks at. -/
import Derived.Test.YtjbgnnggmngpcaaGreatDoorPgYld3
set_option linter.unusedVariables false
set_option linter.unusedSimpArgs false
set_option linter.unusedSectionVars false
namespace Go.Pg
open Go
variable [Syms]
section
variable {ι:Type} {P:Program} {C:Ctr} {l:Nat} {R:ι→List AV→ι→Prop}
theorem yieldK_mono {T:Option ι}{y:Nat×List AV}{K K':Option ι→Bool→Prop}(hk:∀T b,K T b→K' T b)(h:yieldK l R T y K):yieldK l R T y K':=by
 unfold yieldK at h ⊢
 split at h
 ·obtain⟨h1,h2,k',h3,h4,h5⟩:=h;exact⟨h1,h2,k',h3,hk _ _ h4,hk _ _ h5⟩
 ·exact h.elim
theorem oneY_mono {o:Oper}{T:Option ι}{ev:AEnv}{H:AH}{K K':YK ι}(hk:∀T ev H,K T ev H→K' T ev H)(h:oneY P C l R o T ev H K):oneY P C l R o T ev H K':=by
 unfold oneY ysel at h ⊢
 split at h
 ·exact⟨h.1,hk _ _ _ h.2⟩
 ·exact yieldK_mono (fun _ _ h=>hk _ _ _ h) h
theorem runY_mono {ops:Array Oper}{K K':YK ι}(hk:∀T ev H,K T ev H→K' T ev H):∀(r:List Oper)(T:Option ι)(ev:AEnv)(H:AH),runY P C l R ops r T ev H K→runY P C l R ops r T ev H K':=by
 intro r
 induction r with
 | nil=>intro T ev H h;exact hk _ _ _ h
 | cons o r ih=>
  intro T ev H h
  unfold runY gsel at h ⊢
  split at h
  ·exact h.elim
  ·exact oneY_mono (fun _ _ _ h=>ih _ _ _ h) h
  ·exact⟨fun hw=>oneY_mono (fun _ _ _ h=>ih _ _ _ h) (h.1 hw),fun hw=>ih _ _ _ (h.2 hw)⟩
theorem runYD_mono {ops:Array Oper}{K K':YK ι}(hk:∀T ev H,K T ev H→K' T ev H):∀(r:List Oper)(T:Option ι)(ev:AEnv)(H:AH),runYD P C l R ops r T ev H K→runYD P C l R ops r T ev H K':=by
 intro r
 induction r with
 | nil=>intro T ev H h;exact hk _ _ _ h
 | cons o r ih=>
  intro T ev H h
  unfold runYD gsel at h ⊢
  split at h
  ·exact h.elim
  ·exact⟨h.1,oneY_mono (fun _ _ _ h=>ih _ _ _ h) h.2⟩
  ·exact⟨fun hw=>⟨(h.1 hw).1,oneY_mono (fun _ _ _ h=>ih _ _ _ h) (h.1 hw).2⟩,fun hw=>ih _ _ _ (h.2 hw)⟩
theorem thenY_mono {K K':YK ι}{Q Q':YPost ι}(hk:∀T ev H,K T ev H→K' T ev H)(hq:∀e T ev H,Q e T ev H→Q' e T ev H):∀e T ev H,thenY K Q e T ev H→thenY K' Q' e T ev H:=by
 intro e T ev H h
 cases e <;> first | exact hk _ _ _ h | exact hq _ _ _ _ h
theorem nextA_mono {x:AV}{t t':Tmp}{K K':AEnv→AH→Prop}{ev:AEnv}{H:AH}(hk:∀ev H,K ev H→K' ev H)(h:nextA x t t' K ev H):nextA x t t' K' ev H:=by
 unfold nextA at h ⊢
 split at h
 ·split at h
  ·exact⟨fun he=>hk _ _ (h.1 he),fun j k v hj=>hk _ _ (h.2 j k v hj)⟩
  ·exact h.elim
 ·exact h.elim
theorem wpY_mono {mrg:Bool}{dyn:List Nat}:∀(c:Code)(Q Q':YPost ι)(T:Option ι)(ev:AEnv)(H:AH),(∀e T ev H,Q e T ev H→Q' e T ev H)→wpY P C l R mrg dyn c Q T ev H→wpY P C l R mrg dyn c Q' T ev H:=by
 intro c
 induction c with
 | skip=>intro Q Q' T ev H hq h;exact hq _ _ _ _ h
 | region id ops draw=>
  intro Q Q' T ev H hq h
  cases draw with
  | true=>
   have h:regY P C l R mrg (dyn.contains id) (dyn.contains (id+1000000)) ops true T ev H (Q .normal):=h
   show regY P C l R mrg (dyn.contains id) (dyn.contains (id+1000000)) ops true T ev H (Q' .normal)
   unfold regY at h ⊢
   cases hyd:dyn.contains (id+1000000) with
   | true=>rw[hyd] at h;exact⟨h.1,runYD_mono (fun _ _ _ h=>hq _ _ _ _ h) _ _ _ _ h.2⟩
   | false=>rw[hyd] at h;exact⟨h.1,runOps_mono (fun _ _ _ h=>⟨h.1,hq _ _ _ _ h.2⟩) _ _ _ _ h.2⟩
  | false=>
   simp only[wpY,regY] at h ⊢
   split at h
   ·exact nextA_mono (fun _ _ h=>hq _ _ _ _ h) h
   ·exact runY_mono (fun _ _ _ h=>hq _ _ _ _ h) _ _ _ _ h
 | seq x y ihx ihy=>intro Q Q' T ev H hq h;exact ihx _ _ _ _ _ (thenY_mono (fun _ _ _ h=>ihy _ _ _ _ _ hq h) hq) h
 | cond c x y ihx ihy=>
  intro Q Q' T ev H hq h
  simp only[wpY,csel,mkG] at h ⊢
  split at h
  ·exact⟨fun ht=>ihx _ _ _ _ _ hq (h.1 ht),fun ht=>ihy _ _ _ _ _ hq (h.2 ht)⟩
  ·exact h.elim
 | block id b ih=>
  intro Q Q' T ev H hq h
  refine ih _ _ _ _ _ (fun e T ev H h=>?_) h
  cases e <;> try exact hq _ _ _ _ h
  next i=>
   simp only[blockY] at h ⊢
   split at h
   ·next he=>rw[if_pos he];exact hq _ _ _ _ h
   ·next he=>rw[if_neg he];exact hq _ _ _ _ h
 | loop b ih=>
  intro Q Q' T ev H hq h
  obtain⟨α,st,pre,μ,h0,hr⟩:=h
  exact⟨α,st,pre,μ,h0,fun x hx=>ih _ _ _ _ _ (thenY_mono (fun _ _ _ h=>h) hq) (hr x hx)⟩
 | exit id=>intro Q Q' T ev H hq h;exact hq _ _ _ _ h
 | ret=>intro Q Q' T ev H hq h;exact hq _ _ _ _ h
 | _=>intro Q Q' T ev H hq h;exact h.elim
end
section
variable {ι:Type} {P:Program} {C:Ctr} {l:Nat} {R:ι→List AV→ι→Prop} {mrg:Bool} {dl:List Nat} {ops:Array Oper} {T:Option ι} {ev:AEnv} {H:AH}
def runYH {ι:Type}(P:Program)(C:Ctr)(l:Nat)(R:ι→List AV→ι→Prop) [ops:Hid (Array Oper)] [r:Hid (List Oper)] (T:Option ι)(ev:AEnv)(H:AH) [K:Hid (YK ι)]:Prop:=runY P C l R ops.val r.val T ev H K.val
def runYDH {ι:Type}(P:Program)(C:Ctr)(l:Nat)(R:ι→List AV→ι→Prop) [ops:Hid (Array Oper)] [r:Hid (List Oper)] (T:Option ι)(ev:AEnv)(H:AH) [K:Hid (YK ι)]:Prop:=runYD P C l R ops.val r.val T ev H K.val
def oneYH {ι:Type}(P:Program)(C:Ctr)(l:Nat)(R:ι→List AV→ι→Prop) [o:Hid Oper] (T:Option ι)(ev:AEnv)(H:AH) [K:Hid (YK ι)]:Prop:=oneY P C l R o.val T ev H K.val
def yselH (x:Option (Nat×List AV)) [a:Hid Prop] [b:Hid (Nat×List AV→Prop)]:Prop:=ysel x a.val b.val
def yieldH {ι:Type}(l:Nat)(R:ι→List AV→ι→Prop)(T:Option ι)(y:Nat×List AV) [K:Hid (Option ι→Bool→Prop)]:Prop:=yieldK l R T y K.val
def regYH {ι:Type}(P:Program)(C:Ctr)(l:Nat)(R:ι→List AV→ι→Prop) [r:Hid (List Oper)] [Q:Hid (YPost ι)] (T:Option ι)(ev:AEnv)(H:AH):Option (Operand×Tmp×Tmp)→Prop
 | some (x,t,t')=>nextA (opnd ev x) t t' (Q.val .normal T) ev H
 | none=>runY P C l R r.val.toArray r.val T ev H (Q.val .normal)
def wpYH {ι:Type}(P:Program)(C:Ctr)(l:Nat)(R:ι→List AV→ι→Prop)(mrg:Bool)(dl:List Nat) [c:Hid Code] [Q:Hid (YPost ι)] (T:Option ι)(ev:AEnv)(H:AH):Prop:=wpY P C l R mrg dl c.val Q.val T ev H
def loopYH {ι:Type} [W:Hid (YPost ι→Option ι→AEnv→AH→Prop)] [Q:Hid (YPost ι)] (T:Option ι)(ev:AEnv)(H:AH):Prop:=LoopY W.val Q.val T ev H
theorem wpY_H {c:Code}{Q:YPost ι}:wpY P C l R mrg dl c Q T ev H= @wpYH _ _ P C l R mrg dl ⟨c⟩ ⟨Q⟩ T ev H:=(rfl)
theorem wpYH_skip {Q:YPost ι}: @wpYH _ _ P C l R mrg dl ⟨.skip⟩ ⟨Q⟩ T ev H=Q .normal T ev H:=(rfl)
theorem wpYH_ret {Q:YPost ι}: @wpYH _ _ P C l R mrg dl ⟨.ret⟩ ⟨Q⟩ T ev H=Q .ret T ev H:=(rfl)
theorem wpYH_exit {id:Nat}{Q:YPost ι}: @wpYH _ _ P C l R mrg dl ⟨.exit id⟩ ⟨Q⟩ T ev H=Q (.exit id) T ev H:=(rfl)
theorem wpYH_seq {x y:Code}{Q:YPost ι}: @wpYH _ _ P C l R mrg dl ⟨.seq x y⟩ ⟨Q⟩ T ev H= @wpYH _ _ P C l R mrg dl ⟨x⟩ ⟨thenY (wpY P C l R mrg dl y Q) Q⟩ T ev H:=(rfl)
theorem wpYH_cond {c:Operand}{x y:Code}{Q:YPost ι}: @wpYH _ _ P C l R mrg dl ⟨.cond c x y⟩ ⟨Q⟩ T ev H =
 @cselH (opnd ev c) ⟨@wpYH _ _ P C l R mrg dl ⟨x⟩ ⟨Q⟩ T ev H⟩ ⟨@wpYH _ _ P C l R mrg dl ⟨y⟩ ⟨Q⟩ T ev H⟩:=(rfl)
theorem wpYH_block {id:Nat}{b:Code}{Q:YPost ι}: @wpYH _ _ P C l R mrg dl ⟨.block id b⟩ ⟨Q⟩ T ev H= @wpYH _ _ P C l R mrg dl ⟨b⟩ ⟨blockY id Q⟩ T ev H:=(rfl)
theorem wpYH_loop {b:Code}{Q:YPost ι}: @wpYH _ _ P C l R mrg dl ⟨.loop b⟩ ⟨Q⟩ T ev H= @loopYH _ ⟨wpY P C l R mrg dl b⟩ ⟨Q⟩ T ev H:=(rfl)
theorem wpYH_region0 {id:Nat}{r:List Oper}{Q:YPost ι}: @wpYH _ _ P C l R mrg dl ⟨.region id r.toArray false⟩ ⟨Q⟩ T ev H= @regYH _ _ P C l R ⟨r⟩ ⟨Q⟩ T ev H (nextF r):=by
 simp only[wpYH,wpY,regY]
 cases nextF r <;> rfl
theorem regYH_none {r:List Oper}{Q:YPost ι}: @regYH _ _ P C l R ⟨r⟩ ⟨Q⟩ T ev H none= @runYH _ _ P C l R ⟨r.toArray⟩ ⟨r⟩ T ev H ⟨Q .normal⟩:=(rfl)
theorem regYH_some {r:List Oper}{Q:YPost ι}{x:Operand}{t t':Tmp}: @regYH _ _ P C l R ⟨r⟩ ⟨Q⟩ T ev H (some (x,t,t'))=nextA (opnd ev x) t t' (Q .normal T) ev H:=(rfl)
theorem runYH_nil {K:YK ι}: @runYH _ _ P C l R ⟨ops⟩ ⟨[]⟩ T ev H ⟨K⟩=K T ev H:=(rfl)
theorem runYH_cons {o:Oper}{r:List Oper}{K:YK ι}: @runYH _ _ P C l R ⟨ops⟩ ⟨o :: r⟩ T ev H ⟨K⟩ =
 @gselH (gw ops ev o) ⟨@oneYH _ _ P C l R ⟨o⟩ T ev H ⟨fun T' ev' H'=> @runYH _ _ P C l R ⟨ops⟩ ⟨r⟩ T' ev' H' ⟨K⟩⟩⟩
  ⟨fun w=> @iselH w ⟨@oneYH _ _ P C l R ⟨o⟩ T (fixG ops ev o true) H ⟨fun T' ev' H'=> @runYH _ _ P C l R ⟨ops⟩ ⟨r⟩ T' ev' H' ⟨K⟩⟩⟩
   ⟨@runYH _ _ P C l R ⟨ops⟩ ⟨r⟩ T (stepEv o .undef (fixG ops ev o false)) H ⟨K⟩⟩⟩:=by
 have base: @runYH _ _ P C l R ⟨ops⟩ ⟨o :: r⟩ T ev H ⟨K⟩ =
  @gselH (gw ops ev o) ⟨@oneYH _ _ P C l R ⟨o⟩ T ev H ⟨fun T' ev' H'=> @runYH _ _ P C l R ⟨ops⟩ ⟨r⟩ T' ev' H' ⟨K⟩⟩⟩
   ⟨fun w=>(w=true→ @oneYH _ _ P C l R ⟨o⟩ T ev H ⟨fun T' ev' H'=> @runYH _ _ P C l R ⟨ops⟩ ⟨r⟩ T' ev' H' ⟨K⟩⟩)∧(w=false→ @runYH _ _ P C l R ⟨ops⟩ ⟨r⟩ T (stepEv o .undef ev) H ⟨K⟩)⟩:=rfl
 rw[base]
 unfold gselH gsel
 cases hg:gw ops ev o with
 | none=>rfl
 | some g=>
  cases g with
  | none=>rfl
  | some w=>
   cases w with
   | true=>
    show((true=true→_)∧(true=false→_))= @iselH true ⟨@oneYH _ _ P C l R ⟨o⟩ T (fixG ops ev o true) H ⟨_⟩⟩ ⟨_⟩
    rw[fixG_eq hg,iselH_true]
    simp only[Bool.true_eq_false,false_implies,and_true,forall_const]
   | false=>
    show((false=true→_)∧(false=false→_))= @iselH false ⟨_⟩ ⟨@runYH _ _ P C l R ⟨ops⟩ ⟨r⟩ T (stepEv o .undef (fixG ops ev o false)) H ⟨K⟩⟩
    rw[fixG_eq hg,iselH_false]
    simp only[Bool.false_eq_true,false_implies,true_and,forall_const]
theorem runYDH_nil {K:YK ι}: @runYDH _ _ P C l R ⟨ops⟩ ⟨[]⟩ T ev H ⟨K⟩=K T ev H:=(rfl)
theorem oneYH_eq {dst:Option Tmp}{op:Op}{ty:TypeId}{pos:String}{after:Array Edge}{guard:Option (Nat×Bool)}{K:YK ι}: @oneYH _ _ P C l R ⟨⟨dst,op,ty,pos,after,guard⟩⟩ T ev H ⟨K⟩ =
 @yselH (yarg ev ⟨dst,op,ty,pos,after,guard⟩)
  ⟨chk P C false ev H ⟨dst,op,ty,pos,after,none⟩∧K T (stepEv ⟨dst,op,ty,pos,after,guard⟩ (valV P C ev H ⟨dst,op,ty,pos,after,none⟩) ev) (heapV P C ev H ⟨dst,op,ty,pos,after,none⟩)⟩
  ⟨fun y=> @yieldH _ l R T y ⟨fun T' b=>K T' (stepEv ⟨dst,op,ty,pos,after,guard⟩ (.bool b) ev) H⟩⟩:=(rfl)
theorem yselH_none {a:Prop}{b:Nat×List AV→Prop}: @yselH none ⟨a⟩ ⟨b⟩=a:=(rfl)
theorem yselH_some {a:Prop}{b:Nat×List AV→Prop}{y:Nat×List AV}: @yselH (some y) ⟨a⟩ ⟨b⟩=b y:=(rfl)
theorem yieldU_some {k:ι}{m:Nat}{vs:List AV}{K:Option ι→Bool→Prop}: @yieldH ι l R (some k) (m,vs) ⟨K⟩=(m=l∧vs.all (AV.okS 4)=true∧∃k',R k vs k'∧K (some k') true∧K none false):=(rfl)
theorem yieldH_some {xs:List (List AV)}{k m:Nat}{vs:List AV}{K:Option Nat→Bool→Prop}: @yieldH Nat l (seqR xs) (some k) (m,vs) ⟨K⟩=(m=l∧vs.all (AV.okS 4)=true∧xs[k]? =some vs∧K (some (k+1)) true∧K none false):=by
 show(m=l∧vs.all (AV.okS 4)=true∧∃k',(xs[k]? =some vs∧k'=k+1)∧K (some k') true∧K none false)=_
 apply propext
 constructor
 ·rintro⟨h1,h2,k',⟨h3,rfl⟩,h4,h5⟩;exact⟨h1,h2,h3,h4,h5⟩
 ·rintro⟨h1,h2,h3,h4,h5⟩;exact⟨h1,h2,_,⟨h3,rfl⟩,h4,h5⟩
theorem thenY_normal {K:YK ι}{Q:YPost ι}:thenY K Q .normal T ev H=K T ev H:=rfl
theorem thenY_exit {K:YK ι}{Q:YPost ι}{i:Nat}:thenY K Q (.exit i) T ev H=Q (.exit i) T ev H:=rfl
theorem thenY_ret {K:YK ι}{Q:YPost ι}:thenY K Q .ret T ev H=Q .ret T ev H:=rfl
theorem blockY_normal {id:Nat}{Q:YPost ι}:blockY id Q .normal T ev H=Q .normal T ev H:=rfl
theorem blockY_ret {id:Nat}{Q:YPost ι}:blockY id Q .ret T ev H=Q .ret T ev H:=rfl
theorem blockY_exit {id i:Nat}{Q:YPost ι}:blockY id Q (.exit i) T ev H=if i=id then Q .normal T ev H else Q (.exit i) T ev H:=by
 simp only[blockY];split <;> rfl
theorem endY_normal {m:ι→Prop}:endY m .normal T ev H=endT m T:=rfl
theorem endY_ret {m:ι→Prop}:endY m .ret T ev H=endT m T:=rfl
theorem endT_none {m:ι→Prop}:endT m none=True:=rfl
theorem endT_some {m:ι→Prop}{k:ι}:endT m (some k)=m k:=rfl
end
theorem loopYH_intro {ι:Type}{P:Program}{C:Ctr}{l:Nat}{R:ι→List AV→ι→Prop}{mrg:Bool}{dyn:List Nat}{b:Code}{Q:YPost ι}{T:Option ι}{ev:AEnv}{H:AH}{α:Type}(st:α→Option ι×AEnv×AH)(pre:α→Prop)(μ:α→Nat)(x0:α)(h0:pre x0)
 (hT:T=(st x0).1) (hs:subA 0 ev H (st x0).2.1 (st x0).2.2)
 (hr:∀x,pre x→wpY P C l R mrg dyn b (thenY (fun T' ev' H'=>∃y,pre y∧μ y<μ x∧T'=(st y).1∧subA 0 ev' H' (st y).2.1 (st y).2.2) Q) (st x).1 (st x).2.1 (st x).2.2): @loopYH _ ⟨wpY P C l R mrg dyn b⟩ ⟨Q⟩ T ev H:=
 ⟨α,st,pre,μ,⟨x0,h0,hT,subS_of hs⟩,fun x hx=>wpY_mono _ _ _ _ _ _ (thenY_mono (fun _ _ _ ⟨y,h1,h2,h3,h4⟩=>⟨y,h1,h2,h3,subS_of h4⟩) (fun _ _ _ _ h=>h)) (hr x hx)⟩
attribute [go_sem ↓] wpY_H wpYH_skip wpYH_ret wpYH_exit wpYH_seq wpYH_cond wpYH_block wpYH_loop wpYH_region0 oneYH_eq thenY_normal thenY_ret thenY_exit blockY_normal blockY_ret blockY_exit endY_normal endY_ret
attribute [go_sem] regYH_none regYH_some runYH_nil runYH_cons runYDH_nil yarg yselH_none yselH_some yieldH_some endT_none endT_some
end Go.Pg
