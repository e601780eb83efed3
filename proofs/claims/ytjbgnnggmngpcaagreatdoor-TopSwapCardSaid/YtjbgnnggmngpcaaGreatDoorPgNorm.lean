/- Pg, part 13: contracts by table; arguments are brought to one form (nil slices are slices of nothing). -/
import Derived.Test.YtjbgnnggmngpcaaGreatDoorPgGw
import Derived.Test.YtjbgnnggmngpcaaGreatDoorPgHld
set_option linter.unusedVariables false
set_option linter.unusedSimpArgs false
set_option linter.unusedSectionVars false
open List renaming mem_cons_of_mem → Qa,mem_cons → Qb
namespace Go.Pg
open Go
variable [Syms]
theorem normA_VR {E:Env}{n:NS}{x:AV}{v:Value}(h:VR E x v):VR E (normA n x) v:=by
 cases n with
 | id=>exact h
 | sl z l=>
  have h1:=normC_VR (o:=some z) h
  simp only[normA]
  split
  ·exact h1
  ·next z' vs hx=>
   rw[hx] at h1
   cases h1 with
   | sl _ _ a cap f k1 k2 k3=>exact(normSl_VP (W:=E.W) (st:=E.st) (.sl _ _ a cap f k1 k2 k3)).vr
  ·exact h1
 | ag l=>
  cases x with
  | agg cs=>
   obtain⟨us,rfl,h1,h2⟩:=h.agg_inv
   obtain⟨k1,k2⟩:=normL_get l cs
   refine .agg _ us (by rw[h1,k1]) fun i c hc=>?_
   obtain⟨o,x,hx,rfl⟩:=k2 i c hc
   exact normC_VR (h2 i x hx)
  | _=>exact h
def normArgs:List NS→List AV→List AV
 | n :: ns,a :: as=>normA n a :: normArgs ns as
 | _,as=>as
theorem normArgs_get:∀(ns:List NS)(xs:List AV),(normArgs ns xs).length=xs.length∧∀(i:Nat) y,(normArgs ns xs)[i]? =some y→∃n x,xs[i]? =some x∧y=normA n x:=by
 intro l
 induction l with
 | nil=>intro xs;exact⟨by simp [normArgs],fun i y h=>⟨.id,y,by simpa [normArgs] using h,rfl⟩⟩
 | cons o l ih=>
  intro xs
  cases xs with
  | nil=>exact⟨rfl,fun i y h=>by simp [normArgs] at h⟩
  | cons x xs=>
   obtain⟨h1,h2⟩:=ih xs
   refine⟨by simp [normArgs,h1],fun i y h=>?_⟩
   cases i with
   | zero=>simp [normArgs] at h;exact⟨o,x,rfl,h.symm⟩
   | succ i=>simp only[normArgs,List.getElem?_cons_succ] at h ⊢;exact h2 i y h
theorem CallsR.norm {P:Program}{f:FuncId}{ns:List NS}{as:List AV}{H H':AH}{r:AV}(h:CallsR P f (normArgs ns as) H r H'):CallsR P f as H r H':=by
 intro E vals hr hv
 obtain⟨k1,k2⟩:=normArgs_get ns as
 refine h E vals hr ⟨by rw[hv.1,k1],fun i c hc=>?_⟩
 obtain⟨n,x,hx,rfl⟩:=k2 i c hc
 exact normA_VR (hv.2 i x hx)
abbrev MRun:=AH→List AV→Option (Prop×List (Option Nat)×List Nat×AV×AH)
structure C1 where
 ns:List NS
 pre:List AV→Prop
 r:List AV→AV
 H:List AV→AH
 it:Bool:=false
 xs:List AV→Tell:=fun _=>Tell.seq []
 mu:Option MRun:=none
 hm:Option (List Bool):=none
 rd:Bool:=false
 wn:Bool:=false
abbrev Ctr:=List (FuncId×C1)
def nodupB:List Nat→Bool
 | []=>true
 | x :: r=>!(r.contains x) && nodupB r
theorem nodupB_nodup:∀{l:List Nat},nodupB l=true→l.Nodup:=by
 intro l
 induction l with
 | nil=>intro _;simp
 | cons x r ih=>
  intro h
  simp only[nodupB,Bool.and_eq_true,Bool.not_eq_true',List.contains_eq_mem,decide_eq_false_iff_not] at h
  exact List.nodup_cons.2 ⟨h.1,ih h.2⟩
def pickF (pick:List (Option Nat))(F:List Nat):Bool:=nodupB (somes pick) && (somes pick).all fun a=>!(F.contains a)
def MuOK (P:Program)(f:FuncId)(hm:Option (List Bool))(run:MRun):Prop:=
 ∀H xs pre pick F r Ko,run H xs=some (pre,pick,F,r,Ko)→pre→pickF pick F=true→∃as K0,SubK H F pick xs as K0∧hinOK hm K0=true∧(∀ρ,CallsR P f as (hinH hm ρ K0) r (hinH hm ρ Ko))∧K0.length≤Ko.length
def C1OK (P:Program)(f:FuncId)(c:C1):Prop:=
 cal P f=true∧match c.mu with
  | some run=>MuOK P f c.hm run
  | none=>∀as,c.pre as→match c.it with
   | true=>ItR P f as (c.xs as)
   | false=>CallsR P f as [] (c.r as) (c.H as)∧okRet (c.r as)=true∧(c.H as).all okObj=true
def CtrOK (P:Program)(C:Ctr):Prop:=∀p∈C,C1OK P p.1 p.2
theorem CtrOK.nil (P:Program):CtrOK P []:=fun p h=>by simp at h
theorem CtrOK.cons {P:Program}{f:FuncId}{c:C1}{C:Ctr}(h:C1OK P f c)(k:CtrOK P C):CtrOK P ((f,c) :: C):=by
 intro p hp
 rcases Qb.1 hp with rfl | hp
 ·exact h
 ·exact k p hp
def purC (C:Ctr):Prop:=∀p∈C,p.2.mu=none
def pureC:Ctr→Ctr
 | []=>[]
 | p :: r=>if p.2.mu.isSome=true then pureC r else p :: pureC r
theorem pureC_sub:∀{C:Ctr}{p:FuncId×C1},p∈pureC C→p∈C∧p.2.mu=none:=by
 intro C
 induction C with
 | nil=>intro p h;simp [pureC] at h
 | cons q r ih=>
  intro p h
  simp only[pureC] at h
  split at h
  ·exact⟨Qa _ (ih h).1,(ih h).2⟩
  ·next hq=>
   rcases Qb.1 h with rfl | h
   ·exact⟨by simp,by simpa using hq⟩
   ·exact⟨Qa _ (ih h).1,(ih h).2⟩
theorem CtrOK.pure {P:Program}{C:Ctr}(h:CtrOK P C):CtrOK P (pureC C):=fun p hp=>h p (pureC_sub hp).1
theorem purC_pure (C:Ctr):purC (pureC C):=fun _ hp=>(pureC_sub hp).2
def muC (f:FuncId):Ctr→Option MRun
 | []=>none
 | p :: r=>if f=p.1 then p.2.mu else muC f r
def winC:Ctr→Bool
 | []=>false
 | p :: r=>p.2.wn || winC r
def winB (C:Ctr)(x:AV)(lo hi mx:Option Operand):Bool:=
 match x,lo,hi,mx with
 | .own _ _ _,some _,some _,none=>winC C
 | _,_,_,_=>false
def wsel {α:Sort _}(b:Bool)(x y:α):α:=
 match b with
 | true=>x
 | false=>y
theorem wsel_true {α:Sort _}(x y:α):wsel true x y=x:=(rfl)
theorem wsel_false {α:Sort _}(x y:α):wsel false x y=y:=(rfl)
def hmC (f:FuncId):Ctr→Option (List Bool)
 | []=>none
 | p :: r=>if f=p.1 then p.2.hm else hmC f r
def rdC (f:FuncId):Ctr→Bool
 | []=>false
 | p :: r=>if f=p.1 then p.2.rd else rdC f r
theorem muC_sound {P:Program}{f:FuncId}{run:MRun}:∀{C:Ctr},CtrOK P C→muC f C=some run→cal P f=true∧MuOK P f (hmC f C) run:=by
 intro C
 induction C with
 | nil=>intro _ h;simp [muC] at h
 | cons p r ih=>
  intro hC h
  simp only[muC] at h
  simp only[hmC]
  split at h
  ·next e=>
   obtain⟨h1,h2⟩:=hC p (by simp)
   rw[h] at h2
   rw[if_pos e,e];exact⟨h1,h2⟩
  ·next e=>
   rw[if_neg e]
   exact ih (fun q hq=>hC q (Qa _ hq)) h
theorem muC_pur {f:FuncId}:∀{C:Ctr},purC C→muC f C=none:=by
 intro C
 induction C with
 | nil=>intro _;rfl
 | cons p r ih=>
  intro h
  simp only[muC]
  split
  ·exact h p (by simp)
  ·exact ih (fun q hq=>h q (Qa _ hq))
def callC (f:FuncId)(as:List AV)(K:AV→AH→Prop):Ctr→Prop
 | []=>False
 | p :: r=>if f=p.1 then p.2.it=false∧p.2.pre (normArgs p.2.ns as)∧K (p.2.r (normArgs p.2.ns as)) (p.2.H (normArgs p.2.ns as)) else callC f as K r
def callV (f:FuncId)(as:List AV):Ctr→AV
 | []=> .top
 | p :: r=>if f=p.1 then p.2.r (normArgs p.2.ns as) else callV f as r
def callH (f:FuncId)(as:List AV):Ctr→AH
 | []=>[]
 | p :: r=>if f=p.1 then p.2.H (normArgs p.2.ns as) else callH f as r
theorem callC_sound {P:Program}{f:FuncId}{as:List AV}{K:AV→AH→Prop}:∀{C:Ctr},CtrOK P C→muC f C=none→callC f as K C→
 cal P f=true∧∃r Hr,CallsR P f as [] r Hr∧okRet r=true∧Hr.all okObj=true∧K r Hr:=by
 intro C
 induction C with
 | nil=>intro _ _ h;exact h.elim
 | cons p r ih=>
  intro hC hm h
  simp only[callC] at h
  simp only[muC] at hm
  split at h
  ·next e=>
   rw[if_pos e] at hm
   obtain⟨h1,h2⟩:=hC p (by simp)
   rw[e]
   rw[hm] at h2
   have h2:=h2 _ h.2.1
   rw[h.1] at h2
   obtain⟨h3,h4,h5⟩:=h2
   exact⟨h1,_,_,h3.norm,h4,h5,h.2.2⟩
  ·next e=>
   rw[if_neg e] at hm
   exact ih (fun q hq=>hC q (Qa _ hq)) hm h
def iterC (f:FuncId)(as:List AV)(K:Tell→Prop):Ctr→Prop
 | []=>False
 | p :: r=>if f=p.1 then p.2.mu=none∧p.2.it=true∧p.2.pre as∧K (p.2.xs as) else iterC f as K r
theorem iterC_sound {P:Program}{f:FuncId}{as:List AV}{K:Tell→Prop}:∀{C:Ctr},CtrOK P C→iterC f as K C→cal P f=true∧∃xs,ItR P f as xs∧K xs:=by
 intro C
 induction C with
 | nil=>intro _ h;exact h.elim
 | cons p r ih=>
  intro hC h
  simp only[iterC] at h
  split at h
  ·next e=>
   obtain⟨h1,h2⟩:=hC p (by simp)
   rw[e]
   rw[h.1] at h2
   have h2:=h2 _ h.2.2.1
   rw[h.2.1] at h2
   exact⟨h1,_,h2,h.2.2.2⟩
  ·exact ih (fun q hq=>hC q (Qa _ hq)) h
def callU (hm:Option (List Bool))(xs:List AV)(H:AH)(x:Option (Prop×List (Option Nat)×List Nat×AV×AH))(K:HK):Prop:=
 match x with
 | some (pre,pick,F,r,Ko)=>heldB hm H xs pick Ko=true∧pickF pick F=true∧pre∧K (ren (gid (gids pick H.length Ko.length)) r) (fillH hm H xs (putO (gid (gids pick H.length Ko.length)) pick Ko (freeze F H))) (fresh pick H.length Ko.length) (somes pick ++ F) (somes pick)
 | none=>False
def callUV (H:AH)(x:Option (Prop×List (Option Nat)×List Nat×AV×AH)):AV:=
 match x with
 | some (_,pick,_,r,Ko)=>ren (gid (gids pick H.length Ko.length)) r
 | none=> .top
def callUH (hm:Option (List Bool))(xs:List AV)(H:AH)(x:Option (Prop×List (Option Nat)×List Nat×AV×AH)):AH:=
 match x with
 | some (_,pick,F,_,Ko)=>fillH hm H xs (putO (gid (gids pick H.length Ko.length)) pick Ko (freeze F H))
 | none=>H
def rdSel (rd:Bool)(l:List Nat):List Nat×List Nat:=
 match rd with
 | true=>([],l)
 | false=>(l,[])
def callUF (rd:Bool)(H:AH)(x:Option (Prop×List (Option Nat)×List Nat×AV×AH)):List Nat×List Nat×List Nat×List Nat:=
 match x with
 | some (_,pick,F,_,Ko)=>(fresh pick H.length Ko.length,somes pick ++ F,rdSel rd (somes pick))
 | none=>([],[],[],[])
theorem rdSel_true {l:List Nat}:rdSel true l=([],l):=(rfl)
theorem rdSel_false {l:List Nat}:rdSel false l=(l,[]):=(rfl)
def callP (C:Ctr)(H:AH)(fid:FuncId)(xs:List AV)(K:HK):Prop:=
 match resL (res8 H) xs with
 | some (as,ids)=>callC fid as (fun r Hr=>K (shiftR H.length r) (freeze ids H ++ Hr) (List.range' H.length Hr.length) ids []) C
 | none=>False
def msel {α:Sort _}(x:Option MRun)(a:α)(b:MRun→α):α:=
 match x with
 | none=>a
 | some run=>b run
def callT (C:Ctr)(ev:AEnv)(H:AH)(f:Operand)(args:Array Operand)(K:HK):Prop:=
 match opnd ev f with
 | .fn fid cap=>msel (muC fid C) (callP C H fid (args.toList.map (opnd ev) ++ cap) K) fun run=>callU (hmC fid C) (args.toList.map (opnd ev) ++ cap) H (run (blankH (hmC fid C) H (args.toList.map (opnd ev) ++ cap)) (args.toList.map (opnd ev) ++ cap)) K
 | _=>False
theorem callT_sound {P:Program}{C:Ctr}(hC:CtrOK P C){ev:AEnv}{H:AH}{o:Oper}{f:Operand}{args:Array Operand}{ats:Array TypeId}{K:HK}
 (ho:o.op= .call { callee:= .value f,args,argTypes:=ats }) (h:callT C ev H f args K):HSnd P ev H o K:=by
 unfold callT at h
 split at h
 ·next fid cap hf=>
  unfold msel at h
  split at h
  ·next hm=>
   apply callK_sound
   unfold callK
   rw[ho]
   simp only
   rw[hf]
   simp only
   unfold callP at h
   split at h
   ·next as ids hr=>
    rw[hr]
    obtain⟨h1,r,Hr,h2,h3,h4,h5⟩:=callC_sound hC hm h
    exact⟨h1,r,Hr,h2,h3,h4,h5⟩
   ·exact h.elim
  ·next run hm=>
   unfold callU at h
   split at h
   ·next pre pick F r Ko hx=>
    obtain⟨h1,h2⟩:=muC_sound hC hm
    obtain⟨g0,g1,g2,g3⟩:=h
    obtain⟨as,K0,k1,k4,k2,k3⟩:=h2 _ _ _ _ _ _ _ hx g2 g1
    exact callH_sound ho hf rfl h1 k1 k4 k2 k3 g0 g3
   ·exact h.elim
 ·exact h.elim
theorem callT_noW {C:Ctr}(hp:purC C){ev:AEnv}{H:AH}{f:Operand}{args:Array Operand}{K:HK}(h:callT C ev H f args K):callT C ev H f args fun V H1 new fp wr=>wr=[]∧K V H1 new fp wr:=by
 unfold callT at h ⊢
 split
 ·next fid cap hf=>
  rw[hf] at h
  simp only[muC_pur hp,msel] at h ⊢
  unfold callP at h ⊢
  simpa using h
 ·next hn=>
  split at h
  ·next fid cap hf=>exact absurd hf (hn fid cap)
  ·exact h
end Go.Pg
