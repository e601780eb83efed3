/- Pg, part 19b: how data that lie in objects are told and read back; contracts of functions that work on them. -/
import Derived.Test.YtjbgnnggmngpcaaGreatDoorPgDat
set_option linter.unusedVariables false
set_option linter.unusedSimpArgs false
set_option linter.unusedSectionVars false
open List renaming getElem?_append_right → Qa,getElem?_append_left → Qb,getElem?_eq_some_iff → Qc,all_eq_true → Qd,mem_append_right → Qe,mem_append_left → Qf,getElem?_map → Qg,map_cons → Qi,mem_map → Qj,range → Qk
open Nat renaming add_assoc → Qh
namespace Go.Pg
open Go
variable [Syms]
structure HC (α:Type) where
 sz:α→Nat
 enc:Nat→α→AV
 K:Nat→α→AH
 dec:AH→AV→Option (α×List (Option Nat)×List Nat)
 len:∀n a,(K n a).length=sz a
 ok:∀H x a p F,dec H x=some (a,p,F)→p.length=sz a∧
  (∀n pick F',(∀(i:Nat) q,p[i]? =some q→pick[n+i]? =some q)→(∀i∈F,i∈F')→
    Mt H F' pick x (enc n a)∧∀(i:Nat) q y,p[i]? =some q→(K n a)[i]? =some y→MtO H F' pick q y)∧
  (∀HD E v,Rel HD E→(∀a,some a∈p→HD[a]? =H[a]?)→VR E x v→∀a,some a∈p→(E.M a).isSome=true)
structure HL (α:Type) where
 sz:α→Nat
 enc:Nat→α→List AV
 K:Nat→α→AH
 dec:AH→List AV→Option (α×List (Option Nat)×List Nat)
 len:∀n a,(K n a).length=sz a
 ok:∀H xs a p F,dec H xs=some (a,p,F)→p.length=sz a∧(∀n,xs.length=(enc n a).length)∧
  (∀n pick F',(∀(i:Nat) q,p[i]? =some q→pick[n+i]? =some q)→(∀i∈F,i∈F')→
    (∀(i:Nat) x y,xs[i]? =some x→(enc n a)[i]? =some y→Mt H F' pick x y)∧∀(i:Nat) q y,p[i]? =some q→(K n a)[i]? =some y→MtO H F' pick q y)∧
  (∀HD E,Rel HD E→(∀a,some a∈p→HD[a]? =H[a]?)→(f:Nat→Value)→(∀(i:Nat) x,xs[i]? =some x→VR E x (f i))→∀a,some a∈p→(E.M a).isSome=true)
def app3 {α β:Type}(x:Option (α×List (Option Nat)×List Nat))(y:Option (β×List (Option Nat)×List Nat)):Option ((α×β)×List (Option Nat)×List Nat):=
 match x,y with
 | some (a,p,F),some (b,q,G)=>some ((a,b),p ++ q,F ++ G)
 | _,_=>none
theorem app3_some {α β:Type}(a:α)(p:List (Option Nat))(F:List Nat)(b:β)(q:List (Option Nat))(G:List Nat):app3 (some (a,p,F)) (some (b,q,G))=some ((a,b),p ++ q,F ++ G):=(rfl)
def hNil:HL Unit where
 sz _:=0
 enc _ _:=[]
 K _ _:=[]
 dec _ xs:=match xs with
  | []=>some ((),[],[])
  | _=>none
 len _ _:=rfl
 ok H xs a p F h:=by
  split at h
  ·cases h
   exact⟨rfl,fun _=>rfl,fun n pick F' _ _=>⟨fun i x y hx=>by simp at hx,fun i q y hq=>by simp at hq⟩,fun HD E _ _ _ _ a ha=>by simp at ha⟩
  ·cases h
def hCons {α β:Type}(c:HC α)(r:HL β):HL (α×β) where
 sz a:=c.sz a.1+r.sz a.2
 enc n a:=c.enc n a.1 :: r.enc (n+c.sz a.1) a.2
 K n a:=c.K n a.1 ++ r.K (n+c.sz a.1) a.2
 dec H xs:=match xs with
  | x :: xs=>app3 (c.dec H x) (r.dec H xs)
  | []=>none
 len n a:=by rw[List.length_append,c.len,r.len]
 ok H xs a p F h:=by
  split at h
  ·next x xs=>
   unfold app3 at h
   split at h
   ·next a1 p1 F1 b q1 G1 h1 h2=>
    cases h
    obtain⟨k1,k2,k3⟩:=c.ok H x a1 p1 F1 h1
    obtain⟨l1,l0,l2,l3⟩:=r.ok H xs b q1 G1 h2
    refine⟨by simp [k1,l1],fun n=>by simp [l0 (n+c.sz a1)],fun n pick F' hp hF=>?_,fun HD E hr ha f hv a' ha'=>?_⟩
    ·obtain⟨m1,m2⟩:=k2 n pick F' (fun i q hq=>hp i q (by rw[Qb (Qc.1 hq).1];exact hq)) (fun i hi=>hF i (Qf _ hi))
     obtain⟨n1,n2⟩:=l2 (n+c.sz a1) pick F' (fun i q hq=>by
      rw[Qh]
      refine hp (c.sz a1+i) q ?_
      rw[Qa (by omega),k1,Nat.add_sub_cancel_left];exact hq) (fun i hi=>hF i (Qe _ hi))
     refine⟨fun i y z hy hz=>?_,fun i q y hq hy=>?_⟩
     ·cases i with
      | zero=>simp at hy hz;subst hy;subst hz;exact m1
      | succ i=>exact n1 i y z (by simpa using hy) (by simpa using hz)
     ·have hcl:(c.K n a1).length=c.sz a1:=c.len n a1
      have hy:(c.K n a1 ++ r.K (n+c.sz a1) b)[i]? =some y:=hy
      by_cases hi:i<c.sz a1
      ·rw[Qb (by omega)] at hq
       rw[Qb (by omega)] at hy
       exact m2 i q y hq hy
      ·rw[Qa (by omega),k1] at hq
       rw[Qa (by omega),hcl] at hy
       exact n2 _ q y hq hy
    ·rcases List.mem_append.1 ha' with h5 | h5
     ·exact k3 HD E (f 0) hr (fun a h=>ha a (Qf _ h)) (hv 0 x rfl) a' h5
     ·exact l3 HD E hr (fun a h=>ha a (Qe _ h)) (fun i=>f (i+1)) (fun i y hy=>hv (i+1) y (by simpa using hy)) a' h5
   ·cases h
  ·cases h
def hP {α:Type}(ns:NS)(c:Cd α):HC α where
 sz _:=0
 enc _ a:=c.enc a
 K _ _:=[]
 dec H x:=match res8 H x with
  | some (y,ids)=>match c.dec (normA ns y) with
   | some a=>some (a,[],ids)
   | none=>none
  | none=>none
 len _ _:=rfl
 ok H x a p F h:=by
  split at h
  ·next y ids hy=>
   split at h
   ·next b hb=>
    simp only[Option.some.injEq,Prod.mk.injEq] at h
    obtain⟨rfl,rfl,rfl⟩:=h
    refine⟨rfl,fun n pick F' _ hF=>⟨?_,fun i q y hq=>by simp at hq⟩,fun HD E v _ _ _ a ha=>by simp at ha⟩
    rw[←c.ok _ _ hb]
    exact .pure 8 x y ids ns hy hF
   ·cases h
  ·cases h
def hOwn {β:Type}(e:TypeId)(z:Nat)(c:Cd β)(hc:∀b,(c.enc b).pureB=true):HC (List β) where
 sz _:=1
 enc n l:= .own n z l.length
 K _ l:=[.arr e z (l.map c.enc)]
 dec H x:=match x with
  | .own id z' len=>match H[id]? with
   | some (.arr e' z'' vs)=>if e'=e∧z'=z∧z''=z∧vs.length=len then match decL c.dec vs with
    | some l=>some (l,[some id],[])
    | none=>none
    else none
   | _=>none
  | .nls=>some ([],[none],[])
  | _=>none
 len _ _:=rfl
 ok H x a p F h:=by
  split at h
  ·next id z' len=>
   split at h
   ·next e' z'' vs ho=>
    split at h
    ·next hh=>
     obtain⟨rfl,rfl,rfl,rfl⟩:=hh
     split at h
     ·next l hl=>
      simp only[Option.some.injEq,Prod.mk.injEq] at h
      obtain⟨rfl,rfl,rfl⟩:=h
      have hvs:=decL_ok c vs l hl
      refine⟨rfl,fun n pick F' hp _=>⟨?_,fun i q y hq hy=>?_⟩,fun HD E v hr ha hv a' ha'=>?_⟩
      ·have:l.length=vs.length:=by rw[hvs];simp
       rw[this]
       exact .own n id _ _ (hp 0 (some id) rfl)
      ·cases i with
       | zero=>
        simp at hq hy
        subst hq;subst hy
        refine⟨vs,ho,.inl ⟨hvs,?_⟩⟩
        rw[Qd]
        intro v hv
        obtain⟨b,_,rfl⟩:=Qj.1 hv
        exact hc b
       | succ i=>simp at hq
      ·simp at ha'
       subst ha'
       cases hv with
       | own _ _ _ _ _ hm _ _=>exact hm
     ·cases h
    ·cases h
   ·cases h
  ·cases h
   refine⟨rfl,fun n pick F' hp _=>⟨.nil n z (hp 0 none rfl),fun i q y hq hy=>?_⟩,fun HD E v hr ha hv a' ha'=>by simp at ha'⟩
   cases i with
   | zero=>simp at hq hy;subst hq;subst hy;rfl
   | succ i=>simp at hq
  ·cases h
def decE {κ ν:Type}(ck:Cd κ)(cv:Cd ν):List (AV×AV)→Option (List (κ×ν))
 | []=>some []
 | x :: r=>match ck.dec x.1,cv.dec x.2,decE ck cv r with
  | some k,some v,some l=>some ((k,v) :: l)
  | _,_,_=>none
def encE {κ ν:Type}(ck:Cd κ)(cv:Cd ν)(l:List (κ×ν)):List (AV×AV):=l.map fun p=>(ck.enc p.1,cv.enc p.2)
theorem decE_ok {κ ν:Type}(ck:Cd κ)(cv:Cd ν):∀(es:List (AV×AV))(l:List (κ×ν)),decE ck cv es=some l→es=encE ck cv l:=by
 intro es
 induction es with
 | nil=>intro l h;simp only[decE] at h;cases h;rfl
 | cons x r ih=>
  intro l h
  simp only[decE] at h
  split at h
  ·next k v m h1 h2 h3=>
   cases h
   obtain⟨x1,x2⟩:=x
   simp only[encE,Qi] at ih ⊢
   rw[←ih m h3,←ck.ok _ _ h1,←cv.ok _ _ h2]
  ·cases h
theorem decE_enc {κ ν:Type}(ck:Cd κ)(cv:Cd ν)(h1:∀k,ck.dec (ck.enc k)=some k)(h2:∀v,cv.dec (cv.enc v)=some v)(l:List (κ×ν)):decE ck cv (encE ck cv l)=some l:=by
 induction l with
 | nil=>rfl
 | cons p l ih=>simp only[encE,Qi,decE] at ih ⊢;rw[h1,h2,ih]
def hBox {α:Type}(e:TypeId)(z:Nat)(c:HC α):HC α where
 sz a:=c.sz a+1
 enc n _:= .ptr n z 1 0 0
 K n a:= .arr e z [c.enc (n+1) a] :: c.K (n+1) a
 dec H x:=match x with
  | .ptr id z' len idx off=>match H[id]? with
   | some (.arr e' z'' [y])=>if e'=e∧z'=z∧z''=z∧len=1∧idx=0∧off=0 then match c.dec H y with
    | some (a,p,F)=>some (a,some id :: p,F)
    | none=>none
    else none
   | _=>none
  | _=>none
 len n a:=by rw[List.length_cons,c.len]
 ok H x a p F h:=by
  split at h
  ·next id z' len idx off=>
   split at h
   ·next e' z'' y ho=>
    split at h
    ·next hh=>
     obtain⟨rfl,rfl,rfl,rfl,rfl,rfl⟩:=hh
     split at h
     ·next a1 p1 F1 hd=>
      simp only[Option.some.injEq,Prod.mk.injEq] at h
      obtain⟨rfl,rfl,rfl⟩:=h
      obtain⟨k1,k2,k3⟩:=c.ok H y a1 p1 F1 hd
      refine⟨by simp [k1],fun n pick F' hp hF=>?_,fun HD E v hr ha hv a' ha'=>?_⟩
      ·obtain⟨m1,m2⟩:=k2 (n+1) pick F' (fun i q hq=>by
        rw[Qh,Nat.add_comm 1 i]
        exact hp (i+1) q (by simpa using hq)) hF
       refine⟨.ptr n id _ _ _ _ (hp 0 (some id) rfl),fun i q w hq hw=>?_⟩
       cases i with
       | zero=>
        simp at hq hw
        subst hq;subst hw
        refine⟨_,ho,.inr ⟨rfl,fun i v w hv hw=>?_⟩⟩
        cases i with
        | zero=>
         simp at hv hw
         subst hv;subst hw
         exact mt_cells m1
        | succ i=>simp at hv
       | succ i=>exact m2 i q w (by simpa using hq) (by simpa using hw)
      ·have hM:(E.M id).isSome=true:=by
        cases hv with
        | ptr _ _ _ _ _ _ hm _=>exact hm
       rcases List.mem_cons.1 ha' with h5 | h5
       ·cases h5;exact hM
       ·obtain⟨m,hm⟩:=Option.isSome_iff_exists.1 hM
        have hrow:=hr.orow id (.arr e' z'' [y]) m (by rw[ha id (by simp)];exact ho) hm
        rcases hrow with⟨_,h6⟩ | ⟨b,cc,fz,h6,h7,h8,h9,h10⟩
        ·cases h6
        ·obtain⟨_,h11⟩:=h10 0 y rfl
         have hvy:∃u,VR E y u:=by
          by_cases hag:∃cs,y= .agg cs
          ·obtain⟨cs,rfl⟩:=hag
           refine⟨.agg ((Qk cs.length).map fun j=>(cc[0 * z''+j]?).getD Go.undef).toArray,.agg cs _ (by simp) fun i c hc=>?_⟩
           obtain⟨u,hu,hvu⟩:=h11 i c hc
           have hi:=(Qc.1 hc).1
           have e1:((Qk cs.length).map fun j=>(cc[0 * z''+j]?).getD Go.undef).toArray.getD i Go.undef=(cc[0 * z''+i]?).getD Go.undef:=by
            simp only[Array.getD_eq_getD_getElem?,List.getElem?_toArray,Qg,List.getElem?_range hi,Option.map_some,Option.getD_some]
           rw[e1,hu]
           exact hvu
          ·have:y.cells=[y]:=by cases y <;> first | rfl | exact absurd ⟨_,rfl⟩ hag
           obtain⟨u,hu,hvu⟩:=h11 0 y (by rw[this];rfl)
           exact⟨u,hvu⟩
         obtain⟨u,hu⟩:=hvy
         exact k3 HD E u hr (fun a h=>ha a (by simp [h])) hu a' h5
     ·cases h
    ·cases h
   ·cases h
  ·cases h
def hFn {α:Type}(f:FuncId)(L:HL α):HC α where
 sz a:=L.sz a
 enc n a:= .fn f (L.enc n a)
 K n a:=L.K n a
 dec H x:=match x with
  | .fn g cs=>if g=f then L.dec H cs else none
  | _=>none
 len n a:=L.len n a
 ok H x a p F h:=by
  split at h
  ·next g cs=>
   split at h
   ·next hg=>
    subst hg
    obtain⟨k1,k0,k2,k3⟩:=L.ok H cs a p F h
    refine⟨k1,fun n pick F' hp hF=>?_,fun HD E v hr ha hv a' ha'=>?_⟩
    ·obtain⟨m1,m2⟩:=k2 n pick F' hp hF
     exact⟨.fn g cs _ (k0 n) m1,m2⟩
    ·obtain⟨us,rfl,h1,h2⟩:=hv.fn_inv
     exact k3 HD E hr ha (fun i=>us.getD i Go.undef) h2 a' ha'
   ·cases h
  ·cases h
def hAgg {α:Type}(L:HL α):HC α where
 sz a:=L.sz a
 enc n a:= .agg (L.enc n a)
 K n a:=L.K n a
 dec H x:=match x with
  | .agg cs=>L.dec H cs
  | _=>none
 len n a:=L.len n a
 ok H x a p F h:=by
  split at h
  ·next cs=>
   obtain⟨k1,k0,k2,k3⟩:=L.ok H cs a p F h
   refine⟨k1,fun n pick F' hp hF=>?_,fun HD E v hr ha hv a' ha'=>?_⟩
   ·obtain⟨m1,m2⟩:=k2 n pick F' hp hF
    exact⟨.agg cs _ (k0 n) m1,m2⟩
   ·obtain⟨us,rfl,h1,h2⟩:=hv.agg_inv
    exact k3 HD E hr ha (fun i=>us.getD i Go.undef) h2 a' ha'
  ·cases h
abbrev hPtr {α:Type}(e:TypeId)(z:Nat)(L:HL α):HC α:=hBox e z (hAgg L)
def hOpt {α:Type}(c:HC α):HC (Option α) where
 sz a:=match a with
  | some a=>c.sz a
  | none=>0
 enc n a:=match a with
  | some a=>c.enc n a
  | none=> .npt
 K n a:=match a with
  | some a=>c.K n a
  | none=>[]
 dec H x:=match x with
  | .npt=>some (none,[],[])
  | x=>match c.dec H x with
   | some (a,p,F)=>some (some a,p,F)
   | none=>none
 len n a:=by
  cases a with
  | none=>rfl
  | some a=>exact c.len n a
 ok H x a p F h:=by
  split at h
  ·cases h
   exact⟨rfl,fun n pick F' _ _=>⟨.pure 1 .npt .npt [] .id (by simp [res]) (by simp),fun i q y hq=>by simp at hq⟩,fun HD E v _ _ _ a ha=>by simp at ha⟩
  ·split at h
   ·next a1 p1 F1 hd=>
    cases h
    exact c.ok H x a1 _ _ hd
   ·cases h
def mkM {D:Type}(pre:D→Prop)(r:D→AV)(Ko:D→AH):Option (D×List (Option Nat)×List Nat)→Option (Prop×List (Option Nat)×List Nat×AV×AH)
 | some (d,p,F)=>some (pre d,p,F,r d,Ko d)
 | none=>none
def runM {D:Type}(c:HL D)(pre:D→Prop)(r:D→AV)(Ko:D→AH):MRun:=fun H xs=>mkM pre r Ko (c.dec H xs)
def C1.mx {D:Type}(hm:Option (List Bool))(rd wn:Bool)(c:HL D)(pre:D→Prop)(r:D→AV)(Ko:D→AH):C1 where
 ns:=[]
 pre _:=False
 r _:= .top
 H _:=[]
 mu:=some (runM c pre r Ko)
 hm:=hm
 rd:=rd
 wn:=wn
def C1.mby {D:Type}(c:HL D)(pre:D→Prop)(r:D→AV)(Ko:D→AH):C1 where
 ns:=[]
 pre _:=False
 r _:= .top
 H _:=[]
 mu:=some (runM c pre r Ko)
theorem C1OK.mx {P:Program}{f:FuncId}{D:Type}{hm:Option (List Bool)}{rd wn:Bool}{c:HL D}{pre:D→Prop}{r:D→AV}{Ko:D→AH}(hc:cal P f=true)
 (h:∀d,pre d→∀ρ,CallsR P f (c.enc 0 d) (hinH hm ρ (c.K 0 d)) (r d) (hinH hm ρ (Ko d))) (hk:∀d,hinOK hm (c.K 0 d)=true) (hl:∀d,pre d→c.sz d≤(Ko d).length):C1OK P f (C1.mx hm rd wn c pre r Ko):=by
 refine⟨hc,?_⟩
 show ∀H xs pre' pick F r' Ko',runM c pre r Ko H xs=some (pre',pick,F,r',Ko')→_
 intro H xs pre' pick F r' Ko' hr hp hpf
 unfold runM mkM at hr
 split at hr
 ·next d p F1 hd=>
  simp only[Option.some.injEq,Prod.mk.injEq] at hr
  obtain⟨rfl,rfl,rfl,rfl,rfl⟩:=hr
  obtain⟨k1,k0,k2,k3⟩:=c.ok H xs d p F1 hd
  obtain⟨m1,m2⟩:=k2 0 p F1 (fun i q hq=>by rw[Nat.zero_add];exact hq) (fun i hi=>hi)
  simp only[pickF,Bool.and_eq_true] at hpf
  refine⟨c.enc 0 d,c.K 0 d,⟨by rw[k1,c.len],fun i j a hi hj=>?_,fun i a hi hF=>?_,m2,k0 0,m1,fun HD E hr ha vals hv i a hi=>?_⟩,hk d,h d hp,by rw[c.len];exact hl d hp⟩
  ·have hnd:=nodupB_nodup hpf.1
   clear hpf m1 m2 k1 k2 k3 hd
   induction p generalizing i j with
   | nil=>simp at hi
   | cons x p ih=>
    cases x with
    | none=>
     cases i with
     | zero=>simp at hi
     | succ i=>
      cases j with
      | zero=>simp at hj
      | succ j=>rw[ih i j (by simpa using hi) (by simpa using hj) hnd]
    | some b=>
     simp only[somes,List.nodup_cons] at hnd
     cases i with
     | zero=>
      simp at hi;subst hi
      cases j with
      | zero=>rfl
      | succ j=>exact absurd (mem_somes.2 ⟨j,by simpa using hj⟩) hnd.1
     | succ i=>
      cases j with
      | zero=>simp at hj;subst hj;exact absurd (mem_somes.2 ⟨i,by simpa using hi⟩) hnd.1
      | succ j=>rw[ih i j (by simpa using hi) (by simpa using hj) hnd.2]
  ·have:=Qd.1 hpf.2 a (mem_somes.2 ⟨i,hi⟩)
   simp [hF] at this
  ·refine k3 HD E hr (fun a ha'=>?_) (fun i=>vals.getD i Go.undef) (fun i x hx=>hv.2 i x hx) a (List.mem_of_getElem? hi)
   obtain⟨i',hi'⟩:=List.mem_iff_getElem?.1 ha'
   exact ha i' a hi'
 ·cases hr
theorem C1OK.mby {P:Program}{f:FuncId}{D:Type}{c:HL D}{pre:D→Prop}{r:D→AV}{Ko:D→AH}(hc:cal P f=true)
 (h:∀d,pre d→CallsR P f (c.enc 0 d) (c.K 0 d) (r d) (Ko d)) (hl:∀d,pre d→c.sz d≤(Ko d).length):C1OK P f (C1.mby c pre r Ko):=
 C1OK.mx (hm:=none) (rd:=false) (wn:=false) hc (fun d hp _=>h d hp) (fun _=>rfl) hl
def hSk {α:Type}(r:HL α):HL α where
 sz a:=r.sz a
 enc n a:= .top :: r.enc n a
 K n a:=r.K n a
 dec H xs:=match xs with
  | .top :: xs=>r.dec H xs
  | _=>none
 len n a:=r.len n a
 ok H xs a p F h:=by
  split at h
  ·next xs=>
   obtain⟨l1,l0,l2,l3⟩:=r.ok H xs a p F h
   refine⟨l1,fun n=>by simp [l0 n],fun n pick F' hp hF=>?_,fun HD E hr ha f hv a' ha'=>l3 HD E hr ha (fun i=>f (i+1)) (fun i y hy=>hv (i+1) y (by simpa using hy)) a' ha'⟩
   obtain⟨n1,n2⟩:=l2 n pick F' hp hF
   refine⟨fun i y z hy hz=>?_,n2⟩
   cases i with
   | zero=>simp at hy hz;subst hy;subst hz;exact .top
   | succ i=>exact n1 i y z (by simpa using hy) (by simpa using hz)
  ·cases h
def hWin {β:Type}(e:TypeId)(z:Nat)(c:Cd β)(hc:∀b,(c.enc b).pureB=true):HC (List β×Nat×Nat) where
 sz _:=1
 enc n d:= .win n z d.1.length d.2.1 d.2.2
 K _ d:=[.arr e z (d.1.map c.enc)]
 dec H x:=match x with
  | .win id z' tot off len=>match H[id]? with
   | some (.arr e' z'' vs)=>if e'=e∧z'=z∧z''=z∧vs.length=tot then match decL c.dec vs with
    | some l=>some ((l,off,len),[some id],[])
    | none=>none
    else none
   | _=>none
  | _=>none
 len _ _:=rfl
 ok H x a p F h:=by
  split at h
  ·next id z' tot off len=>
   split at h
   ·next e' z'' vs ho=>
    split at h
    ·next hh=>
     obtain⟨rfl,rfl,rfl,rfl⟩:=hh
     split at h
     ·next l hl=>
      simp only[Option.some.injEq,Prod.mk.injEq] at h
      obtain⟨rfl,rfl,rfl⟩:=h
      have hvs:=decL_ok c vs l hl
      refine⟨rfl,fun n pick F' hp _=>⟨?_,fun i q y hq hy=>?_⟩,fun HD E v hr ha hv a' ha'=>?_⟩
      ·have:l.length=vs.length:=by rw[hvs];simp
       show Mt H F' pick _ (.win n _ l.length off len)
       rw[this]
       exact .win n id _ _ _ _ (hp 0 (some id) rfl)
      ·cases i with
       | zero=>
        simp at hq hy
        subst hq;subst hy
        refine⟨vs,ho,.inl ⟨hvs,?_⟩⟩
        rw[Qd]
        intro v hv
        obtain⟨b,_,rfl⟩:=Qj.1 hv
        exact hc b
       | succ i=>simp at hq
      ·simp at ha'
       subst ha'
       cases hv with
       | win _ _ _ _ _ _ _ _ hm _=>exact hm
     ·cases h
    ·cases h
   ·cases h
  ·cases h
theorem C1by_mu {D:Type}{ns:List NS}{c:CdL D}{pre:D→Prop}{r:D→AV}{H:D→AH}:(C1.by ns c pre r H).mu=none:=(rfl)
theorem C1itBy_mu {D:Type}{c:CdL D}{pre:D→Prop}{xs:D→List (List AV)}:(C1.itBy c pre xs).mu=none:=(rfl)
theorem C1mx_mu {D:Type}{hm:Option (List Bool)}{rd wn:Bool}{c:HL D}{pre:D→Prop}{r:D→AV}{Ko:D→AH}:(C1.mx hm rd wn c pre r Ko).mu=some (runM c pre r Ko):=(rfl)
theorem C1mx_hm {D:Type}{hm:Option (List Bool)}{rd wn:Bool}{c:HL D}{pre:D→Prop}{r:D→AV}{Ko:D→AH}:(C1.mx hm rd wn c pre r Ko).hm=hm:=(rfl)
theorem C1mx_rd {D:Type}{hm:Option (List Bool)}{rd wn:Bool}{c:HL D}{pre:D→Prop}{r:D→AV}{Ko:D→AH}:(C1.mx hm rd wn c pre r Ko).rd=rd:=(rfl)
theorem C1mx_wn {D:Type}{hm:Option (List Bool)}{rd wn:Bool}{c:HL D}{pre:D→Prop}{r:D→AV}{Ko:D→AH}:(C1.mx hm rd wn c pre r Ko).wn=wn:=(rfl)
theorem C1mby_hm {D:Type}{c:HL D}{pre:D→Prop}{r:D→AV}{Ko:D→AH}:(C1.mby c pre r Ko).hm=none:=(rfl)
theorem C1mby_rd {D:Type}{c:HL D}{pre:D→Prop}{r:D→AV}{Ko:D→AH}:(C1.mby c pre r Ko).rd=false:=(rfl)
theorem C1mby_wn {D:Type}{c:HL D}{pre:D→Prop}{r:D→AV}{Ko:D→AH}:(C1.mby c pre r Ko).wn=false:=(rfl)
theorem C1by_wn {D:Type}{ns:List NS}{c:CdL D}{pre:D→Prop}{r:D→AV}{H:D→AH}:(C1.by ns c pre r H).wn=false:=(rfl)
theorem C1itBy_wn {D:Type}{c:CdL D}{pre:D→Prop}{xs:D→List (List AV)}:(C1.itBy c pre xs).wn=false:=(rfl)
theorem hSk_dec {α:Type}{r:HL α}{H:AH}{xs:List AV}:(hSk r).dec H (.top :: xs)=r.dec H xs:=(rfl)
def hW1 {β:Type}(id off len:Nat):Option (List β)→Option ((List β×Nat×Nat)×List (Option Nat)×List Nat)
 | some l=>some ((l,off,len),[some id],[])
 | none=>none
theorem hW1_some {β:Type}{id off len:Nat}{l:List β}:hW1 id off len (some l)=some ((l,off,len),[some id],[]):=(rfl)
def hW2 {β:Type}(e:TypeId)(z:Nat)(c:Cd β)(id z' tot off len:Nat):Option AO→Option ((List β×Nat×Nat)×List (Option Nat)×List Nat)
 | some (.arr e' z'' vs)=>if e'=e∧z'=z∧z''=z∧vs.length=tot then hW1 id off len (decL c.dec vs) else none
 | _=>none
theorem hW2_arr {β:Type}{e:TypeId}{z:Nat}{c:Cd β}{id z' tot off len e' z'':Nat}{vs:List AV}:hW2 e z c id z' tot off len (some (.arr e' z'' vs))=if e'=e∧z'=z∧z''=z∧vs.length=tot then hW1 id off len (decL c.dec vs) else none:=(rfl)
theorem hWin_dec {β:Type}{e:TypeId}{z:Nat}{c:Cd β}{hc:∀b,(c.enc b).pureB=true}{H:AH}{id z' tot off len:Nat}:(hWin e z c hc).dec H (.win id z' tot off len)=hW2 e z c id z' tot off len H[id]?:=by
 simp only[hWin,hW2,hW1]
 all_goals (split <;> first | rfl | simp_all)
theorem C1mby_mu {D:Type}{c:HL D}{pre:D→Prop}{r:D→AV}{Ko:D→AH}:(C1.mby c pre r Ko).mu=some (runM c pre r Ko):=(rfl)
theorem runM_eq {D:Type}{c:HL D}{pre:D→Prop}{r:D→AV}{Ko:D→AH}{H:AH}{xs:List AV}:runM c pre r Ko H xs=mkM pre r Ko (c.dec H xs):=(rfl)
theorem mkM_some {D:Type}{pre:D→Prop}{r:D→AV}{Ko:D→AH}{d:D}{p:List (Option Nat)}{F:List Nat}:mkM pre r Ko (some (d,p,F))=some (pre d,p,F,r d,Ko d):=(rfl)
theorem hNil_dec {H:AH}:hNil.dec H []=some ((),[],[]):=(rfl)
theorem hCons_dec {α β:Type}{c:HC α}{r:HL β}{H:AH}{x:AV}{xs:List AV}:(hCons c r).dec H (x :: xs)=app3 (c.dec H x) (r.dec H xs):=(rfl)
def hP2 {α:Type}(ids:List Nat):Option α→Option (α×List (Option Nat)×List Nat)
 | some a=>some (a,[],ids)
 | none=>none
def hP1 {α:Type}(ns:NS)(c:Cd α):Option (AV×List Nat)→Option (α×List (Option Nat)×List Nat)
 | some (y,ids)=>hP2 ids (c.dec (normA ns y))
 | none=>none
theorem hP_dec {α:Type}{ns:NS}{c:Cd α}{H:AH}{x:AV}:(hP ns c).dec H x=hP1 ns c (res8 H x):=by
 simp only[hP,hP1,hP2]
theorem hP1_some {α:Type}{ns:NS}{c:Cd α}{y:AV}{ids:List Nat}:hP1 ns c (some (y,ids))=hP2 ids (c.dec (normA ns y)):=(rfl)
theorem hP2_some {α:Type}{ids:List Nat}{a:α}:hP2 ids (some a)=some (a,[],ids):=(rfl)
def hO1 {β:Type}(id:Nat):Option (List β)→Option (List β×List (Option Nat)×List Nat)
 | some l=>some (l,[some id],[])
 | none=>none
theorem hO1_some {β:Type}{id:Nat}{l:List β}:hO1 id (some l)=some (l,[some id],[]):=(rfl)
def hO2 {β:Type}(e:TypeId)(z:Nat)(c:Cd β)(id z' len:Nat):Option AO→Option (List β×List (Option Nat)×List Nat)
 | some (.arr e' z'' vs)=>if e'=e∧z'=z∧z''=z∧vs.length=len then hO1 id (decL c.dec vs) else none
 | _=>none
theorem hO2_arr {β:Type}{e:TypeId}{z:Nat}{c:Cd β}{id z' len e' z'':Nat}{vs:List AV}:hO2 e z c id z' len (some (.arr e' z'' vs))=if e'=e∧z'=z∧z''=z∧vs.length=len then hO1 id (decL c.dec vs) else none:=(rfl)
theorem hOwn_dec {β:Type}{e:TypeId}{z:Nat}{c:Cd β}{hc:∀b,(c.enc b).pureB=true}{H:AH}{id z' len:Nat}:(hOwn e z c hc).dec H (.own id z' len)=hO2 e z c id z' len H[id]?:=by
 simp only[hOwn,hO2,hO1]
 all_goals (split <;> first | rfl | simp_all)
theorem hOwn_nls {β:Type}{e:TypeId}{z:Nat}{c:Cd β}{hc:∀b,(c.enc b).pureB=true}{H:AH}:(hOwn e z c hc).dec H .nls=some ([],[none],[]):=(rfl)
def hM1 {κ ν:Type}(ck:Cd κ)(cv:Cd ν)(id:Nat):Option AO→Option (List (κ×ν)×List (Option Nat)×List Nat)
 | some (.mp es)=>hO1 id (decE ck cv es)
 | _=>none
theorem hM1_mp {κ ν:Type}{ck:Cd κ}{cv:Cd ν}{id:Nat}{es:List (AV×AV)}:hM1 ck cv id (some (.mp es))=hO1 id (decE ck cv es):=(rfl)
def hB1 {α:Type}(id:Nat):Option (α×List (Option Nat)×List Nat)→Option (α×List (Option Nat)×List Nat)
 | some (a,p,F)=>some (a,some id :: p,F)
 | none=>none
theorem hB1_some {α:Type}{id:Nat}{a:α}{p:List (Option Nat)}{F:List Nat}:hB1 id (some (a,p,F))=some (a,some id :: p,F):=(rfl)
def hB2 {α:Type}(e:TypeId)(z:Nat)(c:HC α)(H:AH)(id z' len idx off:Nat):Option AO→Option (α×List (Option Nat)×List Nat)
 | some (.arr e' z'' [y])=>if e'=e∧z'=z∧z''=z∧len=1∧idx=0∧off=0 then hB1 id (c.dec H y) else none
 | _=>none
theorem hB2_arr {α:Type}{e:TypeId}{z:Nat}{c:HC α}{H:AH}{id z' len idx off e' z'':Nat}{y:AV}:hB2 e z c H id z' len idx off (some (.arr e' z'' [y]))=if e'=e∧z'=z∧z''=z∧len=1∧idx=0∧off=0 then hB1 id (c.dec H y) else none:=(rfl)
theorem hBox_dec {α:Type}{e:TypeId}{z:Nat}{c:HC α}{H:AH}{id z' len idx off:Nat}:(hBox e z c).dec H (.ptr id z' len idx off)=hB2 e z c H id z' len idx off H[id]?:=by
 simp only[hBox,hB2,hB1]
 all_goals (split <;> first | rfl | simp_all)
theorem hAgg_dec {α:Type}{L:HL α}{H:AH}{cs:List AV}:(hAgg L).dec H (.agg cs)=L.dec H cs:=(rfl)
theorem hFn_dec {α:Type}{f g:FuncId}{L:HL α}{H:AH}{cs:List AV}:(hFn f L).dec H (.fn g cs)=if g=f then L.dec H cs else none:=(rfl)
def hS1 {α:Type}:Option (α×List (Option Nat)×List Nat)→Option (Option α×List (Option Nat)×List Nat)
 | some (a,p,F)=>some (some a,p,F)
 | none=>none
theorem hS1_some {α:Type}{a:α}{p:List (Option Nat)}{F:List Nat}:hS1 (some (a,p,F))=some (some a,p,F):=(rfl)
theorem hOpt_npt {α:Type}{c:HC α}{H:AH}:(hOpt c).dec H .npt=some (none,[],[]):=(rfl)
def hOr1 {α β:Type}(d:Option (β×List (Option Nat)×List Nat)):Option (α×List (Option Nat)×List Nat)→Option ((α ⊕ β)×List (Option Nat)×List Nat)
 | some (a,p,F)=>some (.inl a,p,F)
 | none=>match d with
  | some (a,p,F)=>some (.inr a,p,F)
  | none=>none
theorem hOr1_inl {α β:Type}{d:Option (β×List (Option Nat)×List Nat)}{a:α}{p:List (Option Nat)}{F:List Nat}:hOr1 d (some (a,p,F))=some (.inl a,p,F):=(rfl)
theorem hOr1_inr {α β:Type}{b:β}{p:List (Option Nat)}{F:List Nat}:hOr1 (α:=α) (some (b,p,F)) none=some (.inr b,p,F):=(rfl)
theorem decE_nil {κ ν:Type}(ck:Cd κ)(cv:Cd ν):decE ck cv []=some []:=(rfl)
def consE {κ ν:Type}:Option κ→Option ν→Option (List (κ×ν))→Option (List (κ×ν))
 | some k,some v,some l=>some ((k,v) :: l)
 | _,_,_=>none
theorem consE_some {κ ν:Type}(k:κ)(v:ν)(l:List (κ×ν)):consE (some k) (some v) (some l)=some ((k,v) :: l):=(rfl)
theorem encE_nil {κ ν:Type}(ck:Cd κ)(cv:Cd ν):encE ck cv []=[]:=(rfl)
theorem encE_cons {κ ν:Type}(ck:Cd κ)(cv:Cd ν)(p:κ×ν)(r:List (κ×ν)):encE ck cv (p :: r)=(ck.enc p.1,cv.enc p.2) :: encE ck cv r:=(rfl)
theorem nextM_enc {κ ν:Type}(ck:Cd κ)(cv:Cd ν){c:Option (AV×AV)}{l:List (κ×ν)}{id:Nat}{t t':Tmp}{K:AEnv→AH→Prop}{ev:AEnv}{H:AH} :
 @nextM (some (.it c (encE ck cv l))) id t t' ⟨K⟩ ev H=((l=[]→K ((t',.bool false) :: (t,.top) :: ev) H)∧
  ∀(j:Nat) (p:κ×ν),l[j]? =some p→K ((t',.bool true) :: (t,.top) :: ev) (H.set id (.it (some (ck.enc p.1,cv.enc p.2)) (encE ck cv (l.eraseIdx j))))):=by
 apply propext
 show(encE ck cv l=[]→_)∧_↔_
 have e:∀j,(encE ck cv l).eraseIdx j=encE ck cv (l.eraseIdx j):=fun j=>by
  unfold encE
  induction l generalizing j with
  | nil=>rfl
  | cons p r ih=>cases j with
   | zero=>rfl
   | succ j=>simp [List.eraseIdx_cons_succ,ih j]
 constructor
 ·rintro⟨h1,h2⟩
  refine⟨fun h=>h1 (by rw[h];rfl),fun j p hp=>?_⟩
  have:=h2 j (ck.enc p.1) (cv.enc p.2) (by simp [encE,hp])
  rwa [e] at this
 ·rintro⟨h1,h2⟩
  refine⟨fun h=>h1 (by simpa [encE] using h),fun j k v hp=>?_⟩
  simp only[encE,Qg,Option.map_eq_some_iff] at hp
  obtain⟨p,hp,he⟩:=hp
  cases he
  have:=h2 j p hp
  rw[e];exact this
end Go.Pg
