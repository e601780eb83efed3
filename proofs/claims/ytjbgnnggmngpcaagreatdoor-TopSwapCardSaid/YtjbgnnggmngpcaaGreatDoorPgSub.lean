/- Pg, part 15: a state that says less: slots are forgotten, objects are renamed, given up for writing or no longer told of. -/
import Derived.Test.YtjbgnnggmngpcaaGreatDoorPgPlan
set_option linter.unusedVariables false
set_option linter.unusedSimpArgs false
set_option linter.unusedSectionVars false
open List renaming getElem?_eq_some_iff → Qa,all_eq_true → Qb,getElem?_eq_getElem → Qc,mem_of_getElem? → Qe,range → Qf
open Option renaming isSome_iff_exists → Qd
open Nat renaming le_refl → Qg
namespace Go.Pg
open Go
variable [Syms]
def subL (g:AV→AV→Prop):List AV→List AV→Prop
 | [],[]=>True
 | x :: r,y :: s=>g x y∧subL g r s
 | _,_=>False
theorem subL_get {g:AV→AV→Prop}:∀{l m:List AV},subL g l m→l.length=m.length∧∀(i:Nat) x y,l[i]? =some x→m[i]? =some y→g x y:=by
 intro l
 induction l with
 | nil=>intro m h;cases m with
  | nil=>exact⟨rfl,fun i x y h=>by simp at h⟩
  | cons=>exact h.elim
 | cons x l ih=>
  intro m h
  cases m with
  | nil=>exact h.elim
  | cons y m=>
   obtain⟨h1,h2⟩:=ih h.2
   refine⟨by simp [h1],fun i a b ha hb=>?_⟩
   cases i with
   | zero=>simp at ha hb;subst ha;subst hb;exact h.1
   | succ i=>exact h2 i a b (by simpa using ha) (by simpa using hb)
def resIn (H:AH)(F:List Nat)(x y:AV):Prop:=
 match res H 8 x with
 | some (z,ids)=>z=y∧ids.all F.contains=true
 | none=>False
def subV (H:AH)(F:List Nat)(pick:List (Option Nat)):Nat→AV→AV→Prop
 | 0,_,_=>False
 | d+1,x,y=>match y with
  | .top=>True
  | .own i sz n=>match x with
   | .own j sz' n'=>pick[i]? =some (some j)∧sz'=sz∧n'=n
   | .nls=>pick[i]? =some none∧n=0
   | _=>False
  | .ptr i sz n idx off=>match x with
   | .ptr j sz' n' idx' off'=>pick[i]? =some (some j)∧sz'=sz∧n'=n∧idx'=idx∧off'=off
   | _=>False
  | .agg cs=>match x with
   | .agg cs'=>subL (subV H F pick d) cs' cs
   | _=>False
  | .tuple cs=>match x with
   | .tuple cs'=>subL (subV H F pick d) cs' cs
   | _=>False
  | .fn f cs=>match x with
   | .fn f' cs'=>f'=f∧subL (subV H F pick d) cs' cs
   | _=>False
  | .sl sz vs=>match x with
   | .own j sz' n=>resIn H F (.own j sz' n) (.sl sz vs)
   | .nls=>vs=[]
   | .slc sz' vs'=>sz'=sz∧vs'=vs
   | .sl sz' vs'=>sz'=sz∧vs'=vs
   | _=>False
  | .slc sz vs=>match x with
   | .slc sz' vs'=>sz'=sz∧vs'=vs
   | _=>False
  | .int k n=>match x with
   | .int k' n'=>k'=k∧n'=n
   | _=>False
  | .bool b=>match x with
   | .bool b'=>b'=b
   | _=>False
  | .str s=>match x with
   | .str s'=>s'=s
   | _=>False
  | .nls=>match x with
   | .nls=>True
   | _=>False
  | .yld l=>match x with
   | .yld m=>m=l
   | _=>False
  | .cst l=>match x with
   | .cst m=>m=l
   | _=>False
  | .nfn=>match x with
   | .nfn=>True
   | _=>False
  | .undef=>match x with
   | .undef=>True
   | _=>False
  | .npt=>match x with
   | .npt=>True
   | _=>False
  | .mp i=>match x with
   | .mp j=>pick[i]? =some (some j)
   | _=>False
  | .it i=>match x with
   | .it j=>pick[i]? =some (some j)
   | _=>False
  | .fm es=>match x with
   | .fm es'=>es'=es
   | .mp j=>resIn H F (.mp j) (.fm es)
   | _=>False
  | .rp cs=>match x with
   | .rp cs'=>cs'=cs
   | .ptr j sz n idx off=>resIn H F (.ptr j sz n idx off) (.rp cs)
   | _=>False
  | .win i sz t o n=>match x with
   | .win j sz' t' o' n'=>pick[i]? =some (some j)∧sz'=sz∧t'=t∧o'=o∧n'=n
   | _=>False
  | .mth _ _=>False
  | .cond _ _=>False
  | .sym i=>match x with
   | .sym j=>j=i
   | _=>False
  | .ows i sz n=>match x with
   | .ows j sz' n'=>pick[i]? =some (some j)∧sz'=sz∧n'=n
   | _=>False
def subM (H:AH)(F:List Nat)(pick:List (Option Nat))(g:AV→AV→Prop)(x y:AV):Prop:=
 match y with
  | .top=>True
  | .own i sz n=>match x with
   | .own j sz' n'=>pick[i]? =some (some j)∧sz'=sz∧n'=n
   | .nls=>pick[i]? =some none∧n=0
   | _=>False
  | .ptr i sz n idx off=>match x with
   | .ptr j sz' n' idx' off'=>pick[i]? =some (some j)∧sz'=sz∧n'=n∧idx'=idx∧off'=off
   | _=>False
  | .agg cs=>match x with
   | .agg cs'=>subL g cs' cs
   | _=>False
  | .tuple cs=>match x with
   | .tuple cs'=>subL g cs' cs
   | _=>False
  | .fn f cs=>match x with
   | .fn f' cs'=>f'=f∧subL g cs' cs
   | _=>False
  | .sl sz vs=>match x with
   | .own j sz' n=>resIn H F (.own j sz' n) (.sl sz vs)
   | .nls=>vs=[]
   | .slc sz' vs'=>sz'=sz∧vs'=vs
   | .sl sz' vs'=>sz'=sz∧vs'=vs
   | _=>False
  | .slc sz vs=>match x with
   | .slc sz' vs'=>sz'=sz∧vs'=vs
   | _=>False
  | .int k n=>match x with
   | .int k' n'=>k'=k∧n'=n
   | _=>False
  | .bool b=>match x with
   | .bool b'=>b'=b
   | _=>False
  | .str s=>match x with
   | .str s'=>s'=s
   | _=>False
  | .nls=>match x with
   | .nls=>True
   | _=>False
  | .yld l=>match x with
   | .yld m=>m=l
   | _=>False
  | .cst l=>match x with
   | .cst m=>m=l
   | _=>False
  | .nfn=>match x with
   | .nfn=>True
   | _=>False
  | .undef=>match x with
   | .undef=>True
   | _=>False
  | .npt=>match x with
   | .npt=>True
   | _=>False
  | .mp i=>match x with
   | .mp j=>pick[i]? =some (some j)
   | _=>False
  | .it i=>match x with
   | .it j=>pick[i]? =some (some j)
   | _=>False
  | .fm es=>match x with
   | .fm es'=>es'=es
   | .mp j=>resIn H F (.mp j) (.fm es)
   | _=>False
  | .rp cs=>match x with
   | .rp cs'=>cs'=cs
   | .ptr j sz n idx off=>resIn H F (.ptr j sz n idx off) (.rp cs)
   | _=>False
  | .win i sz t o n=>match x with
   | .win j sz' t' o' n'=>pick[i]? =some (some j)∧sz'=sz∧t'=t∧o'=o∧n'=n
   | _=>False
  | .mth _ _=>False
  | .cond _ _=>False
  | .sym i=>match x with
   | .sym j=>j=i
   | _=>False
  | .ows i sz n=>match x with
   | .ows j sz' n'=>pick[i]? =some (some j)∧sz'=sz∧n'=n
   | _=>False
theorem subV_succ (H:AH)(F:List Nat)(pick:List (Option Nat))(d:Nat)(x y:AV):subV H F pick (d+1) x y=subM H F pick (subV H F pick d) x y:=(rfl)
def subC (H:AH)(F:List Nat)(pick:List (Option Nat))(x y:AV):Prop:=subL (subV H F pick 8) x.cells y.cells
def subX (H:AH)(F:List Nat)(pick:List (Option Nat))(vs ws:List AV):Prop:=
 (vs=ws∧ws.all AV.pureB=true)∨subL (subC H F pick) vs ws
theorem subX_eq {H:AH}{F:List Nat}{pick:List (Option Nat)}{vs ws:List AV}(h:vs=ws)(hp:ws.all AV.pureB=true):subX H F pick vs ws:= .inl ⟨h,hp⟩
def subO (H:AH)(F:List Nat)(pick:List (Option Nat))(p:Option Nat)(y:AO):Prop:=
 match p with
 | some j=>match H[j]?,y with
  | some (.arr e sz vs),.arr e' sz' ws=>e=e'∧sz=sz'∧subX H F pick vs ws
  | some (.frz e sz vs),.frz e' sz' ws=>e=e'∧sz=sz'∧subX H F pick vs ws
  | some (.mp es),.mp es'=>es=es'
  | some (.fmp es),.fmp es'=>es=es'
  | some (.it cur es),.it cur' es'=>cur=cur'∧es=es'
  | some (.tok i),.tok j=>i=j
  | _,.dead=>True
  | _,_=>False
 | none=>match y with
  | .arr _ _ ws=>ws=[]
  | _=>False
def subOs (H:AH)(F:List Nat)(pick:List (Option Nat)):List (Option Nat)→AH→Prop
 | [],[]=>True
 | p :: ps,y :: r=>subO H F pick p y∧subOs H F pick ps r
 | _,_=>False
def subEv (H:AH)(F:List Nat)(pick:List (Option Nat))(ev':AEnv):AEnv→Prop
 | []=>True
 | (t,v) :: r=>subV H F pick 8 (look t ev') v∧subEv H F pick ev' r
def aliveO:AO→Bool
 | .dead=>false
 | _=>true
def alives:AH→List Bool
 | []=>[]
 | o :: r=>aliveO o :: alives r
theorem alives_get:∀{H:AH}{i:Nat}{o:AO},H[i]? =some o→(alives H)[i]? =some (aliveO o):=by
 intro H
 induction H with
 | nil=>intro i o h;simp at h
 | cons x H ih=>
  intro i o h
  cases i with
  | zero=>simp at h;subst h;rfl
  | succ i=>simpa [alives] using ih (by simpa using h)
def pickOK (n0:Nat)(pick:List (Option Nat))(al:List Bool):Bool:=
 (pick.take n0 == (Qf n0).map some) && (Qf pick.length).all fun i=>(Qf pick.length).all fun j=>(i == j) || ((pick[i]?).getD none == none) || (pick[i]? !=pick[j]?) || !(al.getD i true) || !(al.getD j true)
def subS (n0:Nat)(ev':AEnv)(H':AH)(ev:AEnv)(H:AH):Prop:=
 ∃(F:List Nat) (pick:List (Option Nat)),pickOK n0 pick (alives H)=true∧subOs (freeze F H') F pick pick H∧subEv (freeze F H') F pick ev' ev
theorem subX_len {H:AH}{F:List Nat}{pick:List (Option Nat)}{vs ws:List AV}(h:subX H F pick vs ws):vs.length=ws.length:=by
 rcases h with⟨rfl,_⟩ | h
 ·rfl
 ·exact(subL_get h).1
def pairs0:AV→AV→List (Nat×Option Nat)
 | .own i _ _,.own j _ _=>[(i,some j)]
 | .own i _ _,.nls=>[(i,none)]
 | .ptr i _ _ _ _,.ptr j _ _ _ _=>[(i,some j)]
 | .mp i,.mp j=>[(i,some j)]
 | .it i,.it j=>[(i,some j)]
 | _,_=>[]
def pairsL (g:AV→AV→List (Nat×Option Nat)):List AV→List AV→List (Nat×Option Nat)
 | x :: xs,y :: ys=>g x y ++ pairsL g xs ys
 | _,_=>[]
def pairsC (g:AV→AV→List (Nat×Option Nat)):AV→AV→List (Nat×Option Nat)
 | .agg xs,.agg ys=>pairsL g xs ys
 | .tuple xs,.tuple ys=>pairsL g xs ys
 | .fn _ xs,.fn _ ys=>pairsL g xs ys
 | x,y=>pairs0 x y
def pairsE (ev':AEnv):AEnv→List (Nat×Option Nat)
 | []=>[]
 | (t,v) :: r=>pairsC (pairsC pairs0) v (look t ev') ++ pairsE ev' r
def assocN (i:Nat):List (Nat×Option Nat)→Option Nat
 | []=>none
 | (j,x) :: r=>if i=j then x else assocN i r
def pickOf (n0:Nat)(l:List (Nat×Option Nat))(H:AH)(i:Nat):List (Option Nat):=
 match H with
 | []=>[]
 | _ :: r=>(if i<n0 then some i else assocN i l) :: pickOf n0 l r (i+1)
def frz0 (H':AH):AV→AV→List Nat
 | .sl _ _,.own j sz n=>match res H' 8 (.own j sz n) with
  | some (_,ids)=>ids
  | none=>[]
 | .rp _,.ptr j sz n idx off=>match res H' 8 (.ptr j sz n idx off) with
  | some (_,ids)=>ids
  | none=>[]
 | .fm _,.mp j=>match res H' 8 (.mp j) with
  | some (_,ids)=>ids
  | none=>[]
 | _,_=>[]
def frzL (g:AV→AV→List Nat):List AV→List AV→List Nat
 | x :: xs,y :: ys=>g x y ++ frzL g xs ys
 | _,_=>[]
def frzC (H':AH):AV→AV→List Nat
 | .agg xs,.agg ys=>frzL (frz0 H') xs ys
 | .fn _ xs,.fn _ ys=>frzL (frz0 H') xs ys
 | .tuple xs,.tuple ys=>frzL (fun x y=>match x,y with
  | .agg xs,.agg ys=>frzL (frz0 H') xs ys
  | x,y=>frz0 H' x y) xs ys
 | x,y=>frz0 H' x y
def frzE (H':AH)(ev':AEnv):AEnv→List Nat
 | []=>[]
 | (t,v) :: r=>frzC H' v (look t ev') ++ frzE H' ev' r
def frzH:List (Option Nat)→AH→List Nat
 | some j :: ps,.frz _ _ _ :: r=>j :: frzH ps r
 | _ :: ps,_ :: r=>frzH ps r
 | _,_=>[]
def subG (n0:Nat)(ev':AEnv)(H':AH)(ev:AEnv)(H:AH)(pick:List (Option Nat))(F:List Nat):Prop:=
 pickOK n0 pick (alives H)=true∧subOs (freeze F H') F pick pick H∧subEv (freeze F H') F pick ev' ev
def ptrsE (ev':AEnv):AEnv→List (Nat×Nat)
 | []=>[]
 | (t,v) :: r=>(match v,look t ev' with
  | .ptr i _ _ _ _,.ptr j _ _ _ _=>[(i,j)]
  | _,_=>[]) ++ ptrsE ev' r
def hdS (vs:List AV):Option AV:=
 if vs.all AV.pureB=true then none else match vs with
  | [x]=>some x
  | _=>none
def pairsA (y:Option AV)(ws:List AV):List (Nat×Option Nat):=
 match y with
 | some y=>match ws with
  | [x]=>pairsC (pairsC pairs0) x y
  | _=>[]
 | none=>[]
def frzA (H':AH)(y:Option AV)(ws:List AV):List Nat:=
 match y with
 | some y=>match ws with
  | [x]=>frzC H' x y
  | _=>[]
 | none=>[]
def pairsO (H' H:AH):List (Nat×Nat)→List (Nat×Option Nat)
 | []=>[]
 | (i,j) :: r=>(match H[i]?,H'[j]? with
  | some (.arr _ _ ws),some (.arr _ _ vs)=>pairsA (hdS vs) ws
  | _,_=>[]) ++ pairsO H' H r
def frzO (H' H:AH):List (Nat×Nat)→List Nat
 | []=>[]
 | (i,j) :: r=>(match H[i]?,H'[j]? with
  | some (.arr _ _ ws),some (.arr _ _ vs)=>frzA H' (hdS vs) ws
  | _,_=>[]) ++ frzO H' H r
def subF (n0:Nat)(ev':AEnv)(H':AH)(ev:AEnv)(H:AH)(q:List (Nat×Nat))(pick:List (Option Nat)):Prop:=
 subG n0 ev' H' ev H pick (frzE H' ev' ev ++ frzO H' H q ++ frzH pick H)
def subQ (n0:Nat)(ev':AEnv)(H':AH)(ev:AEnv)(H:AH)(q:List (Nat×Nat)):Prop:=
 subF n0 ev' H' ev H q (pickOf n0 (pairsE ev' ev ++ pairsO H' H q) H 0)
def nxtQ:List (Nat×Option Nat)→List (Nat×Nat)
 | []=>[]
 | (i,some j) :: r=>(i,j) :: nxtQ r
 | (_,none) :: r=>nxtQ r
def closeQ (H' H:AH):Nat→List (Nat×Nat)→List (Nat×Nat)
 | _,[]=>[]
 | 0,q=>q
 | d+1,p :: q=>p :: q ++ closeQ H' H d (nxtQ (pairsO H' H (p :: q)))
def diagQ:Nat→List (Nat×Nat)
 | 0=>[]
 | n+1=>(n,n) :: diagQ n
theorem closeQ_nil {H' H:AH}{d:Nat}:closeQ H' H d []=[]:=by cases d <;> rfl
theorem closeQ_zero {H' H:AH}{p:Nat×Nat}{q:List (Nat×Nat)}:closeQ H' H 0 (p :: q)=p :: q:=(rfl)
theorem closeQ_succ {H' H:AH}{d:Nat}{p:Nat×Nat}{q:List (Nat×Nat)}:closeQ H' H (d+1) (p :: q)=p :: q ++ closeQ H' H d (nxtQ (pairsO H' H (p :: q))):=(rfl)
theorem diagQ_zero:diagQ 0=[]:=(rfl)
theorem diagQ_succ {n:Nat}:diagQ (n+1)=(n,n) :: diagQ n:=(rfl)
def subA (n0:Nat)(ev':AEnv)(H':AH)(ev:AEnv)(H:AH):Prop:=
 subQ n0 ev' H' ev H (closeQ H' H 3 (ptrsE ev' ev ++ diagQ n0))
theorem subS_of {n0:Nat}{ev' ev:AEnv}{H' H:AH}(h:subA n0 ev' H' ev H):subS n0 ev' H' ev H:=⟨_,_,h⟩
def Marks (W:World)(B:Nat):List Deferred→Prop
 | []=>True
 | d :: ds=>(∃D,B≤D∧d={ target:= .collected D,args:= #[] }∧W.heap[D]? =some (.deferred (some []))∧∀d'∈ds,∃D',D'<D∧d'={ target:= .collected D',args:= #[] })∧Marks W B ds
theorem Marks.same {W W':World}{B:Nat}{ds:List Deferred}(h:Marks W B ds)(hs:∀D:Nat,W.heap[D]? =some (Obj.deferred (some []))→W'.heap[D]? =some (Obj.deferred (some []))):Marks W' B ds:=by
 induction ds with
 | nil=>trivial
 | cons d ds ih=>
  obtain⟨⟨D,h1,h2,h3,h4⟩,h5⟩:=h
  exact⟨⟨D,h1,h2,hs D h3,h4⟩,ih h5⟩
theorem Marks.step {H H':AH}{E E':Env}{B:Nat}{ds:List Deferred}(hr:Rel H E)(hs:Step H E H' E')(h:Marks E.W B ds):Marks E'.W B ds:=by
 refine h.same fun D hD=>?_
 rw[hs.mv.keep D (Array.getElem?_eq_some_iff.1 hD).1 ?_,hD]
 rintro⟨id,o,h1,h2,h3⟩
 have h0:=hr.orow id o _ h1 h3
 cases o with
 | arr e sz vs=>
  rcases h0 with⟨h3,_⟩ | ⟨b,c,fz,h3,h4,_⟩
  ·cases h3
  ·cases h3;rw[hD] at h4;cases h4
 | tok i=>
  rcases h0 with⟨h3,_⟩ | ⟨b,c,fz,h3,h4,_⟩
  ·cases h3
  ·cases h3;rw[hD] at h4;cases h4
 | mp es=>obtain⟨b,a,cl,h3,h4,_⟩:=h0;cases h3;rw[hD] at h4;cases h4
 | it cur es=>obtain⟨b,bm,seen,a,cl,h3,h4,_⟩:=h0;cases h3;rw[hD] at h4;cases h4
 | _=>cases h2
structure At (N:Nat) (H0:AH) (E0:Env) (ev:AEnv) (H:AH) (E:Env) (a:Act):Prop where
 size:a.tmps.size=N
 defers:Marks E.W E0.W.heap.size a.defers
 env:∀t,VR E (look t ev) (a.tmps.getD t Go.undef)
 rel:Rel H E
 step:Step H0 E0 H E
theorem subOs_get {H:AH}{F:List Nat}{pick:List (Option Nat)}:∀{ps:List (Option Nat)}{K:AH},subOs H F pick ps K→ps.length=K.length∧∀(i:Nat) p y,ps[i]? =some p→K[i]? =some y→subO H F pick p y:=by
 intro ps
 induction ps with
 | nil=>intro K h;cases K with
  | nil=>exact⟨rfl,fun i x y h=>by simp at h⟩
  | cons=>exact h.elim
 | cons x l ih=>
  intro m h
  cases m with
  | nil=>exact h.elim
  | cons y m=>
   obtain⟨h1,h2⟩:=ih h.2
   refine⟨by simp [h1],fun i a b ha hb=>?_⟩
   cases i with
   | zero=>simp at ha hb;subst ha;subst hb;exact h.1
   | succ i=>exact h2 i a b (by simpa using ha) (by simpa using hb)
theorem hlOf_sub {H:AH}{F:List Nat}{pick:List (Option Nat)}{K:AH}(h:subOs H F pick pick K){i j:Nat}(hp:pick[i]? =some (some j)){L:Nat}(hL:hlOf K i=some L):hlOf H j=some L:=by
 obtain⟨hlen,hg⟩:=subOs_get h
 have hi:i<K.length:=by rw[←hlen];exact(Qa.1 hp).1
 have ho:=hg i (some j) K[i] hp (by simp [hi])
 rw[←hL]
 unfold hlOf at hL ⊢
 rw[Qc hi] at hL ⊢
 unfold subO at ho
 simp only at ho
 split at ho
 ·next h1 h2=>rw[h1,h2];simp [AO.len,subX_len ho.2.2]
 ·next h1 h2=>rw[h1,h2];simp [AO.len,subX_len ho.2.2]
 ·next h1 h2=>rw[h1,h2];simp [AO.len]
 ·next h1 h2=>rw[h1,h2];simp [AO.len]
 ·next h1 h2=>rw[h1,h2];simp [AO.len]
 ·next h1 h2=>rw[h1,h2,ho]
 ·next hd=>rw[hd] at hL;cases hL
 ·exact ho.elim
theorem hlOf_none {H:AH}{F:List Nat}{pick:List (Option Nat)}{K:AH}(h:subOs H F pick pick K){i:Nat}(hp:pick[i]? =some none):hlOf K i=some 0:=by
 obtain⟨hlen,hg⟩:=subOs_get h
 have hi:i<K.length:=by rw[←hlen];exact(Qa.1 hp).1
 have ho:=hg i none K[i] hp (by simp [hi])
 unfold hlOf
 rw[Qc hi]
 unfold subO at ho
 simp only at ho
 split at ho
 ·next h2=>rw[h2];simp [AO.len,ho]
 ·exact ho.elim
theorem subV_VR {H K:AH}{F:List Nat}{pick:List (Option Nat)}{E E':Env}(hr:Rel H E)(hos:subOs H F pick pick K)(hF:∀id∈F,∀o,H[id]? =some o→H[id]? =some (fixO o))
 (hW:E'.W=E.W) (hst:E'.st=E.st) (hM:E'.M=newM pick E.M) (hhl:E'.hl=hlOf K) :
 ∀(d:Nat) (x y:AV) (v:Value),subV H F pick d x y→VR E x v→VR E' y v:=by
 have hvp:∀{c u},VP E.W E.st c u→VR E' c u:=by
  intro c u h
  rw[←hW,←hst] at h
  exact h.vr
 intro d
 induction d with
 | zero=>intro x y v h;exact h.elim
 | succ d ih=>
  intro x y v h hv
  cases y <;> simp only[subV] at h
  case top=>exact .top v
  case sym=>split at h <;> first | exact h.elim | (subst h;cases hv with | sym _ _ h=>exact .sym _ _ (by rw[hW,hst];exact h))
  case ows i sz j=>
   split at h
   ·next j' sz' n'=>
    obtain⟨hp,rfl,rfl⟩:=h
    cases hv with
    | ows _ _ _ _ hv=>
    refine .ows _ _ _ _ ?_
    cases hv with
    | own _ _ _ a cap hm hz hlen=>
    have hMi:E'.M i=E.M j':=by rw[hM];simp [newM,hp]
    refine .own i _ _ a cap (by rw[hMi];exact hm) hz fun L hL=>?_
    rw[hhl] at hL
    replace hL:=hlOf_sub hos hp hL
    rw[←hr.hl] at hL
    obtain⟨h1,h2⟩:=hlen L hL
    exact⟨h1,fun he=>by rw[hMi,hW];exact h2 he⟩
   ·exact h.elim
  case undef=>split at h <;> first | exact h.elim | (rw[hv.undef_inv];exact .undef)
  case nls=>split at h <;> first | exact h.elim | (rw[hv.nls_inv];exact .nls)
  case nfn=>split at h <;> first | exact h.elim | (rw[hv.nfn_inv];exact .nfn)
  case npt=>split at h <;> first | exact h.elim | (cases hv;exact .npt)
  case mp i=>
   split at h
   ·next j=>
    cases hv with
    | mp _ b hm hl=>
    have hMi:E'.M i=E.M j:=by rw[hM];simp [newM,h]
    exact .mp i b (by rw[hMi];exact hm) fun hL=>by
     rw[hhl] at hL
     replace hL:=hlOf_sub hos h hL
     rw[←hr.hl] at hL
     rw[hMi];exact hl hL
   ·exact h.elim
  case it i=>
   split at h
   ·next j=>
    cases hv with
    | it _ b hm hl=>
    have hMi:E'.M i=E.M j:=by rw[hM];simp [newM,h]
    exact .it i b (by rw[hMi];exact hm) fun hL=>by
     rw[hhl] at hL
     replace hL:=hlOf_sub hos h hL
     rw[←hr.hl] at hL
     rw[hMi];exact hl hL
   ·exact h.elim
  case win i sz t o n=>
   split at h
   ·next j sz' t' o' n'=>
    obtain⟨h,rfl,rfl,rfl,rfl⟩:=h
    cases hv with
    | win _ _ _ _ _ a cap hc hm hl=>
    have hMi:E'.M i=E.M j:=by rw[hM];simp [newM,h]
    exact .win i _ _ _ _ a cap hc (by rw[hMi];exact hm) fun L hL=>by
     rw[hhl] at hL
     replace hL:=hlOf_sub hos h hL
     rw[←hr.hl] at hL
     rw[hMi];exact hl L hL
   ·exact h.elim
  case yld l=>split at h <;> first | exact h.elim | (rw[hv.yld_inv,h];exact .yld l)
  case cst l=>split at h <;> first | exact h.elim | (cases hv;rw[h];exact .cst l)
  case int k n=>split at h <;> first | exact h.elim | (obtain⟨rfl,rfl⟩:=h;rw[hv.int_inv];exact .int _ _)
  case bool b=>split at h <;> first | exact h.elim | (subst h;rw[hv.bool_inv];exact .bool _)
  case str s=>split at h <;> first | exact h.elim | (subst h;obtain⟨b,rfl,rfl⟩:=hv.str_inv;exact .str _)
  case agg cs=>
   split at h
   ·obtain⟨us,rfl,h1,h2⟩:=hv.agg_inv
    obtain⟨h3,h4⟩:=subL_get h
    rename_i cs'
    refine .agg cs us (by rw[h1,h3]) fun i c hc=>?_
    have hi:i<cs'.length:=by rw[h3];exact(Qa.1 hc).1
    exact ih _ c _ (h4 i cs'[i] c (by simp [hi]) hc) (h2 i cs'[i] (by simp [hi]))
   ·exact h.elim
  case tuple cs=>
   split at h
   ·obtain⟨us,rfl,h1,h2⟩:=hv.tuple_inv
    obtain⟨h3,h4⟩:=subL_get h
    rename_i cs'
    refine .tuple cs us (by rw[h1,h3]) fun i c hc=>?_
    have hi:i<cs'.length:=by rw[h3];exact(Qa.1 hc).1
    exact ih _ c _ (h4 i cs'[i] c (by simp [hi]) hc) (h2 i cs'[i] (by simp [hi]))
   ·exact h.elim
  case fn f cs=>
   split at h
   ·obtain⟨rfl,h⟩:=h
    obtain⟨us,rfl,h1,h2⟩:=hv.fn_inv
    obtain⟨h3,h4⟩:=subL_get h
    rename_i cs'
    refine .fn _ cs us (by rw[h1,h3]) fun i c hc=>?_
    have hi:i<cs'.length:=by rw[h3];exact(Qa.1 hc).1
    exact ih _ c _ (h4 i cs'[i] c (by simp [hi]) hc) (h2 i cs'[i] (by simp [hi]))
   ·exact h.elim
  case sl sz vs=>
   split at h
   ·next j sz' n=>
    unfold resIn at h
    split at h
    ·next z ids hres=>
     obtain⟨rfl,hids⟩:=h
     refine hvp (res_sound hr 8 _ _ ids v hres hv fun id hid o ho=>hF id ?_ o ho)
     have:=Qb.1 hids id hid
     simpa using this
    ·exact h.elim
   ·subst h
    rw[hv.nls_inv]
    exact .sl sz [] none 0 (fun _ _=>Go.undef) (by simp) (fun i v h=>by simp at h) (fun i v j c h=>by simp at h)
   ·obtain⟨rfl,rfl⟩:=h
    cases hv with
    | slc _ _ a f h2 h3=>exact hvp (.sl _ _ a _ f (Qg _) h2 h3)
   ·obtain⟨rfl,rfl⟩:=h
    cases hv with
    | sl _ _ a cap f h1 h2 h3=>exact hvp (.sl _ _ a cap f h1 h2 h3)
   ·exact h.elim
  case slc sz vs=>
   split at h
   ·obtain⟨rfl,rfl⟩:=h
    cases hv with
    | slc _ _ a f h2 h3=>exact hvp (.slc _ _ a f h2 h3)
   ·exact h.elim
  case own i sz n=>
   split at h
   ·next j sz' n'=>
    obtain⟨hp,rfl,rfl⟩:=h
    cases hv with
    | own _ _ _ a cap hm hz hlen=>
    have hMi:E'.M i=E.M j:=by rw[hM];simp [newM,hp]
    refine .own i _ _ a cap (by rw[hMi];exact hm) hz fun L hL=>?_
    rw[hhl] at hL
    replace hL:=hlOf_sub hos hp hL
    rw[←hr.hl] at hL
    obtain⟨h1,h2⟩:=hlen L hL
    exact⟨h1,fun he=>by rw[hMi,hW];exact h2 he⟩
   ·obtain⟨hp,rfl⟩:=h
    rw[hv.nls_inv]
    have hMi:E'.M i=some none:=by rw[hM];simp [newM,hp]
    refine .own i _ 0 none 0 (by rw[hMi];rfl) (fun _=>rfl) fun L hL=>?_
    rw[hhl,hlOf_none hos hp] at hL
    cases hL
    exact⟨Qg _,fun _=> .inl ⟨hMi,rfl,rfl⟩⟩
   ·exact h.elim
  case ptr i sz n idx off=>
   split at h
   ·next j sz' n' idx' off'=>
    obtain⟨hp,rfl,rfl,rfl,rfl⟩:=h
    cases hv with
    | ptr _ _ _ _ _ a hm hlen=>
    have hMi:E'.M i=E.M j:=by rw[hM];simp [newM,hp]
    refine .ptr i _ _ _ _ a (by rw[hMi];exact hm) fun L hL=>?_
    rw[hhl] at hL
    replace hL:=hlOf_sub hos hp hL
    rw[←hr.hl] at hL
    obtain⟨h1,h2⟩:=hlen L hL
    exact⟨h1,fun he=>by rw[hMi];exact h2 he⟩
   ·exact h.elim
  case fm es=>
   split at h
   ·subst h
    cases hv with
    | fm _ b a cl g1 g2 g3 g4 g5 g6=>exact hvp (.fm _ b a cl g1 g2 g3 g4 g5 g6)
   ·next j=>
    unfold resIn at h
    split at h
    ·next z ids hres=>
     obtain⟨rfl,hids⟩:=h
     refine hvp (res_sound hr 8 _ _ ids v hres hv fun id hid o ho=>hF id ?_ o ho)
     have:=Qb.1 hids id hid
     simpa using this
    ·exact h.elim
   ·exact h.elim
  case rp cs=>
   split at h
   ·subst h
    cases hv with
    | rp _ b o f hs hc hv=>exact .rp _ b o f (by rw[hst];exact hs) (fun j c hj=>by rw[hW];exact hc j c hj) (fun j c hj=>by rw[hW,hst];exact hv j c hj)
   ·next j sz' n idx off=>
    unfold resIn at h
    split at h
    ·next z ids hres=>
     obtain⟨rfl,hids⟩:=h
     refine hvp (res_sound hr 8 _ _ ids v hres hv fun id hid o ho=>hF id ?_ o ho)
     have:=Qb.1 hids id hid
     simpa using this
    ·exact h.elim
   ·exact h.elim
theorem subX_VR {H K:AH}{F:List Nat}{pick:List (Option Nat)}{E E':Env}(hr:Rel H E)(hos:subOs H F pick pick K)(hF:∀id∈F,∀o,H[id]? =some o→H[id]? =some (fixO o))
 (hW:E'.W=E.W) (hst:E'.st=E.st) (hM:E'.M=newM pick E.M) (hhl:E'.hl=hlOf K) {vs ws:List AV} (h:subX H F pick vs ws) :
 ∀(i:Nat) v w,vs[i]? =some v→ws[i]? =some w→w.cells.length=v.cells.length∧∀(k:Nat) c c' u,v.cells[k]? =some c→w.cells[k]? =some c'→VR E c u→VR E' c' u:=by
 intro i v w hv hw
 rcases h with⟨rfl,hp⟩ | h
 ·rw[hv] at hw;cases hw
  refine⟨rfl,fun k c c' u h1 h2 h3=>?_⟩
  rw[h1] at h2;cases h2
  have:=pureLeaf_VP h3 (Qb.1 (Qb.1 hp v (Qe hv)) c (Qe h1))
  rw[←hW,←hst] at this
  exact this.vr
 ·obtain⟨h1,h2⟩:=subL_get ((subL_get h).2 i v w hv hw)
  exact⟨h1.symm,fun k c c' u a1 a2 a3=>subV_VR hr hos hF hW hst hM hhl 8 c c' u (h2 k c c' a1 a2) a3⟩
def Touch (H:AH)(E:Env)(b:Nat):Prop:=E.st b∨Live H E.M b
theorem sub_core {n0:Nat}{ev' ev:AEnv}{H' H:AH}{E':Env}{tm:Array Value}(hrel':Rel H' E')(henv:∀t,VR E' (look t ev') (tm.getD t Go.undef))(hs:subS n0 ev' H' ev H) :
 ∃E,E.W=E'.W∧Rel H E∧(∀t,VR E (look t ev) (tm.getD t Go.undef))∧(∀b,E'.st b→E.st b)∧(∀b,E.st b→Touch H' E' b)∧(∀b,Live H E.M b→Live H' E'.M b)∧(∀i,i<n0→i<H'.length→E.M i=E'.M i∧∀L,E.hl i=some L→E'.hl i=some L):=by
 obtain⟨F,pick,hpk,hos,hev⟩:=hs
 obtain⟨E1,hr1,hW1,hM1,hst1⟩:=hrel'.le (freeze_le F H')
 have hF:∀id∈F,∀o,(freeze F H')[id]? =some o→(freeze F H')[id]? =some (fixO o):=by
  intro id hid o ho
  have hl:id<H'.length:=by have:=(Qa.1 ho).1;rwa [freeze_length] at this
  have h1:=freeze_at F H' id H'[id] hid (by simp [hl])
  rw[h1] at ho;cases ho
  rw[h1,fixO_idem]
 obtain⟨H1,hH1⟩:∃H1,freeze F H'=H1:=⟨_,rfl⟩
 rw[hH1] at hr1 hst1 hos hev hF
 have hx1:=hst1.ext hrel'
 let E:Env:={ W:=E1.W,M:=newM pick E1.M,st:=E1.st,hl:=hlOf H }
 obtain⟨hlen,hg⟩:=subOs_get hos
 simp only[pickOK,Bool.and_eq_true,beq_iff_eq] at hpk
 obtain⟨hp0,hinj⟩:=hpk
 have hpinj:∀(i j k:Nat) oi oj,H[i]? =some oi→H[j]? =some oj→oi.lives=true→oj.lives=true→pick[i]? =some (some k)→pick[j]? =some (some k)→i=j:=by
  intro i j k oi oj hoi hoj li lj hi hj
  have ai:(alives H)[i]? =some true:=by rw[alives_get hoi];cases oi <;> first | rfl | cases li
  have aj:(alives H)[j]? =some true:=by rw[alives_get hoj];cases oj <;> first | rfl | cases lj
  have hil:i<pick.length:=(Qa.1 hi).1
  have hjl:j<pick.length:=(Qa.1 hj).1
  have:=Qb.1 (Qb.1 hinj i (by simpa using hil)) j (by simpa using hjl)
  simpa [hi,hj,List.getD_eq_getElem?_getD,ai,aj] using this
 have hpid:∀i,i<n0→pick[i]? =some (some i):=by
  intro i hi
  have h1:(pick.take n0)[i]? =((Qf n0).map some)[i]?:=by rw[hp0]
  rw[List.getElem?_take_of_lt hi] at h1
  rw[h1];simp [hi]
 have hxv:= @subX_VR _ H1 H F pick E1 E hr1 hos hF rfl rfl rfl rfl
 have row:∀(i:Nat) y m,H[i]? =some y→E.M i=some m→(m=none∧pick[i]? =some none∧∃e sz,y= .arr e sz [])∨∃j,pick[i]? =some (some j)∧E1.M j=some m∧subO H1 F pick (some j) y:=by
  intro i y m hy hm
  have hil:i<pick.length:=by rw[hlen];exact(Qa.1 hy).1
  have ho:=hg i pick[i] y (by simp [hil]) hy
  have hm':newM pick E1.M i=some m:=hm
  unfold newM at hm'
  rw[Qc hil] at hm' ⊢
  cases hp:pick[i] with
  | none=>
   rw[hp] at hm' ho
   simp only[Option.some.injEq] at hm'
   subst hm'
   unfold subO at ho
   simp only at ho
   split at ho
   ·exact .inl ⟨rfl,rfl,_,_,by rw[ho]⟩
   ·exact ho.elim
  | some j=>
   rw[hp] at hm' ho
   exact .inr ⟨j,rfl,hm',ho⟩
 have arow:∀(vs ws:List AV) (m:Option Nat) (e:TypeId) (sz:Nat),subX H1 F pick vs ws→ARow E1 m e sz vs→ARow E m e sz ws:=by
  intro vs ws m e sz hx ha
  have hl:=subX_len hx
  rcases ha with⟨h1,h2⟩ | ⟨b,c,fz,h1,h2,h3,h4,h5⟩
  ·subst h2;exact .inl ⟨h1,List.eq_nil_of_length_eq_zero (by simpa using hl.symm)⟩
  ·refine .inr ⟨b,c,fz,h1,h2,by rw[←hl];exact h3,h4,fun i w hw=>?_⟩
   have hi:i<vs.length:=by rw[hl];exact(Qa.1 hw).1
   obtain⟨k1,k2⟩:=hxv hx i vs[i] w (by simp [hi]) hw
   obtain⟨k3,k4⟩:=h5 i vs[i] (by simp [hi])
   refine⟨by rw[k1,k3],fun k cc hcc=>?_⟩
   have hk:k<vs[i].cells.length:=by rw[←k1];exact(Qa.1 hcc).1
   obtain⟨u,hu,hvr⟩:=k4 k vs[i].cells[k] (by simp [hk])
   exact⟨u,hu,k2 k _ cc u (by simp [hk]) hcc hvr⟩
 have hlive:∀(i:Nat) o b,H[i]? =some o→o.lives=true→E.M i=some (some b)→∃j o',pick[i]? =some (some j)∧H1[j]? =some o'∧o'.lives=true∧E1.M j=some (some b):=by
  intro i o b hy hl hm
  rcases row i _ _ hy hm with⟨h1,_⟩ | ⟨j,h1,h2,h3⟩
  ·cases h1
  ·unfold subO at h3
   simp only at h3
   split at h3 <;> first | exact h3.elim | (cases hl;done) | (next h4=>exact⟨j,_,h1,h4,rfl,h2⟩)
 have hent:∀es a,EntsAt E1 es a→EntsAt E es a:=fun es a he=>⟨he.size,fun i k x hi=>he.ent i k x hi⟩
 have hrel:Rel H E:=by
  refine⟨rfl,?_,?_,?_,?_,?_,hr1.stlt⟩
  ·intro i hi
   simp [E,newM,List.getElem?_eq_none (show pick.length≤i by omega)]
  ·intro i o m hy hm
   rcases row i _ _ hy hm with⟨h1,_,e',sz',h2⟩ | ⟨j,h1,h2,h3⟩
   ·subst h2;exact .inl ⟨h1,rfl⟩
   ·unfold subO at h3
    simp only at h3
    split at h3
    ·next h4=>obtain⟨rfl,rfl,h6⟩:=h3;exact arow _ _ _ _ _ h6 (hr1.orow j _ m h4 h2)
    ·next h4=>obtain⟨rfl,rfl,h6⟩:=h3;exact arow _ _ _ _ _ h6 (hr1.orow j _ m h4 h2)
    ·next h4=>
     subst h3
     obtain⟨b,a,cl,g1,g2,g3,g4⟩:=hr1.orow j _ m h4 h2
     exact⟨b,a,cl,g1,g2,hent _ _ g3,g4⟩
    ·next h4=>
     subst h3
     obtain⟨b,a,cl,g1,g2,g3,g4⟩:=hr1.orow j _ m h4 h2
     exact⟨b,a,cl,g1,g2,hent _ _ g3,g4⟩
    ·next h4=>
     obtain⟨rfl,rfl⟩:=h3
     obtain⟨b,bm,seen,a,cl,g1,g2,g3,g4,g5,g6,g7⟩:=hr1.orow j _ m h4 h2
     exact⟨b,bm,seen,a,cl,g1,g2,g3,g4,hent _ _ g5,g6,g7⟩
    ·next h4=>
     subst h3
     exact arow _ _ _ _ _ (.inl ⟨rfl,tames_pure (Syms.tames _)⟩) (hr1.orow j _ m h4 h2)
    ·trivial
    ·exact h3.elim
  ·intro i o b hy hl hm
   obtain⟨j,o',h1,h2,h3,h4⟩:=hlive i o b hy hl hm
   exact hr1.nst' j o' b h2 h3 h4
  ·intro i o b hy hf hm
   rcases row i _ _ hy hm with⟨h1,_⟩ | ⟨j,h1,h2,h3⟩
   ·cases h1
   ·unfold subO at h3
    simp only at h3
    split at h3 <;> first | exact h3.elim | (cases hf;done) | (next h4=>exact hr1.fst' j _ b h4 rfl h2)
  ·intro i i' o o' b h1 h2 l1 l2 h3 h4
   obtain⟨j,_,a1,a2,a3,a4⟩:=hlive i o b h1 l1 h3
   obtain⟨j',_,b1,b2,b3,b4⟩:=hlive i' o' b h2 l2 h4
   have:=hr1.inj' j j' _ _ b a2 b2 a3 b3 a4 b4
   subst this
   exact hpinj i i' j o o' h1 h2 l1 l2 a1 b1
 have hlv:∀b,Live H1 E1.M b→Live H' E'.M b:=by
  intro b hb
  rcases hst1.live b hb with h | h
  ·exact h
  ·obtain⟨id,o,h1,hl,h2⟩:=hb
   have:=hr1.lt' h1 (AO.lives_dead hl) h2
   rw[hW1] at this
   omega
 refine⟨E,hW1,hrel,?_,fun b hb=>hst1.mv.grow b hb,fun b hb=>hst1.mv.old b (by rw[←hW1];exact hr1.stlt b hb) hb,?_,?_⟩
 ·intro t
  have:∀(l:AEnv),subEv H1 F pick ev' l→VR E (look t l) (tm.getD t Go.undef):=by
   intro l
   induction l with
   | nil=>intro _;exact .top _
   | cons p l ih=>
    obtain⟨u,v⟩:=p
    intro hl
    simp only[look]
    split
    ·next he=>
     subst he
     exact subV_VR (E':=E) hr1 hos hF rfl rfl rfl rfl 8 _ _ _ hl.1 ((henv t).mono hx1)
    ·exact ih hl.2
  exact this ev hev
 ·rintro b ⟨i,o,h1,hl,h2⟩
  obtain⟨j,o',a1,a2,a3,a4⟩:=hlive i o b h1 hl h2
  exact hlv b ⟨j,o',a2,a3,a4⟩
 ·intro i hi hi'
  have hp:=hpid i hi
  have hhl:E1.hl i=E'.hl i:=by
   rw[hr1.hl,hrel'.hl]
   obtain⟨o',ho',hl⟩:=freeze_le F H' i H'[i] (by simp [hi'])
   rw[hH1] at ho'
   simp only[hlOf,ho',Qc hi',Option.bind_some,hl.len]
  refine⟨by simp [E,newM,hp,hM1],fun L hL=>?_⟩
  have:=hlOf_sub hos hp hL
  rw[←hr1.hl,hhl] at this
  exact this
theorem At.sub' {N:Nat}{H0:AH}{E0:Env}{ev' ev:AEnv}{H' H:AH}{E':Env}{a:Act}(h0:Rel H0 E0)(h:At N H0 E0 ev' H' E' a)(hs:subS H0.length ev' H' ev H) :
 ∃E,E.W=E'.W∧At N H0 E0 ev H E a∧(∀b,E'.st b→E.st b)∧∀b,Touch H E b→Touch H' E' b:=by
 obtain⟨E,hW,hrel,henv,hst,hst2,hlv,hids⟩:=sub_core h.rel h.env hs
 have hlen:∀i,(E0.M i).isSome=true→i<H0.length∧i<H'.length:=fun i hi=>by
  obtain⟨m,hm⟩:=Qd.1 hi
  refine⟨h0.some_lt hm,?_⟩
  obtain⟨m',hm'⟩:=Qd.1 (h.step.mm.1 i hi)
  exact h.rel.some_lt hm'
 refine⟨E,hW,⟨h.size,by rw[hW];exact h.defers,henv,hrel,⟨⟨by rw[hW];exact h.step.mv.os,by rw[hW];exact h.step.mv.tape,by rw[hW];exact h.step.mv.output,by rw[hW];exact h.step.mv.size,by rw[hW];exact h.step.mv.keep,by rw[hW];exact h.step.mv.shape,?_,fun b hb=>hst b (h.step.mv.grow b hb)⟩,⟨fun i hi=>?_,fun i L' hi hL=>?_⟩,fun b hb=>h.step.live b (hlv b hb)⟩⟩,hst,fun b hb=>hb.elim (hst2 b) (fun hb=> .inr (hlv b hb))⟩
 ·intro b hb hs'
  rcases hst2 b hs' with h1 | h1
  ·exact h.step.mv.old b hb h1
  ·rcases h.step.live b h1 with h2 | h2
   ·exact .inr h2
   ·omega
 ·obtain⟨g1,g2⟩:=hlen i hi
  rw[(hids i g1 g2).1];exact h.step.mm.1 i hi
 ·obtain⟨g1,g2⟩:=hlen i hi
  replace hL:=(hids i g1 g2).2 L' hL
  rw[(hids i g1 g2).1]
  exact h.step.mm.2 i L' hi hL
theorem At.sub {N:Nat}{H0:AH}{E0:Env}{ev' ev:AEnv}{H' H:AH}{E':Env}{a:Act}(h0:Rel H0 E0)(h:At N H0 E0 ev' H' E' a)(hs:subS H0.length ev' H' ev H) :
 ∃E,E.W=E'.W∧At N H0 E0 ev H E a:=let⟨E,h1,h2,_⟩:=h.sub' h0 hs;⟨E,h1,h2⟩
end Go.Pg
