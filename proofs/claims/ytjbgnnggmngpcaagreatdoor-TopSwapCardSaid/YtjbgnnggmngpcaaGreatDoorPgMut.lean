/- Pg, part 12b: calls of functions that work on their caller's objects. -/
import Derived.Test.YtjbgnnggmngpcaaGreatDoorPgCall
set_option linter.unusedVariables false
set_option linter.unusedSimpArgs false
set_option linter.unusedSectionVars false
open List renaming getElem?_eq_some_iff → Qa,getElem?_eq_getElem → Qb,mem_of_getElem? → Qc,getElem?_append_left → Qd,all_eq_true → Qf,length_cons → Qg,getElem?_range' → Qh,getElem?_append_right → Qj,getElem?_map → Qk,getElem?_eq_none → Qm,range' → Qo,mem_cons → Qp
open Option renaming map_eq_some_iff → Qe
open Array renaming getD_eq_getD_getElem? → Qi
open Bool renaming and_eq_true → Ql
open Nat renaming le_refl → Qn
namespace Go.Pg
open Go
variable [Syms]
inductive NS where
 | id
 | sl (z:Nat) (l:List (Option Nat))
 | ag (l:List (Option Nat))
def normC:Option Nat→AV→AV
 | some z,.nls=> .sl z []
 | some _,.slc z vs=> .sl z vs
 | _,x=>x
def normL:List (Option Nat)→List AV→List AV
 | o :: os,x :: xs=>normC o x :: normL os xs
 | _,xs=>xs
def normE (l:List (Option Nat)):AV→AV
 | .agg cs=> .agg (normL l cs)
 | x=>match l with
  | [o]=>normC o x
  | _=>x
def normA:NS→AV→AV
 | .id,x=>x
 | .sl z l,x=>match l,normC (some z) x with
  | [],y=>y
  | _,.sl z' vs=> .sl z' (vs.map (normE l))
  | _,y=>y
 | .ag l,.agg cs=> .agg (normL l cs)
 | .ag _,x=>x
theorem sl_nil (W:World)(st:Nat→Prop)(z:Nat):VP W st (.sl z []) (.slice none 0 0):=
 .sl z [] none 0 (fun _ _=>Go.undef) (by simp) (fun i v h=>by simp at h) (fun i v j c h=>by simp at h)
theorem normC_VP {W:World}{st:Nat→Prop}{o:Option Nat}{x:AV}{v:Value}(h:VP W st x v):VP W st (normC o x) v:=by
 unfold normC
 split
 ·cases h;exact sl_nil W st _
 ·cases h with | slc _ _ a f h2 h3=>exact .sl _ _ a _ f (Qn _) h2 h3
 ·exact h
theorem normC_VR {E:Env}{o:Option Nat}{x:AV}{v:Value}(h:VR E x v):VR E (normC o x) v:=by
 unfold normC
 split
 ·cases h;exact(sl_nil E.W E.st _).vr
 ·cases h with | slc _ _ a f h2 h3=>exact .sl _ _ a _ f (Qn _) h2 h3
 ·exact h
theorem normC_cells {o:Option Nat}{x:AV}(h:x.cells=[x]):(normC o x).cells=[normC o x]:=by
 unfold normC
 split
 ·rfl
 ·rfl
 ·exact h
theorem normL_get:∀(l:List (Option Nat))(xs:List AV),(normL l xs).length=xs.length∧∀(i:Nat) y,(normL l xs)[i]? =some y→∃o x,xs[i]? =some x∧y=normC o x:=by
 intro l
 induction l with
 | nil=>intro xs;exact⟨by simp [normL],fun i y h=>⟨none,y,by simpa [normL] using h,rfl⟩⟩
 | cons o l ih=>
  intro xs
  cases xs with
  | nil=>exact⟨rfl,fun i y h=>by simp [normL] at h⟩
  | cons x xs=>
   obtain⟨h1,h2⟩:=ih xs
   refine⟨by simp [normL,h1],fun i y h=>?_⟩
   cases i with
   | zero=>simp [normL] at h;exact⟨o,x,rfl,h.symm⟩
   | succ i=>simp only[normL,List.getElem?_cons_succ] at h ⊢;exact h2 i y h
theorem normE_cells (l:List (Option Nat))(x:AV):(normE l x).cells.length=x.cells.length∧∀(i:Nat) y,(normE l x).cells[i]? =some y→∃o c,x.cells[i]? =some c∧y=normC o c:=by
 have leaf:x.cells=[x]→∀o,(normC o x).cells.length=x.cells.length∧∀(i:Nat) y,(normC o x).cells[i]? =some y→∃o c,x.cells[i]? =some c∧y=normC o c:=by
  intro h o
  rw[normC_cells h,h]
  refine⟨rfl,fun i y hy=>?_⟩
  cases i with
  | zero=>simp at hy;exact⟨o,x,rfl,hy.symm⟩
  | succ i=>simp at hy
 have same:∀{x:AV},x.cells.length=x.cells.length∧∀(i:Nat) y,x.cells[i]? =some y→∃o c,x.cells[i]? =some c∧y=normC o c:=
  fun{x}=>⟨rfl,fun i y hy=>⟨none,y,hy,rfl⟩⟩
 unfold normE
 split
 ·exact normL_get l _
 ·next hx=>
  split
  ·next o=>exact leaf (by cases x <;> first | rfl | exact absurd rfl (hx _)) o
  ·exact same
theorem normSl_VP {W:World}{st:Nat→Prop}{l:List (Option Nat)}{z:Nat}{vs:List AV}{v:Value}(h:VP W st (.sl z vs) v):VP W st (.sl z (vs.map (normE l))) v:=by
 cases h with
 | sl _ _ a cap f h1 h2 h3=>
 have:=VP.sl (W:=W) (st:=st) z (vs.map (normE l)) a cap f (by simpa using h1) (fun i y hy=>by
  simp only[Qk,Qe] at hy
  obtain⟨x,hx,rfl⟩:=hy
  obtain⟨k1,k2⟩:=h2 i x hx
  exact⟨by rw[(normE_cells l x).1];exact k1,k2⟩) (fun i y j c hy hc=>by
  simp only[Qk,Qe] at hy
  obtain⟨x,hx,rfl⟩:=hy
  obtain⟨o,c0,hc0,rfl⟩:=(normE_cells l x).2 j c hc
  exact normC_VP (h3 i x j c0 hx hc0))
 simpa using this
theorem normA_VP {W:World}{st:Nat→Prop}{n:NS}{x:AV}{v:Value}(h:VP W st x v):VP W st (normA n x) v:=by
 cases n with
 | id=>exact h
 | sl z l=>
  have h1:=normC_VP (o:=some z) h
  simp only[normA]
  split
  ·exact h1
  ·next z' vs hx=>rw[hx] at h1;exact normSl_VP h1
  ·exact h1
 | ag l=>
  cases x with
  | agg cs=>
   cases h with
   | agg _ us h1 h2=>
   obtain⟨k1,k2⟩:=normL_get l cs
   refine .agg _ us (by rw[h1,k1]) fun i c hc=>?_
   obtain⟨o,x,hx,rfl⟩:=k2 i c hc
   exact normC_VP (h2 i x hx)
  | _=>exact h
inductive Mt (H:AH) (F:List Nat) (pick:List (Option Nat)):AV→AV→Prop
 | top:Mt H F pick .top .top
 | pure (d:Nat) (x z:AV) (ids:List Nat) (ns:NS):res H d x=some (z,ids)→(∀i∈ids,i∈F)→Mt H F pick x (normA ns z)
 | own (i a sz n:Nat):pick[i]? =some (some a)→Mt H F pick (.own a sz n) (.own i sz n)
 | nil (i sz:Nat):pick[i]? =some none→Mt H F pick .nls (.own i sz 0)
 | ptr (i a sz n idx off:Nat):pick[i]? =some (some a)→Mt H F pick (.ptr a sz n idx off) (.ptr i sz n idx off)
 | win (i a sz t off n:Nat):pick[i]? =some (some a)→Mt H F pick (.win a sz t off n) (.win i sz t off n)
 | mp (i a:Nat):pick[i]? =some (some a)→Mt H F pick (.mp a) (.mp i)
 | ows (i a sz j:Nat):pick[i]? =some (some a)→Mt H F pick (.ows a sz j) (.ows i sz j)
 | agg (cs ds:List AV):cs.length=ds.length→(∀(i:Nat) x y,cs[i]? =some x→ds[i]? =some y→Mt H F pick x y)→Mt H F pick (.agg cs) (.agg ds)
 | fn (f:FuncId) (cs ds:List AV):cs.length=ds.length→(∀(i:Nat) x y,cs[i]? =some x→ds[i]? =some y→Mt H F pick x y)→Mt H F pick (.fn f cs) (.fn f ds)
theorem normA_agg (ns:NS)(l:List AV):∃l',normA ns (.agg l)= .agg l'∧l'.length=l.length∧∀(j:Nat) y,l'[j]? =some y→∃o x,l[j]? =some x∧y=normC o x:=by
 cases ns with
 | id=>exact⟨l,rfl,rfl,fun j y h=>⟨none,y,h,rfl⟩⟩
 | sl z m=>exact⟨l,by cases m <;> rfl,rfl,fun j y h=>⟨none,y,h,rfl⟩⟩
 | ag m=>obtain⟨h1,h2⟩:=normL_get m l;exact⟨normL m l,rfl,h1,h2⟩
theorem normA_leaf (ns:NS)(z:AV)(h:z.cells=[z])(hn:∀l,z≠ .agg l):(normA ns z).cells=[normA ns z]:=by
 cases ns with
 | id=>exact h
 | sl w m=>
  have h1:=normC_cells (o:=some w) h
  simp only[normA]
  split
  ·exact h1
  ·rfl
  ·exact h1
 | ag m=>
  cases z with
  | agg l=>exact absurd rfl (hn l)
  | _=>exact h
theorem mt_cells {H:AH}{F:List Nat}{pick:List (Option Nat)}{x y:AV}(h:Mt H F pick x y):x.cells.length=y.cells.length∧∀(j:Nat) c d,x.cells[j]? =some c→y.cells[j]? =some d→Mt H F pick c d:=by
 have one:x.cells=[x]→y.cells=[y]→x.cells.length=y.cells.length∧∀(j:Nat) c d,x.cells[j]? =some c→y.cells[j]? =some d→Mt H F pick c d:=by
  intro h1 h2
  rw[h1,h2]
  refine⟨rfl,fun j c d hc hd=>?_⟩
  cases j with
  | zero=>simp at hc hd;subst hc;subst hd;exact h
  | succ j=>simp at hc
 cases h with
 | top=>exact one rfl rfl
 | pure d x z ids ns hres hids=>
  cases d with
  | zero=>simp [res] at hres
  | succ d=>
   cases x <;> simp only[res] at hres <;> try (cases hres;done)
   case agg cs=>
    split at hres
    ·next l i hl=>
     cases hres
     obtain⟨h3,h4⟩:=resL_get cs l _ hl
     obtain⟨l',e1,e2,e3⟩:=normA_agg ns l
     rw[e1]
     refine⟨by simp only[AV.cells];omega,fun j c d' hc hd=>?_⟩
     simp only[AV.cells] at hc hd
     obtain⟨o,w,h5,rfl⟩:=e3 j d' hd
     obtain⟨y0,k,h6,h7,h8⟩:=h4 j c hc
     rw[h5] at h7;cases h7
     have:=Mt.pure (H:=H) (F:=F) (pick:=pick) d c w k (match o with | some z=> .sl z [] | none=> .id) h6 (fun i hi=>hids i (h8 i hi))
     cases o with
     | none=>exact this
     | some z=>exact this
    ·cases hres
   all_goals
    refine one rfl (normA_leaf ns z ?_ ?_)
    ·(repeat' split at hres) <;> first | (cases hres;rfl) | (cases hres;done)
    ·(repeat' split at hres) <;> first | (cases hres;exact fun l e=>by cases e) | (cases hres;done)
 | own i a sz n hp=>exact one rfl rfl
 | nil i sz hp=>exact one rfl rfl
 | ptr i a sz n idx off hp=>exact one rfl rfl
 | win i a sz t off n hp=>exact one rfl rfl
 | mp i a hp=>exact one rfl rfl
 | ows i a sz j hp=>exact one rfl rfl
 | agg cs ds h1 h2=>exact⟨h1,h2⟩
 | fn f cs ds h1 h2=>exact one rfl rfl
def MtO (H:AH)(F:List Nat)(pick:List (Option Nat)):Option Nat→AO→Prop
 | some a,.arr e sz ws=>∃vs,H[a]? =some (.arr e sz vs)∧((vs=ws∧ws.all AV.pureB=true)∨(vs.length=ws.length∧∀(i:Nat) v w,vs[i]? =some v→ws[i]? =some w→v.cells.length=w.cells.length∧∀(j:Nat) c d,v.cells[j]? =some c→w.cells[j]? =some d→Mt H F pick c d))
 | some a,.mp es=>H[a]? =some (.mp es)
 | some a,.tok i=>H[a]? =some (.tok i)
 | none,.arr _ _ ws=>ws=[]
 | _,_=>False
structure SubK (H:AH) (F:List Nat) (pick:List (Option Nat)) (xs as:List AV) (K:AH):Prop where
 plen:pick.length=K.length
 pinj:∀(i j a:Nat),pick[i]? =some (some a)→pick[j]? =some (some a)→i=j
 pF:∀(i a:Nat),pick[i]? =some (some a)→a∉F
 objs:∀(i:Nat) p y,pick[i]? =some p→K[i]? =some y→MtO H F pick p y
 alen:xs.length=as.length
 args:∀(i:Nat) x y,xs[i]? =some x→as[i]? =some y→Mt H F pick x y
 root:∀(HD:AH) (E:Env),Rel HD E→(∀(i a:Nat),pick[i]? =some (some a)→HD[a]? =H[a]?)→∀vals:Array Value,VRs E xs vals→∀(i a:Nat),pick[i]? =some (some a)→(E.M a).isSome=true
def newM (pick:List (Option Nat))(M:Nat→Option (Option Nat)):Nat→Option (Option Nat):=fun i=>match pick[i]? with
 | some (some j)=>M j
 | some none=>some none
 | none=>none
theorem mt_VR {H HD K:AH}{F:List Nat}{pick:List (Option Nat)}{E E':Env}(hr:Rel HD E)(hF:∀id∈F,∀o,H[id]? =some o→HD[id]? =some (fixO o))
 (hW:E'.W=E.W) (hst:E'.st=E.st) (hM:E'.M=newM pick E.M) (hhl:E'.hl=hlOf K)
 (h1:∀(i a:Nat),pick[i]? =some (some a)→hlOf K i=hlOf HD a) (h2:∀(i:Nat),pick[i]? =some none→hlOf K i=some 0) :
 ∀{x y:AV},Mt H F pick x y→∀{v:Value},VR E x v→VR E' y v:=by
 have hvp:∀{c u},VP E.W E.st c u→VR E' c u:=by
  intro c u h
  rw[←hW,←hst] at h
  exact h.vr
 intro x y hm
 induction hm with
 | top=>intro v _;exact .top v
 | pure d x z ids ns hres hids=>intro v hv;exact hvp (normA_VP (res_sound hr d x z ids v hres hv fun id hid=>hF id (hids id hid)))
 | own i a sz n hp=>
  intro v hv
  have hMi:E'.M i=E.M a:=by rw[hM];simp [newM,hp]
  cases hv with
  | own _ _ _ ad cap hm hz hl=>
  refine .own i _ _ ad cap (by rw[hMi];exact hm) hz fun L hL=>?_
  rw[hhl,h1 i a hp,←hr.hl] at hL
  obtain⟨k1,k2⟩:=hl L hL
  exact⟨k1,fun he=>by rw[hMi,hW];exact k2 he⟩
 | ows i a sz j hp=>
  intro v hv
  have hMi:E'.M i=E.M a:=by rw[hM];simp [newM,hp]
  cases hv with
  | ows _ _ _ _ hv=>
  refine .ows _ _ _ _ ?_
  cases hv with
  | own _ _ _ ad cap hm hz hl=>
  refine .own i _ _ ad cap (by rw[hMi];exact hm) hz fun L hL=>?_
  rw[hhl,h1 i a hp,←hr.hl] at hL
  obtain⟨k1,k2⟩:=hl L hL
  exact⟨k1,fun he=>by rw[hMi,hW];exact k2 he⟩
 | nil i sz hp=>
  intro v hv
  rw[hv.nls_inv]
  have hMi:E'.M i=some none:=by rw[hM];simp [newM,hp]
  refine .own i _ 0 none 0 (by rw[hMi];rfl) (fun _=>rfl) fun L hL=>?_
  rw[hhl,h2 i hp] at hL
  cases hL
  exact⟨Qn _,fun _=> .inl ⟨hMi,rfl,rfl⟩⟩
 | win i a sz t off n hp=>
  intro v hv
  have hMi:E'.M i=E.M a:=by rw[hM];simp [newM,hp]
  cases hv with
  | win _ _ _ _ _ ad cap hc hm hl=>
  refine .win i _ _ _ _ ad cap hc (by rw[hMi];exact hm) fun L hL=>?_
  rw[hhl,h1 i a hp,←hr.hl] at hL
  obtain⟨k1,k2⟩:=hl L hL
  exact⟨k1,fun he=>by rw[hMi];exact k2 he⟩
 | ptr i a sz n idx off hp=>
  intro v hv
  have hMi:E'.M i=E.M a:=by rw[hM];simp [newM,hp]
  cases hv with
  | ptr _ _ _ _ _ ad hm hl=>
  refine .ptr i _ _ _ _ ad (by rw[hMi];exact hm) fun L hL=>?_
  rw[hhl,h1 i a hp,←hr.hl] at hL
  obtain⟨k1,k2⟩:=hl L hL
  exact⟨k1,fun he=>by rw[hMi];exact k2 he⟩
 | mp i a hp=>
  intro v hv
  have hMi:E'.M i=E.M a:=by rw[hM];simp [newM,hp]
  cases hv with
  | mp _ b hm hl=>
  exact .mp i b (by rw[hMi];exact hm) fun hL=>by
   rw[hhl,h1 i a hp,←hr.hl] at hL
   rw[hMi];exact hl hL
 | agg cs ds hlen _ ih=>
  intro v hv
  obtain⟨us,rfl,k1,k2⟩:=hv.agg_inv
  refine .agg ds us (by rw[k1,hlen]) fun i c hc=>?_
  have hi:i<cs.length:=by rw[hlen];exact(Qa.1 hc).1
  exact ih i cs[i] c (by simp [hi]) hc (k2 i cs[i] (by simp [hi]))
 | fn f cs ds hlen _ ih=>
  intro v hv
  obtain⟨us,rfl,k1,k2⟩:=hv.fn_inv
  refine .fn f ds us (by rw[k1,hlen]) fun i c hc=>?_
  have hi:i<cs.length:=by rw[hlen];exact(Qa.1 hc).1
  exact ih i cs[i] c (by simp [hi]) hc (k2 i cs[i] (by simp [hi]))
theorem subK_rel {H HD K:AH}{F:List Nat}{pick:List (Option Nat)}{xs as:List AV}(h:SubK H F pick xs as K){E:Env}(hr:Rel HD E)(hp:∀(i a:Nat),pick[i]? =some (some a)→HD[a]? =H[a]?)
 (hF:∀id∈F,∀o,H[id]? =some o→HD[id]? =some (fixO o)) {E':Env} (hE:E'={ W:=E.W,M:=newM pick E.M,st:=E.st,hl:=hlOf K }) :
 Rel K E'∧(∀x y v,Mt H F pick x y→VR E x v→VR E' y v)∧(∀(i a:Nat),pick[i]? =some (some a)→hlOf K i=hlOf HD a):=by
 have hK:∀(i:Nat) p,pick[i]? =some p→∃y,K[i]? =some y∧MtO H F pick p y:=by
  intro i p hi
  have hl:i<K.length:=by rw[←h.plen];exact(Qa.1 hi).1
  exact⟨K[i],by simp [hl],h.objs i p K[i] hi (by simp [hl])⟩
 have h1:∀(i a:Nat),pick[i]? =some (some a)→hlOf K i=hlOf HD a:=by
  intro i a hi
  obtain⟨y,hy,hm⟩:=hK i _ hi
  unfold hlOf
  rw[hy,hp i a hi]
  cases y with
  | arr e sz ws=>
   obtain⟨vs,hv,hm⟩:=hm
   have hl:vs.length=ws.length:=by
    rcases hm with⟨rfl,_⟩ | ⟨hl,_⟩
    ·rfl
    ·exact hl
   rw[hv];simp [AO.len,hl]
  | mp es=>rw[show H[a]? =some (.mp es) from hm]
  | tok j=>rw[show H[a]? =some (.tok j) from hm]
  | _=>exact hm.elim
 have h2:∀(i:Nat),pick[i]? =some none→hlOf K i=some 0:=by
  intro i hi
  obtain⟨y,hy,hm⟩:=hK i _ hi
  unfold hlOf
  rw[hy]
  cases y with
  | arr e sz ws=>rw[show ws=[] from hm];rfl
  | _=>exact hm.elim
 have hvr:∀x y v,Mt H F pick x y→VR E x v→VR E' y v:=fun x y v hm hv=>by
  subst hE
  exact mt_VR (K:=K) (E':={ W:=E.W,M:=newM pick E.M,st:=E.st,hl:=hlOf K }) hr hF rfl rfl rfl rfl h1 h2 hm hv
 refine⟨?_,hvr,h1⟩
 subst hE
 have obj:∀(i:Nat) o m,K[i]? =some o→newM pick E.M i=some m→(m=none∧∃e sz,o= .arr e sz [])∨∃a,pick[i]? =some (some a)∧E.M a=some m∧MtO H F pick (some a) o:=by
  intro i o m ho hm
  have hl:i<pick.length:=by rw[h.plen];exact(Qa.1 ho).1
  have hpi:pick[i]? =some pick[i]:=by simp [hl]
  unfold newM at hm
  rw[hpi] at hm
  have hob:=h.objs i pick[i] o hpi ho
  cases hq:pick[i] with
  | none=>
   rw[hq] at hm hob
   simp only[Option.some.injEq] at hm
   subst hm
   cases o with
   | arr e sz ws=>exact .inl ⟨rfl,e,sz,by rw[show ws=[] from hob]⟩
   | _=>exact hob.elim
  | some a=>
   rw[hq] at hm hob
   exact .inr ⟨a,by rw[hpi,hq],hm,hob⟩
 have lives:∀(a:Nat) o,MtO H F pick (some a) o→o.lives=true∧∃o',H[a]? =some o'∧o'.lives=true:=by
  intro a o hm
  cases o with
  | arr e sz ws=>obtain⟨vs,hv,_⟩:=hm;exact⟨rfl,_,hv,rfl⟩
  | mp es=>exact⟨rfl,_,hm,rfl⟩
  | tok j=>exact⟨rfl,_,hm,rfl⟩
  | _=>exact hm.elim
 refine⟨rfl,?_,?_,?_,?_,?_,hr.stlt⟩
 ·intro i hi
  simp [newM,Qm (show pick.length≤i by rw[h.plen];exact hi)]
 ·intro i o m ho hm
  rcases obj i o m ho hm with⟨rfl,e,sz,rfl⟩ | ⟨a,g1,g2,g3⟩
  ·exact .inl ⟨rfl,rfl⟩
  ·have hHD:=hp i a g1
   cases o with
   | tok q=>
    have hH:H[a]? =some (.tok q):=g3
    rw[hH] at hHD
    have hrow:ARow E m (Syms.ae q) (Syms.az q) (Syms.avs q):=hr.orow a _ m hHD g2
    rcases hrow with k0 | ⟨b,c,fz,k1,k2,k3,k4,k5⟩
    ·exact .inl k0
    ·refine .inr ⟨b,c,fz,k1,k2,k3,k4,fun j v hj=>⟨(k5 j v hj).1,fun t cc ht=>?_⟩⟩
     obtain⟨u,q1,q2⟩:=(k5 j v hj).2 t cc ht
     have:=pureLeaf_VP q2 (Qf.1 (Qf.1 (tames_pure (Syms.tames q)) v (Qc hj)) cc (Qc ht))
     exact⟨u,q1,VP.vr (E:={ W:=E.W,M:=newM pick E.M,st:=E.st,hl:=hlOf K }) this⟩
   | arr e sz ws=>
    obtain⟨vs,hv,hx⟩:=g3
    rw[hv] at hHD
    have hrow:ARow E m e sz vs:=hr.orow a _ m hHD g2
    rcases hrow with⟨k1,k2⟩ | ⟨b,c,fz,k1,k2,k3,k4,k5⟩
    ·subst k2
     have:ws=[]:=by
      rcases hx with⟨rfl,_⟩ | ⟨hl,_⟩
      ·rfl
      ·exact List.eq_nil_of_length_eq_zero (by simpa using hl.symm)
     exact .inl ⟨k1,this⟩
    ·rcases hx with⟨rfl,hpure⟩ | ⟨hl,hx⟩
     ·refine .inr ⟨b,c,fz,k1,k2,k3,k4,fun j v hj=>⟨(k5 j v hj).1,fun t cc ht=>?_⟩⟩
      obtain⟨u,q1,q2⟩:=(k5 j v hj).2 t cc ht
      have:=pureLeaf_VP q2 (Qf.1 (Qf.1 hpure v (Qc hj)) cc (Qc ht))
      exact⟨u,q1,VP.vr (E:={ W:=E.W,M:=newM pick E.M,st:=E.st,hl:=hlOf K }) this⟩
     ·refine .inr ⟨b,c,fz,k1,k2,by rw[←hl];exact k3,k4,fun j w hj=>?_⟩
      have hjl:j<vs.length:=by rw[hl];exact(Qa.1 hj).1
      obtain⟨q1,q2⟩:=k5 j vs[j] (by simp [hjl])
      obtain⟨q3,q4⟩:=hx j vs[j] w (by simp [hjl]) hj
      refine⟨by rw[←q3,q1],fun t cc ht=>?_⟩
      have htl:t<vs[j].cells.length:=by rw[q3];exact(Qa.1 ht).1
      obtain⟨u,r1,r2⟩:=q2 t vs[j].cells[t] (by simp [htl])
      exact⟨u,r1,hvr _ _ u (q4 t _ cc (by simp [htl]) ht) r2⟩
   | mp es=>
    rw[show H[a]? =some (.mp es) from g3] at hHD
    obtain⟨b,ar,cl,k1,k2,k3,k4⟩:=hr.orow a _ m hHD g2
    exact⟨b,ar,cl,k1,k2,⟨k3.size,fun i k x hi=>k3.ent i k x hi⟩,k4⟩
   | _=>exact g3.elim
 ·intro i o b ho hl hm
  rcases obj i o _ ho hm with⟨h0,_⟩ | ⟨a,g1,g2,g3⟩
  ·cases h0
  ·obtain⟨_,o',k1,k2⟩:=lives a o g3
   exact hr.nst' a o' b (by rw[hp i a g1];exact k1) k2 g2
 ·intro i o b ho hf hm
  rcases obj i o _ ho hm with⟨h0,_⟩ | ⟨a,g1,g2,g3⟩
  ·cases h0
  ·have:=(lives a o g3).1
   rw[AO.fixed_lives hf] at this;cases this
 ·intro i j o o' b ho ho' hl hl' hm hm'
  rcases obj i o _ ho hm with⟨h0,_⟩ | ⟨a,g1,g2,g3⟩
  ·cases h0
  ·rcases obj j o' _ ho' hm' with⟨h0,_⟩ | ⟨a',g1',g2',g3'⟩
   ·cases h0
   ·obtain⟨_,q,k1,k2⟩:=lives a o g3
    obtain⟨_,q',k1',k2'⟩:=lives a' o' g3'
    have:=hr.inj' a a' q q' b (by rw[hp i a g1];exact k1) (by rw[hp j a' g1'];exact k1') k2 k2' g2 g2'
    subst this
    exact h.pinj i j a g1 g1'
def gids:List (Option Nat)→Nat→Nat→List Nat
 | some a :: ps,n,m=>a :: gids ps n (m - 1)
 | none :: ps,n,m=>n :: gids ps (n+1) (m - 1)
 | [],n,m=>Qo n m
def somes:List (Option Nat)→List Nat
 | []=>[]
 | some a :: r=>a :: somes r
 | none :: r=>somes r
def fresh:List (Option Nat)→Nat→Nat→List Nat
 | some _ :: ps,n,m=>fresh ps n (m - 1)
 | none :: ps,n,m=>n :: fresh ps (n+1) (m - 1)
 | [],n,m=>Qo n m
def putO (g:Nat→Nat):List (Option Nat)→AH→AH→AH
 | some a :: ps,o :: os,H=>putO g ps os (H.set a (renO g o))
 | none :: ps,o :: os,H=>putO g ps os (H ++ [renO g o])
 | _,os,H=>H ++ os.map (renO g)
theorem mem_somes {a:Nat}:∀{p:List (Option Nat)},a∈somes p↔∃i:Nat,p[i]? =some (some a):=by
 intro p
 induction p with
 | nil=>simp [somes]
 | cons x p ih=>
  cases x with
  | none=>
   simp only[somes,ih]
   constructor
   ·rintro⟨i,h⟩;exact⟨i+1,by simpa using h⟩
   ·rintro⟨i,h⟩
    cases i with
    | zero=>simp at h
    | succ i=>exact⟨i,by simpa using h⟩
  | some b=>
   simp only[somes,Qp,ih]
   constructor
   ·rintro(rfl | ⟨i,h⟩)
    ·exact⟨0,rfl⟩
    ·exact⟨i+1,by simpa using h⟩
   ·rintro⟨i,h⟩
    cases i with
    | zero=>simp at h;exact .inl h.symm
    | succ i=>exact .inr ⟨i,by simpa using h⟩
theorem gids_spec:∀(p:List (Option Nat))(n m:Nat),p.length≤m→(gids p n m).length=m∧
 (∀(k a:Nat),p[k]? =some (some a)→(gids p n m)[k]? =some a)∧
 (∀(k a:Nat),(gids p n m)[k]? =some a→p[k]? =some (some a)∨((∀b,p[k]?≠some (some b))∧n≤a∧a∈fresh p n m))∧
 (∀(i j a:Nat),(gids p n m)[i]? =some a→(gids p n m)[j]? =some a→(∀b,p[i]?≠some (some b))→(∀b,p[j]?≠some (some b))→i=j):=by
 intro p
 induction p with
 | nil=>
  intro n m _
  have hget:∀(k a:Nat),(Qo n m)[k]? =some a→k<m∧a=n+k:=by
   intro k a h
   have hk:k<m:=by have:=(Qa.1 h).1;simpa using this
   refine⟨hk,?_⟩
   rw[Qh hk] at h
   simpa using h.symm
  refine⟨by simp [gids],fun k a h=>by simp at h,fun k a h=> .inr ⟨by simp,?_⟩,fun i j a hi hj _ _=>?_⟩
  ·obtain⟨h1,rfl⟩:=hget k a h
   exact⟨by omega,by simp [fresh];omega⟩
  ·have:=(hget i a hi).2;have:=(hget j a hj).2;omega
 | cons x p ih=>
  intro n m hm
  simp only[Qg] at hm
  cases x with
  | some b=>
   obtain⟨h1,h2,h3,h4⟩:=ih n (m - 1) (by omega)
   simp only[gids,fresh]
   refine⟨by simp [h1];omega,fun k a h=>?_,fun k a h=>?_,fun i j a hi hj ni nj=>?_⟩
   ·cases k with
    | zero=>simpa using h
    | succ k=>simpa using h2 k a (by simpa using h)
   ·cases k with
    | zero=>left;simpa using h
    | succ k=>simpa using h3 k a (by simpa using h)
   ·cases i with
    | zero=>exact absurd rfl (ni b)
    | succ i=>
     cases j with
     | zero=>exact absurd rfl (nj b)
     | succ j=>rw[h4 i j a (by simpa using hi) (by simpa using hj) (by simpa using ni) (by simpa using nj)]
  | none=>
   obtain⟨h1,h2,h3,h4⟩:=ih (n+1) (m - 1) (by omega)
   simp only[gids,fresh]
   have no:∀(k:Nat),(∀b,p[k]?≠some (some b))→(gids p (n+1) (m - 1))[k]?≠some n:=by
    intro k hn hh
    rcases h3 k n hh with h | ⟨_,h,_⟩
    ·exact hn n h
    ·omega
   refine⟨by simp [h1];omega,fun k a h=>?_,fun k a h=>?_,fun i j a hi hj ni nj=>?_⟩
   ·cases k with
    | zero=>simp at h
    | succ k=>simpa using h2 k a (by simpa using h)
   ·cases k with
    | zero=>right;simp at h;subst h;exact⟨by simp,Qn _,by simp⟩
    | succ k=>
     rcases h3 k a (by simpa using h) with h | ⟨g1,g2,g3⟩
     ·exact .inl (by simpa using h)
     ·exact .inr ⟨by simpa using g1,by omega,by simp [g3]⟩
   ·cases i with
    | zero=>
     simp at hi;subst hi
     cases j with
     | zero=>rfl
     | succ j=>exact absurd (by simpa using hj) (no j (by simpa using nj))
    | succ i=>
     cases j with
     | zero=>simp at hj;subst hj;exact absurd (by simpa using hi) (no i (by simpa using ni))
     | succ j=>rw[h4 i j a (by simpa using hi) (by simpa using hj) (by simpa using ni) (by simpa using nj)]
theorem fresh_range:∀(p:List (Option Nat))(n m:Nat)(a:Nat),p.length≤m→a∈fresh p n m→∃k:Nat,(gids p n m)[k]? =some a∧∀b,p[k]?≠some (some b):=by
 intro p
 induction p with
 | nil=>
  intro n m a _ h
  simp only[fresh,List.mem_range'_1] at h
  exact⟨a - n,by simp only[gids];rw[Qh (by omega)];simp;omega,by simp⟩
 | cons x p ih=>
  intro n m a hm h
  simp only[Qg] at hm
  cases x with
  | some b=>
   simp only[fresh] at h
   obtain⟨k,h1,h2⟩:=ih n (m - 1) a (by omega) h
   exact⟨k+1,by simpa [gids] using h1,by simpa using h2⟩
  | none=>
   simp only[fresh,Qp] at h
   rcases h with rfl | h
   ·exact⟨0,by simp [gids],by simp⟩
   ·obtain⟨k,h1,h2⟩:=ih (n+1) (m - 1) a (by omega) h
    exact⟨k+1,by simpa [gids] using h1,by simpa using h2⟩
theorem putO_spec (g:Nat→Nat):∀(p:List (Option Nat))(os H:AH),p.length≤os.length→(∀(k a:Nat),p[k]? =some (some a)→a<H.length)→(∀(i j a:Nat),p[i]? =some (some a)→p[j]? =some (some a)→i=j)→
 H.length≤(putO g p os H).length∧
 (∀(k a:Nat) o,(gids p H.length os.length)[k]? =some a→os[k]? =some o→(putO g p os H)[a]? =some (renO g o))∧
 (∀j,j<H.length→(∀k:Nat,p[k]?≠some (some j))→(putO g p os H)[j]? =H[j]?):=by
 intro p
 induction p with
 | nil=>
  intro os H _ _ _
  simp only[putO]
  refine⟨by simp,fun k a o h1 h2=>?_,fun j hj _=>by rw[Qd hj]⟩
  have hk:k<os.length:=(Qa.1 h2).1
  simp only[gids] at h1
  rw[Qh hk] at h1
  simp only[Nat.one_mul,Option.some.injEq] at h1
  subst h1
  rw[Qj (by omega),show H.length+k - H.length=k by omega,Qk,h2]
  rfl
 | cons x p ih=>
  intro os H hl hlt hinj
  cases os with
  | nil=>simp at hl
  | cons o0 os=>
   simp only[Qg] at hl
   have hinj':∀(i j a:Nat),p[i]? =some (some a)→p[j]? =some (some a)→i=j:=fun i j a hi hj=>by
    have:=hinj (i+1) (j+1) a (by simpa using hi) (by simpa using hj);omega
   cases x with
   | some b=>
    have hb:b<H.length:=hlt 0 b rfl
    obtain⟨h1,h2,h3⟩:=ih os (H.set b (renO g o0)) (by omega) (fun k a h=>by simp;exact hlt (k+1) a (by simpa using h)) hinj'
    simp only[putO,gids]
    simp only[List.length_set] at h1 h2 h3
    refine⟨h1,fun k a o ha ho=>?_,fun j hj hn=>?_⟩
    ·cases k with
     | zero=>
      simp at ha ho
      subst ha;subst ho
      rw[h3 b hb (fun k hk=>by have:=hinj 0 (k+1) b rfl (by simpa using hk);omega)]
      simp [hb]
     | succ k=>exact h2 k a o (by simpa using ha) (by simpa using ho)
    ·rw[h3 j hj (fun k hk=>hn (k+1) (by simpa using hk)),List.getElem?_set_ne]
     intro e
     exact hn 0 (by simp [e])
   | none=>
    obtain⟨h1,h2,h3⟩:=ih os (H ++ [renO g o0]) (by omega) (fun k a h=>by simp;have:=hlt (k+1) a (by simpa using h);omega) hinj'
    simp only[putO,gids]
    simp only[List.length_append,Qg,List.length_nil,Nat.zero_add] at h1 h2 h3
    refine⟨by omega,fun k a o ha ho=>?_,fun j hj hn=>?_⟩
    ·cases k with
     | zero=>
      simp at ha ho
      subst ha;subst ho
      rw[h3 H.length (by omega) (fun k hk=>by have:=hlt (k+1) H.length (by simpa using hk);omega)]
      simp
     | succ k=>exact h2 k a o (by simpa using ha) (by simpa using ho)
    ·rw[h3 j (by omega) (fun k hk=>hn (k+1) (by simpa using hk)),Qd hj]
theorem renO_fz (g:Nat→Nat)(o:AO):renO g (fixO o)=fixO (renO g o):=by cases o <;> rfl
theorem fixO_fixed {o:AO}(h:o.fixed=true):fixO o=o:=by cases o <;> first | rfl | cases h
theorem AOle.frz {o o':AO}(h:AOle o o'):o'=o∨(o'=fixO o∧o'.fixed=true):=by
 rcases h with h | ⟨e,sz,vs,rfl,rfl⟩ | ⟨es,rfl,rfl⟩
 ·exact .inl h
 ·exact .inr ⟨rfl,rfl⟩
 ·exact .inr ⟨rfl,rfl⟩
def callM (P:Program)(ev:AEnv)(H:AH)(o:Oper)(K:HK):Prop:=
 match o.op with
 | .call { callee:= .value f,args,argTypes:=_ }=>match opnd ev f with
  | .fn fid cap=>cal P fid=true∧∃F pick as K0 r Ko,SubK H F pick (args.toList.map (opnd ev) ++ cap) as K0∧CallsR P fid as K0 r Ko∧K0.length≤Ko.length∧
   K (ren (gid (gids pick H.length Ko.length)) r) (putO (gid (gids pick H.length Ko.length)) pick Ko (freeze F H)) (fresh pick H.length Ko.length) (somes pick ++ F) (somes pick)
  | _=>False
 | _=>False
theorem callM_sound {P:Program}{ev:AEnv}{H:AH}{o:Oper}{K:HK}(h:callM P ev H o K):HSnd P ev H o K:=by
 obtain⟨dst,op,ty,pos,after,guard⟩:=o
 unfold callM at h
 simp only at h
 split at h
 ·next f args argTypes=>
  split at h
  ·next fid cap hf=>
   obtain⟨hcal,F,pick,as,K0,r,Ko,hsub,hC,hle,hK⟩:=h
   have hplen:pick.length≤Ko.length:=by rw[hsub.plen];exact hle
   obtain⟨gl,gpick,gcase,ginj⟩:=gids_spec pick H.length Ko.length hplen
   have hpk:∀(k a:Nat),pick[k]? =some (some a)→∃y o,K0[k]? =some y∧H[a]? =some o∧o.lives=true∧a<H.length:=by
    intro k a hk
    have hl:k<K0.length:=by rw[←hsub.plen];exact(Qa.1 hk).1
    have hm:=hsub.objs k _ K0[k] hk (by simp [hl])
    cases hy:K0[k] with
    | arr e sz ws=>
     rw[hy] at hm
     obtain⟨vs,hv,_⟩:=hm
     exact⟨K0[k],_,by simp [hl],hv,rfl,(Qa.1 hv).1⟩
    | mp es=>
     rw[hy] at hm
     exact⟨K0[k],_,by simp [hl],hm,rfl,(Qa.1 hm).1⟩
    | tok q=>
     rw[hy] at hm
     exact⟨K0[k],_,by simp [hl],hm,rfl,(Qa.1 hm).1⟩
    | _=>rw[hy] at hm;exact hm.elim
   obtain⟨pl,pat,pout⟩:=putO_spec (gid (gids pick H.length Ko.length)) pick Ko (freeze F H) hplen (fun k a hk=>by rw[freeze_length];obtain⟨_,_,_,_,_,h⟩:=hpk k a hk;exact h) hsub.pinj
   rw[freeze_length] at pl pat pout
   generalize hH1:putO (gid (gids pick H.length Ko.length)) pick Ko (freeze F H)=H1 at hK pl pat pout
   have hfr:∀a,a∈fresh pick H.length Ko.length→∃(k:Nat) (o:AO),(gids pick H.length Ko.length)[k]? =some a∧Ko[k]? =some o∧H1[a]? =some (renO (gid (gids pick H.length Ko.length)) o)∧H.length≤a∧∀b,pick[k]?≠some (some b):=by
    intro a ha
    obtain⟨k,h1,h2⟩:=fresh_range pick H.length Ko.length a hplen ha
    have hk:k<Ko.length:=by rw[←gl];exact(Qa.1 h1).1
    refine⟨k,Ko[k],h1,by simp [hk],pat k a Ko[k] h1 (by simp [hk]),?_,h2⟩
    rcases gcase k a h1 with h | ⟨_,h,_⟩
    ·exact absurd h (h2 a)
    ·exact h
   refine⟨_,_,_,_,_,hK,?_,?_⟩
   ·refine⟨fun id hid=>List.mem_append_left _ hid,fun id hid=>?_,fun id hid x hx=>?_,fun id hid=>?_,fun id hid=>?_,pl⟩
    ·obtain⟨k,hk⟩:=mem_somes.1 hid
     obtain⟨_,_,_,_,_,h⟩:=hpk k id hk
     exact h
    ·have hlt:=(Qa.1 hx).1
     obtain⟨o',h1,h2⟩:=freeze_le F H id x hx
     refine⟨o',?_,h2⟩
     rw[pout id hlt (fun k hk=>hid (mem_somes.2 ⟨k,hk⟩))];exact h1
    ·obtain⟨_,_,_,_,_,h,_⟩:=hfr id hid;exact h
    ·obtain⟨_,_,_,_,h,_⟩:=hfr id hid;exact(Qa.1 h).1
   ·intro HD E a hl hr hlen0 hfp hwr hnew K' Q hK'
    have hFw:∀id∈F,id∉somes pick:=fun id hid hs=>by
     obtain⟨k,hk⟩:=mem_somes.1 hs
     exact hsub.pF k id hk hid
    have hfz:∀id∈F,∀o,H[id]? =some o→HD[id]? =some (fixO o):=by
     intro id hid o ho
     have h1:=freeze_at F H id o hid ho
     have hidl:id<H.length:=(Qa.1 ho).1
     obtain⟨o',h2,h3⟩:=hfp id (List.mem_append_right _ hid) (hFw id hid) (fixO o) (by rw[pout id hidl (fun k hk=>hFw id hid (mem_somes.2 ⟨k,hk⟩))];exact h1)
     rw[fixO_stay h3] at h2;exact h2
    have hHDp:∀(i a:Nat),pick[i]? =some (some a)→HD[a]? =H[a]?:=fun i a hi=>hwr a (mem_somes.2 ⟨i,hi⟩)
    have hfv:=hl f (by simp [Op.operands,Call.operands])
    rw[hf] at hfv
    obtain⟨us,hfe,hus,husv⟩:=hfv.fn_inv
    let vals:Array Value:=args.map a.eval ++ us
    have hvals0:VRs E (args.toList.map (opnd ev) ++ cap) vals:=by
     refine⟨by simp [vals,hus],fun i c hc=>?_⟩
     by_cases hia:i<args.size
     ·have e1:c=opnd ev args[i]:=by
       rw[Qd (by simpa using hia)] at hc
       simpa [hia] using hc.symm
      have e2:vals.getD i Go.undef=a.eval args[i]:=by
       simp only[vals,Qi]
       rw[Array.getElem?_append_left (by simpa using hia)]
       simp [hia]
      rw[e1,e2]
      exact hl args[i] (by simp [Op.operands,Call.operands])
     ·have e1:cap[i - args.size]? =some c:=by
       rw[Qj (by simpa using hia)] at hc
       simpa using hc
      have e2:vals.getD i Go.undef=us.getD (i - args.size) Go.undef:=by
       simp only[vals,Qi]
       rw[Array.getElem?_append_right (by simpa using hia)]
       simp
      rw[e2]
      exact husv _ _ e1
    have hroot:=hsub.root HD E hr hHDp vals hvals0
    obtain⟨hrel0,hmt,hhl0⟩:=subK_rel hsub hr hHDp hfz rfl
    have hvals:VRs { W:=E.W,M:=newM pick E.M,st:=E.st,hl:=hlOf K0 } as vals:=by
     refine⟨by rw[hvals0.1,hsub.alen],fun i c hc=>?_⟩
     have hi:i< (args.toList.map (opnd ev) ++ cap).length:=by rw[hsub.alen];exact(Qa.1 hc).1
     exact hmt _ c _ (hsub.args i _ c (Qb hi) hc) (hvals0.2 i _ (Qb hi))
    have hcalls:=hC _ vals hrel0 hvals
    have hrun:(execOp a.eval ⟨dst,.call { callee:= .value f,args,argTypes },ty,pos,after,guard⟩).run P E.W= .ok (.enter fid vals) E.W:=by
     unfold cal at hcal
     split at hcal
     ·next fn hfn=>
      simp only[Ql,bne_iff_ne,ne_eq] at hcal
      obtain⟨hn,hb⟩:=hcal
      have hb':¬fn.body=none:=by
       intro hbb;rw[hbb] at hb;cases hb
      simp [execOp,resolve,hfe,Deferred.ofValue,invoke,callFunc,hfn,hn,hb',vals]
     ·cases hcal
    unfold Oper.wp
    rw[hrun,Oper.upon_enter]
    refine hcalls.mono fun e W' ⟨v,Ec,he,hW,hv,hrc,hst⟩=>?_
    subst he
    subst hW
    let g:=gid (gids pick H.length Ko.length)
    let isF:Nat→Bool:=fun k=>match (gids pick H.length Ko.length)[k]? with
     | some a=>decide (H.length≤a) && (match HD[a]? with
      | some o=>o.fixed
      | none=>false)
     | none=>false
    let Ko':AH:=Ko.mapIdx fun k o=>if isF k then fixO o else o
    have hKo'get:∀(k:Nat),Ko'[k]? =(Ko[k]?).map fun o=>if isF k then fixO o else o:=fun k=>by simp [Ko']
    have hle':AHle Ko Ko':=by
     intro k o hk
     refine⟨if isF k then fixO o else o,by rw[hKo'get,hk];rfl,?_⟩
     split
     ·exact fixO_le o
     ·exact .refl o
    obtain⟨Ec',hrc',hW',hM',hst'⟩:=hrc.le hle'
    have hKo'len:Ko'.length=Ko.length:=by simp [Ko']
    let HD':AH:=HD.mapIdx fun j o=>if j∈somes pick then(H1[j]?).getD o else o
    have hHD'get:∀(j:Nat),HD'[j]? =(HD[j]?).map fun o=>if j∈somes pick then(H1[j]?).getD o else o:=fun j=>by simp [HD']
    have hold:∀(k a:Nat),pick[k]? =some (some a)→isF k=false:=by
     intro k a hk
     have hlt:a<H.length:=by obtain⟨_,_,_,_,_,h⟩:=hpk k a hk;exact h
     simp only[isF,gpick k a hk]
     simp;omega
    have hnewM:∀(k a:Nat),(gids pick H.length Ko.length)[k]? =some a→(∀b,pick[k]?≠some (some b))→E.M a=none∧a∉somes pick:=by
     intro k a hk hn
     rcases gcase k a hk with h | ⟨_,h1,h2⟩
     ·exact absurd h (hn a)
     ·refine⟨(hnew a h2).1,fun hs=>?_⟩
      obtain⟨j,hj⟩:=mem_somes.1 hs
      obtain⟨_,_,_,_,_,h⟩:=hpk j a hj
      omega
    have emb:Emb (gids pick H.length Ko.length) K0 { W:=E.W,M:=newM pick E.M,st:=E.st,hl:=hlOf K0 } Ko' HD E HD':=by
     refine⟨by rw[gl,hKo'len],fun i j a hi hj=>?_,fun k a hk=>?_,rfl,fun b=>Iff.rfl,fun k a hkl hk=>?_,fun k a hkl hk=>?_,by simp [HD'],fun j hj=>?_,fun k a o hk ho=>?_⟩
     ·rcases gcase i a hi with h1 | ⟨h1,h1',_⟩ <;> rcases gcase j a hj with h2 | ⟨h2,h2',_⟩
      ·exact hsub.pinj i j a h1 h2
      ·obtain⟨_,_,_,_,_,h⟩:=hpk i a h1;omega
      ·obtain⟨_,_,_,_,_,h⟩:=hpk j a h2;omega
      ·exact ginj i j a hi hj h1 h2
     ·rcases gcase k a hk with h1 | ⟨_,_,h3⟩
      ·obtain⟨_,_,_,_,_,h⟩:=hpk k a h1;omega
      ·obtain⟨_,_,_,_,h,_⟩:=hfr a h3
       have:=(Qa.1 h).1
       omega
     ·rcases gcase k a hk with h1 | ⟨h1,_,h3⟩
      ·left
       refine⟨by simp [newM,h1],by rw[hr.hl];exact hhl0 k a h1,fun o ho hol=>?_⟩
       obtain⟨_,o',_,h5,h6,_⟩:=hpk k a h1
       exact⟨o',by rw[hHDp k a h1];exact h5,h6⟩
      ·right
       refine⟨(hnew a h3).1,?_⟩
       have hkp:k<pick.length:=by rw[hsub.plen];exact hkl
       cases hp:pick[k] with
       | some b=>exact absurd (by simp [hkp,hp]) (h1 b)
       | none=>simp [newM,Qb hkp,hp]
     ·rcases gcase k a hk with h1 | ⟨_,_,h3⟩
      ·have:=(Qa.1 h1).1
       rw[hsub.plen] at this;omega
      ·exact⟨(hnew a h3).1,by simp [newM,Qm (show pick.length≤k by rw[hsub.plen];exact hkl)]⟩
     ·rw[hHD'get]
      have:j∉somes pick:=fun hs=>by
       obtain⟨k,hk⟩:=mem_somes.1 hs
       exact hj k (gpick k j hk)
      simp [this]
     ·rw[hKo'get] at ho
      obtain⟨o0,ho0,rfl⟩:=Qe.1 ho
      have hat:=pat k a o0 hk ho0
      rcases gcase k a hk with h1 | ⟨h1,h2,h3⟩
      ·rw[hold k a h1]
       have hlt:a<H.length:=by obtain⟨_,_,_,_,_,h⟩:=hpk k a h1;exact h
       have hltD:a<HD.length:=by
        obtain⟨_,o',_,h5,_⟩:=hpk k a h1
        rw[←hHDp k a h1] at h5
        exact(Qa.1 h5).1
       rw[hHD'get,Qb hltD]
       simp [mem_somes.2 ⟨k,h1⟩,hat]
      ·have hn:=hnewM k a hk h1
       rw[hHD'get]
       obtain⟨o',h5,h6⟩:=(hnew a h3).2 _ hat
       rw[h5]
       simp only[Option.map_some,hn.2,if_false,Option.some.injEq]
       rcases h6.frz with rfl | ⟨h7,h8⟩
       ·cases hisF:isF k with
        | false=>simp
        | true=>
         simp only[isF,hk,h5,Ql,renO_fixed] at hisF
         simp only[if_true]
         rw[fixO_fixed hisF.2]
       ·have:isF k=true:=by
         simp only[isF,hk,h5,Ql,decide_eq_true_eq]
         exact⟨h2,h8⟩
        rw[this]
        simp only[if_true]
        rw[renO_fz,h7]
    obtain⟨E',hWE,hstE,hrE,hstepE,hME,hMin,hhl,hvrE⟩:=merge_gen hr hrel0 hrc' (hst.trans hst') emb
    rw[←hW',←hWE]
    refine hK' HD' E' v (by simp [HD']) (fun id hid=>by rw[hHD'get];simp [hid]) (fun id hid=>?_) (hvrE r v (hv.mono (hst'.ext hrc))) hrE hstepE (fun j h1 h2=>?_)
    ·obtain⟨k,hk⟩:=mem_somes.1 hid
     have hkl:k<Ko.length:=Nat.lt_of_lt_of_le (Qa.1 hk).1 hplen
     have hat:=pat k id Ko[k] (gpick k id hk) (by simp [hkl])
     obtain⟨_,o',_,h5,_⟩:=hpk k id hk
     rw[hHD'get,hHDp k id hk,h5]
     simp [hid,hat]
    ·obtain⟨k,hk⟩:=hME j h1 h2
     rcases gcase k j hk with h3 | ⟨_,_,h3⟩
     ·have:=hroot k j h3
      rw[h1] at this;cases this
     ·exact h3
  ·exact h.elim
 ·exact h.elim
end Go.Pg
