/- Pg, part 12c: cells of a struct that are held back from the callee: it finds them as they are, and leaves them so. -/
import Derived.Test.YtjbgnnggmngpcaaGreatDoorPgMut
set_option linter.unusedVariables false
set_option linter.unusedSimpArgs false
set_option linter.unusedSectionVars false
open List renaming getElem?_set_ne → Qa,getElem?_eq_some_iff → Qb,getElem?_set_self → Qc,getElem?_cons_zero → Qe,set_append_left → Qf,mem_cons_of_mem → Qg,set_comm → Qj,set_set → Qk
open Option renaming map_eq_some_iff → Qd
open Bool renaming false_eq_true → Qh
open Nat renaming le_trans → Qi
namespace Go.Pg
open Go
variable [Syms]
def hinL:List Bool→Nat→(Nat→Value)→List AV→List AV
 | true :: m,j,ρ,_ :: cs=> .cst (ρ j) :: hinL m (j+1) ρ cs
 | false :: m,j,ρ,c :: cs=>c :: hinL m (j+1) ρ cs
 | _,_,_,cs=>cs
def hinH (hm:Option (List Bool))(ρ:Nat→Value)(K:AH):AH:=
 match hm,K with
 | some m,.arr e sz [.agg cs] :: r=> .arr e sz [.agg (hinL m 0 ρ cs)] :: r
 | _,K=>K
def blankL:List Bool→List AV→List AV
 | true :: m,_ :: cs=> .top :: blankL m cs
 | false :: m,c :: cs=>c :: blankL m cs
 | _,cs=>cs
def fillL:List Bool→List AV→List AV→List AV
 | true :: m,c :: cs,_ :: ds=>c :: fillL m cs ds
 | false :: m,_ :: cs,d :: ds=>d :: fillL m cs ds
 | _,_,ds=>ds
def blankO (m:List Bool):AO→AO
 | .arr e sz [.agg cs]=> .arr e sz [.agg (blankL m cs)]
 | o=>o
def fillO (m:List Bool):AO→AO→AO
 | .arr _ _ [.agg cs],.arr e sz [.agg ds]=> .arr e sz [.agg (fillL m cs ds)]
 | _,o=>o
def ptrId:List AV→Option Nat
 | .ptr a _ _ _ _ :: _=>some a
 | _=>none
def blankH (hm:Option (List Bool))(H:AH)(xs:List AV):AH:=
 match hm with
 | none=>H
 | some m=>match ptrId xs with
  | some a=>match H[a]? with
   | some o=>H.set a (blankO m o)
   | none=>H
  | none=>H
def fillH (hm:Option (List Bool))(H:AH)(xs:List AV)(H1:AH):AH:=
 match hm with
 | none=>H1
 | some m=>match ptrId xs with
  | some a=>match H[a]?,H1[a]? with
   | some o,some o1=>H1.set a (fillO m o o1)
   | _,_=>H1
  | none=>H1
def heldO (a:Nat):Option AO→List (Option Nat)→AH→Bool
 | some (.arr e sz [.agg cs]),some a' :: _,.arr e' sz' [.agg ds] :: _=>a == a' && e == e' && sz == sz' && cs.length == ds.length
 | _,_,_=>false
def heldB (hm:Option (List Bool))(H:AH)(xs:List AV)(pick:List (Option Nat))(Ko:AH):Bool:=
 match hm with
 | none=>true
 | some _=>match ptrId xs with
  | some a=>heldO a H[a]? pick Ko
  | none=>false
def hinOK (hm:Option (List Bool))(K:AH):Bool:=
 match hm,K with
 | none,_=>true
 | some _,.arr _ _ [.agg _] :: _=>true
 | _,_=>false
theorem hinL_length:∀(m:List Bool)(j:Nat)(ρ:Nat→Value)(cs:List AV),(hinL m j ρ cs).length=cs.length:=by
 intro m
 induction m with
 | nil=>intro j ρ cs;simp [hinL]
 | cons b m ih=>
  intro j ρ cs
  cases cs with
  | nil=>cases b <;> simp [hinL]
  | cons c cs=>cases b <;> simp [hinL,ih]
theorem hinL_get:∀(m:List Bool)(j:Nat)(ρ:Nat→Value)(cs:List AV)(i:Nat),(hinL m j ρ cs)[i]? =cs[i]?.map fun c=>if m.getD i false then .cst (ρ (j+i)) else c:=by
 intro m
 induction m with
 | nil=>intro j ρ cs i;simp [hinL]
 | cons b m ih=>
  intro j ρ cs i
  cases cs with
  | nil=>cases b <;> simp [hinL]
  | cons c cs=>
   cases i with
   | zero=>cases b <;> simp [hinL]
   | succ i=>cases b <;> simp [hinL,ih,Nat.add_assoc,Nat.add_comm 1]
theorem blankL_length:∀(m:List Bool)(cs:List AV),(blankL m cs).length=cs.length:=by
 intro m
 induction m with
 | nil=>intro cs;simp [blankL]
 | cons b m ih=>
  intro cs
  cases cs with
  | nil=>cases b <;> simp [blankL]
  | cons c cs=>cases b <;> simp [blankL,ih]
theorem blankL_get:∀(m:List Bool)(cs:List AV)(i:Nat),(blankL m cs)[i]? =cs[i]?.map fun c=>if m.getD i false then .top else c:=by
 intro m
 induction m with
 | nil=>intro cs i;simp [blankL]
 | cons b m ih=>
  intro cs i
  cases cs with
  | nil=>cases b <;> simp [blankL]
  | cons c cs=>
   cases i with
   | zero=>cases b <;> simp [blankL]
   | succ i=>cases b <;> simp [blankL,ih]
theorem fillL_length:∀(m:List Bool)(cs ds:List AV),(fillL m cs ds).length=ds.length:=by
 intro m
 induction m with
 | nil=>intro cs ds;simp [fillL]
 | cons b m ih=>
  intro cs ds
  cases ds with
  | nil=>cases b <;> cases cs <;> simp [fillL]
  | cons d ds=>cases b <;> cases cs <;> simp [fillL,ih]
theorem fillL_get:∀(m:List Bool)(cs ds:List AV)(i:Nat),cs.length=ds.length→(fillL m cs ds)[i]? =if m.getD i false then cs[i]? else ds[i]?:=by
 intro m
 induction m with
 | nil=>intro cs ds i h;simp [fillL]
 | cons b m ih=>
  intro cs ds i h
  cases cs with
  | nil=>
   have:ds=[]:=List.eq_nil_of_length_eq_zero (by simpa using h.symm)
   subst this
   cases b <;> simp [fillL]
  | cons c cs=>
   cases ds with
   | nil=>simp at h
   | cons d ds=>
    have h:cs.length=ds.length:=by simpa using h
    cases i with
    | zero=>cases b <;> simp [fillL]
    | succ i=>cases b <;> simp [fillL,ih cs ds i h]
theorem renL_hin (g:Nat→Nat):∀(m:List Bool)(j:Nat)(ρ:Nat→Value)(cs:List AV),renL g (hinL m j ρ cs)=hinL m j ρ (renL g cs):=by
 intro m
 induction m with
 | nil=>intro j ρ cs;cases cs <;> simp [hinL,renL]
 | cons b m ih=>
  intro j ρ cs
  cases cs with
  | nil=>cases b <;> simp [hinL,renL]
  | cons c cs=>cases b <;> simp [hinL,renL,ren,ih]
theorem Rel.cells {HD:AH}{E:Env}(hr:Rel HD E){a:Nat}{e:TypeId}{sz:Nat}{ws ws':List AV}(ha:HD[a]? =some (.arr e sz ws))(hl:ws'.length=ws.length)(hv:∀m,E.M a=some m→ARow E m e sz ws→ARow E m e sz ws') :
 Rel (HD.set a (.arr e sz ws')) E:=by
 have hal:a<HD.length:=(Qb.1 ha).1
 have hget:∀j:Nat,(HD.set a (.arr e sz ws'))[j]? =if j=a then some (.arr e sz ws') else HD[j]?:=by
  intro j
  rw[List.getElem?_set]
  by_cases h:a=j
  ·subst h;simp [hal]
  ·rw[if_neg h,if_neg (fun x=>h x.symm)]
 have same:∀(j:Nat) o,(HD.set a (.arr e sz ws'))[j]? =some o→∃o',HD[j]? =some o'∧o'.lives=o.lives∧o'.fixed=o.fixed:=by
  intro j o h
  rw[hget] at h
  split at h
  ·next e1=>subst e1;cases h;exact⟨_,ha,rfl,rfl⟩
  ·exact⟨o,h,rfl,rfl⟩
 refine⟨?_,fun id hid=>hr.dom id (by simpa using hid),?_,?_,?_,?_,hr.stlt⟩
 ·rw[hr.hl]
  funext j
  unfold hlOf
  rw[hget]
  split
  ·next e1=>subst e1;rw[ha];simp [AO.len,hl]
  ·rfl
 ·intro id o m h hm
  rw[hget] at h
  split at h
  ·next e1=>subst e1;cases h;exact hv m hm (hr.orow id _ m ha hm)
  ·exact hr.orow id o m h hm
 ·intro id o b h hl hm
  obtain⟨o',h1,h2,_⟩:=same id o h
  exact hr.nst' id o' b h1 (by rw[h2];exact hl) hm
 ·intro id o b h hf hm
  obtain⟨o',h1,_,h3⟩:=same id o h
  exact hr.fst' id o' b h1 (by rw[h3];exact hf) hm
 ·intro id id' o o' b h h' hl hl' hm hm'
  obtain⟨p,h1,h2,_⟩:=same id o h
  obtain⟨p',h1',h2',_⟩:=same id' o' h'
  exact hr.inj' id id' p p' b h1 h1' (by rw[h2];exact hl) (by rw[h2'];exact hl') hm hm'
theorem live_cells {HD:AH}{M:Nat→Option (Option Nat)}{a:Nat}{e:TypeId}{sz:Nat}{ws ws':List AV}(ha:HD[a]? =some (.arr e sz ws))(b:Nat):Live (HD.set a (.arr e sz ws')) M b↔Live HD M b:=by
 have hal:a<HD.length:=(Qb.1 ha).1
 constructor
 ·rintro⟨id,o,h1,h2,h3⟩
  by_cases h:id=a
  ·subst h;exact⟨id,_,ha,rfl,h3⟩
  ·rw[Qa (fun x=>h x.symm)] at h1;exact⟨id,o,h1,h2,h3⟩
 ·rintro⟨id,o,h1,h2,h3⟩
  by_cases h:id=a
  ·subst h;exact⟨id,.arr e sz ws',by simp [hal],rfl,h3⟩
  ·exact⟨id,o,by rw[Qa (fun x=>h x.symm)];exact h1,h2,h3⟩
theorem arow_one {E:Env}{m:Option Nat}{e:TypeId}{sz:Nat}{cs cs':List AV}(hl:cs'.length=cs.length)(h:ARow E m e sz [.agg cs])
 (hv:∀b c fz,m=some b→E.W.heap[b]? =some (.cells c e fz)→∀(j:Nat) x u,cs'[j]? =some x→c[j]? =some u→(∀y,cs[j]? =some y→VR E y u)→VR E x u):ARow E m e sz [.agg cs']:=by
 rcases h with⟨_,h⟩ | ⟨b,c,fz,h1,h2,h3,h4,h5⟩
 ·simp at h
 ·refine .inr ⟨b,c,fz,h1,h2,by simpa using h3,h4,fun i v hi=>?_⟩
  cases i with
  | succ i=>simp at hi
  | zero=>
   simp only[Qe,Option.some.injEq] at hi
   subst hi
   obtain⟨k1,k2⟩:=h5 0 _ rfl
   refine⟨by simp only[AV.cells] at k1 ⊢;omega,fun j x hj=>?_⟩
   simp only[AV.cells] at hj k2
   have hjl:j<cs.length:=by rw[←hl];exact(Qb.1 hj).1
   obtain⟨u,k3,k4⟩:=k2 j cs[j] (by simp [hjl])
   refine⟨u,k3,hv b c fz h1 h2 j x u hj (by simpa using k3) fun y hy=>?_⟩
   rw[List.getElem?_eq_getElem hjl] at hy
   cases hy;exact k4
open Classical in
theorem heapOK_held {P:Program}{o:Oper}{look:Env→Act→Prop}{V:AV}{new fp wr:List Nat}{H B:AH}{a:Nat}{e:TypeId}{sz:Nat}{cs es:List AV}{m:List Bool}
 (ha:H[a]? =some (.arr e sz [.agg cs])) (hB:a<B.length) (hlen:cs.length=es.length) (haw:a∈wr) (han:a∉new)
 (h:∀ρ,HeapOK P o look V new fp wr (H.set a (.arr e sz [.agg (hinL m 0 ρ cs)])) (B.set a (.arr e sz [.agg (hinL m 0 ρ es)]))) :
 HeapOK P o look V new fp wr H (B.set a (.arr e sz [.agg (fillL m cs es)])):=by
 intro HD E act hlook hr hl hfp hwr hnew K Q hK
 have hal:a<H.length:=(Qb.1 ha).1
 have hD:HD[a]? =some (.arr e sz [.agg cs]):=by rw[hwr a haw];exact ha
 have haD:a<HD.length:=(Qb.1 hD).1
 obtain⟨ρ,hρ⟩:∃ρ:Nat→Value,∀b c fz,E.M a=some (some b)→E.W.heap[b]? =some (.cells c e fz)→∀(j:Nat) u,c[j]? =some u→ρ j=u:=by
  by_cases hex:∃b c fz,E.M a=some (some b)∧E.W.heap[b]? =some (.cells c e fz)
  ·obtain⟨b,c,fz,h1,h2⟩:=hex
   refine⟨fun j=>(c[j]?).getD Go.undef,fun b' c' fz' h1' h2' j u hu=>?_⟩
   rw[h1] at h1';cases h1'
   rw[h2] at h2';cases h2'
   simp [hu]
  ·exact⟨fun _=>Go.undef,fun b c fz h1 h2=>absurd ⟨b,c,fz,h1,h2⟩ hex⟩
 have hr1:Rel (HD.set a (.arr e sz [.agg (hinL m 0 ρ cs)])) E:=by
  refine hr.cells hD rfl fun mm hm hrow=>arow_one (hinL_length _ _ _ _) hrow fun b c fz h1 h2 j x u hx hu hy=>?_
  subst h1
  rw[hinL_get] at hx
  obtain⟨y,h3,rfl⟩:=Qd.1 hx
  cases hmj:m.getD j false with
  | true=>rw[if_pos rfl,Nat.zero_add,hρ b c fz hm h2 j u hu];exact .cst u
  | false=>simpa using hy y h3
 refine h ρ (HD.set a (.arr e sz [.agg (hinL m 0 ρ cs)])) E act hlook hr1 (by simpa using hl) (fun id h1 h2=>?_) (fun id h1=>?_) (fun id h1=>?_) K Q ?_
 ·have hne:id≠a:=fun x=>h2 (by rw[x];exact haw)
  have:=hfp id h1 h2
  intro x hx
  rw[Qa (fun x=>hne x.symm)] at hx ⊢
  exact this x (by rw[Qa (fun x=>hne x.symm)];exact hx)
 ·by_cases hne:id=a
  ·subst hne;simp [haD,hal]
  ·rw[Qa (fun x=>hne x.symm),Qa (fun x=>hne x.symm)];exact hwr id h1
 ·have hne:id≠a:=fun x=>han (by rw[←x];exact h1)
  obtain⟨k1,k2⟩:=hnew id h1
  refine⟨k1,fun x hx=>?_⟩
  rw[Qa (fun x=>hne x.symm)] at hx ⊢
  exact k2 x (by rw[Qa (fun x=>hne x.symm)];exact hx)
 ·intro HD' E' v hlen' hout hin hv hrel hstep hM
  have ha':HD'[a]? =some (.arr e sz [.agg (hinL m 0 ρ es)]):=by rw[hin a haw];simp [hB]
  have hex:=hstep.ext hr1
  refine hK (HD'.set a (.arr e sz [.agg (fillL m cs es)])) E' v (by simpa using hlen') (fun id h1=>?_) (fun id h1=>?_) hv ?_ ?_ hM
  ·have hne:id≠a:=fun x=>h1 (by rw[x];exact haw)
   have:=hout id h1
   rw[Qa (fun x=>hne x.symm)] at this
   rw[Qa (fun x=>hne x.symm)];exact this
  ·by_cases hne:id=a
   ·subst hne
    have:id<HD'.length:=(Qb.1 ha').1
    simp [this,hB]
   ·rw[Qa (fun x=>hne x.symm),Qa (fun x=>hne x.symm)]
    have:=hin id h1
    rw[Qa (fun x=>hne x.symm)] at this
    exact this
  ·
   have hMa:(E.M a).isSome=true→E'.M a=E.M a:=by
    intro hs
    have hL':E'.hl a=some 1:=by rw[hrel.hl];simp [hlOf,ha',AO.len]
    obtain⟨L,h1,h2,h3⟩:=hstep.mm.2 a 1 hs hL'
    have h4:E.hl a=some 1:=by rw[hr.hl];simp [hlOf,hD,AO.len]
    rw[h4] at h1;cases h1
    exact h3 rfl
   refine hrel.cells ha' rfl fun mm hm hrow=>arow_one (by rw[fillL_length,hinL_length]) hrow fun b c fz h1 h2 j x u hx hu hy=>?_
   subst h1
   rw[fillL_get m cs es j hlen] at hx
   cases hmj:m.getD j false with
   | false=>
    rw[hmj] at hx
    exact hy x (by rw[hinL_get,hmj];simpa using hx)
   | true=>
    rw[hmj] at hx
    simp only[if_true] at hx
    have hj:j<es.length:=by rw[←hlen];exact(Qb.1 hx).1
    have hu':=hy (.cst (ρ j)) (by rw[hinL_get,hmj];simp [hj])
    have hru:u=ρ j:=by cases hu';rfl
    by_cases hs:(E.M a).isSome=true
    ·have hMb:E.M a=some (some b):=by rw[←hMa hs];exact hm
     rcases hr.orow a _ _ hD hMb with⟨q,_⟩ | ⟨b0,c0,fz0,g1,g2,g3,g4,g5⟩
     ·cases q
     ·cases g1
      obtain⟨_,g6⟩:=g5 0 _ rfl
      obtain⟨u0,g7,g8⟩:=g6 j x (by simpa [AV.cells] using hx)
      have:=hρ b c0 fz0 hMb g2 j u0 (by simpa using g7)
      rw[hru,this]
      exact g8.mono hex
    ·have hn:E.M a=none:=by
      cases hq:E.M a with
      | none=>rfl
      | some q=>rw[hq] at hs;exact absurd rfl hs
     exact absurd (hM a hn (by rw[hm];simp)) han
  ·have l0:∀b,Live (HD.set a (.arr e sz [.agg (hinL m 0 ρ cs)])) E.M b↔Live HD E.M b:=live_cells hD
   have l1:∀b,Live (HD'.set a (.arr e sz [.agg (fillL m cs es)])) E'.M b↔Live HD' E'.M b:=live_cells ha'
   exact⟨⟨hstep.mv.os,hstep.mv.tape,hstep.mv.output,hstep.mv.size,fun b hb hn=>hstep.mv.keep b hb (fun x=>hn ((l0 b).1 x)),hstep.mv.shape,fun b hb hs=>(hstep.mv.old b hb hs).imp id (l0 b).1,hstep.mv.grow⟩,hstep.mm,fun b hb=>(hstep.live b ((l1 b).1 hb)).imp (l0 b).1 id⟩
theorem objAt_congr {H H':AH}{id:Nat}(h:H'[id]? =H[id]?):objAt H' id=objAt H id:=by unfold objAt;rw[h]
theorem mapAt_congr {H H':AH}{id:Nat}(h:H'[id]? =H[id]?):mapAt H' id=mapAt H id:=by unfold mapAt;rw[h]
theorem resL_congr {g g':AV→Option (AV×List Nat)}{S:Nat→Prop}(hg:∀x z ids,g x=some (z,ids)→(∀i∈ids,S i)→g' x=some (z,ids)) :
 ∀(l z:List AV) (ids:List Nat),resL g l=some (z,ids)→(∀i∈ids,S i)→resL g' l=some (z,ids):=by
 intro l
 induction l with
 | nil=>intro z ids h _;simpa [resL] using h
 | cons x l ih=>
  intro z ids h hs
  simp only[resL] at h ⊢
  split at h
  ·next y i m j h1 h2=>
   cases h
   rw[hg x y i h1 (fun k hk=>hs k (List.mem_append_left _ hk)),ih m j h2 (fun k hk=>hs k (List.mem_append_right _ hk))]
  ·cases h
theorem res_congr {H H':AH}{S:Nat→Prop}(hS:∀i,S i→H'[i]? =H[i]?):∀(d:Nat)(x z:AV)(ids:List Nat),res H d x=some (z,ids)→(∀i∈ids,S i)→res H' d x=some (z,ids):=by
 intro d
 induction d with
 | zero=>intro x z ids h;simp [res] at h
 | succ d ih=>
  intro x z ids h hs
  have hL:=resL_congr (g:=res H d) (g':=res H' d) (S:=S) (fun x z ids=>ih x z ids)
  cases x <;> simp only[res] at h ⊢ <;> try (cases h;done)
  all_goals try exact h
  case agg cs=>
   split at h
   ·next l i hl=>cases h;rw[hL cs l _ hl hs]
   ·cases h
  case fn f cs=>
   split at h
   ·next l i hl=>cases h;rw[hL cs l _ hl hs]
   ·cases h
  case own id sz len=>
   split at h
   ·next e sz' vs ho=>
    split at h
    ·next hh=>
     split at h
     ·next hp=>
      cases h
      rw[objAt_congr (hS id (hs id (by simp))),ho]
      simp only[hh,and_self,if_true,hp]
     ·next hp=>
      split at h
      ·next l i hl=>
       cases h
       rw[objAt_congr (hS id (hs id (by simp))),ho]
       simp only[hh,and_self,if_true,if_neg hp]
       rw[hL vs l i hl (fun k hk=>hs k (Qg _ hk))]
      ·cases h
    ·cases h
   ·cases h
  case ptr id sz len idx off=>
   split at h
   ·next e sz' vs ho=>
    split at h
    ·next hh=>
     split at h
     ·next l i hl=>
      cases h
      rw[objAt_congr (hS id (hs id (by simp))),ho]
      simp only
      rw[if_pos hh,hL _ l i hl (fun k hk=>hs k (Qg _ hk))]
     ·cases h
    ·cases h
   ·cases h
  case mp id=>
   split at h
   ·next es ho=>
    cases h
    rw[mapAt_congr (hS id (hs id (by simp))),ho]
   ·cases h
theorem Mt.congr {H H':AH}{F:List Nat}{pick:List (Option Nat)}(hF:∀i∈F,H'[i]? =H[i]?){x y:AV}(h:Mt H F pick x y):Mt H' F pick x y:=by
 induction h with
 | top=>exact .top
 | pure d x z ids ns hres hids=>exact .pure d x z ids ns (res_congr (S:=fun i=>i∈F) hF d x z ids hres hids) hids
 | own i a sz n hp=>exact .own i a sz n hp
 | nil i sz hp=>exact .nil i sz hp
 | ptr i a sz n idx off hp=>exact .ptr i a sz n idx off hp
 | win i a sz t off n hp=>exact .win i a sz t off n hp
 | mp i a hp=>exact .mp i a hp
 | ows i a sz j hp=>exact .ows i a sz j hp
 | agg cs ds hl _ ih=>exact .agg cs ds hl ih
 | fn f cs ds hl _ ih=>exact .fn f cs ds hl ih
theorem Mt.leaf {H:AH}{F:List Nat}{pick:List (Option Nat)}{x:AV}(h:x.pureLeaf=true):Mt H F pick x x:=by
 refine .pure 1 x x [] .id ?_ (by simp)
 cases x <;> first | rfl | (simp [AV.pureLeaf] at h)
theorem subK_hin {H K:AH}{F:List Nat}{pick:List (Option Nat)}{xs as:List AV}{m:List Bool}{a:Nat}{e:TypeId}{sz:Nat}{cs:List AV}
 (ha:H[a]? =some (.arr e sz [.agg cs])) (hp0:pick[0]? =some (some a)) (hK:hinOK (some m) K=true)
 (h:SubK (H.set a (.arr e sz [.agg (blankL m cs)])) F pick xs as K) (ρ:Nat→Value) :
 SubK (H.set a (.arr e sz [.agg (hinL m 0 ρ cs)])) F pick xs as (hinH (some m) ρ K):=by
 have hal:a<H.length:=(Qb.1 ha).1
 obtain⟨e1,sz1,ks,r,rfl⟩:∃e1 sz1 ks r,K= .arr e1 sz1 [.agg ks] :: r:=by
  unfold hinOK at hK
  split at hK
  ·next h1=>cases h1
  ·next e1 sz1 ks r=>exact⟨_,_,_,_,rfl⟩
  ·cases hK
 have hne:∀id,id≠a→(H.set a (.arr e sz [.agg (hinL m 0 ρ cs)]))[id]? =(H.set a (.arr e sz [.agg (blankL m cs)]))[id]?:=fun id hn=>by
  rw[Qa (fun x=>hn x.symm),Qa (fun x=>hn x.symm)]
 have haF:a∉F:=h.pF 0 a hp0
 have hFc:∀i∈F,(H.set a (.arr e sz [.agg (hinL m 0 ρ cs)]))[i]? =(H.set a (.arr e sz [.agg (blankL m cs)]))[i]?:=fun i hi=>hne i (fun x=>haF (by rw[←x];exact hi))
 have hmt:∀{x y:AV},Mt (H.set a (.arr e sz [.agg (blankL m cs)])) F pick x y→Mt (H.set a (.arr e sz [.agg (hinL m 0 ρ cs)])) F pick x y:=fun h=>h.congr hFc
 have hlen:(hinH (some m) ρ (.arr e1 sz1 [.agg ks] :: r)).length=(AO.arr e1 sz1 [.agg ks] :: r).length:=rfl
 refine⟨h.plen.trans hlen.symm,h.pinj,h.pF,?_,h.alen,fun i x y hx hy=>hmt (h.args i x y hx hy),?_⟩
 ·intro i p y hp hy
  cases i with
  | zero=>
   rw[hp0] at hp
   cases hp
   simp only[hinH,Qe,Option.some.injEq] at hy
   subst hy
   have h0:=h.objs 0 (some a) _ hp0 rfl
   obtain⟨vs,h1,h2⟩:=h0
   rw[Qc hal] at h1
   cases h1
   refine⟨[.agg (hinL m 0 ρ cs)],by rw[Qc hal],.inr ⟨rfl,fun i v w hv hw=>?_⟩⟩
   cases i with
   | succ i=>simp at hv
   | zero=>
    simp only[Qe,Option.some.injEq] at hv hw
    subst hv;subst hw
    have hc:cs.length=ks.length∧∀(j:Nat) c d,(blankL m cs)[j]? =some c→ks[j]? =some d→Mt (H.set a (.arr e sz [.agg (blankL m cs)])) F pick c d:=by
     rcases h2 with⟨h2,h3⟩ | ⟨_,h3⟩
     ·simp only[List.cons.injEq,AV.agg.injEq,and_true] at h2
      subst h2
      refine⟨(blankL_length m cs).symm,fun j c d hc hd=>?_⟩
      rw[hc] at hd;cases hd
      simp only[AV.pureB,List.all_cons,List.all_nil,Bool.and_true,AV.cells] at h3
      exact .leaf (List.all_eq_true.1 h3 c (List.mem_of_getElem? hc))
     ·obtain⟨h4,h5⟩:=h3 0 _ _ rfl rfl
      simp only[AV.cells] at h4 h5
      exact⟨by rw[←h4,blankL_length],h5⟩
    refine⟨by simp only[AV.cells,hinL_length];exact hc.1,fun j c d hj hd=>?_⟩
    simp only[AV.cells] at hj hd
    rw[hinL_get] at hj hd
    obtain⟨c0,g1,rfl⟩:=Qd.1 hj
    obtain⟨d0,g2,rfl⟩:=Qd.1 hd
    cases hmj:m.getD j false with
    | true=>
     simp only[if_true]
     exact .pure 1 _ _ [] .id rfl (by simp)
    | false=>
     simp only[Qh,if_false]
     exact hmt (hc.2 j c0 d0 (by rw[blankL_get,hmj];simpa using g1) g2)
  | succ i=>
   simp only[hinH,List.getElem?_cons_succ] at hy
   have h0:=h.objs (i+1) p y hp (by simpa using hy)
   cases p with
   | none=>cases y <;> exact h0
   | some a'=>
    have hn:a'≠a:=fun x=>by
     subst x
     have:=h.pinj 0 (i+1) a' hp0 hp
     omega
    cases y with
    | arr e' sz' ws=>
     obtain⟨vs,k1,k2⟩:=h0
     exact⟨vs,by rw[hne a' hn];exact k1,k2.imp id fun⟨q1,q2⟩=>⟨q1,fun i v w hv hw=>⟨(q2 i v w hv hw).1,fun j c d hc hd=>hmt ((q2 i v w hv hw).2 j c d hc hd)⟩⟩⟩
    | mp es=>exact(hne a' hn).trans h0
    | tok q=>exact(hne a' hn).trans h0
    | _=>exact h0.elim
 ·intro HD E hr hpk vals hv i b hi
  have hDa:HD[a]? =some (.arr e sz [.agg (hinL m 0 ρ cs)]):=by rw[hpk 0 a hp0,Qc hal]
  have hDl:a<HD.length:=(Qb.1 hDa).1
  refine h.root (HD.set a (.arr e sz [.agg (blankL m cs)])) E ?_ (fun j b' hj=>?_) vals hv i b hi
  ·refine hr.cells hDa rfl fun mm hm hrow=>arow_one (by rw[blankL_length,hinL_length]) hrow fun b c fz h1 h2 j x u hx hu hy=>?_
   rw[blankL_get] at hx
   obtain⟨y,h3,rfl⟩:=Qd.1 hx
   cases hmj:m.getD j false with
   | true=>simp only[if_true];exact .top u
   | false=>
    simp only[Qh,if_false]
    exact hy y (by rw[hinL_get,hmj];simpa using h3)
  ·by_cases hn:b'=a
   ·subst hn;rw[Qc hDl,Qc hal]
   ·rw[Qa (fun x=>hn x.symm),←hne b' hn];exact hpk j b' hj
theorem putO_set (g:Nat→Nat):∀(p:List (Option Nat))(os X:AH)(a:Nat)(y:AO),a<X.length→(∀(k:Nat),p[k]?≠some (some a))→putO g p os (X.set a y)=(putO g p os X).set a y:=by
 intro p
 induction p with
 | nil=>intro os X a y ha _;simp only[putO];rw[Qf _ _ ha]
 | cons x p ih=>
  intro os X a y ha hn
  have hn':∀(k:Nat),p[k]?≠some (some a):=fun k=>by simpa using hn (k+1)
  cases os with
  | nil=>cases x <;> simp only[putO] <;> rw[Qf _ _ ha]
  | cons o os=>
   cases x with
   | none=>
    simp only[putO]
    rw[←Qf _ _ ha]
    exact ih os _ a y (by simp;omega) hn'
   | some b=>
    simp only[putO]
    have hb:b≠a:=fun e=>by subst e;exact hn 0 rfl
    rw[Qj _ _ (fun e=>hb e.symm)]
    exact ih os _ a y (by simpa using ha) hn'
theorem putO_len (g:Nat→Nat):∀(p:List (Option Nat))(os X:AH),X.length≤(putO g p os X).length:=by
 intro p
 induction p with
 | nil=>intro os X;simp [putO]
 | cons x p ih=>
  intro os X
  cases os with
  | nil=>cases x <;> simp [putO]
  | cons o os=>
   cases x with
   | none=>simp only[putO];exact Qi (by simp) (ih os _)
   | some b=>simp only[putO];exact Qi (by simp) (ih os _)
theorem frzAt_set {X:AH}{a b:Nat}{y:AO}(h:b≠a):frzAt (X.set a y) b=(frzAt X b).set a y:=by
 unfold frzAt
 rw[Qa (fun e=>h e.symm)]
 cases hq:X[b]? with
 | none=>rfl
 | some o=>cases o <;> first | rfl | exact Qj _ _ (fun e=>h e.symm)
theorem freeze_set:∀(F:List Nat)(X:AH)(a:Nat)(y:AO),a∉F→freeze F (X.set a y)=(freeze F X).set a y:=by
 intro F
 induction F with
 | nil=>intro X a y _;rfl
 | cons b F ih=>
  intro X a y h
  simp only[List.mem_cons,not_or] at h
  simp only[freeze,List.foldl_cons]
  rw[frzAt_set (fun e=>h.1 e.symm)]
  exact ih _ a y h.2
theorem callH_sound {P:Program}{ev:AEnv}{H:AH}{o:Oper}{f:Operand}{args:Array Operand}{ats:Array TypeId}{K:HK}{hm:Option (List Bool)}{fid:FuncId}{cap xs as:List AV}{F:List Nat}{pick:List (Option Nat)}{K0 Ko:AH}{r:AV}
 (ho:o.op= .call { callee:= .value f,args,argTypes:=ats }) (hf:opnd ev f= .fn fid cap) (hxs:xs=args.toList.map (opnd ev) ++ cap) (hcal:cal P fid=true)
 (hsub:SubK (blankH hm H xs) F pick xs as K0) (hin:hinOK hm K0=true) (hC:∀ρ,CallsR P fid as (hinH hm ρ K0) r (hinH hm ρ Ko)) (hle:K0.length≤Ko.length) (hb:heldB hm H xs pick Ko=true)
 (hK:K (ren (gid (gids pick H.length Ko.length)) r) (fillH hm H xs (putO (gid (gids pick H.length Ko.length)) pick Ko (freeze F H))) (fresh pick H.length Ko.length) (somes pick ++ F) (somes pick)):HSnd P ev H o K:=by
 cases hm with
 | none=>
  apply callM_sound
  unfold callM
  rw[ho]
  simp only
  rw[hf]
  simp only
  rw[←hxs]
  exact⟨hcal,F,pick,as,K0,r,Ko,hsub,hC (fun _=>Go.undef),hle,hK⟩
 | some m=>
  simp only[heldB] at hb
  cases hpi:ptrId xs with
  | none=>rw[hpi] at hb;cases hb
  | some a=>
  rw[hpi] at hb
  simp only at hb
  unfold heldO at hb
  split at hb
  rotate_left
  ·cases hb
  next q1 q2 q3 e sz cs a' pick' e' sz' ds Ko' ha=>
  simp only[Bool.and_eq_true,beq_iff_eq] at hb
  obtain⟨⟨⟨rfl,rfl⟩,rfl⟩,hlen⟩:=hb
  simp only[blankH,hpi,ha,blankO] at hsub
  have hal:a<H.length:=(Qb.1 ha).1
  have haF:a∉F:=hsub.pF 0 a rfl
  have hpk:∀(k:Nat),pick'[k]?≠some (some a):=fun k hk=>by
   have:=hsub.pinj 0 (k+1) a rfl (by simpa using hk)
   omega
  generalize hg:gid (gids (some a :: pick') H.length (.arr e sz [.agg ds] :: Ko').length)=g at hK
  have hgl:∀ρ,gid (gids (some a :: pick') (H.set a (.arr e sz [.agg (hinL m 0 ρ cs)])).length (hinH (some m) ρ (.arr e sz [.agg ds] :: Ko')).length)=g:=fun ρ=>by rw[←hg];simp [hinH]
  generalize hBd:putO g pick' Ko' (freeze F H)=B
  have hBl:a<B.length:=by rw[←hBd];exact Nat.lt_of_lt_of_le (by rw[freeze_length];exact hal) (putO_len g pick' Ko' _)
  have hput:∀y,putO g pick' Ko' ((freeze F H).set a y)=B.set a y:=fun y=>by rw[←hBd];exact putO_set g pick' Ko' _ a y (by rw[freeze_length];exact hal) hpk
  have hH1:∀ρ,putO g (some a :: pick') (hinH (some m) ρ (.arr e sz [.agg ds] :: Ko')) (freeze F (H.set a (.arr e sz [.agg (hinL m 0 ρ cs)])))=B.set a (.arr e sz [.agg (hinL m 0 ρ (renL g ds))]):=by
   intro ρ
   simp only[hinH,putO,freeze_set F H a _ haF,Qk,hput,renO,renL,ren,renL_hin]
  have hH0:fillH (some m) H xs (putO g (some a :: pick') (.arr e sz [.agg ds] :: Ko') (freeze F H))=B.set a (.arr e sz [.agg (fillL m cs (renL g ds))]):=by
   simp only[putO,hput,renO,renL,ren]
   simp only[fillH,hpi,ha]
   rw[Qc hBl]
   simp only[fillO,Qk]
  rw[hH0] at hK
  have one:∀ρ,HCond (H.set a (.arr e sz [.agg (hinL m 0 ρ cs)])) (B.set a (.arr e sz [.agg (hinL m 0 ρ (renL g ds))])) (fresh (some a :: pick') H.length (.arr e sz [.agg ds] :: Ko').length) (somes (some a :: pick') ++ F) (somes (some a :: pick'))∧
   HeapOK P o (fun E x=>Opd ev E x o) (ren g r) (fresh (some a :: pick') H.length (.arr e sz [.agg ds] :: Ko').length) (somes (some a :: pick') ++ F) (somes (some a :: pick')) (H.set a (.arr e sz [.agg (hinL m 0 ρ cs)])) (B.set a (.arr e sz [.agg (hinL m 0 ρ (renL g ds))])):=by
   intro ρ
   have hs:HSnd P ev (H.set a (.arr e sz [.agg (hinL m 0 ρ cs)])) o (fun V H1 new fp wr=>V=ren g r∧H1=B.set a (.arr e sz [.agg (hinL m 0 ρ (renL g ds))])∧new=fresh (some a :: pick') H.length (.arr e sz [.agg ds] :: Ko').length∧fp=somes (some a :: pick') ++ F∧wr=somes (some a :: pick')):=by
    apply callM_sound
    unfold callM
    rw[ho]
    simp only
    rw[hf]
    simp only
    rw[←hxs]
    refine⟨hcal,F,some a :: pick',as,hinH (some m) ρ K0,r,hinH (some m) ρ (.arr e sz [.agg ds] :: Ko'),subK_hin ha rfl hin hsub ρ,hC ρ,?_,?_⟩
    ·refine Qi (Nat.le_of_eq ?_) hle
     unfold hinH;split <;> rfl
    ·rw[hgl ρ]
     exact⟨rfl,hH1 ρ,by simp [hinH],rfl,rfl⟩
   obtain⟨V,H1,new,fp,wr,⟨rfl,rfl,rfl,rfl,rfl⟩,h2,h3⟩:=hs
   exact⟨h2,h3⟩
  have hc:=(one fun _=>Go.undef).1
  have hnew:a∉fresh (some a :: pick') H.length (.arr e sz [.agg ds] :: Ko').length:=fun h=>by have:=hc.newlt a h;simp at this;omega
  refine⟨_,_,_,_,_,hK,⟨hc.wrfp,fun id h=>by simpa using hc.wrlt id h,fun id h=>?_,fun id h=>by simpa using hc.newlt id h,fun id h=>by simpa using hc.newup id h,by simpa using hc.len⟩,?_⟩
  ·have hn:id≠a:=fun e=>h (by rw[e];simp [somes])
   have:=hc.le id h
   intro x hx
   rw[Qa (fun x=>hn x.symm)]
   have h1:=this x (by rw[Qa (fun x=>hn x.symm)];exact hx)
   rwa [Qa (fun x=>hn x.symm)] at h1
  ·exact heapOK_held ha hBl (by rw[renL_eq];simpa using hlen) (by simp [somes]) hnew fun ρ=>(one ρ).2
theorem heldB_none {H:AH}{xs:List AV}{pick:List (Option Nat)}{Ko:AH}:heldB none H xs pick Ko=true:=(rfl)
theorem fillH_none {H H1:AH}{xs:List AV}:fillH none H xs H1=H1:=(rfl)
theorem blankH_none {H:AH}{xs:List AV}:blankH none H xs=H:=(rfl)
def heldI (H:AH)(pick:List (Option Nat))(Ko:AH):Option Nat→Bool
 | some a=>heldO a H[a]? pick Ko
 | none=>false
def fillI (m:List Bool)(H1:AH)(a:Nat):Option AO→Option AO→AH
 | some o,some o1=>H1.set a (fillO m o o1)
 | _,_=>H1
def fillJ (m:List Bool)(H H1:AH):Option Nat→AH
 | some a=>fillI m H1 a H[a]? H1[a]?
 | none=>H1
def blankI (m:List Bool)(H:AH)(a:Nat):Option AO→AH
 | some o=>H.set a (blankO m o)
 | none=>H
def blankJ (m:List Bool)(H:AH):Option Nat→AH
 | some a=>blankI m H a H[a]?
 | none=>H
theorem ptrId_ptr {a b c d e:Nat}{r:List AV}:ptrId (.ptr a b c d e :: r)=some a:=(rfl)
theorem blankO_arr {m:List Bool}{e:TypeId}{sz:Nat}{cs:List AV}:blankO m (.arr e sz [.agg cs])= .arr e sz [.agg (blankL m cs)]:=(rfl)
theorem fillO_arr {m:List Bool}{e e':TypeId}{sz sz':Nat}{cs ds:List AV}:fillO m (.arr e' sz' [.agg cs]) (.arr e sz [.agg ds])= .arr e sz [.agg (fillL m cs ds)]:=(rfl)
theorem heldO_arr {a a':Nat}{e e':TypeId}{sz sz':Nat}{cs ds:List AV}{p:List (Option Nat)}{r:AH}:heldO a (some (.arr e sz [.agg cs])) (some a' :: p) (.arr e' sz' [.agg ds] :: r)=(a == a' && e == e' && sz == sz' && cs.length == ds.length):=(rfl)
end Go.Pg
