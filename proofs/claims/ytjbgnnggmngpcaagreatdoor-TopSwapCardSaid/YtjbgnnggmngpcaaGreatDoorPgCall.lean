/- Pg, part 12: calls of functions by their contracts. -/
import Derived.Test.YtjbgnnggmngpcaaGreatDoorPgMrg
set_option linter.unusedVariables false
set_option linter.unusedSimpArgs false
set_option linter.unusedSectionVars false
open List renaming getElem?_eq_some_iff → Qa,all_eq_true → Qb,mem_of_getElem? → Qc,getElem?_eq_getElem → Qe,getElem?_append_left → Qf,foldl_cons → Qi,mem_cons_of_mem → Qj,getElem?_range' → Qk,all_cons → Ql,range' → Qm
open Array renaming getD_eq_getD_getElem? → Qd
open Option renaming getD_some → Qg
open Bool renaming and_eq_true → Qh
namespace Go.Pg
open Go
variable [Syms]
def mapAt (H:AH)(id:Nat):Option (List (AV×AV)):=
 match H[id]? with
 | some (.mp es)=>some es
 | some (.fmp es)=>some es
 | _=>none
theorem mapAt_cases {H:AH}{id:Nat}{es:List (AV×AV)}(h:mapAt H id=some es):H[id]? =some (.mp es)∨H[id]? =some (.fmp es):=by
 unfold mapAt at h
 split at h <;> first | (cases h;done) | (next h'=>cases h;first | exact .inl h' | exact .inr h')
def resL (g:AV→Option (AV×List Nat)):List AV→Option (List AV×List Nat)
 | []=>some ([],[])
 | x :: r=>match g x,resL g r with
  | some (y,i),some (l,j)=>some (y :: l,i ++ j)
  | _,_=>none
def res (H:AH):Nat→AV→Option (AV×List Nat)
 | 0,_=>none
 | d+1,a=>match a with
  | .nls=>some (.nls,[])
  | .nfn=>some (.nfn,[])
  | .npt=>some (.npt,[])
  | .yld l=>some (.yld l,[])
  | .cst v=>some (.cst v,[])
  | .int k n=>some (.int k n,[])
  | .bool b=>some (.bool b,[])
  | .str s=>some (.str s,[])
  | .sym i=>some (.sym i,[])
  | .sl z vs=>some (.sl z vs,[])
  | .slc z vs=>some (.slc z vs,[])
  | .agg cs=>match resL (res H d) cs with
   | some (l,i)=>some (.agg l,i)
   | none=>none
  | .fn f cs=>match resL (res H d) cs with
   | some (l,i)=>some (.fn f l,i)
   | none=>none
  | .own id sz len=>match objAt H id with
   | some (_,sz',vs)=>if sz'=sz∧vs.length=len then
    (if vs.all AV.pureB=true then some (.sl sz vs,[id]) else match resL (res H d) vs with
      | some (l,i)=>some (.sl sz l,id :: i)
      | none=>none)
    else none
   | none=>none
  | .ptr id sz len idx off=>match objAt H id with
   | some (_,sz',vs)=>if sz'=sz∧vs.length=len∧idx<len then match resL (res H d) ((vs.getD idx .top).cells.drop off) with
    | some (l,i)=>some (.rp l,id :: i)
    | none=>none
    else none
   | none=>none
  | .rp cs=>some (.rp cs,[])
  | .fm es=>some (.fm es,[])
  | .mp id=>match mapAt H id with
   | some es=>some (.fm es,[id])
   | none=>none
  | _=>none
def resM (H:AH)(g:AV→Option (AV×List Nat))(a:AV):Option (AV×List Nat):=
 match a with
  | .nls=>some (.nls,[])
  | .nfn=>some (.nfn,[])
  | .npt=>some (.npt,[])
  | .yld l=>some (.yld l,[])
  | .cst v=>some (.cst v,[])
  | .int k n=>some (.int k n,[])
  | .bool b=>some (.bool b,[])
  | .str s=>some (.str s,[])
  | .sym i=>some (.sym i,[])
  | .sl z vs=>some (.sl z vs,[])
  | .slc z vs=>some (.slc z vs,[])
  | .agg cs=>match resL g cs with
   | some (l,i)=>some (.agg l,i)
   | none=>none
  | .fn f cs=>match resL g cs with
   | some (l,i)=>some (.fn f l,i)
   | none=>none
  | .own id sz len=>match objAt H id with
   | some (_,sz',vs)=>if sz'=sz∧vs.length=len then
    (if vs.all AV.pureB=true then some (.sl sz vs,[id]) else match resL g vs with
      | some (l,i)=>some (.sl sz l,id :: i)
      | none=>none)
    else none
   | none=>none
  | .ptr id sz len idx off=>match objAt H id with
   | some (_,sz',vs)=>if sz'=sz∧vs.length=len∧idx<len then match resL g ((vs.getD idx .top).cells.drop off) with
    | some (l,i)=>some (.rp l,id :: i)
    | none=>none
    else none
   | none=>none
  | .rp cs=>some (.rp cs,[])
  | .fm es=>some (.fm es,[])
  | .mp id=>match mapAt H id with
   | some es=>some (.fm es,[id])
   | none=>none
  | _=>none
theorem res_succ (H:AH)(d:Nat)(a:AV):res H (d+1) a=resM H (res H d) a:=(rfl)
def res8 (H:AH)(x:AV):Option (AV×List Nat):=res H 8 x
theorem res8_eq (H:AH)(x:AV):res8 H x=res H 8 x:=(rfl)
def frzAt (H:AH)(id:Nat):AH:=
 match H[id]? with
 | some (.arr e sz vs)=>H.set id (.frz e sz vs)
 | some (.mp es)=>H.set id (.fmp es)
 | _=>H
def freeze (ids:List Nat)(H:AH):AH:=ids.foldl frzAt H
theorem frzAt_length (H:AH)(id:Nat):(frzAt H id).length=H.length:=by unfold frzAt;split <;> simp
def fixO:AO→AO
 | .arr e sz vs=> .frz e sz vs
 | .mp es=> .fmp es
 | o=>o
theorem fixO_le (o:AO):AOle o (fixO o):=by
 cases o <;> first | exact .inl rfl | exact .inr (.inl ⟨_,_,_,rfl,rfl⟩) | exact .inr (.inr ⟨_,rfl,rfl⟩)
theorem fixO_stay {o o':AO}(h:AOle (fixO o) o'):o'=fixO o:=by
 rcases h with h | ⟨e,sz,vs,h,_⟩ | ⟨es,h,_⟩
 ·exact h
 ·cases o <;> cases h
 ·cases o <;> cases h
theorem fixO_idem (o:AO):fixO (fixO o)=fixO o:=by cases o <;> rfl
theorem frzAt_get (H:AH)(id j:Nat):(frzAt H id)[j]? =if j=id then(H[id]?).map fixO else H[j]?:=by
 have key:∀o,H[id]? =some o→(H.set id (fixO o))[j]? =if j=id then(H[id]?).map fixO else H[j]?:=by
  intro o h
  have hl:id<H.length:=(Qa.1 h).1
  by_cases hj:j=id
  ·subst hj;rw[if_pos rfl,h,List.getElem?_set_self hl];rfl
  ·rw[if_neg hj,List.getElem?_set_ne (fun e=>hj e.symm)]
 unfold frzAt
 split
 ·next e sz vs h=>exact key _ h
 ·next es h=>exact key _ h
 ·next h1 h2=>
  by_cases hj:j=id
  ·subst hj
   rw[if_pos rfl]
   cases h:H[j]? with
   | none=>rfl
   | some o=>
    cases o with
    | arr e sz vs=>exact absurd h (h1 e sz vs)
    | mp es=>exact absurd h (h2 es)
    | _=>rfl
  ·rw[if_neg hj]
theorem frzAt_le (H:AH)(id:Nat):AHle H (frzAt H id):=by
 intro j o ho
 rw[frzAt_get]
 by_cases hj:j=id
 ·subst hj
  rw[if_pos rfl,ho]
  exact⟨_,rfl,fixO_le o⟩
 ·rw[if_neg hj];exact⟨o,ho,.refl o⟩
theorem freeze_le:∀(ids:List Nat)(H:AH),AHle H (freeze ids H):=by
 intro ids
 induction ids with
 | nil=>intro H;exact .refl H
 | cons id ids ih=>intro H;exact(frzAt_le H id).trans (ih (frzAt H id))
theorem freeze_length:∀(ids:List Nat)(H:AH),(freeze ids H).length=H.length:=by
 intro ids
 induction ids with
 | nil=>intro H;rfl
 | cons id ids ih=>intro H;simp only[freeze,Qi];exact(ih (frzAt H id)).trans (frzAt_length H id)
theorem freeze_at:∀(ids:List Nat)(H:AH)(id:Nat)(o:AO),id∈ids→H[id]? =some o→(freeze ids H)[id]? =some (fixO o):=by
 have stay:∀(ids:List Nat) (H:AH) (id:Nat) (o:AO),H[id]? =some (fixO o)→(freeze ids H)[id]? =some (fixO o):=by
  intro ids
  induction ids with
  | nil=>intro H id o h;exact h
  | cons i ids ih=>
   intro H id o h
   simp only[freeze,Qi]
   refine ih (frzAt H i) id o ?_
   rw[frzAt_get]
   split
   ·next e=>subst e;rw[h];simp [fixO_idem]
   ·exact h
 intro ids
 induction ids with
 | nil=>intro H id o h;simp at h
 | cons i ids ih=>
  intro H id o hid ho
  simp only[freeze,Qi]
  by_cases he:id=i
  ·subst he
   refine stay ids _ id o ?_
   rw[frzAt_get,if_pos rfl,ho];rfl
  ·refine ih (frzAt H i) id o (by simpa [he] using hid) ?_
   rw[frzAt_get,if_neg he];exact ho
theorem freeze_mem (ids:List Nat)(H:AH)(id:Nat)(hid:id∈ids)(e:TypeId)(sz:Nat)(vs:List AV)(ho:objAt H id=some (e,sz,vs)):(freeze ids H)[id]? =some (.frz e sz vs):=by
 rcases objAt_cases ho with h | h
 ·exact freeze_at ids H id _ hid h
 ·exact freeze_at ids H id _ hid h
theorem resL_get {g:AV→Option (AV×List Nat)}:∀(l l':List AV)(ids:List Nat),resL g l=some (l',ids)→l'.length=l.length∧
 ∀(i:Nat) x,l[i]? =some x→∃y j,g x=some (y,j)∧l'[i]? =some y∧∀k∈j,k∈ids:=by
 intro l
 induction l with
 | nil=>intro l' ids h;simp only[resL] at h;cases h;exact⟨rfl,fun i x h=>by simp at h⟩
 | cons a l ih=>
  intro l' ids h
  simp only[resL] at h
  split at h
  ·next y i m j h1 h2=>
   cases h
   obtain⟨h3,h4⟩:=ih m j h2
   refine⟨by simp [h3],fun k x hk=>?_⟩
   cases k with
   | zero=>simp at hk;subst hk;exact⟨y,i,h1,rfl,fun k hk=>List.mem_append_left _ hk⟩
   | succ k=>
    obtain⟨y',j',h5,h6,h7⟩:=h4 k x (by simpa using hk)
    exact⟨y',j',h5,by simpa using h6,fun k hk=>List.mem_append_right _ (h7 k hk)⟩
  ·cases h
theorem frz_sl {HD:AH}{E:Env}(hr:Rel HD E){id sz len:Nat}{e:TypeId}{vs ws:List AV}{v:Value}(hv:VR E (.own id sz len) v)(ho:HD[id]? =some (.frz e sz vs))(hl:vs.length=len)(hw:ws.length=vs.length)
 (hc:∀(i:Nat) x y,vs[i]? =some x→ws[i]? =some y→y.cells.length=x.cells.length∧∀(j:Nat) c c' u,x.cells[j]? =some c→y.cells[j]? =some c'→VR E c u→VP E.W E.st c' u) :
 VP E.W E.st (.sl sz ws) v:=by
 subst hl
 have hoa:objAt HD id=some (e,sz,vs):=by simp [objAt,ho]
 cases hv with
 | own _ _ _ a cap hm ha hlen=>
 have hown:=(hlen _ (objAt_hl hr hoa)).2 rfl
 rcases hown with⟨h1,h2,h3⟩ | ⟨b,c,tyb,fz,h1,h2,h3,h4,h5,h6⟩
 ·have hws:ws=[]:=List.eq_nil_of_length_eq_zero (by omega)
  subst hws
  rw[h2]
  exact VP.sl sz [] a cap (fun _ _=>Go.undef) (by simp) (fun i v h=>by simp at h) (fun i v j c h=>by simp at h)
 ·rcases hr.row id e sz vs (.inr ho) _ h1 with⟨h,_⟩ | ⟨b',c',fz',hb',hw',hc',hth,hvv⟩
  ·cases h
  ·cases hb'
   have hst:=hr.fst id e sz vs b ho h1
   have hx:∀(i:Nat) y,ws[i]? =some y→∃x,vs[i]? =some x:=by
    intro i y hy
    have:i<vs.length:=by rw[←hw];exact(Qa.1 hy).1
    exact⟨vs[i],by simp [this]⟩
   have:=VP.sl (W:=E.W) (st:=E.st) sz ws a cap (fun i j=>(c'[i * sz+j]?).getD Go.undef) (by omega) (fun i y hy=>by
    obtain⟨x,hx⟩:=hx i y hy
    obtain⟨k1,k2⟩:=hvv i x hx
    refine⟨by rw[(hc i x y hx hy).1,k1],b,0,h2,fun _=>hst,fun j hj=>?_⟩
    obtain⟨u,hu,_⟩:=k2 j (x.cells[j]'(by rw[k1];exact hj)) (by simp)
    simp only[World.cell?,hw',Nat.zero_add]
    simp [hu]) (fun i y j c0 hy hj=>by
    obtain⟨x,hx⟩:=hx i y hy
    obtain⟨k1,k2⟩:=hvv i x hx
    have hjl:j<x.cells.length:=by rw[←(hc i x y hx hy).1];exact(Qa.1 hj).1
    obtain⟨u,hu,hvr⟩:=k2 j (x.cells[j]) (by simp [hjl])
    simp only[hu,Qg]
    exact(hc i x y hx hy).2 j _ c0 u (by simp [hjl]) hj hvr)
   rw[hw] at this
   exact this
theorem frz_rp {HD:AH}{E:Env}(hr:Rel HD E){id sz len idx off:Nat}{e:TypeId}{vs cs:List AV}{x:AV}{v:Value}(hv:VR E (.ptr id sz len idx off) v)(ho:HD[id]? =some (.frz e sz vs))(hl:vs.length=len)(hx:vs[idx]? =some x)
 (hc:∀(j:Nat) c',cs[j]? =some c'→∃c,x.cells[off+j]? =some c∧∀u,VR E c u→VP E.W E.st c' u):VP E.W E.st (.rp cs) v:=by
 have hoa:objAt HD id=some (e,sz,vs):=by simp [objAt,ho]
 obtain⟨b,hb,rfl,_,c,fz,hw,_,_,hcell⟩:=ptr_read hr hv hoa hl hx
 refine .rp cs b _ (fun j=>(c[idx * sz+(off+j)]?).getD Go.undef) (fun _=>hr.fst id e sz vs b ho hb) (fun j c' hj=>?_) (fun j c' hj=>?_)
 ·obtain⟨c0,h1,h2⟩:=hc j c' hj
  obtain⟨u,hu,_⟩:=hcell (off+j) c0 h1
  simp only[World.cell?,hw,hu,Nat.add_assoc,Qg]
  simp
 ·obtain⟨c0,h1,h2⟩:=hc j c' hj
  obtain⟨u,hu,hvu⟩:=hcell (off+j) c0 h1
  simp only[hu,Qg]
  exact h2 u hvu
theorem frz_arr {H HD:AH}{ids:List Nat}(h:∀id∈ids,∀o,H[id]? =some o→HD[id]? =some (fixO o)){id:Nat}(hid:id∈ids){e:TypeId}{sz:Nat}{vs:List AV}(ho:objAt H id=some (e,sz,vs)):HD[id]? =some (.frz e sz vs):=by
 rcases objAt_cases ho with h1 | h1 <;> exact h id hid _ h1
theorem frz_map {H HD:AH}{ids:List Nat}(h:∀id∈ids,∀o,H[id]? =some o→HD[id]? =some (fixO o)){id:Nat}(hid:id∈ids){es:List (AV×AV)}(ho:mapAt H id=some es):HD[id]? =some (.fmp es):=by
 rcases mapAt_cases ho with h1 | h1 <;> exact h id hid _ h1
theorem frz_fm {HD:AH}{E:Env}(hr:Rel HD E){id:Nat}{es:List (AV×AV)}{v:Value}(hv:VR E (.mp id) v)(ho:HD[id]? =some (.fmp es)):VP E.W E.st (.fm es) v:=by
 cases hv with
 | mp _ b hm hl=>
 have hM:=hl (by rw[hr.hl];simp [hlOf,ho,AO.len])
 obtain⟨b',a,cl,h1,h2,h3,h4⟩:=hr.orow id _ _ ho hM
 cases h1
 refine .fm es b a cl (hr.fst' id _ b ho rfl hM) h2 h3.size h4 (fun i k x hi=>?_) (fun i k x hi=>?_)
 ·obtain⟨e,g1,g2,g3⟩:=h3.ent i k x hi
  simpa [Qd,g1] using g2
 ·obtain⟨e,g1,g2,g3⟩:=h3.ent i k x hi
  simpa [Qd,g1] using g3
theorem res_sound {H HD:AH}{E:Env}(hr:Rel HD E):∀(d:Nat)(a a':AV)(ids:List Nat)(v:Value),res H d a=some (a',ids)→VR E a v→
 (∀id∈ids,∀o,H[id]? =some o→HD[id]? =some (fixO o))→VP E.W E.st a' v:=by
 intro d
 induction d with
 | zero=>intro a a' ids v h;simp [res] at h
 | succ d ih=>
  intro a a' ids v h hv hf
  cases a <;> simp only[res] at h <;> try (cases h;done)
  case nls=>cases h;rw[hv.nls_inv];exact .nls
  case nfn=>cases h;rw[hv.nfn_inv];exact .nfn
  case npt=>cases h;cases hv;exact .npt
  case yld l=>cases h;rw[hv.yld_inv];exact .yld l
  case cst l=>cases h;cases hv;exact .cst _
  case sym i=>cases h;cases hv with | sym _ _ h=>exact .sym _ _ h
  case int k n=>cases h;rw[hv.int_inv];exact .int k n
  case bool b=>cases h;rw[hv.bool_inv];exact .bool b
  case str s=>cases h;obtain⟨b,rfl,rfl⟩:=hv.str_inv;exact .str b
  case sl z vs=>cases h;cases hv with | sl _ _ a cap f h1 h2 h3=>exact .sl z vs a cap f h1 h2 h3
  case slc z vs=>cases h;cases hv with | slc _ _ a f h2 h3=>exact .slc z vs a f h2 h3
  case agg cs=>
   split at h
   ·next l i hl=>
    cases h
    obtain⟨us,rfl,h1,h2⟩:=hv.agg_inv
    obtain⟨h3,h4⟩:=resL_get cs l _ hl
    refine .agg l us (by rw[h1,h3]) fun j c hj=>?_
    have hjl:j<cs.length:=by rw[←h3];exact(Qa.1 hj).1
    obtain⟨y,k,h5,h6,h7⟩:=h4 j cs[j] (by simp [hjl])
    rw[hj] at h6;cases h6
    exact ih _ _ _ _ h5 (h2 j cs[j] (by simp [hjl])) (fun id hid=>hf id (h7 id hid))
   ·cases h
  case fn f cs=>
   split at h
   ·next l i hl=>
    cases h
    obtain⟨us,rfl,h1,h2⟩:=hv.fn_inv
    obtain⟨h3,h4⟩:=resL_get cs l _ hl
    refine .fn f l us (by rw[h1,h3]) fun j c hj=>?_
    have hjl:j<cs.length:=by rw[←h3];exact(Qa.1 hj).1
    obtain⟨y,k,h5,h6,h7⟩:=h4 j cs[j] (by simp [hjl])
    rw[hj] at h6;cases h6
    exact ih _ _ _ _ h5 (h2 j cs[j] (by simp [hjl])) (fun id hid=>hf id (h7 id hid))
   ·cases h
  case rp cs=>cases h;cases hv with | rp _ b o f h1 h2 h3=>exact .rp cs b o f h1 h2 h3
  case fm es=>cases h;cases hv with | fm _ b a cl g1 g2 g3 g4 g5 g6=>exact .fm es b a cl g1 g2 g3 g4 g5 g6
  case mp id=>
   split at h
   ·next es ho=>cases h;exact frz_fm hr hv (frz_map hf (by simp) ho)
   ·cases h
  case ptr id sz len idx off=>
   split at h
   ·next e sz' vs ho=>
    split at h
    ·next hh=>
     obtain⟨rfl,hl,hlt⟩:=hh
     split at h
     ·next l i hl'=>
      cases h
      obtain⟨h3,h4⟩:=resL_get _ l _ hl'
      have hx:vs[idx]? =some (vs.getD idx .top):=by simp [show idx<vs.length by omega]
      refine frz_rp hr hv (frz_arr hf (by simp) ho) hl hx fun j c' hj=>?_
      have hjl:j< ((vs.getD idx .top).cells.drop off).length:=by rw[←h3];exact(Qa.1 hj).1
      obtain⟨y,k,h5,h6,h7⟩:=h4 j _ (Qe hjl)
      rw[hj] at h6;cases h6
      refine⟨_,by rw[←List.getElem?_drop];exact Qe hjl,fun u hu=>?_⟩
      exact ih _ _ k u h5 hu (fun id hid=>hf id (Qj _ (h7 id hid)))
     ·cases h
    ·cases h
   ·cases h
  case own id sz len=>
   split at h
   ·next e sz' vs ho=>
    split at h
    ·next hh=>
     obtain⟨rfl,hl⟩:=hh
     split at h
     ·next hp=>
      cases h
      refine frz_sl hr hv (frz_arr hf (by simp) ho) hl rfl fun i x y hx hy=>?_
      rw[hx] at hy;cases hy
      refine⟨rfl,fun j c c' u h1 h2 h3=>?_⟩
      rw[h1] at h2;cases h2
      exact pureLeaf_VP h3 (Qb.1 (Qb.1 hp x (Qc hx)) c (Qc h1))
     ·split at h
      ·next l i hl'=>
       cases h
       obtain⟨h3,h4⟩:=resL_get vs l _ hl'
       refine frz_sl hr hv (frz_arr hf (by simp) ho) hl h3 fun i x y hx hy=>?_
       obtain⟨y',k,h5,h6,h7⟩:=h4 i x hx
       rw[hy] at h6;cases h6
       have hfk:∀id∈k,∀o,H[id]? =some o→HD[id]? =some (fixO o):=fun id hid=>hf id (Qj _ (h7 id hid))
       have leaf:x.cells=[x]→y.cells=[y]→y.cells.length=x.cells.length∧∀(j:Nat) c c' u,x.cells[j]? =some c→y.cells[j]? =some c'→VR E c u→VP E.W E.st c' u:=by
        intro e1 e2
        rw[e1,e2]
        refine⟨rfl,fun j c c' u a1 a2 a3=>?_⟩
        cases j with
        | zero=>simp at a1 a2;subst a1;subst a2;exact ih x y k u h5 a3 hfk
        | succ j=>simp at a1
       cases d with
       | zero=>simp [res] at h5
       | succ d'=>
        cases x <;> simp only[res] at h5 <;> try (cases h5;done)
        case agg cs=>
         split at h5
         ·next l2 i2 hl2=>
          cases h5
          obtain⟨k3,k4⟩:=resL_get cs l2 _ hl2
          refine⟨k3,fun j c c' u a1 a2 a3=>?_⟩
          obtain⟨y2,k2,b1,b2,b3⟩:=k4 j c a1
          simp only[AV.cells] at a2
          rw[a2] at b2;cases b2
          have hone:=ih (.agg [c]) (.agg [c']) k2 (.agg #[u]) (by simp [res,resL,b1]) (.agg [c] #[u] rfl (fun i c0 hc0=>by
           cases i with
           | zero=>simp at hc0;subst hc0;simpa using a3
           | succ i=>simp at hc0)) (fun id hid=>hfk id (b3 id hid))
          cases hone with
          | agg _ _ _ q=>exact q 0 c' rfl
         ·cases h5
        case own id2 s2 l2=>
         refine leaf rfl ?_
         split at h5
         ·split at h5
          ·split at h5
           ·cases h5;rfl
           ·split at h5
            ·cases h5;rfl
            ·cases h5
          ·cases h5
         ·cases h5
        case fn f2 cs2=>
         refine leaf rfl ?_
         split at h5
         ·cases h5;rfl
         ·cases h5
        case ptr id2 s2 l2 x2 o2=>
         refine leaf rfl ?_
         split at h5
         ·split at h5
          ·split at h5
           ·cases h5;rfl
           ·cases h5
          ·cases h5
         ·cases h5
        case mp id2=>
         refine leaf rfl ?_
         split at h5
         ·cases h5;rfl
         ·cases h5
        all_goals (cases h5;exact leaf rfl rfl)
      ·cases h
    ·cases h
   ·cases h
def cal (P:Program)(f:FuncId):Bool:=
 match P.funcs[f]? with
 | some fn=>fn.name != "runtime.NumGoroutine" && fn.body.isSome
 | none=>false
def AV.pureD:Nat→AV→Bool
 | 0,_=>false
 | d+1,a=>match a with
  | .agg cs=>cs.all AV.pureLeaf
  | .fn _ cs=>cs.all (AV.pureD d)
  | .rp cs=>cs.all (AV.pureD d)
  | x=>x.pureLeaf
def okObj:AO→Bool
 | .arr _ _ vs=>vs.all AV.pureB
 | .frz _ _ vs=>vs.all AV.pureB
 | _=>true
def okRet1:AV→Bool
 | .own _ _ _=>true
 | x=>x.pureD 8
def okRet:AV→Bool
 | .tuple vs=>vs.all okRet1
 | .undef=>true
 | x=>okRet1 x
def shift1 (n:Nat):AV→AV
 | .own id sz len=> .own (n+id) sz len
 | x=>x
def shiftR (n:Nat):AV→AV
 | .tuple vs=> .tuple (vs.map (shift1 n))
 | x=>shift1 n x
theorem pureD_VP {E:Env}:∀(d:Nat)(c:AV)(u:Value),VR E c u→c.pureD d=true→VP E.W E.st c u:=by
 intro d
 induction d with
 | zero=>intro c u _ h;simp [AV.pureD] at h
 | succ d ih=>
  intro c u h hp
  cases c <;> simp only[AV.pureD] at hp <;> try exact pureLeaf_VP h hp
  case agg cs=>
   obtain⟨us,rfl,h1,h2⟩:=h.agg_inv
   exact .agg cs us h1 fun i c hc=>pureLeaf_VP (h2 i c hc) (Qb.1 hp c (Qc hc))
  case fn f cs=>
   obtain⟨us,rfl,h1,h2⟩:=h.fn_inv
   exact .fn f cs us h1 fun i c hc=>ih c _ (h2 i c hc) (Qb.1 hp c (Qc hc))
  case rp cs=>
   cases h with | rp _ b o f h1 h2 h3=>exact .rp cs b o f h1 h2 h3
theorem renL_pure (g:Nat→Nat):∀(vs:List AV),vs.all AV.pureB=true→renL g vs=vs:=by
 have leaf:∀(x:AV),x.pureLeaf=true→ren g x=x:=by
  intro x h
  cases x <;> simp [AV.pureLeaf] at h <;> simp [ren]
 have cells:∀(cs:List AV),cs.all AV.pureLeaf=true→renL g cs=cs:=by
  intro cs
  induction cs with
  | nil=>intro _;simp [renL]
  | cons c cs ih=>intro h;simp only[Ql,Qh] at h;simp only[renL,leaf c h.1,ih h.2]
 intro vs
 induction vs with
 | nil=>intro _;simp [renL]
 | cons x vs ih=>
  intro h
  simp only[Ql,Qh] at h
  have hx:ren g x=x:=by
   have h1:=h.1
   unfold AV.pureB at h1
   cases x with
   | agg cs=>simp only[AV.cells] at h1;simp only[ren,cells cs h1]
   | _=>simp only[AV.cells,Ql,List.all_nil,Bool.and_true] at h1;exact leaf _ h1
  simp only[renL,hx,ih h.2]
theorem renO_pure (g:Nat→Nat)(o:AO)(h:okObj o=true):renO g o=o:=by
 cases o <;> simp only[renO] <;> simp only[okObj] at h <;> rw[renL_pure g _ h]
theorem merge_rel {HD Hr:AH}{E Ec:Env}(hr:Rel HD E)(hrc:Rel Hr Ec){n:Nat}(hlen:n+Hr.length≤HD.length)(hat:∀j,j<Hr.length→HD[n+j]? =Hr[j]?)(hnone:∀j,j<Hr.length→E.M (n+j)=none)
 (hok:Hr.all okObj=true) {E0:Env} (hE0:E0={ W:=E.W,M:=fun _=>none,st:=E.st,hl:=hlOf [] }) (hst:Step [] E0 Hr Ec) :
 ∃E',E'.W=Ec.W∧E'.st=Ec.st∧Rel HD E'∧Step HD E HD E'∧(∀j,E.M j=none→E'.M j≠none→n≤j∧j<n+Hr.length)∧(∀j,j<Hr.length→E'.M (n+j)=Ec.M j)∧E'.hl=E.hl:=by
 subst hE0
 have hids:∀(k a:Nat),(Qm n Hr.length)[k]? =some a→k<Hr.length∧a=n+k:=by
  intro k a h
  have hk:k<Hr.length:=by have:=(Qa.1 h).1;simpa using this
  refine⟨hk,?_⟩
  rw[Qk hk] at h
  simpa using h.symm
 have hr0:Rel [] { W:=E.W,M:=fun _=>none,st:=E.st,hl:=hlOf [] }:=
  ⟨rfl,fun _ _=>rfl,fun id o m h=>by simp at h,fun id o b h=>by simp at h,fun id o b h=>by simp at h,fun id id' o o' b h=>by simp at h,hr.stlt⟩
 obtain⟨E',h1,h2,h3,h4,h5,h6,h7,_⟩:=merge_gen (ids:=Qm n Hr.length) (HD':=HD) hr hr0 hrc hst
  ⟨by simp,fun i j a hi hj=>by
      have:=(hids i a hi).2;have:=(hids j a hj).2;omega,
   fun k a hk=>by have:=hids k a hk;omega,rfl,fun b=>Iff.rfl,fun k a hk=>by simp at hk,fun k a _ hk=>by
    obtain⟨h1,rfl⟩:=hids k a hk
    exact⟨hnone k h1,rfl⟩,rfl,fun _ _=>rfl,fun k a o hk ho=>by
    obtain⟨h1,rfl⟩:=hids k a hk
    rw[hat k h1,ho,renO_pure _ o (Qb.1 hok o (Qc ho))]⟩
 refine⟨E',h1,h2,h3,h4,fun j a b=>?_,fun j hj=>?_,by rw[h7,hr.hl]⟩
 ·obtain⟨k,hk⟩:=h5 j a b
  have:=hids k j hk;omega
 ·exact h6 j (n+j) (by rw[Qk hj];simp)
def callK (P:Program)(ev:AEnv)(H:AH)(o:Oper)(K:HK):Prop:=
 match o.op with
 | .call { callee:= .value f,args,argTypes:=_ }=>match opnd ev f with
  | .fn fid cap=>match resL (res8 H) (args.toList.map (opnd ev) ++ cap) with
   | some (as,ids)=>cal P fid=true∧∃r Hr,CallsR P fid as [] r Hr∧okRet r=true∧Hr.all okObj=true∧
    K (shiftR H.length r) (freeze ids H ++ Hr) (Qm H.length Hr.length) ids []
   | none=>False
  | _=>False
 | _=>False
theorem callK_sound {P:Program}{ev:AEnv}{H:AH}{o:Oper}{K:HK}(h:callK P ev H o K):HSnd P ev H o K:=by
 obtain⟨dst,op,ty,pos,after,guard⟩:=o
 unfold callK at h
 simp only at h
 split at h
 ·next f args argTypes=>
  split at h
  ·next fid cap hf=>
   split at h
   ·next as ids hres=>
    obtain⟨hcal,r,Hr,hC,hokr,hokH,hK⟩:=h
    refine⟨_,_,_,_,_,hK,?_,?_⟩
    ·refine⟨by simp,by simp,fun id _ x hx=>?_,fun id hid=>by simp at hid;omega,fun id hid=>by simp [freeze_length] at hid ⊢;omega,by simp [freeze_length]⟩
     obtain⟨o',h1,h2⟩:=freeze_le ids H id x hx
     exact⟨o',by rw[Qf (Qa.1 h1).1];exact h1,h2⟩
    ·intro HD E a hl hr hlen0 hfp _ hnew K' Q hK'
     have hfz:∀id∈ids,∀o,H[id]? =some o→HD[id]? =some (fixO o):=by
      intro id hid o ho
      have h1:=freeze_at ids H id o hid ho
      obtain⟨o',h2,h3⟩:=hfp id hid (by simp) (fixO o) (by rw[Qf (Qa.1 h1).1];exact h1)
      rw[fixO_stay h3] at h2;exact h2
     have hfv:=hl f (by simp [Op.operands,Call.operands])
     rw[hf] at hfv
     obtain⟨us,hfe,hus,husv⟩:=hfv.fn_inv
     obtain⟨h3,h4⟩:=resL_get _ _ _ hres
     let vals:Array Value:=args.map a.eval ++ us
     have hvl:vals.size=as.length:=by simp [vals,h3,hus]
     have hvals:VRs { W:=E.W,M:=fun _=>none,st:=E.st,hl:=hlOf [] } as vals:=by
      refine⟨hvl,fun i c hc=>?_⟩
      have hil:i< (args.toList.map (opnd ev) ++ cap).length:=by rw[←h3];exact(Qa.1 hc).1
      obtain⟨y,k,h5,h6,h7⟩:=h4 i _ (Qe hil)
      rw[hc] at h6;cases h6
      have hv:VR E ((args.toList.map (opnd ev) ++ cap)[i]) (vals.getD i Go.undef):=by
       by_cases hia:i<args.size
       ·have e1:(args.toList.map (opnd ev) ++ cap)[i]=opnd ev args[i]:=by
         rw[List.getElem_append_left (by simpa using hia)];simp
        have e2:vals.getD i Go.undef=a.eval args[i]:=by
         simp only[vals,Qd]
         rw[Array.getElem?_append_left (by simpa using hia)]
         simp [hia]
        rw[e1,e2]
        exact hl args[i] (by simp [Op.operands,Call.operands])
       ·have e1:(args.toList.map (opnd ev) ++ cap)[i]=cap[i - args.size]'(by simp at hil;omega):=by
         rw[List.getElem_append_right (by simpa using hia)];simp
        have e2:vals.getD i Go.undef=us.getD (i - args.size) Go.undef:=by
         simp only[vals,Qd]
         rw[Array.getElem?_append_right (by simpa using hia)]
         simp
        rw[e1,e2]
        exact husv _ _ (by simp)
      have:=res_sound hr 8 _ _ k _ h5 hv (fun id hid=>hfz id (h7 id hid))
      exact VP.vr (E:={ W:=E.W,M:=fun _=>none,st:=E.st,hl:=hlOf [] }) this
     have hrel0:Rel [] { W:=E.W,M:=fun _=>none,st:=E.st,hl:=hlOf [] }:=
      ⟨rfl,fun _ _=>rfl,fun id e sz vs h=>by simp at h,fun id e sz vs b h=>by simp at h,fun id e sz vs b h=>by simp at h,fun id id' e sz vs e' sz' vs' b h=>by simp at h,hr.stlt⟩
     have hcalls:=hC _ vals hrel0 hvals
     have hrun:(execOp a.eval ⟨dst,.call { callee:= .value f,args,argTypes },ty,pos,after,guard⟩).run P E.W= .ok (.enter fid vals) E.W:=by
      unfold cal at hcal
      split at hcal
      ·next fn hfn=>
       simp only[Qh,bne_iff_ne,ne_eq] at hcal
       obtain⟨hn,hb⟩:=hcal
       have hb':¬fn.body=none:=by
        intro hbb;rw[hbb] at hb;cases hb
       simp [execOp,resolve,hfe,Deferred.ofValue,invoke,callFunc,hfn,hn,hb',vals]
      ·cases hcal
     unfold Oper.wp
     rw[hrun,Oper.upon_enter]
     refine hcalls.mono fun e W' ⟨v,Ec,he,hW,hv,hrc,hst⟩=>?_
     subst he
     subst hW
     have hHr:∀j o,Hr[j]? =some o→∃o',HD[H.length+j]? =some o'∧AOle o o':=by
      intro j o hj
      have hjl:=(Qa.1 hj).1
      obtain⟨_,hh⟩:=hnew (H.length+j) (by simp [hjl])
      refine hh o ?_
      rw[List.getElem?_append_right (by simp [freeze_length])]
      simp [freeze_length,hj]
     let Hr':AH:=(List.range Hr.length).map fun j=>(HD[H.length+j]?).getD .dead
     have hHr'get:∀j,j<Hr.length→Hr'[j]? =HD[H.length+j]?:=by
      intro j hj
      obtain⟨o',h1,_⟩:=hHr j Hr[j] (by simp [hj])
      simp [Hr',hj,h1]
     have hle:AHle Hr Hr':=by
      intro j o hj
      obtain⟨o',h1,h2⟩:=hHr j o hj
      exact⟨o',by rw[hHr'get j (Qa.1 hj).1];exact h1,h2⟩
     have hHr'len:Hr'.length=Hr.length:=by simp [Hr']
     obtain⟨Ec',hrc',hW',hM',hst'⟩:=hrc.le hle
     have hok':Hr'.all okObj=true:=by
      rw[Qb]
      intro x hx
      obtain⟨j,hj,rfl⟩:=List.mem_iff_getElem.1 hx
      have hj':j<Hr.length:=by rw[←hHr'len];exact hj
      obtain⟨o',h1,h2⟩:=hHr j Hr[j] (by simp [hj'])
      have h5:=hHr'get j hj'
      rw[h1,Qe hj] at h5
      cases h5
      have h6:=Qb.1 hokH Hr[j] (List.getElem_mem hj')
      rcases h2 with h | ⟨e,sz,vs,h7,h8⟩ | ⟨es,h7,h8⟩
      ·rw[h];exact h6
      ·rw[h7] at h6;rw[h8];exact h6
      ·rw[h8];rfl
     have hbound:H.length+Hr'.length≤HD.length:=by
      rw[hHr'len]
      simpa [freeze_length] using hlen0
     obtain⟨E',hWE,hstE,hrE,hstepE,hME,hMin,hhl⟩:=merge_rel hr hrc' (n:=H.length) hbound (fun j hj=>(hHr'get j (by rw[←hHr'len];exact hj)).symm) (fun j hj=>(hnew (H.length+j) (by rw[hHr'len] at hj;simp [hj])).1) hok' rfl (hst.trans hst')
     rw[←hW',←hWE]
     refine hK' HD E' v rfl (fun _ _=>rfl) (by simp) ?_ hrE hstepE (fun j h1 h2=>by
      obtain⟨a1,a2⟩:=hME j h1 h2
      rw[hHr'len] at a2
      simp [a1];omega)
     have hv':=hv.mono (hst'.ext hrc)
     have one:∀{c:AV} {u:Value},VR Ec' c u→okRet1 c=true→VR E' (shift1 H.length c) u:=by
      intro c u hc hp
      cases hc0:c
      case own id sz len=>
       rw[hc0] at hc
       simp only[shift1]
       cases hc with
       | own _ _ _ ad cp hm hz hlen=>
       have hidl:id<Hr'.length:=by
        obtain⟨m,hm⟩:=Option.isSome_iff_exists.1 hm
        exact hrc'.some_lt hm
       have hMj:=hMin id (by exact hidl)
       refine .own _ sz len ad cp (by rw[hMj];exact hm) hz fun L hL=>?_
       have hL':Ec'.hl id=some L:=by
        rw[hrc'.hl]
        rw[hhl,hr.hl] at hL
        unfold hlOf at hL ⊢
        rw[hHr'get id (by rw[←hHr'len];exact hidl)];exact hL
       obtain⟨b1,b2⟩:=hlen L hL'
       refine⟨b1,fun he=>?_⟩
       rw[hMj,hWE]
       exact b2 he
      all_goals
       rw[hc0] at hc hp
       have:=pureD_VP 8 _ u hc hp
       rw[←hWE,←hstE] at this
       exact VP.vr this
     cases hr0:r
     case tuple vs=>
      rw[hr0] at hv' hokr
      obtain⟨us',rfl,k1,k2⟩:=hv'.tuple_inv
      simp only[shiftR]
      refine .tuple _ us' (by simp [k1]) fun i c hc=>?_
      simp only[List.getElem?_map,Option.map_eq_some_iff] at hc
      obtain⟨c0,hc0,rfl⟩:=hc
      exact one (k2 i c0 hc0) (Qb.1 hokr c0 (Qc hc0))
     case undef=>rw[hr0] at hv';simp only[shiftR,shift1];rw[hv'.undef_inv];exact .undef
     all_goals
      rw[hr0] at hv' hokr
      simp only[shiftR]
      exact one hv' hokr
   ·exact h.elim
  ·exact h.elim
 ·exact h.elim
end Go.Pg
