/- Pg: abstract values, what operations, regions, calls come to on them. -/
import Derived.Test.YtjbgnnggmngpcaaGreatDoorPgGc
set_option linter.unusedVariables false
set_option linter.unusedSimpArgs false
set_option linter.unusedSectionVars false
open Option renaming map_eq_some_iff → Qa,map_none → Qf,map_some → Qg
open List renaming getElem?_eq_some_iff → Qb,getElem?_eq_getElem → Qc,range' → Qd,getElem?_set_ne → Qe,getElem?_set_self → Qh
open Array renaming toList_inj → Qi
open Nat renaming le_refl → Qj
open Int renaming le_refl → Qk
namespace Go.Pg
open Go
variable [Syms]
theorem intO_K {op:BinOp}{k:IntKind}{a b:Int}{V:AV}(h:intO op k a b=some V):intOp op k a b (· =V):=by
 unfold intO at h
 unfold intOp
 split at h <;> first | (cases h;done) | (simp only[Option.some.injEq] at h;first | exact h | exact h.symm) | (split at h <;> first | (cases h;done) | (simp only[Option.some.injEq] at h;first | exact⟨by assumption,h⟩ | exact⟨by assumption,h.symm⟩))
theorem strO_K {op:BinOp}{a b:List UInt8}{V:AV}(h:strO op a b=some V):strOp op a b (· =V):=by
 unfold strO at h
 unfold strOp
 split at h <;> first | (cases h;done) | (simp only[Option.some.injEq] at h;exact h) | (split at h <;> first | (cases h;done) | (simp only[Option.some.injEq] at h;exact⟨by assumption,h⟩))
theorem eqO_cases {op:BinOp}{e:Bool}{V:AV}(h:eqO op e=some V):(op= .eql∧AV.bool e=V)∨(op= .neq∧AV.bool (!e)=V):=by
 unfold eqO at h
 split at h
 ·simp only[Option.some.injEq] at h;exact .inl ⟨rfl,h⟩
 ·simp only[Option.some.injEq] at h;exact .inr ⟨rfl,h⟩
 ·cases h
theorem binO_K {P:Program}{op:BinOp}{t:TypeId}{x y V:AV}(h:binO P op t x y=some V):binK P op t x y (· =V):=by
 unfold binO at h
 unfold binK
 split at h
 ·split at h
  ·next e=>dsimp only;rw[if_pos e];exact intO_K h
  ·next e=>
   dsimp only
   rw[if_neg e]
   split at h
   ·exact intO_K h
   ·exact intO_K h
   ·cases h
 ·exact strO_K h
 ·split at h
  ·next e=>rcases eqO_cases h with⟨rfl,hq⟩ | ⟨rfl,hq⟩ <;> exact⟨e,hq⟩
  ·cases h
 ·split at h
  ·next e1 e2=>
   dsimp only
   rw[e1,e2]
   dsimp only
   split at h
   ·next e=>rw[e];rcases eqO_cases h with⟨rfl,hq⟩ | ⟨rfl,hq⟩ <;> exact hq
   ·cases h
  ·cases h
 ·split at h
  ·next e=>rcases eqO_cases h with⟨rfl,hq⟩ | ⟨rfl,hq⟩ <;> exact⟨e,hq⟩
  ·cases h
 ·split at h
  ·next e=>rcases eqO_cases h with⟨rfl,hq⟩ | ⟨rfl,hq⟩ <;> exact⟨e,hq⟩
  ·cases h
 ·split at h
  ·next e=>rcases eqO_cases h with⟨rfl,hq⟩ | ⟨rfl,hq⟩ <;> exact⟨e,hq⟩
  ·cases h
 ·split at h
  ·next e=>rcases eqO_cases h with⟨rfl,hq⟩ | ⟨rfl,hq⟩ <;> exact⟨e,hq⟩
  ·cases h
 ·cases h
theorem sliceSO_K {x:AV}{lo hi mx:Option AV}{V:AV}(h:sliceSO x lo hi mx=some V):sliceS x lo hi mx (· =V):=by
 unfold sliceSO at h
 unfold sliceS
 split at h
 ·simp only[Option.some.injEq] at h;exact h
 ·split at h
  ·next e=>simp only[Option.some.injEq] at h;exact⟨e.1,e.2,h⟩
  ·cases h
 ·split at h
  ·next e=>simp only[Option.some.injEq] at h;exact⟨e.1,e.2,h⟩
  ·cases h
 ·split at h
  ·next e=>simp only[Option.some.injEq] at h;exact⟨e.1,e.2.1,e.2.2,h⟩
  ·cases h
 ·cases h
theorem sliceLO_K {sz:Nat}{x:AV}{lo hi mx:Option AV}{V:AV}(h:sliceLO sz x lo hi mx=some V):sliceL sz x lo hi mx (· =V):=by
 unfold sliceLO at h
 unfold sliceL
 split at h <;> first | (cases h;done) | (split at h <;> first | (cases h;done) | (next e=>simp only[Option.some.injEq] at h;first | exact⟨e,h⟩ | exact⟨e.1,e.2.1,e.2.2,h⟩ | exact⟨e.1,e.2.1,e.2.2.1,e.2.2.2,h⟩))
theorem pureO_K {P:Program}{ev:AEnv}{o:Oper}{V:AV}(h:pureO P ev o=some V):pureK P ev o (· =V):=by
 obtain⟨dst,op,ty,pos,after,guard⟩:=o
 unfold pureO at h
 unfold pureK
 simp only at h ⊢
 split at h
 all_goals try dsimp only
 ·simp only[Option.some.injEq] at h;exact h
 ·simp only[Option.some.injEq] at h;exact h
 ·split at h
  ·next e=>rw[e];simp only[Option.some.injEq] at h;exact h
  ·cases h
 ·split at h
  ·next e=>simp only[e];simp only[Option.some.injEq] at h;exact h
  ·next e=>simp only[e];simp only[Option.some.injEq] at h;exact h
  ·cases h
 ·exact binO_K h
 ·split at h
  ·next e1 e2=>
   rw[e1,e2]
   simp only
   split at h
   ·next e=>rw[e];simp only[Option.some.injEq] at h;exact h
   ·cases h
  ·next e1 e2=>
   rw[e1,e2]
   simp only
   split at h
   ·next e=>rw[e];simp only[Option.some.injEq] at h;exact h
   ·cases h
  ·cases h
 ·split at h <;> first | (cases h;done) | (next e1 e2 e3=>rw[e1,e2,e3];simp only;split at h <;> first | (cases h;done) | (next e=>simp only[Option.some.injEq] at h;first | exact⟨e.1,e.2,h⟩ | exact⟨e.1,e.2.1,e.2.2,h⟩))
 ·split at h <;> first | (cases h;done) | (next e1 e2 e3=>rw[e1,e2,e3];simp only;split at h <;> first | (cases h;done) | (next e=>simp only[Option.some.injEq] at h;first | exact⟨e.1,e.2,h⟩ | exact⟨e.1,e.2.1,e.2.2,h⟩))
 ·split at h
  ·next e=>rw[e];exact⟨V,h,rfl⟩
  ·cases h
 ·split at h
  ·next e1 e2=>rw[e1,e2];exact⟨V,h,rfl⟩
  ·cases h
 ·split at h
  ·next e1 e2=>
   rw[e1,e2]
   simp only
   split at h
   ·next e=>
    obtain⟨cs,hc,hV⟩:=Qa.1 h
    exact⟨e.1,e.2,cs,hc,hV⟩
   ·cases h
  ·next e1 e2=>
   rw[e1,e2]
   simp only
   split at h
   ·next e=>
    obtain⟨cs,hc,hV⟩:=Qa.1 h
    exact⟨e,cs,hc,hV⟩
   ·cases h
  ·cases h
 ·split at h
  ·next e=>rw[e];exact sliceSO_K h
  ·next e=>rw[e];exact sliceLO_K h
  ·cases h
 ·split at h
  ·split at h
   ·next e=>simp only[Option.some.injEq] at h;exact⟨by simpa using e,h⟩
   ·cases h
  ·cases h
 ·split at h
  ·next e=>rw[e];simp only[Option.some.injEq] at h;exact h
  ·next e=>rw[e];simp only[Option.some.injEq] at h;exact h
  ·cases h
 ·split at h
  ·cases h
  ·next e1 e2 e0=>rw[e1,e2];simp only[Option.some.injEq] at h;exact⟨e0,h⟩
  ·next e1 e2 e0=>rw[e1,e2];simp only[Option.some.injEq] at h;exact⟨e0,h⟩
  ·cases h
 ·split at h
  ·split at h
   ·next ea et=>
    rw[ea,et]
    simp only
    split at h
    ·next e1 e2=>rw[e1,e2];simp only[Option.some.injEq] at h;exact h
    ·next e1=>
     rw[e1]
     obtain⟨n,hn,hV⟩:=Qa.1 h
     exact⟨n,hn,hV⟩
    ·next e1=>rw[e1];simp only[Option.some.injEq] at h;exact h
    ·cases h
   ·cases h
  ·split at h
   ·next e=>
    rw[e]
    obtain⟨n,hn,hV⟩:=Qa.1 h
    exact⟨n,hn,hV⟩
   ·cases h
  ·split at h
   ·next e=>
    rw[e]
    obtain⟨n,hn,hV⟩:=Qa.1 h
    exact⟨n,hn,hV⟩
   ·cases h
  ·cases h
 ·cases h
def isHV (x:HV):HK:=fun V H1 new fp wr=>(V,H1,new,fp,wr)=x
theorem appO_K {H:AH}{e:TypeId}{sz by_:Nat}{d:AV}{new:List AV}{fp:List Nat}{x:HV}(h:appO H e sz by_ d new fp=some x):appK H e sz by_ d new fp (isHV x):=by
 unfold appO at h
 unfold appK
 split at h
 ·split at h
  ·next e1=>
   dsimp only
   rw[e1]
   dsimp only
   split at h
   ·next c=>
    simp only[Option.some.injEq] at h
    obtain⟨c1,c2,c3,c4,c5,c6,c7⟩:=c
    exact⟨c1,c2,c3,c4,by simpa using c5,c6,c7,h⟩
   ·cases h
  ·cases h
 ·split at h
  ·next c=>simp only[Option.some.injEq] at h;exact⟨c,h⟩
  ·cases h
 ·split at h
  ·split at h
   ·next c=>simp only[Option.some.injEq] at h;exact⟨c.1,c.2,h⟩
   ·cases h
  ·cases h
 ·cases h
theorem heapO_K {P:Program}{ev:AEnv}{H:AH}{o:Oper}{x:HV}(h:heapO P ev H o=some x):heapK P ev H o (isHV x):=by
 obtain⟨dst,op,ty,pos,after,guard⟩:=o
 unfold heapO at h
 unfold heapK
 simp only at h ⊢
 split at h
 all_goals try dsimp only
 ·split at h
  ·next e1=>
   rw[e1]
   obtain⟨v,hv,hx⟩:=Qa.1 h
   exact⟨v,hv,hx⟩
  ·next e1=>
   rw[e1]
   dsimp only
   split at h
   ·next e2=>
    rw[e2]
    dsimp only
    split at h
    ·next c=>
     obtain⟨v,hv,hx⟩:=Qa.1 h
     exact⟨c.1,c.2.1,c.2.2,v,hv,hx⟩
    ·cases h
   ·cases h
  ·cases h
 ·split at h
  ·next c=>simp only[Option.some.injEq] at h;exact⟨c,h⟩
  ·cases h
 ·split at h
  ·next c=>simp only[Option.some.injEq] at h;exact⟨c,h⟩
  ·cases h
 ·split at h
  ·next e1 e2=>
   rw[e1,e2]
   dsimp only
   split at h
   ·next e3=>
    rw[e3]
    dsimp only
    split at h
    ·next c=>
     simp only[Option.some.injEq] at h
     obtain⟨c1,c2,c3,c4,c5,c6,c7⟩:=c
     exact⟨c1,c2,c3,c4,c5,c6,c7,h⟩
    ·cases h
   ·cases h
  ·cases h
 ·split at h
  ·next e1=>
   rw[e1]
   dsimp only
   split at h
   ·next c=>
    simp only[Option.some.injEq] at h
    obtain⟨c1,c2,c3,c4,c5⟩:=c
    exact⟨c1,c2,c3,c4,c5,h⟩
   ·cases h
  ·cases h
 ·split at h
  ·next e1 e2 e3=>
   rw[e1,e2,e3]
   dsimp only
   split at h
   ·next b hb=>
    split at h
    ·next c=>
     simp only[Option.some.injEq] at h
     obtain⟨c1,c2,c3,c4,c5⟩:=c
     exact⟨c1,c2,b,hb,c3,c4,c5,h⟩
    ·cases h
   ·cases h
  ·cases h
 ·split at h
  ·next e1 e2 e3=>
   rw[e1,e2,e3]
   dsimp only
   split at h
   ·next e4=>
    split at h
    ·next c=>
     simp only[Option.some.injEq] at h
     exact⟨c.1,e4,c.2.1,c.2.2,h⟩
    ·cases h
   ·cases h
  ·next e1 e2 e3=>
   rw[e1,e2,e3]
   dsimp only
   split at h
   ·next e4=>simp only[Option.some.injEq] at h;exact⟨e4,h⟩
   ·cases h
  ·next e0 sz0 e1 e2 hn=>
   rw[e1,e2]
   generalize opnd ev _=y at h hn ⊢
   have key:tk P e0= .int .u8∧(match srcV H y with
    | some (z,vs,fp)=>z=1∧∃bs,bytesOf vs=some bs∧isHV x (AV.str bs) H [] fp []
    | none=>False):=by
    split at h
    ·next e3 e4=>
     refine⟨e3,?_⟩
     rw[e4]
     dsimp only
     split at h
     ·next c=>
      obtain⟨bs,hb,hx⟩:=Qa.1 h
      exact⟨c,bs,hb,hx⟩
     ·cases h
    ·cases h
   cases y with
   | nls=>exact(hn rfl).elim
   | _=>exact key
  ·next e1 e2 e3=>
   rw[e1,e2,e3]
   dsimp only
   split at h
   ·next e4=>
    split at h
    ·next e5=>
     split at h
     ·next c=>
      simp only[Option.some.injEq] at h
      rw[e5]
      exact⟨c.1,c.2.1,e4,c.2.2.1,c.2.2.2.1,c.2.2.2.2.1,c.2.2.2.2.2.1,c.2.2.2.2.2.2.1,c.2.2.2.2.2.2.2,h⟩
     ·cases h
    ·cases h
   ·cases h
  ·cases h
 ·split at h
  ·next e1 e2=>rw[e1,e2];dsimp only;split at h <;> first | (cases h;done) | (next c=>simp only[Option.some.injEq] at h;exact⟨c,h⟩)
  ·cases h
 ·split at h
  ·next e1 e2=>
   rw[e1,e2]
   dsimp only
   split at h
   ·next e3=>
    rw[e3]
    dsimp only
    split at h
    ·next e4 e5=>
     rw[e4,e5]
     exact appO_K h
    ·cases h
   ·cases h
  ·cases h
 ·cases h
theorem mapO_K {P:Program}{ev:AEnv}{H:AH}{o:Oper}{x:HV}(h:mapO P ev H o=some x):mapK P ev H o (isHV x):=by
 obtain⟨dst,op,ty,pos,after,guard⟩:=o
 unfold mapO at h
 unfold mapK
 simp only at h ⊢
 split at h
 all_goals try dsimp only
 ·simp only[Option.some.injEq] at h;exact h
 ·split at h
  ·next e1 e2=>
   rw[e1,e2]
   dsimp only
   split at h
   ·next e3=>
    rw[e3]
    dsimp only
    split at h
    ·next c=>simp only[Option.some.injEq] at h;exact⟨c.1,c.2.1,c.2.2,h⟩
    ·cases h
   ·cases h
  ·next e1 e2=>
   rw[e1,e2]
   dsimp only
   split at h
   ·next c=>simp only[Option.some.injEq] at h;exact⟨c.1,c.2.1,c.2.2,h⟩
   ·cases h
  ·cases h
 ·split at h
  ·next e1 e2 e3=>
   rw[e1,e2,e3]
   dsimp only
   split at h
   ·next e4=>
    rw[e4]
    dsimp only
    split at h
    ·next c=>simp only[Option.some.injEq] at h;exact⟨c.1,c.2,h⟩
    ·cases h
   ·cases h
  ·cases h
 ·split at h
  ·next e1 e2 e3=>
   rw[e1,e2,e3]
   dsimp only
   split at h
   ·next e4=>
    rw[e4]
    dsimp only
    split at h
    ·next c=>simp only[Option.some.injEq] at h;exact⟨c.1,c.2,h⟩
    ·cases h
   ·cases h
  ·cases h
 ·split at h
  ·next e1 e2=>
   rw[e1,e2]
   dsimp only
   split at h
   ·next e3 e4=>
    rw[e3,e4]
    dsimp only
    split at h
    ·next e5=>
     rw[e5]
     dsimp only
     split at h
     ·next c=>simp only[Option.some.injEq] at h;exact⟨c.1,c.2,h⟩
     ·cases h
    ·cases h
   ·cases h
  ·cases h
 ·split at h
  ·next e1 e2=>rw[e1,e2];simp only[Option.some.injEq] at h;exact h
  ·next e1 e2=>
   rw[e1,e2]
   dsimp only
   split at h
   ·next e3=>rw[e3];simp only[Option.some.injEq] at h;exact h
   ·cases h
  ·cases h
 ·split at h
  ·next e1=>
   rw[e1]
   dsimp only
   split at h
   ·next e2=>rw[e2];simp only[Option.some.injEq] at h;exact h
   ·cases h
  ·cases h
 ·cases h
theorem sliceOwnO_K {P:Program}{kill:Bool}{ev:AEnv}{H:AH}{o:Oper}{x:HV}(h:sliceOwnO P kill ev H o=some x):sliceOwn P ev H o (isHV x):=by
 obtain⟨dst,op,ty,pos,after,guard⟩:=o
 unfold sliceOwnO at h
 unfold sliceOwn
 simp only at h ⊢
 split at h
 all_goals try dsimp only
 ·split at h
  ·next e1 e2 e3=>
   rw[e1,e2]
   dsimp only
   rw[e3]
   split at h
   ·next e4=>
    rw[e4]
    dsimp only
    split at h
    ·next c=>
     simp only[Option.some.injEq] at h
     exact⟨c.2.1,c.2.2.1,c.2.2.2.1,c.2.2.2.2.1,c.2.2.2.2.2,h⟩
    ·cases h
   ·cases h
  ·cases h
 ·split at h
  ·next e1 e2=>
   rw[e1,e2]
   dsimp only
   split at h
   ·next c=>simp only[Option.some.injEq] at h;exact⟨c,h⟩
   ·cases h
  ·cases h
 ·cases h
def OneIs (P:Program)(ev:AEnv)(H:AH)(o:Oper)(V:AV)(H1:AH)(m:Foot):Prop:=
 ∃hp:Bool,OneOK P ev H o ⟨hp,true,V,m.1,m.2.1,m.2.2.1,H1,m.2.2.2⟩
theorem OneIs.pure {P:Program}{ev:AEnv}{H:AH}{o:Oper}{V:AV}(h:PureOK P o (fun E a=>Opd ev E a o) V):OneIs P ev H o V H ([],[],[],[]):=
 ⟨false,h,rfl,rfl,rfl,rfl,rfl⟩
theorem OneIs.old {P:Program}{ev:AEnv}{H:AH}{o:Oper}{V:AV}(h:pureO P ev o=some V):OneIs P ev H o V H ([],[],[],[]):=by
 obtain⟨V',h1,h2⟩:=pureK_sound (pureO_K h)
 cases h2
 exact .pure h1
theorem OneIs.hsnd {P:Program}{ev:AEnv}{H:AH}{o:Oper}{x:HV}(h:HSnd P ev H o (isHV x)):OneIs P ev H o x.1 x.2.1 (x.2.2.1,x.2.2.2.1,x.2.2.2.2,[]):=by
 obtain⟨V,H1,new,fp,wr,h1,h2,h3⟩:=h
 cases h1
 exact⟨true,by simpa using h3,by simpa using h2,by simp⟩
def CallIs (ev:AEnv)(o:Oper)(fid:FuncId)(xs:List AV):Prop:=
 ∃f args ats,o.op= .call { callee:= .value f,args:=args,argTypes:=ats }∧((∃cap,opnd ev f= .fn fid cap∧xs=args.toList.map (opnd ev) ++ cap)∨∃cap,opnd ev f= .mth fid cap∧xs=cap ++ args.toList.map (opnd ev))
def TblOK (P:Program):Prop:=
 ∀k xs v,(k,xs,v)∈Syms.tbl→∀(ev:AEnv) (o:Oper),opk ev o=some (k,xs)→PureOK P o (fun E a=>Opd ev E a o) v
def CfOK (P:Program)(cf:CallF):Prop:=
 TblOK P∧∀fid xs H V H1 m,cf fid xs H= .ok (V,H1,m)→∀(ev:AEnv) (o:Oper),CallIs ev o fid xs→OneIs P ev H o V H1 m
theorem Er.bind_ok {α β:Type}{x:Er α}{f:α→Er β}{y:β}(h:x.bind f= .ok y):∃a,x= .ok a∧f a= .ok y:=by
 cases x with
 | ok a=>exact⟨a,rfl,h⟩
 | no w=>cases h
theorem Er.tag_ok {α:Type}{x:Er α}{p:Nat×Nat}{y:α}(h:x.tag p= .ok y):x= .ok y:=by
 cases x with
 | ok a=>exact h
 | no w=>cases h
theorem callE_ok {P:Program}{rec:FuncId→List AV→AH→Er (AV×AH)}(htb:TblOK P)(hrec:∀f as K0 r Ko,rec f as K0= .ok (r,Ko)→CallsR P f as K0 r Ko):CfOK P (callE P rec):=by
 refine⟨htb,?_⟩
 intro fid xs H V H1 m h ev o ho
 unfold callE at h
 split at h
 ·cases h
 ·next hcal=>
  dsimp only at h
  split at h
  ·next as K0 has hK0=>
   obtain⟨⟨r,Ko⟩,hr,h⟩:=Er.bind_ok h
   dsimp only at h
   split at h
   ·cases h
   ·next hle=>
    have hle:=Nat.le_of_ble_eq_true hle
    cases h
    have hsub:=subK_reach has hK0
    have hC:=hrec _ _ _ _ _ hr
    generalize hp:reach H 100000 (refsL xs) []=pick at hsub
    have hval:∀(E:Env) (a:Act),Opd ev E a o→∃vals:Array Value,VRs E xs vals∧(execOp a.eval o).run P E.W= .ok (.enter fid vals) E.W:=by
     obtain⟨f,args,ats,ho1,⟨cap,hf,rfl⟩ | ⟨cap,hf,rfl⟩⟩:=ho
     ·exact val_fn ho1 hf hcal
     ·exact val_mth ho1 hf hcal
    obtain⟨V,H1,new,fp,wr,⟨rfl,rfl,rfl,rfl,hwr⟩,h2,h3⟩:=callX_sound (K:=fun V H1 new fp wr=>V=ren (gid (pick ++ Qd H.length (Ko.length - pick.length))) r∧H1=putL (gid (pick ++ Qd H.length (Ko.length - pick.length))) pick Ko H∧new=Qd H.length (Ko.length - pick.length)∧fp=pick ++ fixedIds H∧wr=pick) hval hsub hC hle (by
     rw[gids_map,fresh_map,somes_map,putL_map,freeze_fixed (fun a ha=>fixedIds_mem ha)]
     exact⟨rfl,rfl,rfl,rfl,rfl⟩)
    rw[hwr] at h2 h3
    obtain⟨w1,w2⟩:=wrL_spec (H:=H) (H1:=putL (gid (pick ++ Qd H.length (Ko.length - pick.length))) pick Ko H) pick
    have hmem:∀id,id∈(wrL H (putL (gid (pick ++ Qd H.length (Ko.length - pick.length))) pick Ko H) pick).1 ++ (wrL H (putL (gid (pick ++ Qd H.length (Ko.length - pick.length))) pick Ko H) pick).2↔id∈pick:=fun id=>by rw[List.mem_append];exact w1 id
    refine⟨true,?_,?_,w2⟩
    ·intro HD E a q1 q2 q3 q4 q5 q6 K Q q7
     exact h3 HD E a q1 q2 q3 (fun id i1 i2=>q4 id i1 (fun hh=>i2 ((hmem id).1 hh))) (fun id i1=>q5 id ((hmem id).2 i1)) q6 K Q (fun HD' E' v r1 r2 r3 r4 r5 r6 r7=>q7 HD' E' v r1 (fun id i1=>r2 id (fun hh=>i1 ((hmem id).2 hh))) (fun id i1=>r3 id ((hmem id).1 i1)) r4 r5 r6 r7)
    ·exact⟨fun id i1=>h2.wrfp id ((hmem id).1 i1),fun id i1=>h2.wrlt id ((hmem id).1 i1),fun id i1=>h2.le id (fun hh=>i1 ((hmem id).2 hh)),h2.newlt,h2.newup,h2.len⟩
  ·cases h
end Go.Pg
namespace Go.Pg
open Go
variable [Syms]
theorem sliceT_some {P:Program}{t:TypeId}(h:sliceT P t=true):∃e,P.underlying t=some (.slice e):=by
 unfold sliceT at h
 split at h
 ·next e he=>exact⟨e,he⟩
 ·cases h
theorem eqSl_nil {P:Program}(w:World)(d:Nat){t e:TypeId}(h:P.underlying t=some (.slice e))(a:Option Addr)(l c:Nat):(Op.equalIn (d+1) t (.slice a l c) (.slice none 0 0)).run P w= .ok a.isNone w:=by
 cases a <;> simp [Op.equalIn,run_underlying h]
theorem run_nil {P:Program}{op:BinOp}{t:TypeId}(w:World)(p q:Operand)(ht:sliceT P t=true)(a:Option Addr)(l c:Nat){V:AV}(h:eqO op a.isNone=some V) :
 ∃b:Bool,V= .bool b∧(do eqGuard op t p q (.slice a l c) (.slice none 0 0);binOp op t (.slice a l c) (.slice none 0 0):Sem Value).run P w= .ok (.bool b) w:=by
 obtain⟨e,he⟩:=sliceT_some ht
 have hq:(Op.equal t (.slice a l c) (.slice none 0 0)).run P w= .ok a.isNone w:=eqSl_nil w 9999 he a l c
 rcases eqO_cases h with⟨rfl,hq2⟩ | ⟨rfl,hq2⟩
 ·exact⟨_,hq2.symm,run_binOp_same P w _ t p q _ _ _ (by simp [eqGuard]) (by simp [binOp,hq])⟩
 ·exact⟨_,hq2.symm,run_binOp_same P w _ t p q _ _ _ (by simp [eqGuard]) (by simp [binOp,hq])⟩
theorem VR.nls_inv' {E:Env}{v:Value}(h:VR E .nls v):v= .slice none 0 0:=by cases h;rfl
theorem newP_ok {P:Program}{ev:AEnv}{o:Oper}{V:AV}(h:newP P ev o=some V):PureOK P o (fun E a=>Opd ev E a o) V:=by
 obtain⟨dst,op,ty,pos,after,guard⟩:=o
 unfold newP at h
 simp only at h
 split at h
 ·next op t x y yt=>
  have key:∀(b:Bool),sliceT P t=true→eqO op b=some V→opnd ev y= .nls→(∀E v,VR E (opnd ev x) v→∃a l c,v= .slice a l c∧a.isNone=b)→PureOK P ⟨dst,.binOp op t x y yt,ty,pos,after,guard⟩ (fun E a=>Opd ev E a ⟨dst,.binOp op t x y yt,ty,pos,after,guard⟩) V:=by
   intro b ht hb hy hx E a hl
   have h1:=hl x (by simp [Op.operands])
   have h2:=hl y (by simp [Op.operands])
   rw[hy] at h2
   obtain⟨ad,l,c,hv,ha⟩:=hx E _ h1
   obtain⟨bb,rfl,hr⟩:=run_nil (P:=P) E.W x y ht ad l c (by rw[ha];exact hb)
   refine⟨.bool bb,.bool _,?_⟩
   simp only[execOp,Sem.run_bind,hv,h2.nls_inv'] at hr ⊢
   rw[hr];rfl
  split at h
  ·next e1 e2=>
   split at h
   ·next ht=>exact key true ht h e2 fun E v hv=>by rw[e1] at hv;exact⟨none,0,0,hv.nls_inv',rfl⟩
   ·cases h
  ·next e1 e2=>
   split at h
   ·next ht=>
    refine key false ht.1 h e2 fun E v hv=>?_
    rw[e1] at hv
    cases hv with
    | own _ _ _ ad cap hm hz hown=>
     refine⟨ad,_,cap,rfl,?_⟩
     cases ad with
     | none=>have:=hz rfl;have:=ht.2;omega
     | some _=>rfl
   ·cases h
  ·next e1 e2=>
   split at h
   ·next ht=>
    refine key false ht.1 h e2 fun E v hv=>?_
    rw[e1] at hv
    obtain⟨ad,cap,f,rfl,hc,h1,h2⟩:=hv.sl_inv
    obtain⟨h3,b,o,ha,_⟩:=h1 0 _ rfl
    exact⟨ad,_,cap,rfl,by rw[ha];rfl⟩
   ·cases h
  ·cases h
 ·next t x lo=>
  split at h
  ·next e1 e2 e3=>
   cases h
   intro E a hl
   have h1:=hl x (by simp [Op.operands])
   rw[e1] at h1
   have h2:=hl lo (by simp [Op.operands])
   rw[e2] at h2
   obtain⟨hu,⟨i,hi,hsz⟩,_⟩:=tk_slice e3
   have hu':P.underlying t=some (.slice (P.elem t)):=by simp [Program.elem,hu]
   refine⟨.slice none 0 0,.nls,?_⟩
   have hs:(sizeOf (P.elem t)).run P E.W= .ok i.size E.W:=by simp [Program.elem,hu,sizeOf,typeInfo,hi]
   simp only[execOp,Sem.run_bind,Qf,Qg,h1.nls_inv',h2.int_inv,run_sliceAt_slice E.W t _ _ none none hu',run_slice_l E.W t none 0 0 hu' _ 0 (Qk _) (Qk _),hs,Result.andThen_ok,sliced]
   rfl
  ·cases h
 ·next f first cap=>
  split at h
  ·next c=>
   cases h
   intro E a hl
   have hc0:cap= #[]:=by simpa using c.2
   subst hc0
   refine⟨.func (.func f) (first.map a.eval) #[],.mth f _ _ (by simp) (fun i c hc=>?_),by simp [execOp,Instr.makeFunc]⟩
   simp only[List.getElem?_map,Array.getElem?_toList,Qa] at hc
   obtain⟨x,hx,rfl⟩:=hc
   have:(first.map a.eval).getD i Go.undef=a.eval x:=by simp [hx]
   rw[this]
   exact hl x (by simp [Op.operands,Array.mem_of_getElem? hx])
  ·cases h
 ·next args ats=>
  split at h
  ·next x t ea et=>
   split at h
   ·next id z tot off n e1=>
    split at h
    ·next ht=>
     cases h
     intro E a hl
     obtain⟨e,hu⟩:=sliceT_some ht
     have hargs:args= #[x]:=by rw[←Qi,ea]
     have hats:ats= #[t]:=by rw[←Qi,et]
     subst hargs;subst hats
     have h1:=hl x (by simp [Op.operands,Call.operands])
     rw[e1] at h1
     generalize hv:a.eval x=v at h1
     cases h1 with
     | win _ _ _ _ _ ad cap hc hm hw=>exact⟨_,.int _ _,by simp [execOp,resolve,invoke,builtin,Builtin.len_,run_underlying hu,hv,goInt]⟩
    ·cases h
   ·cases h
  ·cases h
 ·cases h
theorem hlOf_has {H HD:AH}{E:Env}{id L:Nat}(hr:Rel HD E)(h:hlOf H id=some L)(hfp:Has H id HD):E.hl id=some L:=by
 rw[hr.hl]
 unfold hlOf at h ⊢
 cases ho:H[id]? with
 | none=>rw[ho] at h;simp at h
 | some y=>
  rw[ho] at h
  obtain⟨y',h4,h5⟩:=hfp y ho
  rw[h4]
  simp only[Option.bind_some] at h ⊢
  rw[h5.len];exact h
theorem win_get {H HD:AH}{E:Env}{id z tot off len:Nat}{v:Value}(hr:Rel HD E)(hfp:Has H id HD)(hhl:hlOf H id=some tot)(h:VR E (.win id z tot off len) v) :
 (E.M id).isSome=true∧∃ad cap,v= .slice ad len cap∧len≤cap∧(0<len→∃b,E.M id=some (some b)∧ad=some ⟨b,off * z,none⟩):=by
 cases h with
 | win _ _ _ _ _ ad cap hc hm hw=>exact⟨hm,ad,cap,rfl,hc,fun h0=>(hw tot (hlOf_has hr hhl hfp)).2 rfl h0⟩
theorem own_get {H HD:AH}{E:Env}{id z len:Nat}{v:Value}(hr:Rel HD E)(hfp:Has H id HD)(hhl:hlOf H id=some len)(h:VR E (.own id z len) v) :
 (E.M id).isSome=true∧∃ad cap,v= .slice ad len cap∧len≤cap∧(0<len→∃b,E.M id=some (some b)∧ad=some ⟨b,0,none⟩):=by
 cases h with
 | own _ _ _ ad cap hm hz hown=>
  rcases(hown len (hlOf_has hr hhl hfp)).2 rfl with⟨h0,h1,h2⟩ | ⟨b,c,ty,fz,q1,q2,q3,q4,q5,q6⟩
  ·exact⟨hm,ad,cap,rfl,by omega,fun h=>by omega⟩
  ·exact⟨hm,ad,cap,rfl,q3,fun _=>⟨b,q1,q2⟩⟩
theorem VR.win_of {E:Env}{id z tot:Nat}{ad:Option Addr}{cap a b:Nat}(hm:(E.M id).isSome=true)(hL:E.hl id=some tot)(hb:b≤cap)(hab:a≤b)(hbt:b≤tot)
 (h:0<tot→∃bl,E.M id=some (some bl)∧ad=some ⟨bl,0,none⟩):VR E (.win id z tot a (b - a)) (sliced ad a b cap z):=by
 unfold sliced
 refine .win id z tot a (b - a) _ _ (by omega) hm fun L hL'=>?_
 rw[hL] at hL'
 cases hL'
 refine⟨Qj _,fun _ hpos=>?_⟩
 obtain⟨bl,h1,h2⟩:=h (by omega)
 refine⟨bl,h1,?_⟩
 rw[if_neg (by omega),h2]
 simp [Addr.add]
 exact fun h=>h.symm
theorem HCond.freeze (H:AH)(ids:List Nat)(id:Nat)(o:AO)(hid:id<H.length):HCond H ((freeze ids H).set id o) [] (id :: ids) [id]:=by
 refine⟨by simp,by simpa using hid,fun j hj x hx=>?_,by simp,by simp,by simp [freeze_length]⟩
 have hne:j≠id:=by simpa using hj
 obtain⟨x',h1,h2⟩:=freeze_le ids H j x hx
 exact⟨x',by rw[Qe (Ne.symm hne)];exact h1,h2⟩
theorem mapWrF {P:Program}{dst:Option Tmp}{op:Op}{ty:TypeId}{pos:String}{after:Array Edge}{guard:Option (Nat×Bool)}{ev:AEnv}{H:AH}{K:HK}{ids:List Nat}{id:Nat}{es es':List (AV×AV)}{V:AV}(hids:id∉ids)(hH:H[id]? =some (.mp es))(hK:K V ((freeze ids H).set id (.mp es')) [] (id :: ids) [id])
 (h:∀(HD:AH) E a,Opd ev E a ⟨dst,op,ty,pos,after,guard⟩→Rel HD E→HD[id]? =some (.mp es)→(∀j∈ids,∀o,H[j]? =some o→HD[j]? =some (fixO o))→∃b ar cl ar' cl' out,E.M id=some (some b)∧E.W.heap[b]? =some (.map ar cl)∧
   (∀w',w'={ E.W with heap:=E.W.heap.setIfInBounds b (.map ar' cl') }→(out= .skip∧V= .undef∨∃v,out= .value v∧∀E',VR E' V v)∧(execOp a.eval ⟨dst,op,ty,pos,after,guard⟩).run P E.W= .ok out w')∧EntsAt E es' ar'∧Stamps ar' cl') :
 HSnd P ev H ⟨dst,op,ty,pos,after,guard⟩ K:=by
 have hidl:id<H.length:=(Qb.1 hH).1
 refine⟨_,_,_,_,_,hK,HCond.freeze H ids id _ hidl,?_⟩
 intro HD E a hl hr _ hfp hwr _ K' Q hK'
 have hD:HD[id]? =some (.mp es):=by rw[hwr id (by simp)];exact hH
 obtain⟨b,ar,cl,ar',cl',out,hM,hb,hrun,hes,hst⟩:=h HD E a hl hr hD (fun j hj o ho=>by
  have hne:j≠id:=fun e=>hids (e ▸ hj)
  obtain⟨o',h2,h3⟩:=hfp j (by simp [hj]) (by simpa using hne) (fixO o) (by rw[Qe (Ne.symm hne)];exact freeze_at ids H j o hj ho)
  rw[fixO_stay h3] at h2;exact h2)
 obtain⟨w',hw'⟩:∃w':World,w'={ E.W with heap:=E.W.heap.setIfInBounds b (.map ar' cl') }:=⟨_,rfl⟩
 obtain⟨hout,hrun2⟩:=hrun w' hw'
 clear hrun
 have hbl:b<E.W.heap.size:=(Array.getElem?_eq_some_iff.1 hb).1
 obtain⟨E',hW,hr',hstep,hMM⟩:=write_gen hr (o':= .mp es') hD rfl (by simp) hM (w':=w') (by subst hw';exact⟨rfl,rfl,rfl⟩) (by subst hw';simp) (fun k hk=>by
  subst hw';show(E.W.heap.setIfInBounds b _)[k]? =_;rw[Array.getElem?_setIfInBounds_ne (Ne.symm hk)]) (fun c t fz hc=>by rw[hb] at hc;cases hc) (fun L' hL=>⟨0,rfl,by simp [AO.len] at hL;omega⟩) (fun E' hx hE'=>by
  refine⟨b,ar',cl',rfl,?_,hes.mono hx,hst⟩
  rw[hE',hw']
  show(E.W.heap.setIfInBounds b _)[b]? =_
  simp [hbl])
 have hfin:=fun v hv=>hK' (HD.set id (.mp es')) E' v (by simp) (fun j hj=>Qe (fun e=>hj (by simp [e]))) (fun j hj=>by
  have:j=id:=by simpa using hj
  subst this
  have hidD:j<HD.length:=(Qb.1 hD).1
  rw[Qh hidD,Qh (by rw[freeze_length];exact hidl)]) hv hr' hstep (fun j h1 h2=>by rw[hMM] at h2;exact absurd h1 h2)
 rcases hout with⟨rfl,rfl⟩ | ⟨v,rfl,hv⟩
 ·exact wp_of_skip (by rw[hW];exact hrun2) (hfin Go.undef .undef)
 ·exact wp_of_value (by rw[hW];exact hrun2) (hfin v (hv E'))
theorem newH_ok {P:Program}{kill:Bool}{ev:AEnv}{H:AH}{o:Oper}{x:HV}(h:newH P kill ev H o=some x):HSnd P ev H o (isHV x):=by
 obtain⟨dst,op,ty,pos,after,guard⟩:=o
 unfold newH at h
 simp only at h
 split at h
 ·next t x i=>
  split at h
  ·next id z tot off len e1=>
   split at h
   ·next e0 sz k n e2 e3=>
    split at h
    ·next c=>
     obtain⟨rfl,c1,c2,c3⟩:=c
     cases h
     refine⟨_,_,_,_,_,rfl,HCond.read H [id],heapOK_read fun HD E a hl hr hfp=>?_⟩
     have h1:=hl x (by simp [Op.operands])
     rw[e1] at h1
     have h2:=hl i (by simp [Op.operands])
     rw[e3] at h2
     obtain⟨hm,ad,cap,hv,hc,hw⟩:=win_get hr (hfp id (by simp)) c3 h1
     have hL:=hlOf_has hr c3 (hfp id (by simp))
     obtain⟨hu,⟨ti,hti,hsz⟩,_⟩:=tk_slice e2
     obtain⟨b,hb,had⟩:=hw (by omega)
     subst had
     refine⟨.pointer (some (Addr.add ⟨b,off * sz,none⟩ (n.toNat * sz))),.ptr _ _ _ _ _ _ hm fun L hL'=>?_,?_⟩
     ·rw[hL] at hL'
      cases hL'
      exact⟨Qj _,fun _=>⟨b,hb,by rw[add_addr,Nat.add_mul,Nat.add_zero]⟩⟩
     ·simp [execOp,Instr.indexAt,hv,h2.int_inv,asIntOf,run_underlying hu,sizeOf,typeInfo,hti,hsz,c1,c2]
    ·cases h
   ·cases h
  ·cases h
 ·next op t x y yt=>
  split at h
  ·next id z tot off n e1=>
   split at h
   ·next e2=>
    split at h
    ·next c=>
     obtain⟨v,hv,hx⟩:=Qa.1 h
     cases hx
     refine⟨_,_,_,_,_,rfl,HCond.read H [id],heapOK_read fun HD E a hl hr hfp=>?_⟩
     have h1:=hl x (by simp [Op.operands])
     rw[e1] at h1
     have h2:=hl y (by simp [Op.operands])
     rw[e2] at h2
     obtain⟨hm,ad,cap,hv',hc,hw⟩:=win_get hr (hfp id (by simp)) c.2.2 h1
     obtain⟨b,hb,had⟩:=hw c.2.1
     obtain⟨bb,rfl,hr'⟩:=run_nil (P:=P) E.W x y c.1 ad n cap (by rw[had];exact hv)
     refine⟨.bool bb,.bool _,?_⟩
     simp only[execOp,Sem.run_bind,hv',h2.nls_inv'] at hr' ⊢
     rw[hr'];rfl
    ·cases h
   ·cases h
  ·cases h
 ·next t x lo hi=>
  split at h
  ·next id z len e1=>
   split at h
   ·next _ e0 sz hi' e2=>
    split at h
    ·next k b e3=>
     split at h
     ·next c=>
      obtain⟨rfl,c1,c2,c3⟩:=c
      cases h
      refine⟨_,_,_,_,_,rfl,HCond.read H [id],heapOK_read fun HD E a hl hr hfp=>?_⟩
      have h1:=hl x (by simp [Op.operands])
      rw[e1] at h1
      have h3:=hl hi' (by simp [Op.operands])
      rw[e3] at h3
      obtain⟨hm,ad,cap,hv,hc,hw⟩:=own_get hr (hfp id (by simp)) c1 h1
      have hL:=hlOf_has hr c1 (hfp id (by simp))
      obtain⟨hu,⟨i,hi,hsz⟩,_⟩:=tk_slice e2
      have hel:P.elem t=e0:=by simp [Program.elem,hu]
      have hu':P.underlying t=some (.slice (P.elem t)):=by rw[hel];exact hu
      have hs:(sizeOf (P.elem t)).run P E.W= .ok z E.W:=by rw[hel];simp [sizeOf,typeInfo,hi,hsz]
      refine⟨_,VR.win_of (a:=0) (b:=b.toNat) hm hL (cap:=cap) (by omega) (by omega) (by omega) hw,?_⟩
      simp only[execOp,Sem.run_bind,Qf,Qg,hv,h3.int_inv,run_sliceAt_slice E.W t _ none _ none hu',run_slice_h E.W t ad len cap hu' k b c2 (by omega),hs,Result.andThen_ok]
      rfl
     ·cases h
    ·cases h
   ·next e0 sz lo' hi' e2=>
    split at h
    ·next k1 a0 k2 b e3 e4=>
     split at h
     ·next c=>
      obtain⟨rfl,c1,c2,c3,c4⟩:=c
      cases h
      refine⟨_,_,_,_,_,rfl,HCond.read H [id],heapOK_read fun HD E a hl hr hfp=>?_⟩
      have h1:=hl x (by simp [Op.operands])
      rw[e1] at h1
      have h2:=hl lo' (by simp [Op.operands])
      rw[e3] at h2
      have h3:=hl hi' (by simp [Op.operands])
      rw[e4] at h3
      obtain⟨hm,ad,cap,hv,hc,hw⟩:=own_get hr (hfp id (by simp)) c1 h1
      have hL:=hlOf_has hr c1 (hfp id (by simp))
      obtain⟨hu,⟨i,hi,hsz⟩,_⟩:=tk_slice e2
      have hel:P.elem t=e0:=by simp [Program.elem,hu]
      have hu':P.underlying t=some (.slice (P.elem t)):=by rw[hel];exact hu
      have hs:(sizeOf (P.elem t)).run P E.W= .ok z E.W:=by rw[hel];simp [sizeOf,typeInfo,hi,hsz]
      refine⟨_,VR.win_of (a:=a0.toNat) (b:=b.toNat) hm hL (cap:=cap) (by omega) (by omega) (by omega) hw,?_⟩
      simp only[execOp,Sem.run_bind,Qf,Qg,hv,h2.int_inv,h3.int_inv,run_sliceAt_slice E.W t _ _ _ none hu',run_slice_lh E.W t ad len cap hu' k1 k2 a0 b c2 c3 (by omega),hs,Result.andThen_ok]
      rfl
     ·cases h
    ·cases h
   ·next e0 sz lo' e2=>
    split at h
    ·next k1 a0 e3=>
     split at h
     ·next c=>
      obtain⟨rfl,c1,c2,c3⟩:=c
      cases h
      refine⟨_,_,_,_,_,rfl,HCond.read H [id],heapOK_read fun HD E a hl hr hfp=>?_⟩
      have h1:=hl x (by simp [Op.operands])
      rw[e1] at h1
      have h2:=hl lo' (by simp [Op.operands])
      rw[e3] at h2
      obtain⟨hm,ad,cap,hv,hc,hw⟩:=own_get hr (hfp id (by simp)) c1 h1
      have hL:=hlOf_has hr c1 (hfp id (by simp))
      obtain⟨hu,⟨i,hi,hsz⟩,_⟩:=tk_slice e2
      have hel:P.elem t=e0:=by simp [Program.elem,hu]
      have hu':P.underlying t=some (.slice (P.elem t)):=by rw[hel];exact hu
      have hs:(sizeOf (P.elem t)).run P E.W= .ok z E.W:=by rw[hel];simp [sizeOf,typeInfo,hi,hsz]
      refine⟨_,VR.win_of (a:=a0.toNat) (b:=len) hm hL (cap:=cap) hc (by omega) (Qj _) hw,?_⟩
      simp only[execOp,Sem.run_bind,Qf,Qg,hv,h2.int_inv,run_sliceAt_slice E.W t _ _ none none hu',run_slice_l E.W t ad len cap hu' k1 a0 c2 c3,hs,Result.andThen_ok]
      rfl
     ·cases h
    ·cases h
   ·cases h
  ·cases h
 ·next t m k x0=>
  split at h
  ·next id kd e y i ids hx ht hres=>
   split at h
   ·next es ho=>
    split at h
    ·next c=>
     cases h
     have hids:id∉i :: ids:=by
      intro hm
      have hlt:id<H.length:=by rw[←freeze_length (i :: ids) H];exact(Qb.1 ho).1
      have h1:=freeze_at (i :: ids) H id H[id] hm (Qc hlt)
      rw[ho] at h1
      cases hq:H[id] <;> rw[hq] at h1 <;> simp [fixO] at h1
     have hH:H[id]? =some (.mp es):=by
      have hlt:id<H.length:=by rw[←freeze_length (i :: ids) H];exact(Qb.1 ho).1
      obtain⟨o',h1,h2⟩:=freeze_le (i :: ids) H id H[id] (Qc hlt)
      rw[ho] at h1
      cases h1
      rcases h2 with h2 | ⟨_,_,_,_,h2⟩ | ⟨_,_,h2⟩
      ·rw[Qc hlt,h2]
      ·cases h2
      ·cases h2
     refine mapWrF (es':=setE (opnd ev k) y es) hids hH rfl fun HD E a hl hr hD hfz=>?_
     have hv:=hl m (by simp [Op.operands])
     rw[hx] at hv
     obtain⟨b,ar,cl,hav,hM,hb,hes,hs⟩:=mp_read hr hv (es:=es) (by simp [mapAt,hD])
     have hy:=res_sound (H:=H) hr 8 _ y (i :: ids) _ hres (hl x0 (by simp [Op.operands])) hfz
     obtain⟨ar',cl',q1,q2,q3⟩:=upd_run ht hb hes hs c.1 (hl k (by simp [Op.operands])) c.2 hy
     refine⟨b,ar,cl,ar',cl',.skip,hM,hb,fun w' hw'=>⟨.inl ⟨rfl,rfl⟩,?_⟩,q2,q3⟩
     subst hw'
     simp only[execOp,hav]
     simp only[Sem.run_bind,q1,Result.andThen,Sem.run_pure]
    ·cases h
   ·cases h
  ·cases h
 ·cases h
end Go.Pg
