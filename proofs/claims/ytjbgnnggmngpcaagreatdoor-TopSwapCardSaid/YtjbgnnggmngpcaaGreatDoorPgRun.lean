/- Pg, part 13: a region's operations one after the other, on abstract states. -/
import Derived.Test.YtjbgnnggmngpcaaGreatDoorPgNorm
import Derived.Test.YtjbgnnggmngpcaaGreatDoorPgMapOps
import Derived.Test.YtjbgnnggmngpcaaGreatDoorPgGw
set_option linter.unusedVariables false
set_option linter.unusedSimpArgs false
set_option linter.unusedSectionVars false
open List renaming mem_cons → Qa,append_eq_nil_iff → Qc
open Bool renaming and_eq_true → Qb
namespace Go.Pg
open Go
variable [Syms]
def noW (K:HK):HK:=fun V H1 new fp wr=>wr=[]∧K V H1 new fp wr
def oneK (P:Program)(C:Ctr)(ev:AEnv)(H:AH)(o:Oper)(K:HK):Prop:=
 match o.op with
 | .load _ _=>heapK P ev H o (noW K)
 | .box _ _=>heapK P ev H o (noW K)
 | .alloc _=>heapK P ev H o (noW K)
 | .store _ _ _=>heapK P ev H o K
 | .buildSlice _ _ _=>heapK P ev H o (noW K)
 | .makeSlice _ _ _=>heapK P ev H o (noW K)
 | .convert s d _=>match tk P s,tk P d with
  | .slice _ _,_=>heapK P ev H o (noW K)
  | _,.slice _ _=>heapK P ev H o (noW K)
  | _,_=>pureK P ev o fun V=>K V H [] [] []
 | .slice _ x lo hi mx=>wsel (winB C (opnd ev x) lo hi mx) (sliceWin P ev H o (noW K)) (match opnd ev x with
  | .own _ _ _=>sliceOwn P ev H o K
  | _=>pureK P ev o fun V=>K V H [] [] [])
 | .call { callee:= .builtin .append,args:=_,argTypes:=_ }=>heapK P ev H o K
 | .call { callee:= .builtin .delete,args:=_,argTypes:=_ }=>mapK P ev H o K
 | .call { callee:= .value f,args,argTypes:=_ }=>callT C ev H f args K
 | .makeMap _ _=>mapK P ev H o (noW K)
 | .lookup _ _ _ _=>mapK P ev H o (noW K)
 | .mapUpdate _ _ _ _=>mapK P ev H o K
 | .insert _ _ _ _=>mapK P ev H o K
 | .range _ _=>mapK P ev H o (noW K)
 | .entry _=>mapK P ev H o K
 | _=>pureK P ev o fun V=>K V H [] [] []
def livesO:Option AO→Bool
 | some o=>o.lives
 | none=>false
def livesAt (H:AH)(id:Nat):Bool:=livesO H[id]?
def sameL (H1 H:AH):List Nat→Prop
 | []=>True
 | id :: r=>(H1[id]? =H[id]?∧livesAt H id=true)∧sameL H1 H r
theorem sameL_mem {H1 H:AH}:∀{l:List Nat},sameL H1 H l→∀id∈l,H1[id]? =H[id]?∧livesAt H id=true:=by
 intro l
 induction l with
 | nil=>intro _ id h;simp at h
 | cons x l ih=>
  intro h id hid
  rcases Qa.1 hid with rfl | hid
  ·exact h.1
  ·exact ih h.2 id hid
structure Ent where
 heap:Bool
 want:Bool
 V:AV
 new:List Nat
 fp:List Nat
 wr:List Nat
 H1:AH
 ro:List Nat:=[]
def OneOK (P:Program)(ev:AEnv)(H:AH)(o:Oper)(e:Ent):Prop:=
 match e.want,e.heap with
 | false,false=>(∀E,VR E e.V Go.undef)∧e.H1=H∧e.new=[]∧e.fp=[]∧e.wr=[]∧e.ro=[]
 | false,true=>False
 | true,false=>PureOK P o (fun E a=>Opd ev E a o) e.V∧e.H1=H∧e.new=[]∧e.fp=[]∧e.wr=[]∧e.ro=[]
 | true,true=>HeapOK P o (fun E a=>Opd ev E a o) e.V e.new e.fp (e.wr ++ e.ro) H e.H1∧HCond H e.H1 e.new e.fp (e.wr ++ e.ro)∧∀id∈e.ro,e.H1[id]? =H[id]?∧livesAt H id=true
def memOp (o:Oper):Bool:=
 match o.op with
 | .load _ _ | .box _ _ | .alloc _ | .store _ _ _ | .buildSlice _ _ _ | .makeSlice _ _ _=>true
 | .convert _ _ _=>true
 | .slice _ _ _ _ _=>true
 | .call { callee:= .builtin .append,args:=_,argTypes:=_ }=>true
 | .call { callee:= .builtin .delete,args:=_,argTypes:=_ }=>true
 | .call { callee:= .value _,args:=_,argTypes:=_ }=>true
 | .makeMap _ _ | .lookup _ _ _ _ | .mapUpdate _ _ _ _ | .insert _ _ _ _ | .range _ _ | .entry _=>true
 | _=>false
def wrOp (P:Program)(o:Oper):Bool:=
 match o.op with
 | .store _ _ _=>true
 | .slice t _ none (some _) none=>match tk P t with
  | .slice _ _=>true
  | _=>false
 | .call { callee:= .builtin .append,args:=_,argTypes:=_ }=>true
 | .call { callee:= .builtin .delete,args:=_,argTypes:=_ }=>true
 | .mapUpdate _ _ _ _ | .insert _ _ _ _ | .entry _=>true
 | _=>false
theorem one_pure {P:Program}{ev:AEnv}{H:AH}{o:Oper}{K:HK}(h:pureK P ev o fun V=>K V H [] [] []) :
 ∃e:Ent,e.want=true∧e.ro=[]∧OneOK P ev H o e∧K e.V e.H1 e.new e.fp e.wr∧(memOp o=false→e.heap=false)∧(wrOp P o=false→e.wr=[]):=by
 obtain⟨V,h1,h2⟩:=pureK_sound h
 exact⟨⟨false,true,V,[],[],[],H,[]⟩,rfl,rfl,⟨h1,rfl,rfl,rfl,rfl,rfl⟩,h2,fun _=>rfl,fun _=>rfl⟩
theorem oneK_sound {P:Program}{C:Ctr}(hC:CtrOK P C){ev:AEnv}{H:AH}{o:Oper}{K:HK}(h:oneK P C ev H o K) :
 ∃e:Ent,e.want=true∧e.ro=[]∧OneOK P ev H o e∧K e.V e.H1 e.new e.fp e.wr∧(memOp o=false→e.heap=false)∧(purC C→wrOp P o=false→e.wr=[]):=by
 have pu:(∃e:Ent,e.want=true∧e.ro=[]∧OneOK P ev H o e∧K e.V e.H1 e.new e.fp e.wr∧(memOp o=false→e.heap=false)∧(wrOp P o=false→e.wr=[]))→∃e:Ent,e.want=true∧e.ro=[]∧OneOK P ev H o e∧K e.V e.H1 e.new e.fp e.wr∧(memOp o=false→e.heap=false)∧(purC C→wrOp P o=false→e.wr=[]):=
  fun⟨e,h1,h0,h2,h3,h4,h5⟩=>⟨e,h1,h0,h2,h3,h4,fun _=>h5⟩
 have hp:memOp o=true→heapK P ev H o (noW K)→∃e:Ent,e.want=true∧e.ro=[]∧OneOK P ev H o e∧K e.V e.H1 e.new e.fp e.wr∧(memOp o=false→e.heap=false)∧(wrOp P o=false→e.wr=[]):=by
  intro hm h
  obtain⟨V,H1,new,fp,wr,h1,h2,h3⟩:=heapK_sound h
  exact⟨⟨true,true,V,new,fp,wr,H1,[]⟩,rfl,rfl,⟨by simpa using h3,by simpa using h2,by simp⟩,h1.2,fun h=>(by rw[hm] at h;cases h),fun _=>h1.1⟩
 unfold oneK at h
 split at h
 ·next hop=>exact pu (hp (by simp [memOp,hop]) h)
 ·next hop=>exact pu (hp (by simp [memOp,hop]) h)
 ·next hop=>exact pu (hp (by simp [memOp,hop]) h)
 ·next hop=>
  obtain⟨V,H1,new,fp,wr,h1,h2,h3⟩:=heapK_sound h
  exact⟨⟨true,true,V,new,fp,wr,H1,[]⟩,rfl,rfl,⟨by simpa using h3,by simpa using h2,by simp⟩,h1,fun h=>(by simp [memOp,hop] at h),fun _ h=>(by simp [wrOp,hop] at h)⟩
 ·next hop=>exact pu (hp (by simp [memOp,hop]) h)
 ·next hop=>exact pu (hp (by simp [memOp,hop]) h)
 ·next hop=>
  split at h
  ·exact pu (hp (by simp [memOp,hop]) h)
  ·exact pu (hp (by simp [memOp,hop]) h)
  ·exact pu (one_pure h)
 ·next x lo hi mx hop=>
  unfold wsel at h
  split at h
  ·obtain⟨V,H1,new,fp,wr,h1,h2,h3⟩:=sliceWin_sound h
   exact pu ⟨⟨true,true,V,new,fp,wr,H1,[]⟩,rfl,rfl,⟨by simpa using h3,by simpa using h2,by simp⟩,h1.2,fun h=>(by simp [memOp,hop] at h),fun _=>h1.1⟩
  split at h
  ·next hown=>
   have h':sliceOwn P ev H o fun V H1 new fp wr=>K V H1 new fp wr∧(wrOp P o=false→wr=[]):=by
    unfold sliceOwn at h ⊢
    simp only[hop] at h ⊢
    split at h
    ·split at h
     ·simpa using h
     ·split at h
      ·next hk _ _=>simpa [wrOp,hop, *] using h
      ·exact h.elim
     ·split at h
      ·simpa using h
      ·exact h.elim
     ·split at h
      ·simpa using h
      ·exact h.elim
     ·exact h.elim
    ·exact h.elim
   obtain⟨V,H1,new,fp,wr,h1,h2,h3⟩:=sliceOwn_sound h'
   exact⟨⟨true,true,V,new,fp,wr,H1,[]⟩,rfl,rfl,⟨by simpa using h3,by simpa using h2,by simp⟩,h1.1,fun h=>(by simp [memOp,hop] at h),fun _=>h1.2⟩
  ·exact pu (one_pure h)
 ·next hop=>
  obtain⟨V,H1,new,fp,wr,h1,h2,h3⟩:=heapK_sound h
  exact⟨⟨true,true,V,new,fp,wr,H1,[]⟩,rfl,rfl,⟨by simpa using h3,by simpa using h2,by simp⟩,h1,fun h=>(by simp [memOp,hop] at h),fun _ h=>(by simp [wrOp,hop] at h)⟩
 ·next hop=>
  obtain⟨V,H1,new,fp,wr,h1,h2,h3⟩:=mapK_sound h
  exact⟨⟨true,true,V,new,fp,wr,H1,[]⟩,rfl,rfl,⟨by simpa using h3,by simpa using h2,by simp⟩,h1,fun h=>(by simp [memOp,hop] at h),fun _ h=>(by simp [wrOp,hop] at h)⟩
 ·next f args ats hop=>
  by_cases hpu:purC C
  ·obtain⟨V,H1,new,fp,wr,h1,h2,h3⟩:=callT_sound hC hop (callT_noW hpu h)
   exact⟨⟨true,true,V,new,fp,wr,H1,[]⟩,rfl,rfl,⟨by simpa using h3,by simpa using h2,by simp⟩,h1.2,fun h=>(by simp [memOp,hop] at h),fun _ _=>h1.1⟩
  ·obtain⟨V,H1,new,fp,wr,h1,h2,h3⟩:=callT_sound hC hop h
   exact⟨⟨true,true,V,new,fp,wr,H1,[]⟩,rfl,rfl,⟨by simpa using h3,by simpa using h2,by simp⟩,h1,fun h=>(by simp [memOp,hop] at h),fun h=>absurd h hpu⟩
 ·next hop=>
  obtain⟨V,H1,new,fp,wr,h1,h2,h3⟩:=mapK_sound h
  exact⟨⟨true,true,V,new,fp,wr,H1,[]⟩,rfl,rfl,⟨by simpa using h3,by simpa using h2,by simp⟩,h1.2,fun h=>(by simp [memOp,hop] at h),fun _ _=>h1.1⟩
 ·next hop=>
  obtain⟨V,H1,new,fp,wr,h1,h2,h3⟩:=mapK_sound h
  exact⟨⟨true,true,V,new,fp,wr,H1,[]⟩,rfl,rfl,⟨by simpa using h3,by simpa using h2,by simp⟩,h1.2,fun h=>(by simp [memOp,hop] at h),fun _ _=>h1.1⟩
 ·next hop=>
  obtain⟨V,H1,new,fp,wr,h1,h2,h3⟩:=mapK_sound h
  exact⟨⟨true,true,V,new,fp,wr,H1,[]⟩,rfl,rfl,⟨by simpa using h3,by simpa using h2,by simp⟩,h1,fun h=>(by simp [memOp,hop] at h),fun _ h=>(by simp [wrOp,hop] at h)⟩
 ·next hop=>
  obtain⟨V,H1,new,fp,wr,h1,h2,h3⟩:=mapK_sound h
  exact⟨⟨true,true,V,new,fp,wr,H1,[]⟩,rfl,rfl,⟨by simpa using h3,by simpa using h2,by simp⟩,h1,fun h=>(by simp [memOp,hop] at h),fun _ h=>(by simp [wrOp,hop] at h)⟩
 ·next hop=>
  obtain⟨V,H1,new,fp,wr,h1,h2,h3⟩:=mapK_sound h
  exact⟨⟨true,true,V,new,fp,wr,H1,[]⟩,rfl,rfl,⟨by simpa using h3,by simpa using h2,by simp⟩,h1.2,fun h=>(by simp [memOp,hop] at h),fun _ _=>h1.1⟩
 ·next hop=>
  obtain⟨V,H1,new,fp,wr,h1,h2,h3⟩:=mapK_sound h
  exact⟨⟨true,true,V,new,fp,wr,H1,[]⟩,rfl,rfl,⟨by simpa using h3,by simpa using h2,by simp⟩,h1,fun h=>(by simp [memOp,hop] at h),fun _ h=>(by simp [wrOp,hop] at h)⟩
 ·exact pu (one_pure h)
def unc:AV→AV
 | .cond _ v=>v
 | x=>x
def gof:AV→Bool
 | .cond g _=>g
 | _=>true
def stripE (ev:AEnv):AEnv:=ev.map fun p=>(p.1,unc p.2)
theorem look_stripE (t:Tmp):∀(ev:AEnv),look t (stripE ev)=unc (look t ev):=by
 intro ev
 induction ev with
 | nil=>rfl
 | cons p ev ih=>
  obtain⟨u,v⟩:=p
  simp only[stripE,List.map_cons,look]
  split
  ·rfl
  ·exact ih
theorem unc_ofV (v:Value):unc (ofV v)=ofV v:=by
 have h:∀v,unc (ofLeaf v)=ofLeaf v:=by intro v;unfold ofLeaf;split <;> rfl
 unfold ofV
 split
 ·rfl
 ·split <;> rfl
 ·exact h _
theorem opnd_stripE (ev:AEnv)(x:Operand):opnd (stripE ev) x=unc (opnd ev x):=by
 cases x with
 | tmp t=>exact look_stripE t ev
 | const v=>exact(unc_ofV v).symm
 | func f=>rfl
 | global g=>rfl
theorem VR.unc {E:Env}{x:AV}{v:Value}(h:VR E x v)(hg:gof x=true):VR E (Go.Pg.unc x) v:=by
 cases x <;> try exact h
 next g y=>
  simp only[gof] at hg
  subst hg
  cases h with | condT _ _ h=>exact h
def mux (c:Bool)(x y:AV):AV:=
 match x,y with
 | .bool a,.bool b=> .bool (if c then a else b)
 | .int k a,.int k' b=>if k=k' then .int k (if c then a else b) else(if c then x else y)
 | .str a,.str b=> .str (if c then a else b)
 | _,_=>if c then x else y
theorem mux_eq (c:Bool)(x y:AV):mux c x y=if c then x else y:=by
 unfold mux
 split
 ·cases c <;> rfl
 ·split
  ·next h=>subst h;cases c <;> rfl
  ·rfl
 ·cases c <;> rfl
 ·rfl
def pickC (ev:AEnv)(c a b:Operand):Prop:=
 gof (opnd ev c)=true∧match unc (opnd ev c) with
  | .bool cb=>(cb=true→gof (opnd ev a)=true)∧(cb=false→gof (opnd ev b)=true)
  | _=>False
def pickV (ev:AEnv)(c a b:Operand):AV:=
 match unc (opnd ev c) with
 | .bool cb=>mux cb (unc (opnd ev a)) (unc (opnd ev b))
 | _=> .top
theorem pick_pure {P:Program}{ev:AEnv}{o:Oper}{c a b:Operand}(ho:o.op= .pick c a b)(h:pickC ev c a b):PureOK P o (fun E x=>Opd ev E x o) (pickV ev c a b):=by
 obtain⟨hc,h⟩:=h
 intro E x hl
 have h1:=(hl c (by simp [ho,Op.operands])).unc hc
 have h2:=hl a (by simp [ho,Op.operands])
 have h3:=hl b (by simp [ho,Op.operands])
 unfold pickV
 split at h
 ·next cb hcb=>
  rw[hcb] at h1
  simp only[mux_eq]
  have h1:=h1.bool_inv
  cases cb with
  | true=>exact⟨_,h2.unc (h.1 rfl),by simp [execOp,ho,h1,asBool]⟩
  | false=>exact⟨_,h3.unc (h.2 rfl),by simp [execOp,ho,h1,asBool]⟩
 ·exact h.elim
def condsL (ev:AEnv):List Operand→Prop
 | []=>True
 | x :: r=>gof (opnd ev x)=true∧condsL ev r
theorem condsL_mem {ev:AEnv}:∀{l:List Operand},condsL ev l→∀x∈l,gof (opnd ev x)=true:=by
 intro l
 induction l with
 | nil=>intro _ x hx;simp at hx
 | cons y l ih=>
  intro h x hx
  rcases Qa.1 hx with rfl | hx
  ·exact h.1
  ·exact ih h.2 x hx
theorem HeapOK.mono {P:Program}{o:Oper}{look look':Env→Act→Prop}{V V':AV}{new fp wr:List Nat}{H H1:AH}(h:HeapOK P o look V new fp wr H H1)
 (hl:∀E a,look' E a→look E a) (hv:∀E v,VR E V v→VR E V' v):HeapOK P o look' V' new fp wr H H1:=
 fun HD E a h1 h2 h3 h4 h5 h6 K Q hK=>h HD E a (hl E a h1) h2 h3 h4 h5 h6 K Q fun HD' E' v a1 a2 a3 a4 a5 a6 a7=>hK HD' E' v a1 a2 a3 (hv E' v a4) a5 a6 a7
theorem PureOK.mono {P:Program}{o:Oper}{look look':Env→Act→Prop}{V V':AV}(h:PureOK P o look V)
 (hl:∀E a,look' E a→look E a) (hv:∀E v,VR E V v→VR E V' v):PureOK P o look' V':=
 fun E a h1=>let⟨v,h2,h3⟩:=h E a (hl E a h1);⟨v,hv E v h2,h3⟩
theorem OneOK.strip {P:Program}{ev:AEnv}{H:AH}{o:Oper}{e:Ent}(hw:e.want=true)(hc:condsL ev o.op.operands.toList)(h:OneOK P (stripE ev) H o e) :
 OneOK P ev H o { e with V:= .cond true e.V }:=by
 have hl:∀E a,Opd ev E a o→Opd (stripE ev) E a o:=by
  intro E a hl x hx
  rw[opnd_stripE]
  exact(hl x hx).unc (condsL_mem hc x (by simpa using hx))
 unfold OneOK at h ⊢
 rw[hw] at h
 simp only[hw]
 cases hh:e.heap <;> rw[hh] at h <;> simp only at h ⊢
 ·exact⟨h.1.mono hl fun E v hv=> .condT _ _ hv,h.2⟩
 ·exact⟨h.1.mono hl fun E v hv=> .condT _ _ hv,h.2⟩
def intV (op:BinOp)(k:IntKind)(a b:Int):AV:=
 match op with
 | .add=> .int k (k.wrap (a+b))
 | .sub=> .int k (k.wrap (a - b))
 | .mul=> .int k (k.wrap (a * b))
 | .quo=> .int k (k.wrap (a.tdiv b))
 | .rem=> .int k (a.tmod b)
 | .eql=> .bool (a == b)
 | .neq=> .bool (a !=b)
 | .lss=> .bool (decide (a<b))
 | .leq=> .bool (decide (a≤b))
 | .gtr=> .bool (decide (a > b))
 | .geq=> .bool (decide (a≥b))
 | .shr=> .int k (a.fdiv (2 ^ (min b.toNat k.bits)))
 | .shl=> .int k (k.wrap (a * 2 ^ (min b.toNat k.bits)))
 | .and=> .int k (k.wrap (BitVec.ofInt k.bits a &&& BitVec.ofInt k.bits b).toNat)
 | .xor=> .int k (k.wrap (BitVec.ofInt k.bits a ^^^ BitVec.ofInt k.bits b).toNat)
 | _=> .top
def strV (op:BinOp)(a b:List UInt8):AV:=
 match op with
 | .add=> .str (a ++ b)
 | .eql=> .bool (a == b)
 | .neq=> .bool (!(a == b))
 | .lss=> .bool (Op.bytesLess a b)
 | _=> .top
def binV (P:Program)(op:BinOp)(t:TypeId)(x y:AV):AV:=
 match x,y with
 | .int k a,.int _ b=>intV op k a b
 | .str a,.str b=>strV op a b
 | .bool a,.bool b=>match op with
  | .eql=> .bool (a == b)
  | .neq=> .bool (!(a == b))
  | _=> .top
 | .agg as,.agg bs=>match eqK P t with
  | some ks=>match cellsEq ks as bs with
   | some e=>(match op with
    | .eql=> .bool e
    | .neq=> .bool (!e)
    | _=> .top)
   | none=> .top
  | none=> .top
 | .fn _ _,.nfn=>match op with
  | .eql=> .bool false
  | .neq=> .bool true
  | _=> .top
 | .nfn,.nfn=>match op with
  | .eql=> .bool true
  | .neq=> .bool false
  | _=> .top
 | .ptr _ _ _ _ _,.npt=>match op with
  | .eql=> .bool false
  | .neq=> .bool true
  | _=> .top
 | .npt,.npt=>match op with
  | .eql=> .bool true
  | .neq=> .bool false
  | _=> .top
 | _,_=> .top
def cutV (x:AV)(lo hi:Option AV):AV:=
 match x,lo,hi with
 | x,none,none=>x
 | .str s,some (.int _ l),none=> .str (s.drop l.toNat)
 | .str s,none,some (.int _ h)=> .str (s.take h.toNat)
 | .str s,some (.int _ l),some (.int _ h)=> .str (cutL s l.toNat h.toNat)
 | .sl z s,some (.int _ l),none=> .sl z (s.drop l.toNat)
 | .sl z s,none,some (.int _ h)=> .sl z (s.take h.toNat)
 | .sl z s,some (.int _ l),some (.int _ h)=> .sl z (cutL s l.toNat h.toNat)
 | _,_,_=> .top
def cutM (x:AV)(hi:Option AV):AV:=
 match x,hi with
 | .sl z s,some (.int _ h)=> .slc z (s.take h.toNat)
 | .slc z s,some (.int _ h)=> .slc z (s.take h.toNat)
 | _,_=> .top
def srcL (H:AH)(y:AV):List AV:=
 match srcV H y with
 | some (_,vs,_)=>vs
 | none=>[]
def valV (P:Program)(C:Ctr)(ev:AEnv)(H:AH)(o:Oper):AV:=
 match o.op with
 | .move x=>opnd ev x
 | .assign x=>opnd ev x
 | .unOp op _ x=>match op,opnd ev x with
  | .not,.bool b=> .bool (!b)
  | .neg,.int k n=> .int k (k.wrap (0 - n))
  | _,_=> .top
 | .binOp op t x y _=>binV P op t (opnd ev x) (opnd ev y)
 | .fieldAddr s x f=>match tk P s,opnd ev x with
  | .struct _ offs,.ptr id sz len idx off=>match offs[f]? with
   | some (some (o,_))=> .ptr id sz len idx (off+o)
   | _=> .top
  | .struct _ offs,.rp cs=>match offs[f]? with
   | some (some (o,_))=> .rp (cs.drop o)
   | _=> .top
  | _,_=> .top
 | .indexAddr t x i=>match tk P t,opnd ev x,opnd ev i with
  | .slice e _,.sl _ vs,.int _ n=> .rp (vs.getD n.toNat (dz P e)).cells
  | .slice e _,.slc _ vs,.int _ n=> .rp (vs.getD n.toNat (dz P e)).cells
  | .slice _ _,.own id sz' len,.int _ n=> .ptr id sz' len n.toNat 0
  | .arr _ _ sz _,.ptr id z len idx off,.int _ n=> .ptr id z len idx (off+n.toNat * sz)
  | .arr _ _ sz _,.rp cs,.int _ n=> .rp (cs.drop (n.toNat * sz))
  | _,_,_=> .top
 | .index _ x i=>match opnd ev x,opnd ev i with
  | .str s,.int _ n=> .int .u8 (s.getD n.toNat 0).toNat
  | _,_=> .top
 | .extract t ix=>match opnd ev t with
  | .tuple vs=>(vs[ix]?).getD .top
  | _=> .top
 | .slice _ x lo hi (some _)=>cutM (match opnd ev x with
  | .own id z len=> .sl z (srcL H (.own id z len))
  | y=>y) (hi.map (opnd ev))
 | .slice _ x lo hi none=>wsel (winB C (opnd ev x) lo hi none) (match opnd ev x,lo.map (opnd ev),hi.map (opnd ev) with
  | .own id z len,some (.int _ a),some (.int _ b)=> .win id z len a.toNat (b.toNat - a.toNat)
  | _,_,_=> .top) (match opnd ev x,lo,hi with
  | .own _ z _,none,some h=>match opnd ev h with
   | .int _ n=> .own H.length z n.toNat
   | _=> .top
  | .own id z len,some lo,hi=>cutV (.sl z (srcL H (.own id z len))) (some (opnd ev lo)) (hi.map (opnd ev))
  | y,lo,hi=>cutV y (lo.map (opnd ev)) (hi.map (opnd ev)))
 | .convert _ dst x=>match tk P dst,opnd ev x with
  | .int k,.int _ n=> .int k (k.wrap n)
  | .str,.str s=> .str s
  | .slice _ _,.str s=> .own H.length 1 s.length
  | .str,.nls=> .str []
  | .str,y=> .str ((bytesOf (srcL H y)).getD [])
  | _,_=> .top
 | .load t x=>match opnd ev x with
  | .rp cs=>(ldCells P t cs 0).getD .top
  | .ptr id _ _ idx off=>match objAt H id with
   | some (e,_,vs)=>(ldCells P t (vs.getD idx (dz P e)).cells off).getD .top
   | none=> .top
  | _=> .top
 | .pick c a b=>pickV ev c a b
 | .nilCheck x=>opnd ev x
 | .makeFunc fn _ cap=>match fn with
  | .func f=> .fn f (cap.toList.map (opnd ev))
  | _=> .top
 | .build t parts=>match tk P t,tz P t with
  | .struct _ offs,.agg zs=> .agg ((buildL offs (parts.toList.map fun p=>(p.1,opnd ev p.2)) zs).getD [])
  | .arr m _ sz _,.agg zs=> .agg ((buildL (arrPlaces m sz) (parts.toList.map fun p=>(p.1,opnd ev p.2)) zs).getD [])
  | _,_=> .top
 | .box _ x=> .ptr H.length (opnd ev x).cells.length 1 0 0
 | .alloc t=> .ptr H.length (tz P t).cells.length 1 0 0
 | .store _ _ _=> .undef
 | .buildSlice t len _=>match tk P t with
  | .slice _ sz=> .own H.length sz len
  | _=> .top
 | .makeSlice t l _=>match tk P t,opnd ev l with
  | .slice _ sz,.int _ n=> .own H.length sz n.toNat
  | _,_=> .top
 | .call { callee:= .builtin .append,args,argTypes }=>match args.toList,argTypes.toList with
  | [s,x],[t,t']=>match tk P t with
   | .slice _ sz=>match srcE P H t' sz (opnd ev x) with
    | some (new,_)=>match opnd ev s with
     | .own id _ len=> .own id sz (len+new.length)
     | .nls=> .own H.length sz new.length
     | .slc _ vs=>nsel (neL new) (.own H.length sz (vs.length+new.length)) (nsel (neL vs) (.sl sz (vs ++ new)) (.own H.length sz new.length))
     | _=> .top
    | none=> .top
   | _=> .top
  | _,_=> .top
 | .call { callee:= .builtin .len,args,argTypes }=>match args.toList,argTypes.toList with
  | [x],[t]=>match tk P t,opnd ev x with
   | .arr n _ _ _,_=> .int .i64 n
   | _,.str s=> .int .i64 s.length
   | _,y=> .int .i64 ((slen y).getD 0)
  | _,_=> .top
 | .call { callee:= .builtin .min,args,argTypes:=_ }=>match args.toList.map (opnd ev) with
  | .int k a :: r=> .int k ((foldInts min k a r).getD 0)
  | _=> .top
 | .call { callee:= .builtin .max,args,argTypes:=_ }=>match args.toList.map (opnd ev) with
  | .int k a :: r=> .int k ((foldInts max k a r).getD 0)
  | _=> .top
 | .call { callee:= .value f,args,argTypes:=_ }=>match opnd ev f with
  | .fn fid cap=>msel (muC fid C) (match resL (res8 H) (args.toList.map (opnd ev) ++ cap) with
   | some (as,_)=>shiftR H.length (callV fid as C)
   | none=> .top) fun run=>callUV H (run (blankH (hmC fid C) H (args.toList.map (opnd ev) ++ cap)) (args.toList.map (opnd ev) ++ cap))
  | _=> .top
 | .call { callee:= .builtin .delete,args:=_,argTypes:=_ }=> .tuple []
 | .makeMap _ _=> .mp H.length
 | .lookup t x i ok=>match opnd ev x,mapT P t with
  | .mp id,some (_,e)=>match mapAt H id with
   | some es=>lookV P e (opnd ev i) es ok
   | none=> .top
  | .fm es,some (_,e)=>lookV P e (opnd ev i) es ok
  | _,_=> .top
 | .mapUpdate _ _ _ _=> .undef
 | .insert _ _ _ _=> .undef
 | .range _ _=> .it H.length
 | .entry x=>match opnd ev x with
  | .it id=>match H[id]? with
   | some (.it (some (k,v)) _)=> .tuple [k,v]
   | _=> .top
  | _=> .top
 | _=> .top
def heapV (P:Program)(C:Ctr)(ev:AEnv)(H:AH)(o:Oper):AH:=
 match o.op with
 | .box t x=>H ++ [.arr t (opnd ev x).cells.length [opnd ev x]]
 | .alloc t=>H ++ [.arr t (tz P t).cells.length [tz P t]]
 | .store _ a x=>match opnd ev a with
  | .ptr id sz _ idx off=>match H[id]? with
   | some (.arr e _ vs)=>H.set id (.arr e sz (vs.set idx (putCells (vs.getD idx (dz P e)) off (opnd ev x))))
   | _=>H
  | _=>H
 | .buildSlice t _ parts=>match tk P t with
  | .slice e sz=>H ++ [.arr e sz (parts.toList.map fun p=>opnd ev p.2)]
  | _=>H
 | .makeSlice t l _=>match tk P t,opnd ev l with
  | .slice e sz,.int _ n=>H ++ [.arr e sz (List.replicate n.toNat (tz P e))]
  | _,_=>H
 | .convert _ d x=>match tk P d,opnd ev x with
  | .slice e _,.str s=>H ++ [.arr e 1 (ofBytes s)]
  | _,_=>H
 | .slice _ x lo hi mx=>wsel (winB C (opnd ev x) lo hi mx) H (match opnd ev x with
  | .own id z _=>match lo,hi,mx with
   | none,some hi,none=>match opnd ev hi,H[id]? with
    | .int _ n,some (.arr e _ vs)=>H.set id .dead ++ [.arr e z (vs.take n.toNat)]
    | _,_=>H
   | none,some _,some _=>freeze [id] H
   | some _,_,_=>freeze [id] H
   | none,none,_=>H
  | _=>H)
 | .call { callee:= .builtin .append,args,argTypes }=>match args.toList,argTypes.toList with
  | [s,x],[t,t']=>match tk P t with
   | .slice e sz=>match srcE P H t' sz (opnd ev x) with
    | some (new,_)=>match opnd ev s with
     | .own id _ _=>match H[id]? with
      | some (.arr _ _ vs)=>H.set id (.arr e sz (vs ++ new))
      | _=>H
     | .nls=>H ++ [.arr e sz new]
     | .slc _ vs=>nsel (neL new) (H ++ [.arr e sz (vs ++ new)]) (nsel (neL vs) H (H ++ [.arr e sz new]))
     | _=>H
    | none=>H
   | _=>H
  | _,_=>H
 | .call { callee:= .value f,args,argTypes:=_ }=>match opnd ev f with
  | .fn fid cap=>msel (muC fid C) (match resL (res8 H) (args.toList.map (opnd ev) ++ cap) with
   | some (as,ids)=>freeze ids H ++ callH fid as C
   | none=>H) fun run=>callUH (hmC fid C) (args.toList.map (opnd ev) ++ cap) H (run (blankH (hmC fid C) H (args.toList.map (opnd ev) ++ cap)) (args.toList.map (opnd ev) ++ cap))
  | _=>H
 | .call { callee:= .builtin .delete,args,argTypes:=_ }=>match args.toList with
  | [m,k]=>match opnd ev m with
   | .mp id=>match H[id]? with
    | some (.mp es)=>H.set id (.mp (delE (opnd ev k) es))
    | _=>H
   | _=>H
  | _=>H
 | .makeMap _ _=>H ++ [.mp []]
 | .mapUpdate _ m k x=>match opnd ev m,res8 H (opnd ev x) with
  | .mp id,some (y,_)=>match H[id]? with
   | some (.mp es)=>H.set id (.mp (setE (opnd ev k) y es))
   | _=>H
  | _,_=>H
 | .insert _ m k x=>match opnd ev m,res8 H (opnd ev x) with
  | .mp id,some (y,_)=>match H[id]? with
   | some (.mp es)=>H.set id (.mp (setE (opnd ev k) y es))
   | _=>H
  | _,_=>H
 | .range _ x=>match opnd ev x with
  | .fm es=>H ++ [.it none es]
  | .mp id=>match mapAt H id with
   | some es=>frzAt H id ++ [.it none es]
   | none=>H
  | _=>H
 | _=>H
abbrev Foot:=List Nat×List Nat×List Nat×List Nat
def footV (P:Program)(C:Ctr)(ev:AEnv)(H:AH)(o:Oper):Foot:=
 match o.op with
 | .box _ _=>([H.length],[],[],[])
 | .alloc _=>([H.length],[],[],[])
 | .load _ x=>match opnd ev x with
  | .ptr id _ _ _ _=>([],[id],[],[])
  | _=>([],[],[],[])
 | .store _ a _=>match opnd ev a with
  | .ptr id _ _ _ _=>([],[id],[id],[])
  | _=>([],[],[],[])
 | .buildSlice _ _ _=>([H.length],[],[],[])
 | .makeSlice _ _ _=>([H.length],[],[],[])
 | .convert _ d x=>match tk P d,opnd ev x with
  | .slice _ _,.str _=>([H.length],[],[],[])
  | _,.own id _ _=>([],[id],[],[])
  | _,.win id _ _ _ _=>([],[id],[],[])
  | _,_=>([],[],[],[])
 | .slice _ x lo hi mx=>wsel (winB C (opnd ev x) lo hi mx) (match opnd ev x with
  | .own id _ _=>([],[id],[],[])
  | _=>([],[],[],[])) (match opnd ev x with
  | .own id _ _=>match lo,hi,mx with
   | none,some _,none=>([H.length],[id],[id],[])
   | none,some _,some _=>([],[id],[],[])
   | some _,_,_=>([],[id],[],[])
   | none,none,_=>([],[],[],[])
  | _=>([],[],[],[]))
 | .call { callee:= .builtin .append,args,argTypes }=>match args.toList,argTypes.toList with
  | [s,x],[t,t']=>match tk P t with
   | .slice _ sz=>match srcE P H t' sz (opnd ev x) with
    | some (new,fp)=>match opnd ev s with
     | .own id _ _=>([],id :: fp,[id],[])
     | .nls=>([H.length],fp,[],[])
     | .slc _ vs=>nsel (neL new) ([H.length],fp,[],[]) (nsel (neL vs) ([],fp,[],[]) ([H.length],fp,[],[]))
     | _=>([],fp,[],[])
    | none=>([],[],[],[])
   | _=>([],[],[],[])
  | _,_=>([],[],[],[])
 | .call { callee:= .value f,args,argTypes:=_ }=>match opnd ev f with
  | .fn fid cap=>msel (muC fid C) (match resL (res8 H) (args.toList.map (opnd ev) ++ cap) with
   | some (as,ids)=>(List.range' H.length (callH fid as C).length,ids,[],[])
   | none=>([],[],[],[])) fun run=>callUF (rdC fid C) H (run (blankH (hmC fid C) H (args.toList.map (opnd ev) ++ cap)) (args.toList.map (opnd ev) ++ cap))
  | _=>([],[],[],[])
 | .call { callee:= .builtin .delete,args,argTypes:=_ }=>match args.toList with
  | [m,_]=>match opnd ev m with
   | .mp id=>([],[id],[id],[])
   | _=>([],[],[],[])
  | _=>([],[],[],[])
 | .makeMap _ _=>([H.length],[],[],[])
 | .lookup _ x _ _=>match opnd ev x with
  | .mp id=>([],[id],[],[])
  | _=>([],[],[],[])
 | .mapUpdate _ m _ _=>match opnd ev m with
  | .mp id=>([],[id],[id],[])
  | _=>([],[],[],[])
 | .insert _ m _ _=>match opnd ev m with
  | .mp id=>([],[id],[id],[])
  | _=>([],[],[],[])
 | .range _ x=>match opnd ev x with
  | .mp id=>([H.length],[id],[],[])
  | _=>([H.length],[],[],[])
 | .entry x=>match opnd ev x with
  | .it id=>([],[id],[id],[])
  | _=>([],[],[],[])
 | _=>([],[],[],[])
def mergeable (o:Oper):Bool:=
 match o.op with
 | .move _ | .assign _ | .unOp _ _ _ | .binOp _ _ _ _ _ | .fieldAddr _ _ _ | .indexAddr _ _ _ | .index _ _ _ | .extract _ _ | .slice _ _ _ _ _ | .convert _ _ _ | .load _ _ | .build _ _ | .nilCheck _ | .lookup _ _ _ _=>true
 | .call { callee:= .builtin .len,args:=_,argTypes:=_ }=>true
 | .call { callee:= .builtin .min,args:=_,argTypes:=_ }=>true
 | .call { callee:= .builtin .max,args:=_,argTypes:=_ }=>true
 | .call { callee:= .value _,args:=_,argTypes:=_ }=>true
 | _=>false
def stepEv (o:Oper)(V:AV)(ev:AEnv):AEnv:=match o.dst with
 | some t=>(t,V) :: ev
 | none=>ev
abbrev Acc:=List Foot
def roL (H:AH):List Nat→Bool
 | []=>true
 | id :: r=>livesAt H id && roL H r
def roA (H:AH):Acc→Bool
 | []=>true
 | (_,_,_,ro) :: r=>roL H ro && roA H r
def roOK (dyn:Bool)(H:AH)(acc:Acc):Bool:=
 match dyn with
 | true=>roA H acc
 | false=>true
theorem roOK_false {H:AH}{acc:Acc}:roOK false H acc=true:=(rfl)
theorem roOK_true {H:AH}{acc:Acc}:roOK true H acc=roA H acc:=(rfl)
theorem roL_nil {H:AH}:roL H []=true:=(rfl)
theorem roA_nil {H:AH}:roA H []=true:=(rfl)
theorem roA_skip {H:AH}{a b c:List Nat}{r:Acc}:roA H ((a,b,c,[]) :: r)=roA H r:=by simp [roA,roL]
theorem roA_cons {H:AH}{a b c d:List Nat}{r:Acc}:roA H ((a,b,c,d) :: r)=(roL H d && roA H r):=(rfl)
theorem roL_cons {H:AH}{id:Nat}{r:List Nat}:roL H (id :: r)=(livesAt H id && roL H r):=(rfl)
theorem livesAt_eq {H:AH}{id:Nat}:livesAt H id=livesO H[id]?:=(rfl)
theorem livesO_arr {e:TypeId}{sz:Nat}{vs:List AV}:livesO (some (.arr e sz vs))=true:=(rfl)
theorem livesO_mp {es:List (AV×AV)}:livesO (some (.mp es))=true:=(rfl)
def gw (ops:Array Oper)(ev:AEnv)(o:Oper):Option (Option Bool):=
 match o.guard with
 | none=>some none
 | some (j,wt)=>match dstOf ops j with
  | some t=>match look t ev with
   | .bool b=>some (some (if wt then b else !b))
   | .undef=>some (some false)
   | .cond g (.bool b)=>some (some (g && (if wt then b else !b)))
   | _=>none
  | none=>none
def sameK (V:AV)(H:AH):HK:=fun V' H1 new _ wr=>V'=V∧H1=H∧new=[]∧wr=[]
def justK (dyn:Bool)(V:AV)(H:AH)(m:Foot)(H0:AH):HK:=fun V' H1 new fp wr=>V'=V∧H1=H∧(dyn=true→(new,fp,wr)=(m.1,m.2.1,m.2.2.1 ++ m.2.2.2)∧sameL H H0 m.2.2.2)
def chk (P:Program)(C:Ctr)(dyn:Bool)(ev:AEnv)(H:AH)(o:Oper):Prop:=
 match o.op with
 | .pick c a b=>pickC ev c a b
 | _=>oneK P C ev H o (justK dyn (valV P C ev H o) (heapV P C ev H o) (footV P C ev H o) H)
def mergeK (P:Program)(C:Ctr)(ev:AEnv)(H:AH)(o:Oper):Prop:=
 condsL ev o.op.operands.toList∧oneK P C (stripE ev) H o (sameK (valV P C (stripE ev) H o) H)
def gsel (g:Option (Option Bool))(a:Prop)(b:Bool→Prop):Prop:=
 match g with
 | none=>False
 | some none=>a
 | some (some w)=>b w
def gkind (mrg:Bool)(o:Oper):Nat:=
 match o.op with
 | .pick _ _ _=>0
 | _=>if mrg && mergeable o then 1 else 2
def ksel (k:Nat)(a b c:Prop):Prop:=
 match k with
 | 0=>a
 | 1=>b
 | _=>c
def pickO (ev:AEnv)(o:Oper):Prop:=
 match o.op with
 | .pick c a b=>pickC ev c a b
 | _=>False
def mkG {α:Type}(x:α):α:=x
theorem mkG_eq {α:Type}(x:α):mkG x=x:=(rfl)
def mark (ev:AEnv):AEnv:=ev
theorem mark_eq (ev:AEnv):mark ev=ev:=(rfl)
def runOps (P:Program)(C:Ctr)(mrg dyn:Bool)(ops:Array Oper):List Oper→AEnv→AH→Acc→(AEnv→AH→Acc→Prop)→Prop
 | [],ev,H,acc,K=>roOK dyn H acc=true∧K ev H acc
 | o :: r,ev,H,acc,K=>roOK dyn H acc=true∧gsel (mkG (gw ops ev o))
  (chk P C dyn ev H o∧runOps P C mrg dyn ops r (mark (stepEv o (valV P C ev H o) ev)) (heapV P C ev H o) (footV P C ev H o :: acc) K)
  fun w=>ksel (mkG (gkind mrg o))
   ((w=true→pickO ev o)∧runOps P C mrg dyn ops r (mark (stepEv o (.cond w (valV P C ev H o)) ev)) H (([],[],[],[]) :: acc) K)
   ((w=true→mergeK P C ev H o)∧runOps P C mrg dyn ops r (mark (stepEv o (.cond w (valV P C (stripE ev) H o)) ev)) H (([],[],[],[]) :: acc) K)
   ((w=true→chk P C dyn ev H o∧runOps P C mrg dyn ops r (mark (stepEv o (valV P C ev H o) ev)) (heapV P C ev H o) (footV P C ev H o :: acc) K)∧
     (w=false→runOps P C mrg dyn ops r (mark (stepEv o .undef ev)) H (([],[],[],[]) :: acc) K))
def GuardOK (ops:Array Oper)(ev:AEnv)(o:Oper)(want:Bool):Prop:=
 match o.guard with
 | none=>want=true
 | some (j,wt)=>∃t,dstOf ops j=some t∧((∃b,look t ev= .bool b∧want=(b == wt))∨(look t ev= .undef∧want=false)∨(∃g b,look t ev= .cond g (.bool b)∧want=(g && (b == wt))))
theorem gw_none {ops:Array Oper}{ev:AEnv}{o:Oper}(h:gw ops ev o=some none):GuardOK ops ev o true:=by
 unfold gw at h
 unfold GuardOK
 split at h
 ·rfl
 ·split at h
  ·split at h <;> cases h
  ·cases h
theorem gw_some {ops:Array Oper}{ev:AEnv}{o:Oper}{w:Bool}(h:gw ops ev o=some (some w)):GuardOK ops ev o w:=by
 unfold gw at h
 unfold GuardOK
 split at h
 ·cases h
 ·next j wt hg=>
  split at h
  ·next t ht=>
   refine⟨t,ht,?_⟩
   split at h
   ·next b hb=>cases h;exact .inl ⟨b,hb,by cases b <;> cases wt <;> rfl⟩
   ·next hb=>cases h;exact .inr (.inl ⟨hb,rfl⟩)
   ·next g b hb=>cases h;exact .inr (.inr ⟨g,b,hb,by cases b <;> cases wt <;> rfl⟩)
   ·cases h
  ·cases h
def EntOK (P:Program)(pu:Prop)(ops:Array Oper)(ev:AEnv)(H:AH)(o:Oper)(e:Ent):Prop:=
 GuardOK ops ev o e.want∧OneOK P ev H o e∧(pu→memOp o=false→e.heap=false)∧(pu→wrOp P o=false→e.wr=[])
def evAt:List Oper→List Ent→AEnv→Nat→AEnv
 | o :: l,e :: tr,ev,i+1=>evAt l tr (stepEv o e.V ev) i
 | _,_,ev,_=>ev
def hAt:List Ent→AH→Nat→AH
 | e :: tr,_,i+1=>hAt tr e.H1 i
 | _,H,_=>H
structure RunOK (P:Program) (pu:Prop) (ops:Array Oper) (l:List Oper) (ev:AEnv) (H:AH) (tr:List Ent):Prop where
 len:tr.length=l.length
 ro:∀(i:Nat) e,tr[i]? =some e→∀id∈e.ro,∀k,i<k→k≤tr.length→livesAt (hAt tr H k) id=true
 at_:∀(i:Nat) o,l[i]? =some o→∃e,tr[i]? =some e∧EntOK P pu ops (evAt l tr ev i) (hAt tr H i) o e∧hAt tr H (i+1)=e.H1∧evAt l tr ev (i+1)=stepEv o e.V (evAt l tr ev i)
def accOf (tr:List Ent)(acc:Acc):Acc:=(tr.map fun e=>(e.new,e.fp,e.wr,e.ro)).reverse ++ acc
theorem runOK_cons {P:Program}{pu:Prop}{ops:Array Oper}{o:Oper}{l:List Oper}{ev:AEnv}{H:AH}{e:Ent}{tr:List Ent}(he:EntOK P pu ops ev H o e)
 (h:RunOK P pu ops l (stepEv o e.V ev) e.H1 tr) (hro:∀id∈e.ro,∀k,k≤tr.length→livesAt (hAt tr e.H1 k) id=true):RunOK P pu ops (o :: l) ev H (e :: tr):=by
 refine⟨by simp [h.len],fun i e' he' id hid k hik hk=>?_,fun i o' ho=>?_⟩
 ·obtain⟨k,rfl⟩:∃k',k=k'+1:=⟨k - 1,by omega⟩
  simp only[hAt]
  cases i with
  | zero=>simp at he';subst he';exact hro id hid k (by simpa using hk)
  | succ i=>exact h.ro i e' (by simpa using he') id hid k (by omega) (by simpa using hk)
 cases i with
 | zero=>simp at ho;subst ho;exact⟨e,rfl,he,by cases tr <;> rfl,by cases l <;> cases tr <;> rfl⟩
 | succ i=>
  obtain⟨e',h1,h2,h3,h4⟩:=h.at_ i o' (by simpa using ho)
  exact⟨e',by simpa using h1,h2,h3,h4⟩
theorem chk_sound {P:Program}{C:Ctr}(hC:CtrOK P C){dyn:Bool}{ev:AEnv}{H:AH}{o:Oper}(h:chk P C dyn ev H o) :
 ∃e:Ent,e.want=true∧OneOK P ev H o e∧e.V=valV P C ev H o∧e.H1=heapV P C ev H o∧(dyn=true→(e.new,e.fp,e.wr,e.ro)=footV P C ev H o)∧(dyn=false→e.ro=[])∧(memOp o=false→e.heap=false)∧(purC C→wrOp P o=false→e.wr=[]):=by
 unfold chk at h
 split at h
 ·next c a b hop=>
  refine⟨⟨false,true,pickV ev c a b,[],[],[],H,[]⟩,rfl,⟨pick_pure hop h,rfl,rfl,rfl,rfl,rfl⟩,by simp [valV,hop],by simp [heapV,hop],fun _=>by simp [footV,hop],fun _=>rfl,fun _=>rfl,fun _ _=>rfl⟩
 ·obtain⟨e,h1,h0,h2,⟨h3,h4,h5⟩,h6,h7⟩:=oneK_sound hC h
  cases dyn with
  | false=>exact⟨e,h1,h2,h3,h4,fun h=>(by cases h),fun _=>h0,h6,h7⟩
  | true=>
   obtain⟨h5,h8⟩:=h5 rfl
   generalize hm:footV P C ev H o=m at h5 h8
   obtain⟨m1,m2,m3,m4⟩:=m
   simp only[Prod.mk.injEq] at h5 h8
   obtain⟨g1,g2,g3⟩:=h5
   refine⟨{ e with wr:=m3,ro:=m4 },h1,?_,h3,h4,fun _=>by simp only[g1,g2],fun h=>(by cases h),h6,fun a b=>?_⟩
   ·have hs:=sameL_mem h8
    unfold OneOK at h2 ⊢
    simp only[h1] at h2 ⊢
    cases hh:e.heap <;> rw[hh] at h2 <;> simp only at h2 ⊢
    ·obtain⟨k1,k2,k3,k4,k5,_⟩:=h2
     rw[k5] at g3
     have:=Qc.1 g3.symm
     exact⟨k1,k2,k3,k4,this.1,this.2⟩
    ·rw[h0,List.append_nil,g3] at h2
     exact⟨h2.1,h2.2.1,fun id hid=>by rw[h4];exact hs id hid⟩
   ·have:=h7 a b
    rw[g3] at this
    exact(Qc.1 this).1
theorem roL_mem {H:AH}:∀{l:List Nat},roL H l=true→∀id∈l,livesAt H id=true:=by
 intro l
 induction l with
 | nil=>intro _ id h;simp at h
 | cons x l ih=>
  intro h id hid
  simp only[roL,Qb] at h
  rcases Qa.1 hid with rfl | hid
  ·exact h.1
  ·exact ih h.2 id hid
theorem roA_mem {H:AH}:∀{acc:Acc},roA H acc=true→∀m∈acc,∀id∈m.2.2.2,livesAt H id=true:=by
 intro acc
 induction acc with
 | nil=>intro _ m h;simp at h
 | cons x l ih=>
  intro h m hm
  obtain⟨a,b,c,d⟩:=x
  simp only[roA,Qb] at h
  rcases Qa.1 hm with rfl | hm
  ·exact roL_mem h.1
  ·exact ih h.2 m hm
theorem runOps_sound {P:Program}{C:Ctr}(hC:CtrOK P C){mrg dyn:Bool}(hmd:dyn=true→mrg=false){ops:Array Oper}:∀(l:List Oper)(ev:AEnv)(H:AH)(acc:Acc)(K:AEnv→AH→Acc→Prop),
 runOps P C mrg dyn ops l ev H acc K→∃tr acc',RunOK P (purC C) ops l ev H tr∧(dyn=true→acc'=accOf tr acc)∧(dyn=true→∀m∈acc,∀id∈m.2.2.2,∀k,k≤tr.length→livesAt (hAt tr H k) id=true)∧K (evAt l tr ev l.length) (hAt tr H l.length) acc':=by
 intro l
 induction l with
 | nil=>
  intro ev H acc K h
  refine⟨[],acc,⟨rfl,fun i e he=>by simp at he,fun i o ho=>by simp at ho⟩,fun _=>rfl,fun hd m hm id hid k hk=>?_,h.2⟩
  have h1:=h.1
  rw[hd] at h1
  simp only[List.length_nil,Nat.le_zero] at hk
  subst hk
  exact roA_mem h1 m hm id hid
 | cons o r ih=>
  intro ev H acc K h
  unfold runOps at h
  obtain⟨hroA,h⟩:=h
  have step:∀(e:Ent) (x:Foot),EntOK P (purC C) ops ev H o e→(dyn=true→x=(e.new,e.fp,e.wr,e.ro))→(dyn=false→e.ro=[])→runOps P C mrg dyn ops r (stepEv o e.V ev) e.H1 (x :: acc) K→
   ∃tr acc',RunOK P (purC C) ops (o :: r) ev H tr∧(dyn=true→acc'=accOf tr acc)∧(dyn=true→∀m∈acc,∀id∈m.2.2.2,∀k,k≤tr.length→livesAt (hAt tr H k) id=true)∧K (evAt (o :: r) tr ev (r.length+1)) (hAt tr H (r.length+1)) acc':=by
   intro e x he hx hx0 h
   obtain⟨tr,acc',h6,h8,h9,h7⟩:=ih _ _ _ _ h
   refine⟨e :: tr,acc',runOK_cons he h6 fun id hid k hk=>?_,fun hm=>by rw[h8 hm,hx hm];simp [accOf],fun hd m hm id hid k hk=>?_,h7⟩
   ·cases hd:dyn with
    | false=>rw[hx0 hd] at hid;simp at hid
    | true=>exact h9 hd x (by simp) id (by rw[hx hd];exact hid) k hk
   ·cases k with
    | zero=>
     rw[hd] at hroA
     exact roA_mem hroA m hm id hid
    | succ k=>exact h9 hd m (by simp [hm]) id hid k (by simpa using hk)
  have yes:(chk P C dyn ev H o∧runOps P C mrg dyn ops r (stepEv o (valV P C ev H o) ev) (heapV P C ev H o) (footV P C ev H o :: acc) K)→GuardOK ops ev o true→
   ∃tr acc',RunOK P (purC C) ops (o :: r) ev H tr∧(dyn=true→acc'=accOf tr acc)∧(dyn=true→∀m∈acc,∀id∈m.2.2.2,∀k,k≤tr.length→livesAt (hAt tr H k) id=true)∧K (evAt (o :: r) tr ev (r.length+1)) (hAt tr H (r.length+1)) acc':=by
   rintro⟨hc,h⟩ hg
   obtain⟨e,h1,h2,h3,h4,h5,h5',h6,h7⟩:=chk_sound hC hc
   exact step e _ ⟨by rw[h1];exact hg,h2,fun _=>h6,h7⟩ (fun hd=>(h5 hd).symm) h5' (by rw[h3,h4];exact h)
  have no:∀V,(∀E,VR E V Go.undef)→runOps P C mrg dyn ops r (stepEv o V ev) H (([],[],[],[]) :: acc) K→GuardOK ops ev o false→
   ∃tr acc',RunOK P (purC C) ops (o :: r) ev H tr∧(dyn=true→acc'=accOf tr acc)∧(dyn=true→∀m∈acc,∀id∈m.2.2.2,∀k,k≤tr.length→livesAt (hAt tr H k) id=true)∧K (evAt (o :: r) tr ev (r.length+1)) (hAt tr H (r.length+1)) acc':=by
   intro V hV h hg
   exact step ⟨false,false,V,[],[],[],H,[]⟩ _ ⟨hg,⟨hV,rfl,rfl,rfl,rfl,rfl⟩,fun _ _=>rfl,fun _ _=>rfl⟩ (fun _=>rfl) (fun _=>rfl) h
  simp only[List.length_cons]
  simp only[mark,mkG] at h
  unfold gsel at h
  split at h
  ·exact h.elim
  ·next hg=>exact yes h (gw_none hg)
  ·next w hg=>
   have hg:=gw_some hg
   unfold ksel at h
   split at h
   ·cases w with
    | false=>exact no _ (fun E=> .condF _) h.2 hg
    | true=>
     have hp:=h.1 rfl
     unfold pickO at hp
     split at hp
     ·next c a b hop=>
      have hV:valV P C ev H o=pickV ev c a b:=by simp [valV,hop]
      exact step ⟨false,true,.cond true (pickV ev c a b),[],[],[],H,[]⟩ ([],[],[],[]) ⟨hg,⟨(pick_pure hop hp).mono (fun _ _ h=>h) (fun _ _ h=> .condT _ _ h),rfl,rfl,rfl,rfl,rfl⟩,fun _ _=>rfl,fun _ _=>rfl⟩ (fun _=>rfl) (fun _=>rfl) (by rw[←hV];exact h.2)
     ·exact hp.elim
   ·next hk=>
    have hmrg:mrg=true:=by
     unfold gkind at hk
     split at hk
     ·cases hk
     ·split at hk
      ·next hm=>simp only[Qb] at hm;exact hm.1
      ·cases hk
    cases w with
    | false=>exact no _ (fun E=> .condF _) h.2 hg
    | true=>
     obtain⟨hc,h1⟩:=h.1 rfl
     obtain⟨e,a1,a0,a2,⟨a3,a4,a5,a6⟩,a7,a8⟩:=oneK_sound hC h1
     refine step { e with V:= .cond true e.V } ([],[],[],[]) ⟨by simp only[a1];exact hg,a2.strip a1 hc,fun _=>a7,a8⟩ (fun hd=>by have:=hmd hd;rw[hmrg] at this;cases this) (fun _=>a0) ?_
     simp only[a3,a4]
     exact h.2
   ·cases w with
    | true=>exact yes (h.1 rfl) hg
    | false=>exact no _ (fun E=> .undef) (h.2 rfl) hg
end Go.Pg
