/- Pg: abstract values, what operations, regions, calls come to on them. -/
import Derived.Test.YtjbgnnggmngpcaaGreatDoorPgCode
set_option linter.unusedVariables false
set_option linter.unusedSimpArgs false
set_option linter.unusedSectionVars false
open List renaming getElem?_eq_some_iff → Qa,mem_iff_getElem? → Qc,getElem?_eq_getElem → Qd,mem_append → Qe,mem_cons → Qg,range' → Qh,mem_of_getElem? → Qj,map_cons → Qk,range → Ql,length_cons → Qm
open Bool renaming and_eq_true → Qb
open Array renaming getD_eq_getD_getElem? → Qf
open Option renaming map_eq_some_iff → Qi
namespace Go.Pg
open Go
variable [Syms]
inductive Er (α:Type) where
 | ok (a:α)
 | no (w:List (Nat×Nat))
def Er.bind {α β:Type}(x:Er α)(f:α→Er β):Er β:=match x with
 | .ok a=>f a
 | .no w=> .no w
def Er.tag {α:Type}(p:Nat×Nat)(x:Er α):Er α:=match x with
 | .ok a=> .ok a
 | .no w=> .no (p :: w)
def intO (op:BinOp)(k:IntKind)(a b:Int):Option AV:=
 match op with
 | .add=>some (.int k (k.wrap (a+b)))
 | .sub=>some (.int k (k.wrap (a - b)))
 | .mul=>some (.int k (k.wrap (a * b)))
 | .quo=>if b=0 then none else some (.int k (k.wrap (a.tdiv b)))
 | .rem=>if b=0 then none else some (.int k (a.tmod b))
 | .eql=>some (.bool (a == b))
 | .neq=>some (.bool (a !=b))
 | .lss=>some (.bool (decide (a<b)))
 | .leq=>some (.bool (decide (a≤b)))
 | .gtr=>some (.bool (decide (a > b)))
 | .geq=>some (.bool (decide (a≥b)))
 | .shr=>if 0≤b then some (.int k (a.fdiv (2 ^ (min b.toNat k.bits)))) else none
 | .shl=>if 0≤b then some (.int k (k.wrap (a * 2 ^ (min b.toNat k.bits)))) else none
 | .and=>some (.int k (k.wrap (BitVec.ofInt k.bits a &&& BitVec.ofInt k.bits b).toNat))
 | .xor=>some (.int k (k.wrap (BitVec.ofInt k.bits a ^^^ BitVec.ofInt k.bits b).toNat))
 | _=>none
def strO (op:BinOp)(a b:List UInt8):Option AV:=
 match op with
 | .add=>if a.length+b.length≤9223372036854775807 then some (.str (a ++ b)) else none
 | .eql=>some (.bool (a == b))
 | .neq=>some (.bool (!(a == b)))
 | .lss=>some (.bool (Op.bytesLess a b))
 | _=>none
def eqO (op:BinOp)(e:Bool):Option AV:=
 match op with
 | .eql=>some (.bool e)
 | .neq=>some (.bool (!e))
 | _=>none
def sliceT (P:Program)(t:TypeId):Bool:=
 match P.underlying t with
 | some (.slice _)=>true
 | _=>false
def binO (P:Program)(op:BinOp)(t:TypeId)(x y:AV):Option AV:=
 match x,y with
 | .int k a,.int k' b=>if k=k' then intO op k a b else(match op with
  | .shl=>intO op k a b
  | .shr=>intO op k a b
  | _=>none)
 | .str a,.str b=>strO op a b
 | .bool a,.bool b=>match tk P t with
  | .bool=>eqO op (a == b)
  | _=>none
 | .agg as,.agg bs=>match tk P t,eqK P t with
  | .struct _ _,some ks=>match cellsEq ks as bs with
   | some e=>eqO op e
   | none=>none
  | _,_=>none
 | .fn _ _,.nfn=>if funcT P t=true then eqO op false else none
 | .nfn,.nfn=>if funcT P t=true then eqO op true else none
 | .ptr _ _ _ _ _,.npt=>if ptrT P t=true then eqO op false else none
 | .npt,.npt=>if ptrT P t=true then eqO op true else none
 | _,_=>none
def sliceSO (x:AV)(lo hi mx:Option AV):Option AV:=
 match x,lo,hi,mx with
 | .str s,none,none,none=>some (.str s)
 | .str s,some (.int _ l),none,none=>if 0≤l∧l≤s.length then some (.str (s.drop l.toNat)) else none
 | .str s,none,some (.int _ h),none=>if 0≤h∧h≤s.length then some (.str (s.take h.toNat)) else none
 | .str s,some (.int _ l),some (.int _ h),none=>if 0≤l∧l≤h∧h≤s.length then some (.str (cutL s l.toNat h.toNat)) else none
 | _,_,_,_=>none
def sliceLO (sz:Nat)(x:AV)(lo hi mx:Option AV):Option AV:=
 match x,lo,hi,mx with
 | .sl z s,none,none,none=>if z=sz then some (.sl z s) else none
 | .sl z s,some (.int _ l),none,none=>if z=sz∧0≤l∧l≤s.length then some (.sl z (s.drop l.toNat)) else none
 | .sl z s,none,some (.int _ h),none=>if z=sz∧0≤h∧h≤s.length then some (.sl z (s.take h.toNat)) else none
 | .sl z s,some (.int _ l),some (.int _ h),none=>if z=sz∧0≤l∧l≤h∧h≤s.length then some (.sl z (cutL s l.toNat h.toNat)) else none
 | .sl z s,none,some (.int _ h),some (.int _ m)=>if z=sz∧0≤h∧h=m∧h≤s.length then some (.slc z (s.take h.toNat)) else none
 | .slc z s,none,none,none=>if z=sz then some (.slc z s) else none
 | .slc z s,some (.int _ l),none,none=>if z=sz∧0≤l∧l≤s.length then some (.slc z (s.drop l.toNat)) else none
 | .slc z s,none,some (.int _ h),none=>if z=sz∧0≤h∧h≤s.length then some (.sl z (s.take h.toNat)) else none
 | .slc z s,some (.int _ l),some (.int _ h),none=>if z=sz∧0≤l∧l≤h∧h≤s.length then some (.sl z (cutL s l.toNat h.toNat)) else none
 | .slc z s,none,some (.int _ h),some (.int _ m)=>if z=sz∧0≤h∧h=m∧h≤s.length then some (.slc z (s.take h.toNat)) else none
 | _,_,_,_=>none
def pureO (P:Program)(ev:AEnv)(o:Oper):Option AV:=
 match o.op with
 | .move x=>some (opnd ev x)
 | .assign x=>some (opnd ev x)
 | .pick c a b=>match opnd ev c with
  | .bool c=>some (if c then opnd ev a else opnd ev b)
  | _=>none
 | .unOp op _ x=>match op,opnd ev x with
  | .not,.bool b=>some (.bool (!b))
  | .neg,.int k n=>some (.int k (k.wrap (0 - n)))
  | _,_=>none
 | .binOp op t x y _=>binO P op t (opnd ev x) (opnd ev y)
 | .fieldAddr s x f=>match tk P s,opnd ev x with
  | .struct _ offs,.ptr id sz len idx off=>match offs[f]? with
   | some (some (o,_))=>some (.ptr id sz len idx (off+o))
   | _=>none
  | .struct _ offs,.rp cs=>match offs[f]? with
   | some (some (o,_))=>some (.rp (cs.drop o))
   | _=>none
  | _,_=>none
 | .indexAddr t x i=>match tk P t,opnd ev x,opnd ev i with
  | .slice e sz,.sl z vs,.int _ n=>if 0≤n∧n.toNat<vs.length∧z=sz then some (.rp (vs.getD n.toNat (dz P e)).cells) else none
  | .slice e sz,.slc z vs,.int _ n=>if 0≤n∧n.toNat<vs.length∧z=sz then some (.rp (vs.getD n.toNat (dz P e)).cells) else none
  | .slice _ sz,.own id sz' len,.int _ n=>if sz=sz'∧0≤n∧n<len then some (.ptr id sz len n.toNat 0) else none
  | .arr m _ sz _,.ptr id z len idx off,.int _ n=>if 0≤n∧n<m then some (.ptr id z len idx (off+n.toNat * sz)) else none
  | .arr m _ sz _,.rp cs,.int _ n=>if 0≤n∧n<m then some (.rp (cs.drop (n.toNat * sz))) else none
  | _,_,_=>none
 | .index t x i=>match tk P t,opnd ev x,opnd ev i with
  | .str,.str s,.int _ n=>if 0≤n∧n.toNat<s.length then some (.int .u8 (s.getD n.toNat 0).toNat) else none
  | _,_,_=>none
 | .extract t ix=>match opnd ev t with
  | .tuple vs=>vs[ix]?
  | _=>none
 | .field t x i=>match leafField P t i,opnd ev x with
  | some o,.agg vs=>vs[o]?
  | _,_=>none
 | .build t parts=>match tk P t,tz P t with
  | .struct n offs,.agg zs=>if zs.length=n∧offs.all Option.isSome=true then(buildL offs (parts.toList.map fun p=>(p.1,opnd ev p.2)) zs).map .agg else none
  | .arr m _ sz _,.agg zs=>if zs.length=m * sz then(buildL (arrPlaces m sz) (parts.toList.map fun p=>(p.1,opnd ev p.2)) zs).map .agg else none
  | _,_=>none
 | .slice t x lo hi mx=>match tk P t with
  | .str=>sliceSO (opnd ev x) (lo.map (opnd ev)) (hi.map (opnd ev)) (mx.map (opnd ev))
  | .slice _ sz=>sliceLO sz (opnd ev x) (lo.map (opnd ev)) (hi.map (opnd ev)) (mx.map (opnd ev))
  | _=>none
 | .makeFunc fn first cap=>match fn with
  | .func f=>if first.size=0 then some (.fn f (cap.toList.map (opnd ev))) else none
  | _=>none
 | .nilCheck x=>match opnd ev x with
  | .ptr id sz len idx off=>some (.ptr id sz len idx off)
  | .rp cs=>some (.rp cs)
  | _=>none
 | .convert src dst x=>match tk P src,tk P dst,opnd ev x with
  | .other,_,_=>none
  | _,.int k,.int _ n=>some (.int k (k.wrap n))
  | _,.str,.str s=>some (.str s)
  | _,_,_=>none
 | .call { callee:= .builtin b,args,argTypes }=>match b with
  | .len=>match args.toList,argTypes.toList with
   | [x],[t]=>match tk P t,opnd ev x with
    | .str,.str s=>some (.int .i64 s.length)
    | .slice _ _,y=>(slen y).map fun(n:Nat)=>AV.int .i64 (n:Int)
    | .arr n _ _ _,_=>some (.int .i64 n)
    | _,_=>none
   | _,_=>none
  | .min=>match args.toList.map (opnd ev) with
   | .int k a :: r=>(foldInts min k a r).map (.int k)
   | _=>none
  | .max=>match args.toList.map (opnd ev) with
   | .int k a :: r=>(foldInts max k a r).map (.int k)
   | _=>none
  | _=>none
 | _=>none
abbrev HV:=AV×AH×List Nat×List Nat×List Nat
def appO (H:AH)(e:TypeId)(sz by_:Nat)(d:AV)(new:List AV)(fp:List Nat):Option HV:=
 match d with
 | .own id z len=>match H[id]? with
  | some (.arr e' z' vs)=>if z=sz∧z'=sz∧e'=e∧vs.length=len∧fp.contains id=false∧new.all AV.leafy=true∧(len+new.length) * by_≤140737488355328 then
   some (.own id sz (len+new.length),H.set id (.arr e sz (vs ++ new)),[],id :: fp,[id]) else none
  | _=>none
 | .nls=>if new.length * by_≤140737488355328 then some (.own H.length sz new.length,H ++ [.arr e sz new],[H.length],fp,[]) else none
 | .slc z vs=>match new with
  | _ :: _=>if z=sz∧(vs.length+new.length) * by_≤140737488355328 then some (.own H.length sz (vs.length+new.length),H ++ [.arr e sz (vs ++ new)],[H.length],fp,[]) else none
  | []=>none
 | _=>none
def heapO (P:Program)(ev:AEnv)(H:AH)(o:Oper):Option HV:=
 match o.op with
 | .load t x=>match opnd ev x with
  | .rp cs=>(ldCells P t cs 0).map fun v=>(v,H,[],[],[])
  | .ptr id sz len idx off=>match objAt H id with
   | some (e,sz',vs)=>if sz'=sz∧vs.length=len∧idx<vs.length then(ldCells P t (vs.getD idx (dz P e)).cells off).map fun v=>(v,H,[],[id],[]) else none
   | none=>none
  | _=>none
 | .box t x=>if(opnd ev x).definite=true then some (.ptr H.length (opnd ev x).cells.length 1 0 0,H ++ [.arr t (opnd ev x).cells.length [opnd ev x]],[H.length],[],[]) else none
 | .alloc t=>if(tz P t).definite=true then some (.ptr H.length (tz P t).cells.length 1 0 0,H ++ [.arr t (tz P t).cells.length [tz P t]],[H.length],[],[]) else none
 | .store t a x=>match opnd ev a,(tk P t).cells with
  | .ptr id sz len idx off,some (_,n)=>match H[id]? with
   | some (.arr e sz' vs)=>if sz'=sz∧vs.length=len∧idx<vs.length∧(opnd ev x).cells.length=n∧0<n∧off+n≤(vs.getD idx (dz P e)).cells.length∧(opnd ev x).leafy=true then
    some (.undef,H.set id (.arr e sz (vs.set idx (putCells (vs.getD idx (dz P e)) off (opnd ev x)))),[],[id],[id]) else none
   | _=>none
  | _,_=>none
 | .buildSlice t len parts=>match tk P t with
  | .slice e sz=>if(eb P e).isSome=true∧len * sz≤2 ^ 24∧len≤2 ^ 24∧parts.toList.map (·.1)=Ql len∧(parts.toList.all fun p=>(opnd ev p.2).definite && (opnd ev p.2).cells.length == sz)=true then
   some (.own H.length sz len,H ++ [.arr e sz (parts.toList.map fun p=>opnd ev p.2)],[H.length],[],[]) else none
  | _=>none
 | .makeSlice t l c=>match tk P t,opnd ev l,opnd ev c with
  | .slice e sz,.int _ n,.int _ m=>match eb P e with
   | some b=>if n=m∧0≤n∧n * b≤140737488355328∧(tz P e).definite=true∧(tz P e).cells.length=sz then
    some (.own H.length sz n.toNat,H ++ [.arr e sz (List.replicate n.toNat (tz P e))],[H.length],[],[]) else none
   | none=>none
  | _,_,_=>none
 | .convert src dst x=>match tk P src,tk P dst,opnd ev x with
  | .str,.slice e sz,.str s=>match tk P e with
   | .int .u8=>if sz=1∧(e == 3)=false∧s.length≤140737488355328 then some (.own H.length 1 s.length,H ++ [.arr e 1 (ofBytes s)],[H.length],[],[]) else none
   | _=>none
  | .slice e _,.str,.nls=>match tk P e with
   | .int .u8=>some (.str [],H,[],[],[])
   | _=>none
  | .slice e _,.str,y=>match tk P e,srcV H y with
   | .int .u8,some (z,vs,fp)=>if z=1 then(bytesOf vs).map fun bs=>(.str bs,H,[],fp,[]) else none
   | _,_=>none
  | .slice e sz,.slice _ _,.own id z n=>match tk P e with
   | .int .u8=>match H[id]? with
    | some (.arr e' sz' vs)=>if src=dst∧sz=1∧(e == 3)=false∧0<n∧e'=e∧sz'=1∧vs.length=n∧z=1 then some (.own id z n,H.set id (.arr e' sz' vs),[],[id],[id]) else none
    | _=>none
   | _=>none
  | _,_,_=>none
 | .slice t x lo hi mx=>match tk P t,opnd ev x,lo,hi,mx with
  | .slice _ sz,.own id z len,none,none,none=>if z=sz then some (.own id z len,H,[],[],[]) else none
  | _,_,_,_,_=>none
 | .call { callee:= .builtin .append,args,argTypes }=>match args.toList,argTypes.toList with
  | [s,x],[t,t']=>match tk P t with
   | .slice e sz=>match eb P e,srcE P H t' sz (opnd ev x) with
    | some b,some (new,fp)=>appO H e sz b (opnd ev s) new fp
    | _,_=>none
   | _=>none
  | _,_=>none
 | _=>none
def sliceOwnO (P:Program)(kill:Bool)(ev:AEnv)(H:AH)(o:Oper):Option HV:=
 match o.op with
 | .slice t x none (some hi) none=>match tk P t,opnd ev x,opnd ev hi with
  | .slice _ sz,.own id z len,.int _ n=>match H[id]? with
   | some (.arr e z' vs)=>if kill=true∧z=sz∧z'=z∧vs.length=len∧0≤n∧n≤len then some (.own H.length z n.toNat,H.set id .dead ++ [.arr e z (vs.take n.toNat)],[H.length],[id],[id]) else none
   | _=>none
  | _,_,_=>none
 | .slice t x none none none=>match tk P t,opnd ev x with
  | .slice _ sz,.own id z len=>if z=sz then some (.own id z len,H,[],[],[]) else none
  | _,_=>none
 | _=>none
def newP (P:Program)(ev:AEnv)(o:Oper):Option AV:=
 match o.op with
 | .binOp op t x y _=>match opnd ev x,opnd ev y with
  | .nls,.nls=>if sliceT P t=true then eqO op true else none
  | .own _ _ n,.nls=>if sliceT P t=true∧0<n then eqO op false else none
  | .sl sz (v :: _),.nls=>if sliceT P t=true∧0<sz∧v.cells.length=sz then eqO op false else none
  | _,_=>none
 | .slice t x (some lo) none none=>match opnd ev x,opnd ev lo,tk P t with
  | .nls,.int _ 0,.slice _ _=>some .nls
  | _,_,_=>none
 | .makeFunc (.func f) first cap=>if first.size≠0∧cap.size=0 then some (.mth f (first.toList.map (opnd ev))) else none
 | .call { callee:= .builtin .len,args,argTypes }=>match args.toList,argTypes.toList with
  | [x],[t]=>match opnd ev x with
   | .win _ _ _ _ n=>if sliceT P t=true then some (.int .i64 n) else none
   | _=>none
  | _,_=>none
 | _=>none
def newH (P:Program)(kill:Bool)(ev:AEnv)(H:AH)(o:Oper):Option HV:=
 match o.op with
 | .indexAddr t x i=>match opnd ev x with
  | .win id z tot off len=>match tk P t,opnd ev i with
   | .slice _ sz,.int _ n=>if sz=z∧0≤n∧n<len∧hlOf H id=some tot then some (.ptr id z tot (off+n.toNat) 0,H,[],[id],[]) else none
   | _,_=>none
  | _=>none
 | .binOp op t x y _=>match opnd ev x with
  | .win id _ tot _ n=>match opnd ev y with
   | .nls=>if sliceT P t=true∧0<n∧hlOf H id=some tot then(eqO op false).map fun v=>(v,H,[],[id],[]) else none
   | _=>none
  | _=>none
 | .slice t x lo hi none=>match opnd ev x with
  | .own id z len=>match kill,tk P t,lo,hi with
   | false,.slice _ sz,none,some hi=>match opnd ev hi with
    | .int _ b=>if z=sz∧hlOf H id=some len∧0≤b∧b≤len then some (.win id z len 0 b.toNat,H,[],[id],[]) else none
    | _=>none
   | _,.slice _ sz,some lo,some hi=>match opnd ev lo,opnd ev hi with
    | .int _ a,.int _ b=>if z=sz∧hlOf H id=some len∧0≤a∧a≤b∧b≤len then some (.win id z len a.toNat (b.toNat - a.toNat),H,[],[id],[]) else none
    | _,_=>none
   | _,.slice _ sz,some lo,none=>match opnd ev lo with
    | .int _ a=>if z=sz∧hlOf H id=some len∧0≤a∧a≤len then some (.win id z len a.toNat (len - a.toNat),H,[],[id],[]) else none
    | _=>none
   | _,_,_,_=>none
  | _=>none
 | .mapUpdate t m k x=>match opnd ev m,mapT P t,res8 H (opnd ev x) with
  | .mp id,some (kd,_),some (y,i :: ids)=>match (freeze (i :: ids) H)[id]? with
   | some (.mp es)=>if keysE (kdT kd) es=true∧isKeyA (kdT kd) (opnd ev k)=true then some (.undef,(freeze (i :: ids) H).set id (.mp (setE (opnd ev k) y es)),[],id :: i :: ids,[id]) else none
   | _=>none
  | _,_,_=>none
 | _=>none
def mapO (P:Program)(ev:AEnv)(H:AH)(o:Oper):Option HV:=
 match o.op with
 | .makeMap _ none=>some (.mp H.length,H ++ [.mp []],[H.length],[],[])
 | .lookup t x i ok=>match opnd ev x,mapT P t with
  | .mp id,some (kd,e)=>match mapAt H id with
   | some es=>if keysE (kdT kd) es=true∧isKeyA (kdT kd) (opnd ev i)=true∧(tz P e).definite=true then some (lookV P e (opnd ev i) es ok,H,[],[id],[]) else none
   | none=>none
  | .fm es,some (kd,e)=>if keysE (kdT kd) es=true∧isKeyA (kdT kd) (opnd ev i)=true∧(tz P e).definite=true then some (lookV P e (opnd ev i) es ok,H,[],[],[]) else none
  | _,_=>none
 | .mapUpdate t m k x=>match opnd ev m,mapT P t,res8 H (opnd ev x) with
  | .mp id,some (kd,_),some (y,[])=>match H[id]? with
   | some (.mp es)=>if keysE (kdT kd) es=true∧isKeyA (kdT kd) (opnd ev k)=true then some (.undef,H.set id (.mp (setE (opnd ev k) y es)),[],[id],[id]) else none
   | _=>none
  | _,_,_=>none
 | .insert t m k x=>match opnd ev m,mapT P t,res8 H (opnd ev x) with
  | .mp id,some (kd,_),some (y,[])=>match H[id]? with
   | some (.mp es)=>if keysE (kdT kd) es=true∧isKeyA (kdT kd) (opnd ev k)=true then some (.undef,H.set id (.mp (setE (opnd ev k) y es)),[],[id],[id]) else none
   | _=>none
  | _,_,_=>none
 | .call { callee:= .builtin .delete,args,argTypes }=>match args.toList,argTypes.toList with
  | [m,k],t :: _=>match opnd ev m,mapT P t with
   | .mp id,some (kd,_)=>match H[id]? with
    | some (.mp es)=>if keysE (kdT kd) es=true∧isKeyA (kdT kd) (opnd ev k)=true then some (.tuple [],H.set id (.mp (delE (opnd ev k) es)),[],[id],[id]) else none
    | _=>none
   | _,_=>none
  | _,_=>none
 | .range t x=>match opnd ev x,mapT P t with
  | .fm es,some _=>some (.it H.length,H ++ [.it none es],[H.length],[],[])
  | .mp id,some _=>match mapAt H id with
   | some es=>some (.it H.length,frzAt H id ++ [.it none es],[H.length],[id],[])
   | none=>none
  | _,_=>none
 | .entry x=>match opnd ev x with
  | .it id=>match H[id]? with
   | some (.it (some (k,v)) es)=>some (.tuple [k,v],H,[],[id],[id])
   | _=>none
  | _=>none
 | _=>none
mutual
def refs:AV→List Nat
 | .agg cs=>refsL cs
 | .tuple cs=>refsL cs
 | .fn _ cs=>refsL cs
 | .own i _ _=>[i]
 | .ptr i _ _ _ _=>[i]
 | .win i _ _ _ _=>[i]
 | .mp i=>[i]
 | .it i=>[i]
 | .ows i _ _=>[i]
 | _=>[]
def refsL:List AV→List Nat
 | []=>[]
 | x :: r=>refs x ++ refsL r
end
def reach (H:AH):Nat→List Nat→List Nat→List Nat
 | 0,_,seen=>seen
 | _,[],seen=>seen
 | n+1,id :: r,seen=>if seen.contains id then reach H n r seen else match H[id]? with
  | some (.arr _ _ vs)=>reach H n (refsL vs ++ r) (seen ++ [id])
  | some (.mp _)=>reach H n r (seen ++ [id])
  | some (.tok _)=>reach H n r (seen ++ [id])
  | _=>reach H n r seen
def posL (a:Nat):List Nat→Nat→Option Nat
 | [],_=>none
 | x :: r,i=>if x=a then some i else posL a r (i+1)
def fixedO:Option AO→Bool
 | some o=>o.fixed
 | none=>false
def fixedIds (H:AH):List Nat:=(Ql H.length).filter fun i=>fixedO H[i]?
def resF (H:AH)(F:List Nat)(x:AV):Option AV:=
 match res8 H x with
 | some (.agg _,_)=>none
 | some (y,ids)=>if ids.all F.contains=true then some y else none
 | none=>none
mutual
def conv (H:AH)(F pick:List Nat):AV→Option AV
 | .top=>some .top
 | .nls=>some .nls
 | .nfn=>some .nfn
 | .npt=>some .npt
 | .yld l=>some (.yld l)
 | .cst v=>some (.cst v)
 | .int k n=>some (.int k n)
 | .bool b=>some (.bool b)
 | .str s=>some (.str s)
 | .sl z vs=>some (.sl z vs)
 | .slc z vs=>some (.slc z vs)
 | .rp cs=>some (.rp cs)
 | .fm es=>some (.fm es)
 | .sym i=>some (.sym i)
 | .agg cs=>match convL H F pick cs with
  | some l=>some (.agg l)
  | none=>none
 | .fn f cs=>match convL H F pick cs with
  | some l=>some (.fn f l)
  | none=>none
 | .own a sz n=>match posL a pick 0 with
  | some i=>some (.own i sz n)
  | none=>resF H F (.own a sz n)
 | .ptr a sz n x o=>match posL a pick 0 with
  | some i=>some (.ptr i sz n x o)
  | none=>resF H F (.ptr a sz n x o)
 | .win a sz t x n=>match posL a pick 0 with
  | some i=>some (.win i sz t x n)
  | none=>none
 | .mp a=>match posL a pick 0 with
  | some i=>some (.mp i)
  | none=>resF H F (.mp a)
 | .ows a sz j=>match posL a pick 0 with
  | some i=>some (.ows i sz j)
  | none=>none
 | .undef=>none
 | .tuple _=>none
 | .it _=>none
 | .mth _ _=>none
 | .cond _ _=>none
def convL (H:AH)(F pick:List Nat):List AV→Option (List AV)
 | []=>some []
 | x :: r=>match conv H F pick x,convL H F pick r with
  | some y,some l=>some (y :: l)
  | _,_=>none
end
def convO (H:AH)(F pick:List Nat)(o:Option AO):Option AO:=
 match o with
 | some (.arr e sz vs)=>match convL H F pick vs with
  | some l=>some (.arr e sz l)
  | none=>none
 | some (.mp es)=>some (.mp es)
 | some (.tok i)=>some (.tok i)
 | _=>none
def convOs (H:AH)(F pick:List Nat):List Nat→Option AH
 | []=>some []
 | a :: r=>match convO H F pick H[a]?,convOs H F pick r with
  | some o,some l=>some (o :: l)
  | _,_=>none
mutual
def beqV:AV→AV→Bool
 | .agg a,.agg b=>beqL a b
 | .tuple a,.tuple b=>beqL a b
 | .fn f a,.fn g b=>f == g && beqL a b
 | .nls,.nls=>true
 | .nfn,.nfn=>true
 | .npt,.npt=>true
 | .undef,.undef=>true
 | .int k n,.int k' n'=>k == k' && n == n'
 | .bool a,.bool b=>a == b
 | .str a,.str b=>a == b
 | .sl z a,.sl z' b=>z == z' && beqL a b
 | .slc z a,.slc z' b=>z == z' && beqL a b
 | .rp a,.rp b=>beqL a b
 | .own i s n,.own i' s' n'=>i == i' && s == s' && n == n'
 | .ptr i s n x o,.ptr i' s' n' x' o'=>i == i' && s == s' && n == n' && x == x' && o == o'
 | .mp i,.mp j=>i == j
 | .it i,.it j=>i == j
 | .sym i,.sym j=>i == j
 | .ows i s n,.ows i' s' n'=>i == i' && s == s' && n == n'
 | _,_=>false
def beqL:List AV→List AV→Bool
 | [],[]=>true
 | x :: r,y :: s=>beqV x y && beqL r s
 | _,_=>false
end
def beqE:List (AV×AV)→List (AV×AV)→Bool
 | [],[]=>true
 | (k,v) :: r,(k',v') :: s=>beqV k k' && beqV v v' && beqE r s
 | _,_=>false
def beqO:AO→AO→Bool
 | .arr e s a,.arr e' s' b=>e == e' && s == s' && beqL a b
 | .mp a,.mp b=>beqE a b
 | .tok i,.tok j=>i == j
 | _,_=>false
def putL (g:Nat→Nat):List Nat→AH→AH→AH
 | a :: ps,o :: os,H=>putL g ps os (H.set a (renO g o))
 | _,os,H=>H ++ os.map (renO g)
def wrL (H H1:AH):List Nat→List Nat×List Nat
 | []=>([],[])
 | a :: r=>match H[a]?,H1[a]?,wrL H H1 r with
  | some o,some o1,(w,k)=>if beqO o o1=true then(w,a :: k) else(a :: w,k)
  | _,_,(w,k)=>(a :: w,k)
abbrev CallF:=FuncId→List AV→AH→Er (AV×AH×Foot)
def callE (P:Program)(rec:FuncId→List AV→AH→Er (AV×AH)):CallF:=fun fid xs H=>
 match cal P fid with
 | false=> .no [(776,fid)]
 | true=>match reach H 100000 (refsL xs) [],fixedIds H with
  | pick,F=>match convL H F pick xs,convOs H F pick pick with
   | some as,some K0=>(rec fid as K0).bind fun(r,Ko)=>match Nat.ble K0.length Ko.length with
    | false=> .no [(775,fid)]
    | true=>match putL (gid (pick ++ Qh H.length (Ko.length - pick.length))) pick Ko H with
     | H1=>match wrL H H1 pick with
      | (w,k)=> .ok (ren (gid (pick ++ Qh H.length (Ko.length - pick.length))) r,H1,Qh H.length (Ko.length - pick.length),pick ++ F,w,k)
   | _,_=> .no [(777,fid)]
def plain (x:Option HV):Er (AV×AH×Foot):=
 match x with
 | some (V,H1,new,fp,wr)=> .ok (V,H1,new,fp,wr,[])
 | none=> .no []
def pu (H:AH)(x:Option AV):Er (AV×AH×Foot):=
 match x with
 | some V=> .ok (V,H,[],[],[],[])
 | none=> .no []
def oldE (P:Program)(cf:CallF)(kill y:Bool)(ev:AEnv)(H:AH)(o:Oper):Er (AV×AH×Foot):=
 match o.op with
 | .load _ _=>plain (heapO P ev H o)
 | .box _ _=>plain (heapO P ev H o)
 | .alloc _=>plain (heapO P ev H o)
 | .store _ _ _=>plain (heapO P ev H o)
 | .buildSlice _ _ _=>plain (heapO P ev H o)
 | .makeSlice _ _ _=>plain (heapO P ev H o)
 | .convert s d _=>match tk P s,tk P d with
  | .slice _ _,_=>plain (heapO P ev H o)
  | _,.slice _ _=>plain (heapO P ev H o)
  | _,_=>pu H (pureO P ev o)
 | .slice _ x _ _ _=>match opnd ev x with
  | .own _ _ _=>plain (sliceOwnO P kill ev H o)
  | _=>pu H (pureO P ev o)
 | .call { callee:= .builtin .append,args:=_,argTypes:=_ }=>plain (heapO P ev H o)
 | .call { callee:= .builtin .delete,args:=_,argTypes:=_ }=>plain (mapO P ev H o)
 | .call { callee:= .value f,args,argTypes:=_ }=>match opnd ev f with
  | .fn fid cap=>cf fid (args.toList.map (opnd ev) ++ cap) H
  | .mth fid cap=>cf fid (cap ++ args.toList.map (opnd ev)) H
  | .yld _=>if y=true then .ok (.bool true,H,[],[],[],[]) else .no []
  | _=> .no []
 | .makeMap _ _=>plain (mapO P ev H o)
 | .lookup _ _ _ _=>plain (mapO P ev H o)
 | .mapUpdate _ _ _ _=>plain (mapO P ev H o)
 | .insert _ _ _ _=>plain (mapO P ev H o)
 | .range _ _=>plain (mapO P ev H o)
 | .entry _=>plain (mapO P ev H o)
 | _=>pu H (pureO P ev o)
def isSymV:AV→Bool
 | .sym _=>true
 | .ows _ _ _=>true
 | _=>false
def opk (ev:AEnv)(o:Oper):Option (OpK×List AV):=
 match o.op with
 | .binOp op t x y _=>some (.bin op t,[opnd ev x,opnd ev y])
 | .unOp op _ x=>some (.un op,[opnd ev x])
 | .convert s d x=>some (.cvt s d,[opnd ev x])
 | .indexAddr t x i=>some (.idx t,[opnd ev x,opnd ev i])
 | .index t x i=>some (.sidx t,[opnd ev x,opnd ev i])
 | .slice t x lo hi none=>match lo,hi with
  | none,none=>some (.sub t 0,[opnd ev x])
  | some l,none=>some (.sub t 1,[opnd ev x,opnd ev l])
  | none,some h=>some (.sub t 2,[opnd ev x,opnd ev h])
  | some l,some h=>some (.sub t 3,[opnd ev x,opnd ev l,opnd ev h])
 | .call { callee:= .builtin b,args,argTypes }=>match b with
  | .len=>match args.toList,argTypes.toList with
   | [x],[t]=>some (.len t,[opnd ev x])
   | _,_=>none
  | .min=>some (.mn,args.toList.map (opnd ev))
  | .max=>some (.mx,args.toList.map (opnd ev))
  | _=>none
 | _=>none
def eqOpK:OpK→OpK→Bool
 | .bin o t,.bin o' t'=>decide (o=o') && t == t'
 | .un o,.un o'=>decide (o=o')
 | .len t,.len t'=>t == t'
 | .mn,.mn=>true
 | .mx,.mx=>true
 | .cvt s d,.cvt s' d'=>s == s' && d == d'
 | .idx t,.idx t'=>t == t'
 | .sidx t,.sidx t'=>t == t'
 | .sub t m,.sub t' m'=>t == t' && m == m'
 | _,_=>false
def findT (k:OpK)(xs:List AV):List (OpK×List AV×AV)→Option AV
 | []=>none
 | (k',ys,v) :: r=>match eqOpK k' k && beqL ys xs with
  | true=>some v
  | false=>findT k xs r
def tokO (ev:AEnv)(o:Oper):Option AV:=
 match opk ev o with
 | some (k,xs)=>match xs.any isSymV with
  | true=>findT k xs Syms.tbl
  | false=>none
 | none=>none
def oneE (P:Program)(cf:CallF)(kill y:Bool)(ev:AEnv)(H:AH)(o:Oper):Er (AV×AH×Foot):=
 match tokO ev o with
 | some V=> .ok (V,H,[],[],[],[])
 | none=>match newP P ev o with
 | some V=> .ok (V,H,[],[],[],[])
 | none=>match newH P kill ev H o with
  | some x=>plain (some x)
  | none=>oldE P cf kill y ev H o
def splitRo (bad:List Nat)(m:Foot):Foot:=(m.1,m.2.1,m.2.2.1 ++ m.2.2.2.filter bad.contains,m.2.2.2.filter fun i=>!bad.contains i)
def runE (P:Program)(cf:CallF)(kill y:Bool)(ops:Array Oper)(chkRo:Bool)(bad:List Nat):Nat→List Oper→AEnv→AH→Acc→Er (AEnv×AH×Acc)
 | _,[],ev,H,acc=> .ok (ev,H,acc)
 | i,o :: r,ev,H,acc=>match gw ops ev o with
  | none=> .no [(1,i)]
  | some (some false)=>runE P cf kill y ops chkRo bad (i+1) r (stepEv o .undef ev) H (([],[],[],[]) :: acc)
  | _=>((oneE P cf kill y ev H o).tag (0,i)).bind fun(V,H1,m0)=>let m:=splitRo bad m0
   if chkRo && !roA H1 (m :: acc) then .no [(2,i)] else runE P cf kill y ops chkRo bad (i+1) r (stepEv o V ev) H1 (m :: acc)
def regOne (P:Program)(cf:CallF)(kill y:Bool)(id:Nat)(ops:Array Oper)(ev:AEnv)(H:AH)(b:Bool)(bad:List Nat):Er (AEnv×AH):=
 ((runE P cf kill y ops b bad 0 ops.toList ev H []).tag (1000,id)).bind fun(ev',H',acc)=>
   if b && !dynOrd (mkMs ops) acc.reverse then .no [(3,id)] else .ok (ev',H')
def regE (P:Program)(cf:CallF)(kill y:Bool)(id:Nat)(ops:Array Oper)(draw:Bool)(ev:AEnv)(H:AH):Er (AEnv×AH):=
 match nextF ops.toList with
 | some (x,t,t')=>if draw then .no [(9,id)] else match opnd ev x with
  | .it i=>match H[i]? with
   | some (.it _ [])=> .ok ((t',.bool false) :: (t,.top) :: ev,H)
   | some (.it _ [(k,v)])=> .ok ((t',.bool true) :: (t,.top) :: ev,H.set i (.it (some (k,v)) []))
   | _=> .no [(10,id)]
  | _=> .no [(9,id)]
 | none=>if draw then match regOne P cf kill y id ops ev H true [] with
  | .ok x=> .ok x
  | .no ((1000,_) :: (2,_) :: _)=>(runE P cf kill y ops false [] 0 ops.toList ev H []).bind fun(_,H',acc)=>
   regOne P cf kill y id ops ev H true ((acc.flatMap fun m=>m.2.2.2).filter fun i=>!livesAt H' i)
  | .no w=> .no w
  else regOne P cf kill y id ops ev H false []
def compactE:List Nat→AEnv→AEnv
 | _,[]=>[]
 | seen,(t,v) :: r=>if seen.contains t then compactE seen r else(t,v) :: compactE (t :: seen) r
abbrev St:=Exit×AEnv×AH
def loopE (f:AEnv→AH→Er St):Nat→AEnv→AH→Er St
 | 0,_,_=> .no [(4,0)]
 | n+1,ev,H=>(f ev H).bind fun(e,ev',H')=>match e with
  | .normal=>loopE f n (compactE [] ev') H'
  | e=> .ok (e,ev',H')
def roundsE (f:List AV→AH→Er (Exit×AH)):List (List AV)→AH→Er (Exit×AH)
 | [],H=> .ok (.normal,H)
 | x :: r,H=>(f x H).bind fun(e,H')=>match e with
  | .normal=>roundsE f r H'
  | e=> .ok (e,H')
def idle (assign body:Code):Bool:=
 match assign,body with
 | .skip,.block i (.exit j)=>i == j
 | _,_=>false
abbrev IdF:=FuncId→Nat→List AV→AH→Option AH
def evC (P:Program)(cf:CallF)(tl:FuncId→List AV→Option (List (List AV)))(idl:IdF)(kill:Bool):Code→AEnv→AH→Er St
 | .skip,ev,H=> .ok (.normal,ev,H)
 | .region id ops draw,ev,H=>(regE P cf kill false id ops draw ev H).bind fun(ev',H')=> .ok (.normal,ev',H')
 | .seq a b,ev,H=>(evC P cf tl idl kill a ev H).bind fun(e,ev',H')=>match e with
  | .normal=>evC P cf tl idl kill b ev' H'
  | e=> .ok (e,ev',H')
 | .cond c a b,ev,H=>match opnd ev c with
  | .bool true=>evC P cf tl idl kill a ev H
  | .bool false=>evC P cf tl idl kill b ev H
  | _=> .no [(5,0)]
 | .block id b,ev,H=>(evC P cf tl idl kill b ev H).bind fun(e,ev',H')=>match e with
  | .exit i=>if i=id then .ok (.normal,ev',H') else .ok (.exit i,ev',H')
  | e=> .ok (e,ev',H')
 | .loop b,ev,H=>loopE (evC P cf tl idl kill b) 3000 ev H
 | .rangeFunc g ps assign body,ev,H=>match opnd ev g with
  | .fn fid cap=>match cal P fid with
   | false=> .no [(791,fid)]
   | true=>match idle assign body with
    | true=>match idl fid ps.size cap H with
     | some H1=> .ok (.normal,ev,H1)
     | none=> .no [(793,fid)]
    | false=>match resL (res8 H) cap with
    | some (as,ids)=>match tl fid as with
     | some xs=>match xs.all fun x=>x.length == ps.toList.length with
      | false=> .no [(792,fid)]
      | true=>(roundsE (fun x H'=>(evC P cf tl idl kill assign (parE ps.toList x ++ ev) H').bind fun(e,ev',H')=>match e with
       | .normal=>(evC P cf tl idl kill body ev' H').bind fun(e,_,H')=> .ok (e,H')
       | _=> .no [(8,0)]) xs (freeze ids H)).bind fun(e,H')=> .ok (e,ev,H')
     | none=> .no [(790,fid)]
    | none=> .no [(6,fid)]
  | _=> .no [(6,0)]
 | .exit id,ev,H=> .ok (.exit id,ev,H)
 | .ret,ev,H=> .ok (.ret,ev,H)
 | _,_,_=> .no [(7,0)]
def resE (P:Program)(ev:AEnv)(H:AH):List ResultVar→Option (List AV)
 | []=>some []
 | .tmp t :: r=>(resE P ev H r).map fun l=>look t ev :: l
 | .cell p t :: r=>match look p ev with
  | .ptr id sz len idx off=>match objAt H id with
   | some (e,sz',vs)=>if sz'=sz∧vs.length=len∧idx<vs.length then match ldCells P t (vs.getD idx (dz P e)).cells off,resE P ev H r with
    | some v,some l=>some (v :: l)
    | _,_=>none
    else none
   | none=>none
  | _=>none
def gcO (H:AH)(F pick:List Nat)(o:Option AO):Option AO:=
 match o with
 | some (.arr e sz vs)=>match convL H F pick vs with
  | some l=>some (.arr e sz l)
  | none=>none
 | some (.frz e sz vs)=>some (.frz e sz vs)
 | some (.mp es)=>some (.mp es)
 | some (.fmp es)=>some (.fmp es)
 | some (.tok i)=>some (.tok i)
 | some _=>some .dead
 | none=>none
def gcOs (H:AH)(F pick:List Nat):List Nat→Option AH
 | []=>some []
 | a :: r=>match gcO H F pick H[a]?,gcOs H F pick r with
  | some o,some l=>some (o :: l)
  | _,_=>none
def gcR (H:AH)(F pick:List Nat)(r:AV):Option AV:=
 match r with
 | .tuple cs=>match convL H F pick cs with
  | some l=>some (.tuple l)
  | none=>none
 | r=>conv H F pick r
def gcE (n0:Nat)(r:AV)(H:AH):Option (AV×AH×List Nat×List Nat):=
 match (Ql n0 ++ (reach H 100000 (Ql n0 ++ refs r) []).filter fun i=>decide (n0≤i)),fixedIds H with
 | pick,F=>match gcR H F pick r,gcOs H F pick pick with
  | some r,some H1=>some (r,H1,pick,F)
  | _,_=>none
def subLB (g:AV→AV→Bool):List AV→List AV→Bool
 | [],[]=>true
 | x :: r,y :: s=>g x y && subLB g r s
 | _,_=>false
def resInB (H:AH)(F:List Nat)(x y:AV):Bool:=
 match res H 8 x with
 | some (z,ids)=>beqV z y && ids.all F.contains
 | none=>false
def fmB:AV→AV→Bool
 | .fm a,.fm b=>beqE a b
 | _,_=>false
def resInM (H:AH)(F:List Nat)(x y:AV):Bool:=
 match res H 8 x with
 | some (z,ids)=>fmB z y && ids.all F.contains
 | none=>false
def subVB (H:AH)(F:List Nat)(pick:List Nat):Nat→AV→AV→Bool
 | 0,_,_=>false
 | d+1,x,y=>match y,x with
  | .top,_=>true
  | .own i sz n,.own j sz' n'=>pick[i]? == some j && sz' == sz && n' == n
  | .ptr i sz n idx off,.ptr j sz' n' idx' off'=>pick[i]? == some j && sz' == sz && n' == n && idx' == idx && off' == off
  | .win i sz t o n,.win j sz' t' o' n'=>pick[i]? == some j && sz' == sz && t' == t && o' == o && n' == n
  | .agg cs,.agg cs'=>subLB (subVB H F pick d) cs' cs
  | .tuple cs,.tuple cs'=>subLB (subVB H F pick d) cs' cs
  | .fn f cs,.fn f' cs'=>f' == f && subLB (subVB H F pick d) cs' cs
  | .sl sz vs,.own j sz' n=>resInB H F (.own j sz' n) (.sl sz vs)
  | .sl sz vs,.sl sz' vs'=>sz' == sz && beqL vs' vs
  | .slc sz vs,.slc sz' vs'=>sz' == sz && beqL vs' vs
  | .int k n,.int k' n'=>k' == k && n' == n
  | .bool b,.bool b'=>b' == b
  | .str s,.str s'=>s' == s
  | .nls,.nls=>true
  | .nfn,.nfn=>true
  | .npt,.npt=>true
  | .sym i,.sym j=>j == i
  | .ows i sz n,.ows j sz' n'=>pick[i]? == some j && sz' == sz && n' == n
  | .mp i,.mp j=>pick[i]? == some j
  | .rp cs,.rp cs'=>beqL cs' cs
  | .rp cs,.ptr j sz n idx off=>resInB H F (.ptr j sz n idx off) (.rp cs)
  | .fm es,.fm es'=>beqE es' es
  | .fm es,.mp j=>resInM H F (.mp j) (.fm es)
  | _,_=>false
def subCB (H:AH)(F:List Nat)(pick:List Nat)(x y:AV):Bool:=subLB (subVB H F pick 8) x.cells y.cells
def subOB (H:AH)(F:List Nat)(pick:List Nat)(o:Option AO)(y:AO):Bool:=
 match o,y with
 | some (.arr e sz vs),.arr e' sz' ws=>e == e' && sz == sz' && subLB (subCB H F pick) vs ws
 | some (.frz e sz vs),.frz e' sz' ws=>e == e' && sz == sz' && ((beqL vs ws && ws.all AV.pureB) || subLB (subCB H F pick) vs ws)
 | some (.mp es),.mp es'=>beqE es es'
 | some (.fmp es),.fmp es'=>beqE es es'
 | some (.tok i),.tok j=>i == j
 | _,.dead=>true
 | _,_=>false
def subOBs (H:AH)(F:List Nat)(pick:List Nat):List Nat→AH→Bool
 | [],[]=>true
 | p :: ps,y :: r=>subOB H F pick H[p]? y && subOBs H F pick ps r
 | _,_=>false
def gcOK (r0:AV)(H:AH)(r:AV)(H1:AH)(pick F:List Nat):Bool:=
 subOBs H F pick pick H1 && subVB H F pick 8 r0 r
structure Lf where
 fn:FuncId→List AV→AH→Option (AV×AH)
 tl:FuncId→List AV→Option (List (List AV))
 kl:FuncId→Bool
 ext:FuncId→List AV→Option AV
 idl:IdF:=fun _ _ _ _=>none
def codeT (P:Program)(N:Nat):Code→Bool
 | .region _ ops draw=>regOK P N true ops draw
 | .seq x y=>codeT P N x && codeT P N y
 | .cond _ x y=>codeT P N x && codeT P N y
 | .block _ b=>codeT P N b
 | .loop b=>codeT P N b
 | .rangeFunc _ ps x y=>codeT P N x && codeT P N y && noRange x && noRange y && ps.toList.all (fun p=>decide (p<N)) && decide ps.toList.Nodup
 | _=>true
def extC (L:Lf)(cf:CallF):CallF:=fun fid xs H=>match L.ext fid xs with
 | some v=> .ok (v,H,[],[],[],[])
 | none=>cf fid xs H
def bodyE (P:Program)(L:Lf)(cf:CallF)(fid:FuncId)(fn:Func)(c:Code)(as:List AV)(H:AH):Er (AV×AH):=
 match codeT P fn.ntmps c && Nat.ble as.length fn.ntmps with
 | false=> .no [(784,fid)]
 | true=>((evC P cf L.tl L.idl (L.kl fid) c (envOf 0 as) H).tag (2000,fid)).bind fun(e,ev,H')=>
  match e with
  | .normal | .ret=>match resE P ev H' fn.results.toList with
   | some l=>match gcE H.length (tupA l) H' with
    | some (r,H1,pick,F)=>match gcOK (tupA l) H' r H1 pick F with
     | true=> .ok (r,H1)
     | false=> .no [(785,fid)]
    | none=> .no [(779,fid)]
   | none=> .no [(780,fid)]
  | _=> .no [(781,fid)]
def evF (P:Program)(L:Lf):Nat→FuncId→List AV→AH→Er (AV×AH)
 | 0,fid,_,_=> .no [(778,fid)]
 | n+1,fid,as,H=>match L.fn fid as H with
  | some x=> .ok x
  | none=>match P.funcs[fid]? with
   | some fn=>match fn.body with
    | some c=>bodyE P L (extC L (callE P (evF P L n))) fid fn c as H
    | none=> .no [(782,fid)]
   | none=> .no [(783,fid)]
end Go.Pg
namespace Go.Pg
open Go
variable [Syms]
theorem callX_sound {P:Program}{ev:AEnv}{H:AH}{o:Oper}{K:HK}{fid:FuncId}{xs as:List AV}{F:List Nat}{pick:List (Option Nat)}{K0 Ko:AH}{r:AV}
 (hval:∀(E:Env) (a:Act),Opd ev E a o→∃vals:Array Value,VRs E xs vals∧(execOp a.eval o).run P E.W= .ok (.enter fid vals) E.W)
 (hsub:SubK H F pick xs as K0) (hC:CallsR P fid as K0 r Ko) (hle:K0.length≤Ko.length)
 (hK:K (ren (gid (gids pick H.length Ko.length)) r) (putO (gid (gids pick H.length Ko.length)) pick Ko (freeze F H)) (fresh pick H.length Ko.length) (somes pick ++ F) (somes pick)):HSnd P ev H o K:=by
 have hplen:pick.length≤Ko.length:=by rw[hsub.plen];exact hle
 obtain⟨gl,gpick,gcase,ginj⟩:=gids_spec pick H.length Ko.length hplen
 have hpk:∀(k a:Nat),pick[k]? =some (some a)→∃y o,K0[k]? =some y∧H[a]? =some o∧o.lives=true∧a<H.length:=by
  intro k a hk
  have hl:k<K0.length:=by rw[←hsub.plen];exact(Qa.1 hk).1
  have hm:=hsub.objs k _ K0[k] hk (by simp [hl])
  cases hy:K0[k] with
  | arr e sz ws=>
   rw[hy] at hm
   obtain⟨vs,hv,_⟩:=hm
   exact⟨K0[k],_,by simp [hl],hv,rfl,(Qa.1 hv).1⟩
  | mp es=>
   rw[hy] at hm
   exact⟨K0[k],_,by simp [hl],hm,rfl,(Qa.1 hm).1⟩
  | tok q=>
   rw[hy] at hm
   exact⟨K0[k],_,by simp [hl],hm,rfl,(Qa.1 hm).1⟩
  | _=>rw[hy] at hm;exact hm.elim
 obtain⟨pl,pat,pout⟩:=putO_spec (gid (gids pick H.length Ko.length)) pick Ko (freeze F H) hplen (fun k a hk=>by rw[freeze_length];obtain⟨_,_,_,_,_,h⟩:=hpk k a hk;exact h) hsub.pinj
 rw[freeze_length] at pl pat pout
 generalize hH1:putO (gid (gids pick H.length Ko.length)) pick Ko (freeze F H)=H1 at hK pl pat pout
 have hfr:∀a,a∈fresh pick H.length Ko.length→∃(k:Nat) (o:AO),(gids pick H.length Ko.length)[k]? =some a∧Ko[k]? =some o∧H1[a]? =some (renO (gid (gids pick H.length Ko.length)) o)∧H.length≤a∧∀b,pick[k]?≠some (some b):=by
  intro a ha
  obtain⟨k,h1,h2⟩:=fresh_range pick H.length Ko.length a hplen ha
  have hk:k<Ko.length:=by rw[←gl];exact(Qa.1 h1).1
  refine⟨k,Ko[k],h1,by simp [hk],pat k a Ko[k] h1 (by simp [hk]),?_,h2⟩
  rcases gcase k a h1 with h | ⟨_,h,_⟩
  ·exact absurd h (h2 a)
  ·exact h
 refine⟨_,_,_,_,_,hK,?_,?_⟩
 ·refine⟨fun id hid=>List.mem_append_left _ hid,fun id hid=>?_,fun id hid x hx=>?_,fun id hid=>?_,fun id hid=>?_,pl⟩
  ·obtain⟨k,hk⟩:=mem_somes.1 hid
   obtain⟨_,_,_,_,_,h⟩:=hpk k id hk
   exact h
  ·have hlt:=(Qa.1 hx).1
   obtain⟨o',h1,h2⟩:=freeze_le F H id x hx
   refine⟨o',?_,h2⟩
   rw[pout id hlt (fun k hk=>hid (mem_somes.2 ⟨k,hk⟩))];exact h1
  ·obtain⟨_,_,_,_,_,h,_⟩:=hfr id hid;exact h
  ·obtain⟨_,_,_,_,h,_⟩:=hfr id hid;exact(Qa.1 h).1
 ·intro HD E a hl hr hlen0 hfp hwr hnew K' Q hK'
  have hFw:∀id∈F,id∉somes pick:=fun id hid hs=>by
   obtain⟨k,hk⟩:=mem_somes.1 hs
   exact hsub.pF k id hk hid
  have hfz:∀id∈F,∀o,H[id]? =some o→HD[id]? =some (fixO o):=by
   intro id hid o ho
   have h1:=freeze_at F H id o hid ho
   have hidl:id<H.length:=(Qa.1 ho).1
   obtain⟨o',h2,h3⟩:=hfp id (List.mem_append_right _ hid) (hFw id hid) (fixO o) (by rw[pout id hidl (fun k hk=>hFw id hid (mem_somes.2 ⟨k,hk⟩))];exact h1)
   rw[fixO_stay h3] at h2;exact h2
  have hHDp:∀(i a:Nat),pick[i]? =some (some a)→HD[a]? =H[a]?:=fun i a hi=>hwr a (mem_somes.2 ⟨i,hi⟩)
  obtain⟨vals,hvals0,hrun⟩:=hval E a hl
  have hroot:=hsub.root HD E hr hHDp vals hvals0
  obtain⟨hrel0,hmt,hhl0⟩:=subK_rel hsub hr hHDp hfz rfl
  have hvals:VRs { W:=E.W,M:=newM pick E.M,st:=E.st,hl:=hlOf K0 } as vals:=by
   refine⟨by rw[hvals0.1,hsub.alen],fun i c hc=>?_⟩
   have hi:i<xs.length:=by rw[hsub.alen];exact(Qa.1 hc).1
   exact hmt _ c _ (hsub.args i _ c (Qd hi) hc) (hvals0.2 i _ (Qd hi))
  have hcalls:=hC _ vals hrel0 hvals
  unfold Oper.wp
  rw[hrun,Oper.upon_enter]
  refine hcalls.mono fun e W' ⟨v,Ec,he,hW,hv,hrc,hst⟩=>?_
  subst he
  subst hW
  let g:=gid (gids pick H.length Ko.length)
  let isF:Nat→Bool:=fun k=>match (gids pick H.length Ko.length)[k]? with
   | some a=>decide (H.length≤a) && (match HD[a]? with
    | some o=>o.fixed
    | none=>false)
   | none=>false
  let Ko':AH:=Ko.mapIdx fun k o=>if isF k then fixO o else o
  have hKo'get:∀(k:Nat),Ko'[k]? =(Ko[k]?).map fun o=>if isF k then fixO o else o:=fun k=>by simp [Ko']
  have hle':AHle Ko Ko':=by
   intro k o hk
   refine⟨if isF k then fixO o else o,by rw[hKo'get,hk];rfl,?_⟩
   split
   ·exact fixO_le o
   ·exact .refl o
  obtain⟨Ec',hrc',hW',hM',hst'⟩:=hrc.le hle'
  have hKo'len:Ko'.length=Ko.length:=by simp [Ko']
  let HD':AH:=HD.mapIdx fun j o=>if j∈somes pick then(H1[j]?).getD o else o
  have hHD'get:∀(j:Nat),HD'[j]? =(HD[j]?).map fun o=>if j∈somes pick then(H1[j]?).getD o else o:=fun j=>by simp [HD']
  have hold:∀(k a:Nat),pick[k]? =some (some a)→isF k=false:=by
   intro k a hk
   have hlt:a<H.length:=by obtain⟨_,_,_,_,_,h⟩:=hpk k a hk;exact h
   simp only[isF,gpick k a hk]
   simp;omega
  have hnewM:∀(k a:Nat),(gids pick H.length Ko.length)[k]? =some a→(∀b,pick[k]?≠some (some b))→E.M a=none∧a∉somes pick:=by
   intro k a hk hn
   rcases gcase k a hk with h | ⟨_,h1,h2⟩
   ·exact absurd h (hn a)
   ·refine⟨(hnew a h2).1,fun hs=>?_⟩
    obtain⟨j,hj⟩:=mem_somes.1 hs
    obtain⟨_,_,_,_,_,h⟩:=hpk j a hj
    omega
  have emb:Emb (gids pick H.length Ko.length) K0 { W:=E.W,M:=newM pick E.M,st:=E.st,hl:=hlOf K0 } Ko' HD E HD':=by
   refine⟨by rw[gl,hKo'len],fun i j a hi hj=>?_,fun k a hk=>?_,rfl,fun b=>Iff.rfl,fun k a hkl hk=>?_,fun k a hkl hk=>?_,by simp [HD'],fun j hj=>?_,fun k a o hk ho=>?_⟩
   ·rcases gcase i a hi with h1 | ⟨h1,h1',_⟩ <;> rcases gcase j a hj with h2 | ⟨h2,h2',_⟩
    ·exact hsub.pinj i j a h1 h2
    ·obtain⟨_,_,_,_,_,h⟩:=hpk i a h1;omega
    ·obtain⟨_,_,_,_,_,h⟩:=hpk j a h2;omega
    ·exact ginj i j a hi hj h1 h2
   ·rcases gcase k a hk with h1 | ⟨_,_,h3⟩
    ·obtain⟨_,_,_,_,_,h⟩:=hpk k a h1;omega
    ·obtain⟨_,_,_,_,h,_⟩:=hfr a h3
     have:=(Qa.1 h).1
     omega
   ·rcases gcase k a hk with h1 | ⟨h1,_,h3⟩
    ·left
     refine⟨by simp [newM,h1],by rw[hr.hl];exact hhl0 k a h1,fun o ho hol=>?_⟩
     obtain⟨_,o',_,h5,h6,_⟩:=hpk k a h1
     exact⟨o',by rw[hHDp k a h1];exact h5,h6⟩
    ·right
     refine⟨(hnew a h3).1,?_⟩
     have hkp:k<pick.length:=by rw[hsub.plen];exact hkl
     cases hp:pick[k] with
     | some b=>exact absurd (by simp [hkp,hp]) (h1 b)
     | none=>simp [newM,Qd hkp,hp]
   ·rcases gcase k a hk with h1 | ⟨_,_,h3⟩
    ·have:=(Qa.1 h1).1
     rw[hsub.plen] at this;omega
    ·exact⟨(hnew a h3).1,by simp [newM,List.getElem?_eq_none (show pick.length≤k by rw[hsub.plen];exact hkl)]⟩
   ·rw[hHD'get]
    have:j∉somes pick:=fun hs=>by
     obtain⟨k,hk⟩:=mem_somes.1 hs
     exact hj k (gpick k j hk)
    simp [this]
   ·rw[hKo'get] at ho
    obtain⟨o0,ho0,rfl⟩:=Qi.1 ho
    have hat:=pat k a o0 hk ho0
    rcases gcase k a hk with h1 | ⟨h1,h2,h3⟩
    ·rw[hold k a h1]
     have hlt:a<H.length:=by obtain⟨_,_,_,_,_,h⟩:=hpk k a h1;exact h
     have hltD:a<HD.length:=by
      obtain⟨_,o',_,h5,_⟩:=hpk k a h1
      rw[←hHDp k a h1] at h5
      exact(Qa.1 h5).1
     rw[hHD'get,Qd hltD]
     simp [mem_somes.2 ⟨k,h1⟩,hat]
    ·have hn:=hnewM k a hk h1
     rw[hHD'get]
     obtain⟨o',h5,h6⟩:=(hnew a h3).2 _ hat
     rw[h5]
     simp only[Option.map_some,hn.2,if_false,Option.some.injEq]
     rcases h6.frz with rfl | ⟨h7,h8⟩
     ·cases hisF:isF k with
      | false=>simp
      | true=>
       simp only[isF,hk,h5,Qb,renO_fixed] at hisF
       simp only[if_true]
       rw[fixO_fixed hisF.2]
     ·have:isF k=true:=by
       simp only[isF,hk,h5,Qb,decide_eq_true_eq]
       exact⟨h2,h8⟩
      rw[this]
      simp only[if_true]
      rw[renO_fz,h7]
  obtain⟨E',hWE,hstE,hrE,hstepE,hME,hMin,hhl,hvrE⟩:=merge_gen hr hrel0 hrc' (hst.trans hst') emb
  rw[←hW',←hWE]
  refine hK' HD' E' v (by simp [HD']) (fun id hid=>by rw[hHD'get];simp [hid]) (fun id hid=>?_) (hvrE r v (hv.mono (hst'.ext hrc))) hrE hstepE (fun j h1 h2=>?_)
  ·obtain⟨k,hk⟩:=mem_somes.1 hid
   have hkl:k<Ko.length:=Nat.lt_of_lt_of_le (Qa.1 hk).1 hplen
   have hat:=pat k id Ko[k] (gpick k id hk) (by simp [hkl])
   obtain⟨_,o',_,h5,_⟩:=hpk k id hk
   rw[hHD'get,hHDp k id hk,h5]
   simp [hid,hat]
  ·obtain⟨k,hk⟩:=hME j h1 h2
   rcases gcase k j hk with h3 | ⟨_,_,h3⟩
   ·have:=hroot k j h3
    rw[h1] at this;cases this
   ·exact h3
theorem cal_run {P:Program}{fid:FuncId}(hcal:cal P fid=true)(args:Array Value)(w:World):(callFunc fid args).run P w= .ok (.enter fid args) w:=by
 unfold cal at hcal
 split at hcal
 ·next fn hfn=>
  simp only[Qb,bne_iff_ne,ne_eq] at hcal
  obtain⟨hn,hb⟩:=hcal
  have hb':¬fn.body=none:=by
   intro hbb;rw[hbb] at hb;cases hb
  simp [callFunc,hfn,hn,hb']
 ·cases hcal
theorem VRs.append {E:Env}{xs ys:List AV}{us vs:Array Value}(h:VRs E xs us)(k:VRs E ys vs):VRs E (xs ++ ys) (us ++ vs):=by
 refine⟨by simp [h.1,k.1],fun i c hc=>?_⟩
 by_cases hi:i<xs.length
 ·rw[List.getElem?_append_left hi] at hc
  have e:(us ++ vs).getD i Go.undef=us.getD i Go.undef:=by
   simp only[Qf]
   rw[Array.getElem?_append_left (by rw[h.1];exact hi)]
  rw[e];exact h.2 i c hc
 ·rw[List.getElem?_append_right (by omega)] at hc
  have e:(us ++ vs).getD i Go.undef=vs.getD (i - xs.length) Go.undef:=by
   simp only[Qf]
   rw[Array.getElem?_append_right (by rw[h.1];omega),h.1]
  rw[e];exact k.2 _ c hc
theorem opd_args {ev:AEnv}{E:Env}{a:Act}{f:Operand}{args:Array Operand}{ats:Array TypeId}{o:Oper}(ho:o.op= .call { callee:= .value f,args,argTypes:=ats })(hl:Opd ev E a o) :
 VR E (opnd ev f) (a.eval f)∧VRs E (args.toList.map (opnd ev)) (args.map a.eval):=by
 refine⟨hl f (by simp [ho,Op.operands,Call.operands]),by simp,fun i c hc=>?_⟩
 have hi:i<args.size:=by have:=(Qa.1 hc).1;simpa using this
 have e1:c=opnd ev args[i]:=by simpa [hi] using hc.symm
 have e2:(args.map a.eval).getD i Go.undef=a.eval args[i]:=by simp [Qf,hi]
 rw[e1,e2]
 exact hl args[i] (by simp [ho,Op.operands,Call.operands])
theorem val_fn {P:Program}{ev:AEnv}{o:Oper}{f:Operand}{args:Array Operand}{ats:Array TypeId}{fid:FuncId}{cap:List AV}(ho:o.op= .call { callee:= .value f,args,argTypes:=ats })(hf:opnd ev f= .fn fid cap)(hcal:cal P fid=true)
 (E:Env) (a:Act) (hl:Opd ev E a o):∃vals:Array Value,VRs E (args.toList.map (opnd ev) ++ cap) vals∧(execOp a.eval o).run P E.W= .ok (.enter fid vals) E.W:=by
 obtain⟨h1,h2⟩:=opd_args ho hl
 rw[hf] at h1
 obtain⟨us,hfe,hus,husv⟩:=h1.fn_inv
 refine⟨args.map a.eval ++ us,h2.append ⟨hus,husv⟩,?_⟩
 have:=cal_run hcal (args.map a.eval ++ us) E.W
 simp [execOp,ho,resolve,hfe,Deferred.ofValue,invoke,this]
theorem val_mth {P:Program}{ev:AEnv}{o:Oper}{f:Operand}{args:Array Operand}{ats:Array TypeId}{fid:FuncId}{cap:List AV}(ho:o.op= .call { callee:= .value f,args,argTypes:=ats })(hf:opnd ev f= .mth fid cap)(hcal:cal P fid=true)
 (E:Env) (a:Act) (hl:Opd ev E a o):∃vals:Array Value,VRs E (cap ++ args.toList.map (opnd ev)) vals∧(execOp a.eval o).run P E.W= .ok (.enter fid vals) E.W:=by
 obtain⟨h1,h2⟩:=opd_args ho hl
 rw[hf] at h1
 obtain⟨us,hfe,hus,husv⟩:∃us:Array Value,a.eval f= .func (.func fid) us #[]∧us.size=cap.length∧∀i c,cap[i]? =some c→VR E c (us.getD i Go.undef):=by
  generalize a.eval f=v at h1
  cases h1 with | mth _ _ us h1 h2=>exact⟨us,rfl,h1,h2⟩
 refine⟨us ++ args.map a.eval,VRs.append ⟨hus,husv⟩ h2,?_⟩
 have:=cal_run hcal (us ++ args.map a.eval) E.W
 simp [execOp,ho,resolve,hfe,Deferred.ofValue,invoke,this]
end Go.Pg
namespace Go.Pg
open Go
variable [Syms]
theorem posL_some {a:Nat}:∀{l:List Nat}{k i:Nat},posL a l k=some i→k≤i∧l[i - k]? =some a:=by
 intro l
 induction l with
 | nil=>intro k i h;simp [posL] at h
 | cons x l ih=>
  intro k i h
  simp only[posL] at h
  split at h
  ·next e=>cases h;subst e;exact⟨Nat.le_refl _,by simp⟩
  ·obtain⟨h1,h2⟩:=ih h
   refine⟨by omega,?_⟩
   rw[show i - k=(i - (k+1))+1 by omega]
   simpa using h2
theorem posL_pick {a i:Nat}{l:List Nat}(h:posL a l 0=some i):(l.map some)[i]? =some (some a):=by
 have:=(posL_some h).2
 simp only[Nat.sub_zero] at this
 simp [this]
theorem resF_mt {H:AH}{F:List Nat}{pick:List (Option Nat)}{x y:AV}(h:resF H F x=some y):Mt H F pick x y∧∀cs,y≠ .agg cs:=by
 unfold resF at h
 split at h
 ·cases h
 ·next z ids hn hr=>
  split at h
  ·next hall=>
   cases h
   refine⟨?_,fun cs e=>by subst e;exact hn _ rfl⟩
   have:=Mt.pure (H:=H) (F:=F) (pick:=pick) 8 x _ _ .id hr (fun i hi=>by simpa using List.all_eq_true.1 hall i hi)
   exact this
  ·cases h
 ·cases h
mutual
theorem conv_mt {H:AH}{F pick:List Nat}:∀(x y:AV),conv H F pick x=some y→Mt H F (pick.map some) x y
 | .top,y,h=>by simp only[conv] at h;cases h;exact .top
 | .nls,y,h=>by simp only[conv] at h;cases h;exact .pure 1 _ _ [] .id rfl (by simp)
 | .nfn,y,h=>by simp only[conv] at h;cases h;exact .pure 1 _ _ [] .id rfl (by simp)
 | .npt,y,h=>by simp only[conv] at h;cases h;exact .pure 1 _ _ [] .id rfl (by simp)
 | .yld l,y,h=>by simp only[conv] at h;cases h;exact .pure 1 _ _ [] .id rfl (by simp)
 | .cst v,y,h=>by simp only[conv] at h;cases h;exact .pure 1 _ _ [] .id rfl (by simp)
 | .int k n,y,h=>by simp only[conv] at h;cases h;exact .pure 1 _ _ [] .id rfl (by simp)
 | .bool b,y,h=>by simp only[conv] at h;cases h;exact .pure 1 _ _ [] .id rfl (by simp)
 | .str s,y,h=>by simp only[conv] at h;cases h;exact .pure 1 _ _ [] .id rfl (by simp)
 | .sl z vs,y,h=>by simp only[conv] at h;cases h;exact .pure 1 _ _ [] .id rfl (by simp)
 | .slc z vs,y,h=>by simp only[conv] at h;cases h;exact .pure 1 _ _ [] .id rfl (by simp)
 | .rp cs,y,h=>by simp only[conv] at h;cases h;exact .pure 1 _ _ [] .id rfl (by simp)
 | .fm es,y,h=>by simp only[conv] at h;cases h;exact .pure 1 _ _ [] .id rfl (by simp)
 | .sym i,y,h=>by simp only[conv] at h;cases h;exact .pure 1 _ _ [] .id rfl (by simp)
 | .agg cs,y,h=>by
  simp only[conv] at h
  split at h
  ·next l hl=>
   cases h
   obtain⟨h1,h2⟩:=convL_mt cs l hl
   exact .agg cs l h1 h2
  ·cases h
 | .fn f cs,y,h=>by
  simp only[conv] at h
  split at h
  ·next l hl=>
   cases h
   obtain⟨h1,h2⟩:=convL_mt cs l hl
   exact .fn f cs l h1 h2
  ·cases h
 | .own a sz n,y,h=>by
  simp only[conv] at h
  split at h
  ·next i hi=>cases h;exact .own i a sz n (posL_pick hi)
  ·exact(resF_mt h).1
 | .ptr a sz n x o,y,h=>by
  simp only[conv] at h
  split at h
  ·next i hi=>cases h;exact .ptr i a sz n x o (posL_pick hi)
  ·exact(resF_mt h).1
 | .win a sz t x n,y,h=>by
  simp only[conv] at h
  split at h
  ·next i hi=>cases h;exact .win i a sz t x n (posL_pick hi)
  ·cases h
 | .mp a,y,h=>by
  simp only[conv] at h
  split at h
  ·next i hi=>cases h;exact .mp i a (posL_pick hi)
  ·exact(resF_mt h).1
 | .ows a sz j,y,h=>by
  simp only[conv] at h
  split at h
  ·next i hi=>cases h;exact .ows i a sz j (posL_pick hi)
  ·cases h
 | .undef,y,h=>by simp only[conv] at h;cases h
 | .tuple _,y,h=>by simp only[conv] at h;cases h
 | .it _,y,h=>by simp only[conv] at h;cases h
 | .mth _ _,y,h=>by simp only[conv] at h;cases h
 | .cond _ _,y,h=>by simp only[conv] at h;cases h
theorem convL_mt {H:AH}{F pick:List Nat}:∀(xs ys:List AV),convL H F pick xs=some ys→xs.length=ys.length∧∀(i:Nat) x y,xs[i]? =some x→ys[i]? =some y→Mt H F (pick.map some) x y
 | [],ys,h=>by simp only[convL] at h;cases h;exact⟨rfl,fun i x y h=>by simp at h⟩
 | x :: r,ys,h=>by
  simp only[convL] at h
  split at h
  ·next y l hy hl=>
   cases h
   obtain⟨h1,h2⟩:=convL_mt r l hl
   refine⟨by simp [h1],fun i a b ha hb=>?_⟩
   cases i with
   | zero=>
    simp only[List.getElem?_cons_zero,Option.some.injEq] at ha hb
    subst ha;subst hb
    exact conv_mt x y hy
   | succ i=>exact h2 i a b (by simpa using ha) (by simpa using hb)
  ·cases h
end
theorem conv_cells {H:AH}{F pick:List Nat}{v w:AV}(h:conv H F pick v=some w):v.cells.length=w.cells.length∧∀(j:Nat) c d,v.cells[j]? =some c→w.cells[j]? =some d→Mt H F (pick.map some) c d:=by
 have hm:=conv_mt v w h
 have one:(∀cs,v≠ .agg cs)→(∀cs,w≠ .agg cs)→v.cells.length=w.cells.length∧∀(j:Nat) c d,v.cells[j]? =some c→w.cells[j]? =some d→Mt H F (pick.map some) c d:=by
  intro hv hw
  have nag:∀u:AV,(∀cs,u≠ .agg cs)→u.cells=[u]:=by
   intro u hu
   cases u with
   | agg cs=>exact absurd rfl (hu cs)
   | _=>rfl
  have e1:=nag v hv
  have e2:=nag w hw
  rw[e1,e2]
  refine⟨rfl,fun j c d hc hd=>?_⟩
  cases j with
  | zero=>simp at hc hd;subst hc;subst hd;exact hm
  | succ j=>simp at hc
 cases v with
 | agg cs=>
  simp only[conv] at h
  split at h
  ·next l hl=>
   cases h
   exact⟨(convL_mt cs l hl).1,(convL_mt cs l hl).2⟩
  ·cases h
 | own a sz n=>
  refine one (by simp) fun cs e=>?_
  simp only[conv] at h
  split at h
  ·cases h;cases e
  ·exact(resF_mt (pick:=[]) h).2 cs e
 | ptr a sz n x o=>
  refine one (by simp) fun cs e=>?_
  simp only[conv] at h
  split at h
  ·cases h;cases e
  ·exact(resF_mt (pick:=[]) h).2 cs e
 | mp a=>
  refine one (by simp) fun cs e=>?_
  simp only[conv] at h
  split at h
  ·cases h;cases e
  ·exact(resF_mt (pick:=[]) h).2 cs e
 | win a sz t x n=>
  refine one (by simp) fun cs e=>?_
  simp only[conv] at h
  split at h
  ·cases h;cases e
  ·cases h
 | ows a sz j=>
  refine one (by simp) fun cs e=>?_
  simp only[conv] at h
  split at h
  ·cases h;cases e
  ·cases h
 | fn f cs=>
  refine one (by simp) fun cs e=>?_
  simp only[conv] at h
  split at h
  ·cases h;cases e
  ·cases h
 | _=>first | (simp only[conv] at h;cases h;done) | (refine one (by simp) fun cs e=>?_;simp only[conv] at h;cases h;cases e)
theorem convO_mt {H:AH}{F pick:List Nat}{a:Nat}{y:AO}(h:convO H F pick H[a]? =some y):MtO H F (pick.map some) (some a) y:=by
 unfold convO at h
 split at h
 ·next e sz vs ha=>
  split at h
  ·next l hl=>
   cases h
   refine⟨vs,ha,.inr ⟨(convL_mt vs l hl).1,fun i v w hv hw=>?_⟩⟩
   have:∀(vs l:List AV),convL H F pick vs=some l→∀(i:Nat) v w,vs[i]? =some v→l[i]? =some w→conv H F pick v=some w:=by
    intro vs
    induction vs with
    | nil=>intro l hl i v w hv;simp at hv
    | cons x r ih=>
     intro l hl i v w hv hw
     simp only[convL] at hl
     split at hl
     ·next y l' hy hl'=>
      cases hl
      cases i with
      | zero=>simp at hv hw;subst hv;subst hw;exact hy
      | succ i=>exact ih l' hl' i v w (by simpa using hv) (by simpa using hw)
     ·cases hl
   exact conv_cells (this vs l hl i v w hv hw)
  ·cases h
 ·next es ha=>cases h;exact ha
 ·next i ha=>cases h;exact ha
 ·cases h
theorem convOs_get {H:AH}{F pick:List Nat}:∀(l:List Nat)(K:AH),convOs H F pick l=some K→K.length=l.length∧∀(i:Nat) a y,l[i]? =some a→K[i]? =some y→convO H F pick H[a]? =some y:=by
 intro l
 induction l with
 | nil=>intro K h;simp only[convOs] at h;cases h;exact⟨rfl,fun i a y h=>by simp at h⟩
 | cons x r ih=>
  intro K h
  simp only[convOs] at h
  split at h
  ·next o l hx hr=>
   cases h
   obtain⟨h1,h2⟩:=ih l hr
   refine⟨by simp [h1],fun i a y ha hy=>?_⟩
   cases i with
   | zero=>simp at ha hy;subst ha;subst hy;exact hx
   | succ i=>exact h2 i a y (by simpa using ha) (by simpa using hy)
  ·cases h
theorem mem_refsL {a:Nat}:∀{l:List AV},a∈refsL l↔∃c∈l,a∈refs c:=by
 intro l
 induction l with
 | nil=>simp [refsL]
 | cons x r ih=>simp [refsL,ih]
theorem refs_some {E:Env}{x:AV}{v:Value}(h:VR E x v):∀a∈refs x,(E.M a).isSome=true:=by
 induction h with
 | agg cs us hs _ ih=>
  intro a ha
  simp only[refs] at ha
  obtain⟨c,hc,hac⟩:=mem_refsL.1 ha
  obtain⟨i,hi⟩:=Qc.1 hc
  exact ih i c hi a hac
 | tuple cs us hs _ ih=>
  intro a ha
  simp only[refs] at ha
  obtain⟨c,hc,hac⟩:=mem_refsL.1 ha
  obtain⟨i,hi⟩:=Qc.1 hc
  exact ih i c hi a hac
 | fn f cs us hs _ ih=>
  intro a ha
  simp only[refs] at ha
  obtain⟨c,hc,hac⟩:=mem_refsL.1 ha
  obtain⟨i,hi⟩:=Qc.1 hc
  exact ih i c hi a hac
 | own id sz len a cap hm ha hl=>intro b hb;simp [refs] at hb;subst hb;exact hm
 | ptr id sz len idx off v hm hl=>intro b hb;simp [refs] at hb;subst hb;exact hm
 | win id sz tot off len a cap hc hm hl=>intro b hb;simp [refs] at hb;subst hb;exact hm
 | mp id b hm hl=>intro b hb;simp [refs] at hb;subst hb;exact hm
 | it id b hm hl=>intro b hb;simp [refs] at hb;subst hb;exact hm
 | ows id sz j v _ ih=>intro b hb;simp [refs] at hb;subst hb;exact ih _ (by simp [refs])
 | _=>intro b hb;simp [refs] at hb
def handO:Option AO→Bool
 | some (.arr _ _ _)=>true
 | some (.mp _)=>true
 | some (.tok _)=>true
 | _=>false
structure Reached (H:AH) (xs:List AV) (seen todo:List Nat):Prop where
 nodup:seen.Nodup
 hand:∀a∈seen,handO H[a]? =true
 root:∀(HD:AH) (E:Env),Rel HD E→(∀a∈seen,HD[a]? =H[a]?)→∀vals:Array Value,VRs E xs vals→(∀a∈seen,(E.M a).isSome=true)∧∀a∈todo,(E.M a).isSome=true
theorem reach_ok {H:AH}{xs:List AV}:∀(n:Nat)(todo seen:List Nat),Reached H xs seen todo→∃todo',Reached H xs (reach H n todo seen) todo':=by
 intro n
 induction n with
 | zero=>intro todo seen h;cases todo <;> exact⟨_,h⟩
 | succ n ih=>
  intro todo seen h
  cases todo with
  | nil=>exact⟨_,h⟩
  | cons id r=>
   have hr:Reached H xs seen r:=⟨h.nodup,h.hand,fun HD E h1 h2 vals h3=>⟨(h.root HD E h1 h2 vals h3).1,fun a ha=>(h.root HD E h1 h2 vals h3).2 a (by simp [ha])⟩⟩
   unfold reach
   split
   ·exact ih r seen hr
   ·next hc=>
    have hns:id∉seen:=by simpa using hc
    have hnd:(seen ++ [id]).Nodup:=by
     rw[List.nodup_append]
     exact⟨h.nodup,by simp,fun a ha b hb=>by simp at hb;subst hb;rintro rfl;exact hns ha⟩
    split
    ·next e sz vs ho=>
     refine ih _ _ ⟨hnd,fun a ha=>?_,fun HD E h1 h2 vals h3=>?_⟩
     ·rcases Qe.1 ha with ha | ha
      ·exact h.hand a ha
      ·simp at ha;subst ha;rw[ho];rfl
     ·obtain⟨g1,g2⟩:=h.root HD E h1 (fun a ha=>h2 a (by simp [ha])) vals h3
      have hid:=g2 id (by simp)
      refine⟨fun a ha=>?_,fun a ha=>?_⟩
      ·rcases Qe.1 ha with ha | ha
       ·exact g1 a ha
       ·simp at ha;subst ha;exact hid
      ·rcases Qe.1 ha with ha | ha
       ·obtain⟨m,hm⟩:=Option.isSome_iff_exists.1 hid
        have hD:HD[id]? =some (.arr e sz vs):=by rw[h2 id (by simp),ho]
        rcases h1.orow id _ m hD hm with⟨_,hv⟩ | ⟨b,c,fz,_,_,_,_,hv⟩
        ·subst hv;simp [refsL] at ha
        ·obtain⟨v,hvm,hav⟩:=mem_refsL.1 ha
         obtain⟨i,hi⟩:=Qc.1 hvm
         obtain⟨_,hcell⟩:=hv i v hi
         have:∃cc∈v.cells,a∈refs cc:=by
          cases v with
          | agg cs=>simp only[refs] at hav;exact mem_refsL.1 hav
          | _=>exact⟨_,by simp [AV.cells],hav⟩
         obtain⟨cc,hcc,hacc⟩:=this
         obtain⟨j,hj⟩:=Qc.1 hcc
         obtain⟨u,_,hu⟩:=hcell j cc hj
         exact refs_some hu a hacc
       ·exact g2 a (by simp [ha])
    ·next es ho=>
     refine ih _ _ ⟨hnd,fun a ha=>?_,fun HD E h1 h2 vals h3=>?_⟩
     ·rcases Qe.1 ha with ha | ha
      ·exact h.hand a ha
      ·simp at ha;subst ha;rw[ho];rfl
     ·obtain⟨g1,g2⟩:=h.root HD E h1 (fun a ha=>h2 a (by simp [ha])) vals h3
      refine⟨fun a ha=>?_,fun a ha=>g2 a (by simp [ha])⟩
      rcases Qe.1 ha with ha | ha
      ·exact g1 a ha
      ·simp at ha;subst ha;exact g2 _ (by simp)
    ·next es ho=>
     refine ih _ _ ⟨hnd,fun a ha=>?_,fun HD E h1 h2 vals h3=>?_⟩
     ·rcases Qe.1 ha with ha | ha
      ·exact h.hand a ha
      ·simp at ha;subst ha;rw[ho];rfl
     ·obtain⟨g1,g2⟩:=h.root HD E h1 (fun a ha=>h2 a (by simp [ha])) vals h3
      refine⟨fun a ha=>?_,fun a ha=>g2 a (by simp [ha])⟩
      rcases Qe.1 ha with ha | ha
      ·exact g1 a ha
      ·simp at ha;subst ha;exact g2 _ (by simp)
    ·exact ih r seen hr
theorem reach_args {H:AH}{xs:List AV}(n:Nat):∃todo',Reached H xs (reach H n (refsL xs) []) todo':=by
 refine reach_ok n (refsL xs) [] ⟨by simp,by simp,fun HD E h1 h2 vals h3=>⟨by simp,fun a ha=>?_⟩⟩
 obtain⟨c,hc,hac⟩:=mem_refsL.1 ha
 obtain⟨i,hi⟩:=Qc.1 hc
 exact refs_some (h3.2 i c hi) a hac
theorem fixedIds_mem {H:AH}{a:Nat}(h:a∈fixedIds H):∃o,H[a]? =some o∧o.fixed=true:=by
 simp only[fixedIds,List.mem_filter,List.mem_range] at h
 obtain⟨h1,h2⟩:=h
 rw[Qd h1] at h2
 exact⟨_,Qd h1,h2⟩
theorem frzAt_fixed {H:AH}{a:Nat}{o:AO}(ho:H[a]? =some o)(hf:o.fixed=true):frzAt H a=H:=by
 unfold frzAt
 rw[ho]
 cases o <;> first | rfl | cases hf
theorem freeze_fixed {H:AH}:∀{l:List Nat},(∀a∈l,∃o,H[a]? =some o∧o.fixed=true)→freeze l H=H:=by
 intro l
 induction l with
 | nil=>intro _;rfl
 | cons x r ih=>
  intro h
  obtain⟨o,h1,h2⟩:=h x (by simp)
  show freeze r (frzAt H x)=H
  rw[frzAt_fixed h1 h2]
  exact ih fun a ha=>h a (by simp [ha])
theorem somes_map (l:List Nat):somes (l.map some)=l:=by
 induction l with
 | nil=>rfl
 | cons x r ih=>simp [somes,ih]
theorem gids_map:∀(l:List Nat)(n m:Nat),gids (l.map some) n m=l ++ Qh n (m - l.length):=by
 intro l
 induction l with
 | nil=>intro n m;simp [gids]
 | cons x r ih=>intro n m;simp only[Qk,gids,ih,Qm,List.cons_append];rw[show m - 1 - r.length=m - (r.length+1) by omega]
theorem fresh_map:∀(l:List Nat)(n m:Nat),fresh (l.map some) n m=Qh n (m - l.length):=by
 intro l
 induction l with
 | nil=>intro n m;simp [fresh]
 | cons x r ih=>intro n m;simp only[Qk,fresh,ih,Qm];rw[show m - 1 - r.length=m - (r.length+1) by omega]
theorem putL_map (g:Nat→Nat):∀(l:List Nat)(os H:AH),putO g (l.map some) os H=putL g l os H:=by
 intro l
 induction l with
 | nil=>intro os H;cases os <;> simp [putO,putL]
 | cons x r ih=>
  intro os H
  cases os with
  | nil=>simp [putO,putL]
  | cons o os=>simp only[Qk,putO,putL,ih]
theorem subK_reach {H:AH}{xs as:List AV}{K0:AH}{n:Nat}(h1:convL H (fixedIds H) (reach H n (refsL xs) []) xs=some as)(h2:convOs H (fixedIds H) (reach H n (refsL xs) []) (reach H n (refsL xs) [])=some K0) :
 SubK H (fixedIds H) ((reach H n (refsL xs) []).map some) xs as K0:=by
 obtain⟨todo',hr⟩:=reach_args (H:=H) (xs:=xs) n
 generalize reach H n (refsL xs) []=pick at h1 h2 hr ⊢
 obtain⟨g1,g2⟩:=convOs_get pick K0 h2
 obtain⟨k1,k2⟩:=convL_mt xs as h1
 have get:∀(i a:Nat),(pick.map some)[i]? =some (some a)→pick[i]? =some a:=fun i a h=>by simpa using h
 refine⟨by simp [g1],fun i j a hi hj=>?_,fun i a hi hF=>?_,fun i p y hp hy=>?_,k1,k2,fun HD E hE hD vals hv i a hi=>?_⟩
 ·have h1:=get i a hi
  have h2:=get j a hj
  exact(List.getElem?_inj (Qa.1 h1).1 hr.nodup).1 (h1.trans h2.symm)
 ·have:=hr.hand a (Qj (get i a hi))
  obtain⟨o,h3,h4⟩:=fixedIds_mem hF
  rw[h3] at this
  cases o <;> simp [handO,AO.fixed] at this h4
 ·simp only[List.getElem?_map,Qi] at hp
  obtain⟨a,ha,rfl⟩:=hp
  exact convO_mt (g2 i a y ha hy)
 ·exact(hr.root HD E hE (fun b hb=>by
   obtain⟨j,hj⟩:=Qc.1 hb
   exact hD j b (by simp [hj])) vals hv).1 a (Qj (get i a hi))
mutual
theorem beqV_eq:∀(x y:AV),beqV x y=true→x=y
 | .agg a,y,h=>by
  cases y <;> simp only[beqV] at h <;> first | (cases h;done) | (rw[beqL_eq a _ h])
 | .tuple a,y,h=>by
  cases y <;> simp only[beqV] at h <;> first | (cases h;done) | (rw[beqL_eq a _ h])
 | .fn f a,y,h=>by
  cases y <;> simp only[beqV,Qb,beq_iff_eq] at h <;> first | (cases h;done) | (rw[h.1,beqL_eq a _ h.2])
 | .sl z a,y,h=>by
  cases y <;> simp only[beqV,Qb,beq_iff_eq] at h <;> first | (cases h;done) | (rw[h.1,beqL_eq a _ h.2])
 | .slc z a,y,h=>by
  cases y <;> simp only[beqV,Qb,beq_iff_eq] at h <;> first | (cases h;done) | (rw[h.1,beqL_eq a _ h.2])
 | .rp a,y,h=>by
  cases y <;> simp only[beqV] at h <;> first | (cases h;done) | (rw[beqL_eq a _ h])
 | .nls,y,h=>by cases y <;> simp only[beqV] at h <;> first | rfl | (cases h;done)
 | .nfn,y,h=>by cases y <;> simp only[beqV] at h <;> first | rfl | (cases h;done)
 | .npt,y,h=>by cases y <;> simp only[beqV] at h <;> first | rfl | (cases h;done)
 | .undef,y,h=>by cases y <;> simp only[beqV] at h <;> first | rfl | (cases h;done)
 | .int k n,y,h=>by cases y <;> simp only[beqV,Qb,beq_iff_eq] at h <;> first | (cases h;done) | (rw[h.1,h.2])
 | .bool a,y,h=>by cases y <;> simp only[beqV,beq_iff_eq] at h <;> first | (cases h;done) | rw[h]
 | .str a,y,h=>by cases y <;> simp only[beqV,beq_iff_eq] at h <;> first | (cases h;done) | rw[h]
 | .own i s n,y,h=>by cases y <;> simp only[beqV,Qb,beq_iff_eq] at h <;> first | (cases h;done) | (obtain⟨⟨rfl,rfl⟩,rfl⟩:=h;rfl)
 | .ptr i s n x o,y,h=>by cases y <;> simp only[beqV,Qb,beq_iff_eq] at h <;> first | (cases h;done) | (obtain⟨⟨⟨⟨rfl,rfl⟩,rfl⟩,rfl⟩,rfl⟩:=h;rfl)
 | .mp i,y,h=>by cases y <;> simp only[beqV,beq_iff_eq] at h <;> first | (cases h;done) | rw[h]
 | .it i,y,h=>by cases y <;> simp only[beqV,beq_iff_eq] at h <;> first | (cases h;done) | rw[h]
 | .ows i s n,y,h=>by cases y <;> simp only[beqV,Qb,beq_iff_eq] at h <;> first | (cases h;done) | (obtain⟨⟨rfl,rfl⟩,rfl⟩:=h;rfl)
 | .sym i,y,h=>by cases y <;> simp only[beqV,beq_iff_eq] at h <;> first | (cases h;done) | rw[h]
 | .top,y,h=>by cases y <;> simp only[beqV] at h <;> cases h
 | .win _ _ _ _ _,y,h=>by cases y <;> simp only[beqV] at h <;> cases h
 | .fm _,y,h=>by cases y <;> simp only[beqV] at h <;> cases h
 | .yld _,y,h=>by cases y <;> simp only[beqV] at h <;> cases h
 | .cst _,y,h=>by cases y <;> simp only[beqV] at h <;> cases h
 | .mth _ _,y,h=>by cases y <;> simp only[beqV] at h <;> cases h
 | .cond _ _,y,h=>by cases y <;> simp only[beqV] at h <;> cases h
theorem beqL_eq:∀(xs ys:List AV),beqL xs ys=true→xs=ys
 | [],ys,h=>by cases ys with
  | nil=>rfl
  | cons y s=>simp only[beqL] at h;cases h
 | x :: r,ys,h=>by cases ys with
  | nil=>simp only[beqL] at h;cases h
  | cons y s=>
   simp only[beqL,Qb] at h
   rw[beqV_eq x y h.1,beqL_eq r s h.2]
end
theorem beqE_eq:∀(xs ys:List (AV×AV)),beqE xs ys=true→xs=ys:=by
 intro xs
 induction xs with
 | nil=>intro ys h;cases ys with
  | nil=>rfl
  | cons y s=>simp only[beqE] at h;cases h
 | cons x r ih=>
  intro ys h
  obtain⟨k,v⟩:=x
  cases ys with
  | nil=>simp only[beqE] at h;cases h
  | cons y s=>
   obtain⟨k',v'⟩:=y
   simp only[beqE,Qb] at h
   rw[beqV_eq k k' h.1.1,beqV_eq v v' h.1.2,ih s h.2]
theorem beqO_eq {a b:AO}(h:beqO a b=true):a=b∧a.lives=true:=by
 cases a <;> cases b <;> simp only[beqO,Qb,beq_iff_eq] at h <;> first | (cases h;done) | skip
 ·obtain⟨⟨rfl,rfl⟩,h⟩:=h;rw[beqL_eq _ _ h];exact⟨rfl,rfl⟩
 ·rw[beqE_eq _ _ h];exact⟨rfl,rfl⟩
 ·subst h;exact⟨rfl,rfl⟩
theorem wrL_spec {H H1:AH}:∀(l:List Nat),(∀a,a∈(wrL H H1 l).1∨a∈(wrL H H1 l).2↔a∈l)∧∀a∈(wrL H H1 l).2,H1[a]? =H[a]?∧livesAt H a=true:=by
 intro l
 induction l with
 | nil=>exact⟨fun a=>by simp [wrL],fun a h=>by simp [wrL] at h⟩
 | cons x r ih=>
  obtain⟨i1,i2⟩:=ih
  unfold wrL
  generalize wrL H H1 r=q at i1 i2 ⊢
  obtain⟨w,k⟩:=q
  simp only at i1 i2
  cases hx:H[x]? with
  | none=>
   simp only
   exact⟨fun a=>by simp only[Qg];rw[←i1 a];exact or_assoc,i2⟩
  | some o=>
   cases hy:H1[x]? with
   | none=>
    simp only
    exact⟨fun a=>by simp only[Qg];rw[←i1 a];exact or_assoc,i2⟩
   | some o1=>
    simp only
    split
    ·next hb=>
     obtain⟨h1,h2⟩:=beqO_eq hb
     subst h1
     refine⟨fun a=>?_,fun a ha=>?_⟩
     ·simp only[Qg];rw[←i1 a];constructor
      ·rintro(h | h | h)
       ·exact .inr (.inl h)
       ·exact .inl h
       ·exact .inr (.inr h)
      ·rintro(h | h | h)
       ·exact .inr (.inl h)
       ·exact .inl h
       ·exact .inr (.inr h)
     ·simp only[Qg] at ha
      rcases ha with rfl | ha
      ·exact⟨hy.trans hx.symm,by unfold livesAt;rw[hx];exact h2⟩
      ·exact i2 a ha
    ·exact⟨fun a=>by simp only[Qg];rw[←i1 a];exact or_assoc,i2⟩
end Go.Pg
