/- Pg: operations on maps. -/
import Derived.Test.YtjbgnnggmngpcaaGreatDoorPgMut
import Derived.MapKept
import Derived.Laws.IdiomRangeMap
set_option linter.unusedVariables false
set_option linter.unusedSimpArgs false
set_option linter.unusedSectionVars false
open List renaming getElem?_eq_some_iff → Qa,getElem?_eraseIdx → Qb,length_eraseIdx → Qe,getElem?_append_left → Qf,eq_nil_of_length_eq_zero → Qi,getElem?_set_self → Qq,mem_map_of_mem → Qu,filter_cons → Qw,map_cons → Qz
open Array renaming getElem?_toList → Qc,getElem?_eq_some_iff → Qd,getElem?_setIfInBounds_ne → Qg,getElem?_modify → Qh,filter_eq_self → Qj,getElem?_push → Qk,toList_filter → Ql,getD_eq_getD_getElem? → Qm,eraseIdxIfInBounds → Qp,mem_iff_getElem → Qs,length_toList → Qt,toList_inj → Qv,mem_filter → Qx
open Bool renaming false_eq_true → Qn,not_eq_true' → Qo,eq_iff_iff → Qy
open Option renaming map_eq_some_iff → Qr
open Nat renaming le_refl → Q0
namespace Go.Pg
open Go
variable [Syms]
def keyB:AV→AV→Bool
 | .int _ a,.int _ b=>a == b
 | .str a,.str b=>a == b
 | _,_=>false
def isKeyA:TypeDesc→AV→Bool
 | .int k,.int k' _=>k' == k
 | .string,.str _=>true
 | _,_=>false
def mapT (P:Program)(t:TypeId):Option (Option IntKind×TypeId):=
 match P.underlying t with
 | some (.map k e)=>match P.underlying k with
  | some (.int kd)=>some (some kd,e)
  | some .string=>some (none,e)
  | _=>none
 | _=>none
def kdT:Option IntKind→TypeDesc
 | some k=> .int k
 | none=> .string
theorem mapT_spec {P:Program}{t:TypeId}{kd:Option IntKind}{e:TypeId}(h:mapT P t=some (kd,e)):∃k,P.underlying t=some (.map k e)∧P.underlying k=some (kdT kd):=by
 unfold mapT at h
 split at h
 ·next k e' h1=>
  split at h
  ·next kd' h2=>cases h;exact⟨k,h1,h2⟩
  ·next h2=>cases h;exact⟨k,h1,h2⟩
  ·cases h
 ·cases h
def findE (k:AV):List (AV×AV)→Option AV
 | []=>none
 | p :: r=>if keyB p.1 k=true then some p.2 else findE k r
def setE (k v:AV):List (AV×AV)→List (AV×AV)
 | []=>[(k,v)]
 | p :: r=>if keyB p.1 k=true then(k,v) :: r else p :: setE k v r
def delE (k:AV):List (AV×AV)→List (AV×AV)
 | []=>[]
 | p :: r=>if keyB p.1 k=true then r else p :: delE k r
theorem isKey_VR {E:Env}{d:TypeDesc}{x:AV}{v:Value}(h:VR E x v)(hk:isKeyA d x=true):MapKept.IsKey d v∧VP E.W E.st x v:=by
 cases h <;> first
  | (cases d <;> simp [isKeyA] at hk;done)
  | (next k n=>cases d <;> simp [isKeyA] at hk;subst hk;exact⟨rfl,.int _ _⟩)
  | (next s=>cases d <;> simp [isKeyA] at hk;exact⟨trivial,.str _⟩)
theorem keyB_now {W:World}{st:Nat→Prop}{d:TypeDesc}{x y:AV}{u v:Value}(hx:VP W st x u)(hy:VP W st y v)(kx:isKeyA d x=true)(ky:isKeyA d y=true):Instr.sameNow d v u=some (keyB x y)∧(keyB x y=true→u=v∧x=y):=by
 cases d <;> cases x <;> simp [isKeyA] at kx <;> cases y <;> simp [isKeyA] at ky
 ·subst kx;subst ky
  cases hx;cases hy
  refine⟨?_,?_⟩
  ·simp only[Instr.sameNow,keyB,if_pos]
   congr 1
   rw[Qy,beq_iff_eq,beq_iff_eq];exact eq_comm
  ·intro h;simp [keyB] at h;subst h;exact⟨rfl,rfl⟩
 ·cases hx with
  | str s=>
  cases hy with
  | str s'=>
  have e:(s' == s)=(s.data.toList == s'.data.toList):=by
   rw[Qy,MapKept.bytes_beq,beq_iff_eq]
   constructor
   ·intro h;rw[h]
   ·intro h
    obtain⟨d⟩:=s
    obtain⟨d'⟩:=s'
    have:d=d':=Qv.1 h
    rw[this]
  refine⟨?_,fun h=>?_⟩
  ·show some (s' == s)=some _
   rw[e];rfl
  ·have h':(s.data.toList == s'.data.toList)=true:=h
   rw[←e,MapKept.bytes_beq] at h'
   rw[h'];exact⟨rfl,rfl⟩
structure EntsV (W:World) (st:Nat→Prop) (es:List (AV×AV)) (l:List MapEntry):Prop where
 len:l.length=es.length
 ent:∀(i:Nat) k x,es[i]? =some (k,x)→∃e,l[i]? =some e∧VP W st k e.key∧VP W st x e.val
theorem EntsAt.v {E:Env}{es:List (AV×AV)}{a:Array MapEntry}(h:EntsAt E es a):EntsV E.W E.st es a.toList:=
 ⟨by simpa using h.size,fun i k x hi=>let⟨e,h1,h2⟩:=h.ent i k x hi;⟨e,by simpa using h1,h2⟩⟩
theorem EntsV.tail {W:World}{st:Nat→Prop}{p:AV×AV}{es:List (AV×AV)}{e:MapEntry}{l:List MapEntry}(h:EntsV W st (p :: es) (e :: l)):EntsV W st es l:=
 ⟨by simpa using h.len,fun i k x hi=>by simpa using h.ent (i+1) k x (by simpa using hi)⟩
theorem findNow_E {W:World}{st:Nat→Prop}{d:TypeDesc}{k:AV}{kv:Value}(hk:VP W st k kv)(kk:isKeyA d k=true):∀(es:List (AV×AV))(l:List MapEntry)(i:Nat),EntsV W st es l→(es.all fun p=>isKeyA d p.1)=true→
 (findE k es=none∧Instr.findNow d kv l i=some none∧∀v,setE k v es=es ++ [(k,v)]∧delE k es=es)∨
 ∃(j:Nat) (e:MapEntry) (x:AV),findE k es=some x∧Instr.findNow d kv l i=some (some (i+j,e.val))∧l[j]? =some e∧VP W st x e.val∧e.key=kv∧j<es.length∧(∀v,setE k v es=es.set j (k,v))∧delE k es=es.eraseIdx j:=by
 intro es
 induction es with
 | nil=>
  intro l i h _
  have:l=[]:=Qi (by simpa using h.len)
  subst this
  exact .inl ⟨rfl,rfl,fun v=>⟨rfl,rfl⟩⟩
 | cons p es ih=>
  intro l i h hall
  simp only[List.all_cons,Bool.and_eq_true] at hall
  cases l with
  | nil=>have:=h.len;simp at this
  | cons e l=>
   obtain⟨e',h1,h2,h3⟩:=h.ent 0 p.1 p.2 rfl
   simp at h1;subst h1
   obtain⟨h4,h5⟩:=keyB_now h2 hk hall.1 kk
   cases hb:keyB p.1 k with
   | true=>
    right
    refine⟨0,e,p.2,by simp [findE,hb],by simp [Instr.findNow,h4,hb],rfl,h3,(h5 hb).1,by simp,fun v=>by simp [setE,hb],by simp [delE,hb]⟩
   | false=>
    rcases ih l (i+1) h.tail hall.2 with⟨g1,g2,g3⟩ | ⟨j,e2,x,g1,g2,g3,g4,g5,g6,g7,g8⟩
    ·exact .inl ⟨by simp [findE,hb,g1],by simp [Instr.findNow,h4,hb,g2],fun v=>⟨by simp [setE,hb,(g3 v).1],by simp [delE,hb,(g3 v).2]⟩⟩
    ·exact .inr ⟨j+1,e2,x,by simp [findE,hb,g1],by simp [Instr.findNow,h4,hb,g2];omega,by simpa using g3,g4,g5,by simp;omega,fun v=>by simp [setE,hb,g7 v],by simp [delE,hb,g8]⟩
def keysE (d:TypeDesc)(es:List (AV×AV)):Bool:=es.all fun p=>isKeyA d p.1
theorem keysE_nil {d:TypeDesc}:keysE d []=true:=(rfl)
theorem keysE_cons {d:TypeDesc}{k v:AV}{r:List (AV×AV)}:keysE d ((k,v) :: r)=(isKeyA d k && keysE d r):=(rfl)
def hasE (k:AV)(es:List (AV×AV)):Bool:=(findE k es).isSome
def lookV (P:Program)(e:TypeId)(k:AV)(es:List (AV×AV))(ok:Bool):AV:=
 if ok then .tuple [(findE k es).getD (tz P e),.bool (hasE k es)] else(findE k es).getD (tz P e)
def mapK (P:Program)(ev:AEnv)(H:AH)(o:Oper)(K:HK):Prop:=
 match o.op with
 | .makeMap _ none=>K (.mp H.length) (H ++ [.mp []]) [H.length] [] []
 | .lookup t x i ok=>match opnd ev x,mapT P t with
  | .mp id,some (kd,e)=>match mapAt H id with
   | some es=>keysE (kdT kd) es=true∧isKeyA (kdT kd) (opnd ev i)=true∧(tz P e).definite=true∧K (lookV P e (opnd ev i) es ok) H [] [id] []
   | none=>False
  | .fm es,some (kd,e)=>keysE (kdT kd) es=true∧isKeyA (kdT kd) (opnd ev i)=true∧(tz P e).definite=true∧K (lookV P e (opnd ev i) es ok) H [] [] []
  | _,_=>False
 | .mapUpdate t m k x=>match opnd ev m,mapT P t,res8 H (opnd ev x) with
  | .mp id,some (kd,_),some (y,[])=>match H[id]? with
   | some (.mp es)=>keysE (kdT kd) es=true∧isKeyA (kdT kd) (opnd ev k)=true∧K .undef (H.set id (.mp (setE (opnd ev k) y es))) [] [id] [id]
   | _=>False
  | _,_,_=>False
 | .insert t m k x=>match opnd ev m,mapT P t,res8 H (opnd ev x) with
  | .mp id,some (kd,_),some (y,[])=>match H[id]? with
   | some (.mp es)=>keysE (kdT kd) es=true∧isKeyA (kdT kd) (opnd ev k)=true∧K .undef (H.set id (.mp (setE (opnd ev k) y es))) [] [id] [id]
   | _=>False
  | _,_,_=>False
 | .call { callee:= .builtin .delete,args,argTypes }=>match args.toList,argTypes.toList with
  | [m,k],t :: _=>match opnd ev m,mapT P t with
   | .mp id,some (kd,_)=>match H[id]? with
    | some (.mp es)=>keysE (kdT kd) es=true∧isKeyA (kdT kd) (opnd ev k)=true∧K (.tuple []) (H.set id (.mp (delE (opnd ev k) es))) [] [id] [id]
    | _=>False
   | _,_=>False
  | _,_=>False
 | .range t x=>match opnd ev x,mapT P t with
  | .fm es,some _=>K (.it H.length) (H ++ [.it none es]) [H.length] [] []
  | .mp id,some _=>match mapAt H id with
   | some es=>K (.it H.length) (frzAt H id ++ [.it none es]) [H.length] [id] []
   | none=>False
  | _,_=>False
 | .entry x=>match opnd ev x with
  | .it id=>match H[id]? with
   | some (.it (some (k,v)) es)=>K (.tuple [k,v]) H [] [id] [id]
   | _=>False
  | _=>False
 | _=>False
theorem tz_zero {P:Program}{t:TypeId}(hd:(tz P t).definite=true)(E:Env):∃z,VR E (tz P t) z∧∀w,(zeroValue t).run P w= .ok z w:=by
 unfold tz at hd ⊢
 split at hd
 ·next i hi=>
  split at hd
  ·next v hv=>exact⟨v,ofV_VR E v,fun w=>by simp [zeroValue,typeInfo,hi,hv]⟩
  ·simp [AV.definite] at hd
 ·simp [AV.definite] at hd
theorem mp_read {HD:AH}{E:Env}(hr:Rel HD E){id:Nat}{es:List (AV×AV)}{v:Value}(hv:VR E (.mp id) v)(ho:mapAt HD id=some es):∃b a cl,v= .map (some b)∧E.M id=some (some b)∧E.W.heap[b]? =some (.map a cl)∧EntsAt E es a∧Stamps a cl:=by
 cases hv with
 | mp _ b hm hl=>
 have ho':∃o,HD[id]? =some o∧o.len=some 0∧∀m,ORow E m o→MRow E m es:=by
  rcases mapAt_cases ho with h | h
  ·exact⟨_,h,rfl,fun m h=>h⟩
  ·exact⟨_,h,rfl,fun m h=>h⟩
 obtain⟨o,h1,h2,h3⟩:=ho'
 have hM:=hl (by rw[hr.hl];simp [hlOf,h1,h2])
 obtain⟨b',a,cl,k1,k2,k3,k4⟩:=h3 _ (hr.orow id o _ h1 hM)
 cases k1
 exact⟨b,a,cl,rfl,hM,k2,k3,k4⟩
theorem fm_read {E:Env}{es:List (AV×AV)}{v:Value}(hv:VR E (.fm es) v):∃b a cl,v= .map (some b)∧E.st b∧E.W.heap[b]? =some (.map a cl)∧EntsAt E es a∧Stamps a cl:=by
 cases hv with
 | fm _ b a cl g1 g2 g3 g4 g5 g6=>
 refine⟨b,a,cl,rfl,g1,g2,⟨g3,fun i k x hi=>?_⟩,g4⟩
 have hl:i<a.size:=by rw[g3];exact(Qa.1 hi).1
 refine⟨a[i],by simp [hl],?_,?_⟩
 ·have:=g5 i k x hi
  simpa [Qm,hl] using this
 ·have:=g6 i k x hi
  simpa [Qm,hl] using this
theorem mapAt_has {H HD:AH}{id:Nat}{es:List (AV×AV)}(h:mapAt H id=some es)(hh:Has H id HD):mapAt HD id=some es:=by
 rcases mapAt_cases h with h | h
 ·obtain⟨o',h1,h2⟩:=hh _ h
  rcases h2 with rfl | ⟨_,_,_,h3,h4⟩ | ⟨_,h3,h4⟩
  ·simp [mapAt,h1]
  ·cases h3
  ·cases h3;subst h4;simp [mapAt,h1]
 ·obtain⟨o',h1,h2⟩:=hh _ h
  rcases h2 with rfl | ⟨_,_,_,h3,h4⟩ | ⟨_,h3,h4⟩
  ·simp [mapAt,h1]
  ·cases h3
  ·cases h3
theorem lookup_run {P:Program}{E:Env}{t x:TypeId}{kd:Option IntKind}(ht:mapT P t=some (kd,x)){es:List (AV×AV)}{b cl:Nat}{a:Array MapEntry}(hb:E.W.heap[b]? =some (.map a cl))(he:EntsAt E es a)
 (hall:(es.all fun p=>isKeyA (kdT kd) p.1)=true) {k:AV} {kv:Value} (hk:VR E k kv) (kk:isKeyA (kdT kd) k=true) (hd:(tz P x).definite=true) (ok:Bool) :
 ∃v,VR E (lookV P x k es ok) v∧(Instr.lookup t (.map (some b)) kv ok).run P E.W= .ok v E.W:=by
 obtain⟨kt,h1,h2⟩:=mapT_spec ht
 obtain⟨hik,hkp⟩:=isKey_VR hk kk
 obtain⟨z,hz,hzr⟩:=tz_zero hd E
 have tup:∀(p:AV) (u:Value) (bb:Bool),VR E p u→VR E (.tuple [p,.bool bb]) (.tuple #[u,.bool bb]):=fun p u bb hp=> .tuple _ _ rfl fun i c hc=>by
  match i,hc with
  | 0,hc=>simp at hc;subst hc;simpa using hp
  | 1,hc=>simp at hc;subst hc;simpa using VR.bool bb
  | i+2,hc=>simp at hc
 rcases findNow_E hkp kk es a.toList 0 he.v hall with⟨g1,g2,_⟩ | ⟨j,e,y,g1,g2,g3,g4,g5,_⟩
 ·cases ok with
  | true=>exact⟨_,by simpa [lookV,hasE,g1] using tup _ z false hz,by simp [Instr.lookup,run_underlying h1,MapKept.run_getObj_map hb,MapKept.run_checkKey h2 hik,MapKept.run_findKey h2 g2,hzr,Result.andThen]⟩
  | false=>exact⟨z,by simpa [lookV,g1] using hz,by simp [Instr.lookup,run_underlying h1,MapKept.run_getObj_map hb,MapKept.run_checkKey h2 hik,MapKept.run_findKey h2 g2,hzr,Result.andThen]⟩
 ·cases ok with
  | true=>exact⟨_,by simpa [lookV,hasE,g1] using tup _ e.val true g4.vr,by simp [Instr.lookup,run_underlying h1,MapKept.run_getObj_map hb,MapKept.run_checkKey h2 hik,MapKept.run_findKey h2 g2,Result.andThen]⟩
  | false=>exact⟨e.val,by simpa [lookV,g1] using g4.vr,by simp [Instr.lookup,run_underlying h1,MapKept.run_getObj_map hb,MapKept.run_checkKey h2 hik,MapKept.run_findKey h2 g2,Result.andThen]⟩
theorem setE_ents {W:World}{st:Nat→Prop}{es:List (AV×AV)}{a:Array MapEntry}{k y:AV}{kv v:Value}(he:a.size=es.length∧∀(i:Nat) k x,es[i]? =some (k,x)→∃e,a[i]? =some e∧VP W st k e.key∧VP W st x e.val)(hk:VP W st k kv)(hy:VP W st y v){j:Nat}(hj:j<es.length){f:MapEntry→MapEntry}(hf:∀e,f e={ e with key:=kv,val:=v }) :
 (a.modify j f).size=(es.set j (k,y)).length∧∀(i:Nat) k' x,(es.set j (k,y))[i]? =some (k',x)→∃e,(a.modify j f)[i]? =some e∧VP W st k' e.key∧VP W st x e.val:=by
 refine⟨by simp [he.1],fun i k' x hi=>?_⟩
 rw[List.getElem?_set] at hi
 rw[Qh]
 by_cases e:j=i
 ·subst e
  rw[if_pos rfl] at hi
  rw[if_pos rfl]
  simp only[hj,if_true,Option.some.injEq,Prod.mk.injEq] at hi
  obtain⟨rfl,rfl⟩:=hi
  have:j<a.size:=by rw[he.1];exact hj
  exact⟨f a[j],by simp [this],by rw[hf];exact hk,by rw[hf];exact hy⟩
 ·rw[if_neg e] at hi
  rw[if_neg e]
  exact he.2 i k' x hi
theorem mapWr {P:Program}{dst:Option Tmp}{op:Op}{ty:TypeId}{pos:String}{after:Array Edge}{guard:Option (Nat×Bool)}{ev:AEnv}{H:AH}{K:HK}{id:Nat}{es es':List (AV×AV)}{V:AV}(hH:H[id]? =some (.mp es))(hK:K V (H.set id (.mp es')) [] [id] [id])
 (h:∀(HD:AH) E a,Opd ev E a ⟨dst,op,ty,pos,after,guard⟩→Rel HD E→HD[id]? =some (.mp es)→∃b ar cl ar' cl' out,E.M id=some (some b)∧E.W.heap[b]? =some (.map ar cl)∧
   (∀w',w'={ E.W with heap:=E.W.heap.setIfInBounds b (.map ar' cl') }→(out= .skip∧V= .undef∨∃v,out= .value v∧∀E',VR E' V v)∧(execOp a.eval ⟨dst,op,ty,pos,after,guard⟩).run P E.W= .ok out w')∧EntsAt E es' ar'∧Stamps ar' cl') :
 HSnd P ev H ⟨dst,op,ty,pos,after,guard⟩ K:=by
 have hidl:id<H.length:=(Qa.1 hH).1
 refine⟨_,_,_,_,_,hK,HCond.write H id _ [id] hidl (by simp),?_⟩
 intro HD E a hl hr _ _ hwr _ K' Q hK'
 have hD:HD[id]? =some (.mp es):=by rw[hwr id (by simp)];exact hH
 obtain⟨b,ar,cl,ar',cl',out,hM,hb,hrun,hes,hst⟩:=h HD E a hl hr hD
 obtain⟨w',hw'⟩:∃w':World,w'={ E.W with heap:=E.W.heap.setIfInBounds b (.map ar' cl') }:=⟨_,rfl⟩
 obtain⟨hout,hrun2⟩:=hrun w' hw'
 clear hrun
 have hbl:b<E.W.heap.size:=(Qd.1 hb).1
 obtain⟨E',hW,hr',hstep,hMM⟩:=write_gen hr (o':= .mp es') hD rfl (by simp) hM (w':=w') (by subst hw';exact⟨rfl,rfl,rfl⟩) (by subst hw';simp) (fun k hk=>by
  subst hw';show(E.W.heap.setIfInBounds b _)[k]? =_;rw[Qg (Ne.symm hk)]) (fun c t fz hc=>by rw[hb] at hc;cases hc) (fun L' hL=>⟨0,rfl,by simp [AO.len] at hL;omega⟩) (fun E' hx hE'=>by
  refine⟨b,ar',cl',rfl,?_,hes.mono hx,hst⟩
  rw[hE',hw']
  show(E.W.heap.setIfInBounds b _)[b]? =_
  simp [hbl])
 have hfin:=fun v hv=>hK' (HD.set id (.mp es')) E' v (by simp) (fun j hj=>List.getElem?_set_ne (fun e=>hj (by simp [e]))) (fun j hj=>by
  have:j=id:=by simpa using hj
  subst this
  have hidD:j<HD.length:=(Qa.1 hD).1
  rw[Qq hidD,Qq hidl]) hv hr' hstep (fun j h1 h2=>by rw[hMM] at h2;exact absurd h1 h2)
 rcases hout with⟨rfl,rfl⟩ | ⟨v,rfl,hv⟩
 ·exact wp_of_skip (by rw[hW];exact hrun2) (hfin Go.undef .undef)
 ·exact wp_of_value (by rw[hW];exact hrun2) (hfin v (hv E'))
theorem upd_run {P:Program}{E:Env}{t x:TypeId}{kd:Option IntKind}(ht:mapT P t=some (kd,x)){es:List (AV×AV)}{b cl:Nat}{a:Array MapEntry}(hb:E.W.heap[b]? =some (.map a cl))(he:EntsAt E es a)(hs:Stamps a cl)
 (hall:(es.all fun p=>isKeyA (kdT kd) p.1)=true) {k y:AV} {kv v:Value} (hk:VR E k kv) (kk:isKeyA (kdT kd) k=true) (hy:VP E.W E.st y v) :
 ∃ar' cl',(Instr.mapUpdate t (.map (some b)) kv v).run P E.W= .ok () { E.W with heap:=E.W.heap.setIfInBounds b (.map ar' cl') }∧EntsAt E (setE k y es) ar'∧Stamps ar' cl':=by
 obtain⟨kt,h1,h2⟩:=mapT_spec ht
 obtain⟨hik,hkp⟩:=isKey_VR hk kk
 rcases findNow_E hkp kk es a.toList 0 he.v hall with⟨g1,g2,g3⟩ | ⟨j,e,x',g1,g2,g3,g4,g5,g6,g7,_⟩
 ·refine⟨a.push { key:=kv,val:=v,born:=cl },cl+1,by simp [Instr.mapUpdate,run_underlying h1,MapKept.run_getObj_map hb,MapKept.run_checkKey h2 hik,MapKept.run_findKey h2 g2,MapKept.run_setObj_map _ hb,Result.andThen],?_,?_⟩
  ·rw[(g3 y).1]
   refine⟨by simp [he.size],fun i k' x'' hi=>?_⟩
   rw[Qk]
   by_cases e:i<es.length
   ·rw[Qf e] at hi
    rw[if_neg (by rw[he.size];omega)]
    exact he.ent i k' x'' hi
   ·have hi0:i=es.length:=by
     have:=(Qa.1 hi).1
     simp at this;omega
    subst hi0
    simp at hi
    obtain⟨rfl,rfl⟩:=hi
    rw[if_pos (by rw[he.size])]
    exact⟨_,rfl,hkp,hy⟩
  ·refine⟨fun i e hi=>?_,fun i j e e' hi hj hee=>?_⟩
   ·rw[Qk] at hi
    split at hi
    ·cases hi;exact Nat.lt_succ_self cl
    ·exact Nat.lt_succ_of_lt (hs.born i e hi)
   ·rw[Qk] at hi hj
    split at hi <;> split at hj
    ·omega
    ·cases hi
     have:=hs.born j e' hj
     simp at hee;omega
    ·cases hj
     have:=hs.born i e hi
     simp at hee;omega
    ·exact hs.dist i j e e' hi hj hee
 ·have hj:(a[j]?)=some e:=by simpa using g3
  refine⟨a.modify j (fun e=>{ e with key:=kv,val:=v }),cl,by simp [Instr.mapUpdate,run_underlying h1,MapKept.run_getObj_map hb,MapKept.run_checkKey h2 hik,MapKept.run_findKey h2 g2,hj,g5,MapKept.run_keyThatStays hik,MapKept.run_setObj_map _ hb,Result.andThen],?_,?_⟩
  ·rw[g7 y]
   obtain⟨q1,q2⟩:=setE_ents (W:=E.W) (st:=E.st) ⟨he.size,he.ent⟩ hkp hy g6 (f:=fun e=>{ e with key:=kv,val:=v }) (fun e=>rfl)
   exact⟨q1,q2⟩
  ·refine⟨fun i e' hi=>?_,fun i j' e1 e2 hi hj' hee=>?_⟩
   ·rw[Qh] at hi
    split at hi
    ·obtain⟨e0,h0,rfl⟩:=Qr.1 hi
     exact hs.born i e0 h0
    ·exact hs.born i e' hi
   ·rw[Qh] at hi hj'
    have key:∀(i:Nat) e,(if j=i then(a[i]?).map (fun e=>({ e with key:=kv,val:=v }:MapEntry)) else a[i]?)=some e→∃e0,a[i]? =some e0∧e0.born=e.born:=by
     intro i e h
     split at h
     ·obtain⟨e0,h0,rfl⟩:=Qr.1 h
      exact⟨e0,h0,rfl⟩
     ·exact⟨e,h,rfl⟩
    obtain⟨e3,k1,k2⟩:=key i e1 hi
    obtain⟨e4,k3,k4⟩:=key j' e2 hj'
    exact hs.dist i j' e3 e4 k1 k3 (by omega)
theorem del_run {P:Program}{E:Env}{t x t' ty:TypeId}{kd:Option IntKind}(ht:mapT P t=some (kd,x)){es:List (AV×AV)}{b cl:Nat}{a:Array MapEntry}(hb:E.W.heap[b]? =some (.map a cl))(he:EntsAt E es a)(hs:Stamps a cl)
 (hall:(es.all fun p=>isKeyA (kdT kd) p.1)=true) {k:AV} {kv:Value} (hk:VR E k kv) (kk:isKeyA (kdT kd) k=true) (ts:Array TypeId) (hts:ts[0]? =some t) :
 ∃ar',(Builtin.delete_ ts ty #[.map (some b),kv]).run P E.W= .ok (.tuple #[]) { E.W with heap:=E.W.heap.setIfInBounds b (.map ar' cl) }∧EntsAt E (delE k es) ar'∧Stamps ar' cl:=by
 obtain⟨kt,h1,h2⟩:=mapT_spec ht
 obtain⟨hik,hkp⟩:=isKey_VR hk kk
 rcases findNow_E hkp kk es a.toList 0 he.v hall with⟨g1,g2,g3⟩ | ⟨j,e,x',g1,g2,g3,g4,g5,g6,g7,g8⟩
 ·refine⟨a,by simp [Builtin.delete_,hts,run_underlying h1,MapKept.run_getObj_map hb,MapKept.run_checkKey h2 hik,MapKept.run_findKey h2 g2,MapKept.run_setObj_map _ hb,Result.andThen],?_,hs⟩
  rw[(g3 .undef).2];exact he
 ·refine⟨a.eraseIdxIfInBounds j,by simp [Builtin.delete_,hts,run_underlying h1,MapKept.run_getObj_map hb,MapKept.run_checkKey h2 hik,MapKept.run_findKey h2 g2,MapKept.run_setObj_map _ hb,Result.andThen],?_,?_⟩
  ·have hj:j<a.size:=by rw[he.size];exact g6
   rw[g8]
   have hl:(a.eraseIdxIfInBounds j).toList=a.toList.eraseIdx j:=by
    unfold Qp
    rw[dif_pos hj];simp
   refine⟨?_,fun i k' x'' hi=>?_⟩
   ·rw[←Qt,hl,Qe,Qe]
    simp [he.size]
   ·rw[Qb] at hi
    have:(a.eraseIdxIfInBounds j)[i]? =if i<j then a[i]? else a[i+1]?:=by
     rw[←Qc,hl,Qb]
     simp
    rw[this]
    split at hi
    ·next h=>rw[if_pos h];exact he.ent i k' x'' hi
    ·next h=>rw[if_neg h];exact he.ent (i+1) k' x'' hi
  ·have hget:∀(i:Nat) e,(a.eraseIdxIfInBounds j)[i]? =some e→∃i',a[i']? =some e∧i'=if i<j then i else i+1:=by
    intro i e hi
    have hj:j<a.size:=by rw[he.size];exact g6
    have hl:(a.eraseIdxIfInBounds j).toList=a.toList.eraseIdx j:=by
     unfold Qp
     rw[dif_pos hj];simp
    rw[←Qc,hl,Qb] at hi
    split at hi
    ·exact⟨i,by simpa using hi,by simp [*]⟩
    ·exact⟨i+1,by simpa using hi,by simp [*]⟩
   refine⟨fun i e hi=>?_,fun i i2 e e2 hi hi2 hee=>?_⟩
   ·obtain⟨i',h3,_⟩:=hget i e hi
    exact hs.born i' e h3
   ·obtain⟨i',h3,h4⟩:=hget i e hi
    obtain⟨i2',h5,h6⟩:=hget i2 e2 hi2
    have:=hs.dist i' i2' e e2 h3 h5 hee
    split at h4 <;> split at h6 <;> omega
theorem mapK_sound {P:Program}{ev:AEnv}{H:AH}{o:Oper}{K:HK}(h:mapK P ev H o K):HSnd P ev H o K:=by
 obtain⟨dst,op,ty,pos,after,guard⟩:=o
 unfold mapK at h
 simp only at h
 split at h
 ·
  next t=>
  refine⟨_,_,_,_,_,h,HCond.alloc H _ [],heapOK_new fun HD E a hl hr _ hm ⟨o',ho,hle⟩=>?_⟩
  obtain⟨E',hW,hr',hst,hM,hMid,hhl⟩:=alloc_gen hr hm (o':=o') ho (by rcases hle with rfl | ⟨_,_,_,h,_⟩ | ⟨_,_,rfl⟩ <;> first | (simp;done) | cases h) (w':=E.W.alloc (.map #[] 0)) (ob:= .map #[] 0) ⟨rfl,rfl,rfl⟩ rfl (fun E' hx hE'=>by
   have:MRow E' (some E.W.heap.size) []:=⟨_,#[],0,rfl,by rw[hE'];exact heap_alloc_new E.W _,⟨rfl,fun i k x hi=>by simp at hi⟩,⟨fun i e hi=>by simp at hi,fun i j e e' hi=>by simp at hi⟩⟩
   rcases hle with rfl | ⟨_,_,_,h,_⟩ | ⟨_,h,rfl⟩
   ·exact this
   ·cases h
   ·cases h;exact this)
  refine⟨E',.map (some E.W.heap.size),rfl,.mp _ _ (by rw[hMid];rfl) fun _=>hMid,?_,hr',hst,hM⟩
  rw[hW]
  simp [execOp,Instr.makeMap,newObj,Sem.run]
 ·
  next t x i ok=>
  split at h
  ·next id kd e hx ht=>
   split at h
   ·next es ho=>
    obtain⟨h1,h2,h3,hK⟩:=h
    refine⟨_,_,_,_,_,hK,HCond.read H [id],heapOK_read fun HD E a hl hr hfp=>?_⟩
    have hv:=hl x (by simp [Op.operands])
    rw[hx] at hv
    obtain⟨b,ar,cl,hav,hM,hb,hes,hs⟩:=mp_read hr hv (mapAt_has ho (hfp id (by simp)))
    obtain⟨v,k1,k2⟩:=lookup_run ht hb hes h1 (hl i (by simp [Op.operands])) h2 h3 ok
    exact⟨v,k1,by simp only[execOp,hav,Sem.run_bind,k2,Result.andThen,Sem.run_pure,map_eq_pure_bind]⟩
   ·exact h.elim
  ·next es kd e hx ht=>
   obtain⟨h1,h2,h3,hK⟩:=h
   refine⟨_,_,_,_,_,hK,HCond.read H [],heapOK_read fun HD E a hl hr hfp=>?_⟩
   have hv:=hl x (by simp [Op.operands])
   rw[hx] at hv
   obtain⟨b,ar,cl,hav,hM,hb,hes,hs⟩:=fm_read hv
   obtain⟨v,k1,k2⟩:=lookup_run ht hb hes h1 (hl i (by simp [Op.operands])) h2 h3 ok
   exact⟨v,k1,by simp only[execOp,hav,Sem.run_bind,k2,Result.andThen,Sem.run_pure,map_eq_pure_bind]⟩
  ·exact h.elim
 ·
  next t m k x=>
  split at h
  ·next id kd e y hx ht hres=>
   split at h
   ·next es ho=>
    obtain⟨h1,h2,hK⟩:=h
    refine mapWr ho hK fun HD E a hl hr hD=>?_
    have hv:=hl m (by simp [Op.operands])
    rw[hx] at hv
    obtain⟨b,ar,cl,hav,hM,hb,hes,hs⟩:=mp_read hr hv (es:=es) (by simp [mapAt,hD])
    have hy:=res_sound (H:=H) hr 8 _ y [] _ hres (hl x (by simp [Op.operands])) (by simp)
    obtain⟨ar',cl',q1,q2,q3⟩:=upd_run ht hb hes hs h1 (hl k (by simp [Op.operands])) h2 hy
    refine⟨b,ar,cl,ar',cl',.skip,hM,hb,fun w' hw'=>⟨.inl ⟨rfl,rfl⟩,?_⟩,q2,q3⟩
    subst hw'
    simp only[execOp,hav]
    simp only[Sem.run_bind,q1,Result.andThen,Sem.run_pure]
   ·exact h.elim
  ·exact h.elim
 ·
  next t m k x=>
  split at h
  ·next id kd e y hx ht hres=>
   split at h
   ·next es ho=>
    obtain⟨h1,h2,hK⟩:=h
    refine mapWr ho hK fun HD E a hl hr hD=>?_
    have hv:=hl m (by simp [Op.operands])
    rw[hx] at hv
    obtain⟨b,ar,cl,hav,hM,hb,hes,hs⟩:=mp_read hr hv (es:=es) (by simp [mapAt,hD])
    have hy:=res_sound (H:=H) hr 8 _ y [] _ hres (hl x (by simp [Op.operands])) (by simp)
    obtain⟨ar',cl',q1,q2,q3⟩:=upd_run ht hb hes hs h1 (hl k (by simp [Op.operands])) h2 hy
    refine⟨b,ar,cl,ar',cl',.skip,hM,hb,fun w' hw'=>⟨.inl ⟨rfl,rfl⟩,?_⟩,q2,q3⟩
    subst hw'
    simp only[execOp,hav]
    simp only[Sem.run_bind,q1,Result.andThen,Sem.run_pure]
   ·exact h.elim
  ·exact h.elim
 ·
  next args argTypes=>
  split at h
  ·next m k t ts hargs htys=>
   split at h
   ·next id kd e hx ht=>
    split at h
    ·next es ho=>
     obtain⟨h1,h2,hK⟩:=h
     have ha:args= #[m,k]:=by rw[←Qv];simpa using hargs
     subst ha
     refine mapWr ho hK fun HD E a hl hr hD=>?_
     have hv:=hl m (by simp [Op.operands,Call.operands])
     rw[hx] at hv
     obtain⟨b,ar,cl,hav,hM,hb,hes,hs⟩:=mp_read hr hv (es:=es) (by simp [mapAt,hD])
     obtain⟨ar',q1,q2,q3⟩:=del_run (ty:=ty) (t':=t) ht hb hes hs h1 (hl k (by simp [Op.operands,Call.operands])) h2 argTypes (by rw[←Qc,htys];rfl)
     refine⟨b,ar,cl,ar',cl,.value (.tuple #[]),hM,hb,fun w' hw'=>⟨.inr ⟨_,rfl,fun E'=> .tuple [] #[] rfl (fun i c hc=>by simp at hc)⟩,?_⟩,q2,q3⟩
     subst hw'
     simp only[execOp,resolve,Deferred.ofValue,invoke,hav,builtin,Sem.run_bind,Result.andThen,q1,Sem.run_pure,List.map_toArray,Qz,List.map_nil,map_eq_pure_bind]
    ·exact h.elim
   ·exact h.elim
  ·exact h.elim
 ·
  next t x=>
  split at h
  ·next es p hx ht=>
   obtain⟨kd,e⟩:=p
   obtain⟨kt,ht1,ht2⟩:=mapT_spec ht
   refine⟨_,_,_,_,_,h,HCond.alloc H _ [],heapOK_new fun HD E a hl hr _ hm ⟨o',ho,hle⟩=>?_⟩
   have hv:=hl x (by simp [Op.operands])
   rw[hx] at hv
   obtain⟨b,ar,cl,hav,hM,hb,hes,hs⟩:=fm_read hv
   have ho':o'= .it none es:=by
    rcases hle with rfl | ⟨_,_,_,h,_⟩ | ⟨_,h,_⟩
    ·rfl
    ·cases h
    ·cases h
   subst ho'
   obtain⟨E',hW,hr',hst,hMM,hMid,hhl⟩:=alloc_gen hr hm ho (by simp) (w':=E.W.alloc (.mapIter (some b) cl #[] cl)) (ob:= .mapIter (some b) cl #[] cl) ⟨rfl,rfl,rfl⟩ rfl (fun E' hx' hE'=>by
    refine⟨_,b,#[],ar,cl,rfl,by rw[hE'];exact heap_alloc_new E.W _,hx'.st b hM,by rw[hx'.same b hM];exact hb,?_,hs,fun k x hc=>by cases hc⟩
    have:(ar.filter fun e=>!(#[]:Array Nat).contains e.born)=ar:=by
     rw[Qj];intro e _;simp
    rw[this]
    exact hes.mono hx')
   refine⟨E',.pointer (some ⟨E.W.heap.size,0,none⟩),rfl,.it _ _ (by rw[hMid];rfl) fun _=>hMid,?_,hr',hst,hMM⟩
   rw[hW]
   simp [execOp,hav,Instr.range,run_underlying ht1,MapKept.run_getObj_map hb,newObj,Sem.run,Sem.run_bind,Result.andThen]
  ·next id p hx ht=>
   split at h
   ·next es ho=>
    obtain⟨kd,e⟩:=p
    obtain⟨kt,ht1,ht2⟩:=mapT_spec ht
    have hidl:id<H.length:=by rcases mapAt_cases ho with h | h <;> exact(Qa.1 h).1
    have hfl:(frzAt H id).length=H.length:=frzAt_length H id
    refine⟨_,_,_,_,_,h,⟨by simp,by simp,fun j _ x hj=>?_,by simp,by simp [hfl],by simp [hfl]⟩,?_⟩
    ·obtain⟨o',h1,h2⟩:=frzAt_le H id j x hj
     exact⟨o',by rw[Qf (Qa.1 h1).1];exact h1,h2⟩
    ·intro HD E a hl hr _ hfp _ hnew K' Q hK'
     obtain⟨hm,hh⟩:=hnew H.length (by simp)
     obtain⟨o',ho',hle⟩:=hh (.it none es) (by rw[List.getElem?_append_right (by omega),hfl];simp)
     have hD:HD[id]? =some (.fmp es):=by
      have hf:(frzAt H id)[id]? =some (.fmp es):=by
       rw[frzAt_get,if_pos rfl]
       rcases mapAt_cases ho with h | h <;> rw[h] <;> rfl
      obtain⟨o',h1,h2⟩:=hfp id (by simp) (by simp) (.fmp es) (by rw[Qf (Qa.1 hf).1];exact hf)
      rw[h1]
      rcases h2 with h | ⟨_,_,_,h,_⟩ | ⟨_,h,_⟩
      ·rw[h]
      ·cases h
      ·cases h
     have hv:=hl x (by simp [Op.operands])
     rw[hx] at hv
     obtain⟨b,ar,cl,hav,hMi,hb,hes,hs⟩:=mp_read hr hv (es:=es) (by simp [mapAt,hD])
     have hM:E.st b:=hr.fst' id _ b hD rfl hMi
     have ho'':o'= .it none es:=by
      rcases hle with rfl | ⟨_,_,_,h,_⟩ | ⟨_,h,_⟩
      ·rfl
      ·cases h
      ·cases h
     subst ho''
     obtain⟨E',hW,hr',hst,hMM,hMid,hhl⟩:=alloc_gen hr hm ho' (by simp) (w':=E.W.alloc (.mapIter (some b) cl #[] cl)) (ob:= .mapIter (some b) cl #[] cl) ⟨rfl,rfl,rfl⟩ rfl (fun E' hx' hE'=>by
      refine⟨_,b,#[],ar,cl,rfl,by rw[hE'];exact heap_alloc_new E.W _,hx'.st b hM,by rw[hx'.same b hM];exact hb,?_,hs,fun k x hc=>by cases hc⟩
      have:(ar.filter fun e=>!(#[]:Array Nat).contains e.born)=ar:=by
       rw[Qj];intro e _;simp
      rw[this]
      exact hes.mono hx')
     have hrun:(execOp a.eval ⟨dst,.range t x,ty,pos,after,guard⟩).run P E.W= .ok (.value (.pointer (some ⟨E.W.heap.size,0,none⟩))) E'.W:=by
      rw[hW]
      simp [execOp,hav,Instr.range,run_underlying ht1,MapKept.run_getObj_map hb,newObj,Sem.run,Sem.run_bind,Result.andThen]
     exact wp_of_value hrun (hK' HD E' _ rfl (fun _ _=>rfl) (by simp) (.it _ _ (by rw[hMid];rfl) fun _=>hMid) hr' hst (fun j h1 h2=>by simpa using hMM j h1 h2))
   ·exact h.elim
  ·exact h.elim
 ·
  next x=>
  split at h
  ·next id hx=>
   split at h
   ·next k v es ho=>
    have hidl:id<H.length:=(Qa.1 ho).1
    refine⟨_,_,_,_,_,h,⟨by simp,by simpa using hidl,fun j _=>Has.refl H j,by simp,by simp,Q0 _⟩,?_⟩
    intro HD E a hl hr _ hfp hwr _ K' Q hK'
    have hD:HD[id]? =some (.it (some (k,v)) es):=by rw[hwr id (by simp)];exact ho
    have hv:=hl x (by simp [Op.operands])
    rw[hx] at hv
    cases hxv:a.eval x <;> rw[hxv] at hv <;> cases hv
    next b hm hlen=>
    have hM:=hlen (by rw[hr.hl];simp [hlOf,hD,AO.len])
    obtain⟨b',bm,seen,ar,cl,k1,k2,k3,k4,k5,k6,k7⟩:=hr.orow id _ _ hD hM
    cases k1
    obtain⟨i,e,g1,g2,g3,g4⟩:=k7 k v rfl
    have hfind:ar.find? (fun e'=>e'.born == e.born)=some e:=by
     rw[Array.find?_eq_some_iff_getElem]
     obtain⟨hi,hie⟩:=Qd.1 g1
     refine⟨by simp,i,hi,hie,fun j hj=>?_⟩
     simp only[Qo,beq_eq_false_iff_ne,ne_eq]
     intro he
     have:=k6.dist j i ar[j] e (by simp) g1 he
     omega
    have hrun:(execOp a.eval ⟨dst,.entry x,ty,pos,after,guard⟩).run P E.W= .ok (.value (.tuple #[e.key,e.val])) E.W:=by
     simp [execOp,hxv,Instr.entry,getObj,Sem.run,Sem.run_bind,Result.andThen,k2,k4,g2,hfind]
    exact wp_of_value hrun (hK' HD E _ rfl (fun _ _=>rfl) (fun j hj=>hwr j hj) (.tuple _ _ rfl fun j c hc=>by
     match j,hc with
     | 0,hc=>simp at hc;subst hc;simpa using g3.vr
     | 1,hc=>simp at hc;subst hc;simpa using g4.vr
     | j+2,hc=>simp at hc) hr (Step.refl _ _) (fun j h1 h2=>absurd h1 h2))
   ·exact h.elim
  ·exact h.elim
 ·exact h.elim
theorem filter_erase (b:Nat):∀(l:List MapEntry)(j:Nat)(e:MapEntry),(l.map (·.born)).Nodup→l[j]? =some e→e.born=b→l.filter (fun x=>!(x.born == b))=l.eraseIdx j:=by
 intro l
 induction l with
 | nil=>intro j e _ h;simp at h
 | cons x l ih=>
  intro j e hn h hb
  simp only[Qz,List.nodup_cons] at hn
  cases j with
  | zero=>
   simp at h;subst h
   rw[Qw]
   simp only[hb,beq_self_eq_true,Bool.not_true,Qn,if_false,List.eraseIdx_zero,List.tail_cons]
   rw[List.filter_eq_self]
   intro y hy
   simp only[Qo,beq_eq_false_iff_ne,ne_eq]
   intro he
   exact hn.1 (by rw[hb,←he];exact Qu (f:=(·.born)) hy)
  | succ j=>
   simp at h
   have hne:x.born≠b:=by
    intro he
    exact hn.1 (by rw[he,←hb];exact Qu (f:=(·.born)) (List.mem_of_getElem? h))
   rw[Qw]
   simp only[hne,beq_iff_eq,if_false,List.eraseIdx_cons_succ,Qo,beq_eq_false_iff_ne,ne_eq,not_false_eq_true,if_true]
   rw[ih j e hn.2 h hb]
theorem next_run {P:Program}{H:AH}{E:Env}(hr:Rel H E){id:Nat}{cur:Option (AV×AV)}{es:List (AV×AV)}(ho:H[id]? =some (.it cur es)){v:Value}(hv:VR E (.it id) v)(ty:TypeId) :
 (es=[]∧(Instr.next v false ty).run P E.W= .ok (.tuple #[.bool false]) E.W)∨
 ∃(j:Nat) (k x:AV) (kv xv:Value) (E':Env),es[j]? =some (k,x)∧(Instr.next v false ty).run P E.W= .ok (.tuple #[.bool true,kv,xv]) E'.W∧VR E' k kv∧VR E' x xv∧
  Rel (H.set id (.it (some (k,x)) (es.eraseIdx j))) E'∧Step H E (H.set id (.it (some (k,x)) (es.eraseIdx j))) E':=by
 cases hv with
 | it _ b hm hlen=>
 have hM:=hlen (by rw[hr.hl];simp [hlOf,ho,AO.len])
 obtain⟨b',bm,seen,ar,cl,k1,k2,k3,k4,k5,k6,k7⟩:=hr.orow id _ _ ho hM
 cases k1
 have htest:(!seen.isEmpty && !ar.isEmpty && ar.all (fun x=>decide (x.born≥cl)))=false:=next_test_false seen ar cl cl (fun x hx=>by
  obtain⟨i,hi,rfl⟩:=List.mem_iff_getElem.1 hx
  exact k6.born i _ (by simp at hi;simp [hi])) (Q0 _)
 have hmem:∀x∈(ar.filter fun e=>!seen.contains e.born),x.born<cl:=fun x hx=>by
  have:=(Qx.1 hx).1
  obtain⟨i,hi,rfl⟩:=Qs.1 this
  exact k6.born i _ (by simp [hi])
 have hnd:((ar.filter fun e=>!seen.contains e.born).toList.map (·.born)).Nodup:=by
  have hs:(ar.filter fun e=>!seen.contains e.born).toList.Sublist ar.toList:=by rw[Ql];exact List.filter_sublist
  refine(hs.map _).nodup ?_
  rw[List.nodup_iff_pairwise_ne,List.pairwise_iff_getElem]
  intro i j hi hj hij he
  simp at hi hj
  have:=k6.dist i j ar[i] ar[j] (by simp [hi]) (by simp [hj]) (by simpa using he)
  omega
 have hpush:∀(e:MapEntry),(ar.filter fun x=>!(seen.push e.born).contains x.born).toList=(ar.filter fun x=>!seen.contains x.born).toList.filter (fun x=>!(x.born == e.born)):=by
  intro e
  rw[Ql,Ql,List.filter_filter]
  congr 1
  funext x
  rw[contains_push]
  cases seen.contains x.born <;> cases hh:(x.born == e.born) <;> simp
 have hsize:=k5.size
 obtain⟨L,hL⟩:∃L,(ar.filter fun e=>!seen.contains e.born)=L:=⟨_,rfl⟩
 rw[hL] at hmem hnd hpush hsize
 have hent:=k5.ent
 rw[hL] at hent
 have e1:L.filter (fun x=>decide (x.born<cl))=L:=Qj.2 (fun x hx=>by simpa using hmem x hx)
 have e2:L.filter (fun x=>decide (x.born≥cl))= #[]:=by
  rw[Array.filter_eq_empty_iff]
  intro x hx
  have:=hmem x hx
  simp;omega
 by_cases h0:L.size=0
 ·left
  refine⟨Qi (by omega),?_⟩
  have hLe:L= #[]:=Array.eq_empty_of_size_eq_zero h0
  simp only[Instr.next,getObj,Sem.run_bind,Sem.run,k2,k4,Result.andThen,htest,Qn,if_false,hL,e1,e2]
  subst hLe
  simp [choose,Sem.run,Question.forced]
 ·right
  have hch:∃(j:Nat) (w1:World),j<L.size∧w1.heap=E.W.heap∧w1.os=E.W.os∧w1.tape=E.W.tape∧w1.output=E.W.output∧(choose (Question.mapNext L.size)).run P E.W= .ok j w1:=by
   by_cases hf:L.size≤1
   ·exact⟨0,E.W,by omega,rfl,rfl,rfl,rfl,by simp [choose,Sem.run,Question.forced,hf]⟩
   ·exact⟨_,E.W.drew,Nat.mod_lt _ (by omega),rfl,rfl,rfl,rfl,by
     simp only[choose,Sem.run,Question.forced,decide_eq_true_eq,hf,if_false,Question.cut]
     rfl⟩
  obtain⟨j,w1,hj,w1h,w1o,w1t,w1p,hrun⟩:=hch
  have hjl:j<es.length:=by omega
  obtain⟨p,hp⟩:∃p,es[j]? =some p:=⟨es[j],by simp [hjl]⟩
  obtain⟨k,x⟩:=p
  obtain⟨e,g1,g2,g3⟩:=hent j k x hp
  have hLj:L[j]=e:=by simpa [hj] using g1
  have hne:L.isEmpty=false:=by simp [Array.isEmpty,h0]
  have hbl:b<E.W.heap.size:=(Qd.1 k2).1
  obtain⟨w',hw'⟩:∃w':World,w'={ w1 with heap:=w1.heap.setIfInBounds b (.mapIter (some bm) cl (seen.push e.born) cl) }:=⟨_,rfl⟩
  have hin:∃i:Nat,ar[i]? =some e:=by
   have h1:e∈L:=Array.mem_of_getElem? g1
   rw[←hL] at h1
   obtain⟨i,hi,he⟩:=Qs.1 (Qx.1 h1).1
   exact⟨i,by simp [hi,he]⟩
  obtain⟨E',hW,hr',hstep,hMM⟩:=write_gen hr (o':= .it (some (k,x)) (es.eraseIdx j)) ho rfl (by simp) hM (w':=w') (by subst hw';exact⟨w1o,w1t,w1p⟩) (by subst hw';simp [w1h]) (fun i hi=>by
   subst hw';show(w1.heap.setIfInBounds b _)[i]? =_;rw[Qg (Ne.symm hi),w1h]) (fun c t fz hc=>by rw[k2] at hc;cases hc) (fun L' hL=>⟨0,rfl,by simp [AO.len] at hL;omega⟩) (fun E' hx hE'=>by
   refine⟨b,bm,seen.push e.born,ar,cl,rfl,?_,hx.st bm k3,by rw[hx.same bm k3];exact k4,?_,k6,fun k' x' hc=>?_⟩
   ·rw[hE',hw']
    show(w1.heap.setIfInBounds b _)[b]? =_
    rw[w1h];simp [hbl]
   ·have hlst:(ar.filter fun y=>!(seen.push e.born).contains y.born).toList=L.toList.eraseIdx j:=by
     rw[hpush e]
     exact filter_erase e.born L.toList j e hnd (by simpa using g1) rfl
    refine⟨?_,fun i k' x' hi=>?_⟩
    ·rw[←Qt,hlst,Qe,Qe]
     simp [hsize]
    ·have hgi:(ar.filter fun y=>!(seen.push e.born).contains y.born)[i]? =(L.toList.eraseIdx j)[i]?:=by rw[←Qc,hlst]
     rw[hgi,Qb]
     rw[Qb] at hi
     split at hi
     ·next h=>rw[if_pos h];obtain⟨e2,q1,q2,q3⟩:=hent i k' x' hi;exact⟨e2,by simpa using q1,q2.ext hx,q3.ext hx⟩
     ·next h=>rw[if_neg h];obtain⟨e2,q1,q2,q3⟩:=hent (i+1) k' x' hi;exact⟨e2,by simpa using q1,q2.ext hx,q3.ext hx⟩
   ·cases hc
    obtain⟨i,hi⟩:=hin
    exact⟨i,e,hi,by simp,g2.ext hx,g3.ext hx⟩)
  have hx:=hstep.ext hr
  refine⟨j,k,x,e.key,e.val,E',hp,?_,(g2.ext hx).vr,(g3.ext hx).vr,hr',hstep⟩
  rw[hW,hw']
  simp only[Instr.next,getObj,Sem.run_bind,Sem.run,k2,k4,Result.andThen,htest,Qn,if_false,hL,e1,e2,Array.append_empty,hne,Array.empty_append,Array.size_map]
  have hb1:w1.heap[b]? =some (.mapIter (some bm) cl seen cl):=by rw[w1h];exact k2
  simp only[hrun,Array.getElem?_map,Array.getElem?_eq_getElem hj,Option.map_some,Sem.run_bind,setObj,Sem.run,hb1,Result.andThen,hLj]
  rfl
end Go.Pg
