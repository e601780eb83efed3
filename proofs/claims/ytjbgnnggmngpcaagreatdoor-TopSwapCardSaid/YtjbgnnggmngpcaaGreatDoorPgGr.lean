/- Pg: abstract values, what operations, regions, calls come to on them. -/
import Derived.Test.YtjbgnnggmngpcaaGreatDoorPgEval
import Derived.ProofKit
import Derived.SizedLaws
import Derived.Carry
import Derived.SliceStrings
import Derived.ChangeCalls
import Derived.Test.YtjbgnnggmngpcaaGreatDoorPgGx
set_option linter.unusedVariables false
set_option linter.unusedSimpArgs false
set_option linter.unusedSectionVars false
open Bool renaming and_eq_true → Qa,and_true → Qn
open Option renaming map_eq_some_iff → Qb
open List renaming append_nil → Qc,getElem?_map → Qd,mem_append_right → Qe,all_cons → Qf,mem_append_left → Qg,getElem?_eq_some_iff → Qi,all_append → Qj,mem_of_mem_take → Qk,getElem?_take → Ql,map_map → Qo,all_nil → Qp
open Array renaming getElem?_eq_some_iff → Qh
open Nat renaming mod_eq_of_lt → Qm
namespace Go.Pg
open Go Go.ChangeShapes Go.WideShapes Go.ChangeAt Go.RowKit
variable [Syms]
def old (W:World):Nat→Prop:=fun b=>b<W.heap.size
theorem calls_row {P:Program}{f:FuncId}{as:List AV}{W:World}{args:Array Value}(h:CallsR P f as [] (.bool true) [])
 (hs:args.size=as.length) (hv:∀(i:Nat) c,as[i]? =some c→VP W (old W) c (args.getD i Go.undef)) :
 Calls P f args W fun e W'=>e= .returned (.bool true)∧Below W.heap.size W W':=by
 have hr:Rel [] { W:=W,M:=fun _=>none,st:=old W,hl:=hlOf [] }:=
  ⟨rfl,fun _ _=>rfl,fun id o m h=>by simp at h,fun id o b h=>by simp at h,fun id o b h=>by simp at h,fun id id' o o' b h=>by simp at h,fun b hb=>hb⟩
 refine(h _ args hr ⟨hs,fun i c hc=>VP.vr (E:={ W:=W,M:=fun _=>none,st:=old W,hl:=hlOf [] }) (hv i c hc)⟩).mono fun e W' ⟨v,E',he,hW,hv,_,hst⟩=>?_
 subst hW
 refine⟨by rw[he,hv.bool_inv],hst.mv.os,hst.mv.tape,hst.mv.output,hst.mv.size,fun k hk=>hst.mv.keep k hk ?_⟩
 rintro⟨id,o,h1,_⟩
 simp at h1
section
variable {H:Type} {enc:TypeId×Value→H} {P:Program}
theorem post_below {f:Func}{s:ChangeSpec}{apart fresh handsOn again:Bool}{W W':World}{args:Array Value}{v:Value}{ds gs:List (DataW H)}{before pa pv:List MemPlace}
 (hW:DataW.Whole enc P f.params.toList s.vars apart W args.toList ds gs before)
 (hres:∀(b:Nat) (sp:Nat→Bool) (hd:Bool),DataW.TrodAll enc P W' b sp hd f.resultTypes.toList (v.resultList f.resultTypes.size) (s.fn H (ds ++ gs)).results [])
 (hargs:∀sp:Nat→Bool,(∀p∈before,sp p.block=true)→DataW.TrodAll enc P W' 0 sp true f.params.toList args.toList (s.fn H (ds ++ gs)).args pa)
 (hvars:∀sp:Nat→Bool,(∀p∈before,sp p.block=true)→DataW.TrodVars enc P W' sp s.vars (s.fn H (ds ++ gs)).vars pv)
 (hps:before=pa ++ pv) (hb:Below W.heap.size W W')
 (hok:∀(j:Nat) (t:TypeId) (r:Value),f.resultTypes[j]? =some t→(v.resultList f.resultTypes.size)[j]? =some r→Value.okWide P W' .any 0 t r) :
 s.post enc P f apart fresh handsOn again W args v W':=by
 have hold:∀p∈before,(fun b=>decide (b<W.heap.size)) p.block=true:=fun p hp=>by simpa using hW.lt p hp
 refine⟨ds,gs,before,[],pa,pv,hW,hres _ _ _,hargs _ hold,hvars _ hold,World.keptBut_mono (fun p hp=>⟨hp,?_⟩) (hb.frame (· ∈before)),fun _=>?_⟩
 ·rw[hps,List.mem_append] at hp
  exact Or.inr hp
 ·have hlt:=hW.lt
  obtain⟨_,_,_,_,_,hz,hn⟩:=hW
  refine⟨hok,_,_,([] ++ pa) ++ pv,⟨[] ++ pa,pv,trodAll_append (hargs _ (fun _ _=>rfl)) (hres _ _ _),hvars _ (fun _ _=>rfl),rfl,?_,?_⟩,?_⟩
  ·intro b off hp
   have hp':MemPlace.cell b off∈before:=by rw[hps];simpa using hp
   rw[hb.frozen (p:=⟨b,off,none⟩) (hlt _ hp')]
   exact hz b off hp'
  ·intro ha
   have:=hn ha
   rw[hps] at this
   simpa using this
  ·intro p hp _
   rw[hps]
   simpa using hp
theorem vp_string {W:World}{t:TypeId}{v:Value}{d:DataW H}{p:List MemPlace}{r:Reach}{b0:Nat}(ht:P.underlying t=some .string)(hval:Value.okWide P W r b0 t v)
 (hd:DataW.Trod enc P W 0 (fun _=>true) true t v d p):∃s:List UInt8,VP W (old W) (.str s) v∧d= .lit (.string s):=by
 obtain⟨s,rfl,rfl,_,_⟩:=Go.ChangeMaps.open_string ht hval hd
 exact⟨_,.str s,rfl⟩
theorem vp_int {W:World}{t:TypeId}{k:IntKind}{v:Value}{d:DataW H}{p:List MemPlace}{r:Reach}{b0:Nat}(ht:P.underlying t=some (.int k))(hval:Value.okWide P W r b0 t v)
 (hd:DataW.Trod enc P W 0 (fun _=>true) true t v d p):∃n:Int,VP W (old W) (.int k n) v∧(Lit.int k n).wf=true:=by
 obtain⟨n,rfl,rfl,_,hw⟩:=open_int ht hval hd
 exact⟨n,.int k n,hw⟩
theorem vp_bool {W:World}{t:TypeId}{v:Value}{d:DataW H}{p:List MemPlace}{r:Reach}{b0:Nat}(ht:P.underlying t=some .bool)(hval:Value.okWide P W r b0 t v)
 (hd:DataW.Trod enc P W 0 (fun _=>true) true t v d p):∃b:Bool,VP W (old W) (.bool b) v:=by
 obtain⟨b,rfl,rfl,_⟩:=open_bool ht hval hd
 exact⟨b,.bool b⟩
theorem vp_strings {W:World}{t e:TypeId}{v:Value}{d:DataW H}{p:List MemPlace}{r:Reach}{b0:Nat}(ht:P.underlying t=some (.slice e))(he:P.underlying e=some .string)(hc:P.cellsOf e=1)
 (hval:Value.okWide P W r b0 t v) (hd:DataW.Trod enc P W 0 (fun _=>true) true t v d p) (hlt:∀x∈p,x.block<W.heap.size) :
 ∃ls:List (List UInt8),VP W (old W) (.sl 1 (ls.map .str)) v∧((∃sp,d= .slice (ls.map fun s=> .lit (.string s)) sp)∨(d= .nil∧ls=[]))∧∀s∈ls,s.length≤maxLen:=by
 obtain⟨a0,len,cap,rfl⟩:=okWide_slice ht hval
 obtain⟨fuel,hf⟩:=hd
 rcases open_strings ht he hc hf with⟨hcs,hx⟩ | ⟨a,len',cap',ss,hcs,_,hl,hm,hz,hx,hcell,hsz⟩
 ·simp [Value.cells] at hcs
  obtain⟨rfl,rfl,rfl⟩:=hcs
  cases hx
  exact⟨[],sl_nil _ _ _,.inr ⟨rfl,rfl⟩,by simp⟩
 ·simp [Value.cells] at hcs
  obtain⟨rfl,rfl,rfl⟩:=hcs
  simp only[if_true] at hz
  cases hx
  have hblk:0<ss.length→a.block<W.heap.size∧a=⟨a.block,a.off,none⟩:=by
   intro h0
   have h1:=hcell 0 h0
   rw[show a.add 0=a from rfl] at h1
   unfold World.cell? at h1
   split at h1
   ·next c ty fz hh=>
    split at h1
    ·cases h1
    ·next hs=>
     refine⟨(Qh.1 hh).1,?_⟩
     obtain⟨b,o,sp⟩:=a
     cases sp with
     | none=>rfl
     | some x=>simp at hs
   ·cases h1
  refine⟨(ss.take len).map fun s=>s.data.toList,?_,.inl ⟨strs (ss.drop len),by simp [strs,Function.comp_def]⟩,?_⟩
  ·have:=VP.sl (W:=W) (st:=old W) 1 (((ss.take len).map fun s=>s.data.toList).map AV.str) (some a) cap (fun i _=> .string (ss.getD i ByteArray.empty)) (by simp;omega) ?_ ?_
   ·have e:(List.map AV.str (List.map (fun s:ByteArray=>s.data.toList) (List.take len ss))).length=len:=by simp;omega
    rw[e] at this
    exact this
   ·intro i x hx
    simp only[Qo,Qd,Qb] at hx
    obtain⟨s,hs,rfl⟩:=hx
    have hi:i<ss.length:=by
     have:=(Qi.1 hs).1
     simp at this;omega
    obtain⟨hb,ha⟩:=hblk (by omega)
    refine⟨rfl,a.block,a.off,by rw[←ha],fun _=>hb,fun j hj=>?_⟩
    have h1:=hcell i hi
    have e:a.add i=⟨a.block,a.off+i * 1+j,none⟩:=by
     have:j=0:=by omega
     subst this
     unfold Addr.add
     split
     ·next h0=>subst h0;rw[ha];simp
     ·simp
    rw[←e];exact h1
   ·intro i x j c hx hc
    simp only[Qo,Qd,Qb] at hx
    obtain⟨s,hs,rfl⟩:=hx
    cases j with
    | zero=>
     simp [AV.cells] at hc
     subst hc
     have:ss.getD i ByteArray.empty=s:=by
      rw[Ql] at hs
      split at hs
      ·simp [hs]
      ·cases hs
     rw[this];exact .str s
    | succ j=>simp [AV.cells] at hc
  ·intro s hs
   simp only[List.mem_map] at hs
   obtain⟨b,hb,rfl⟩:=hs
   have:=hsz b (Qk hb)
   simpa using this
end
end Go.Pg
namespace Go.Pg
open Go Go.ChangeShapes Go.WideShapes Go.ChangeAt Go.RowKit
variable [Syms]
def OkAll (P:Program)(W:World)(base:Nat):List TypeId→List Value→Prop
 | [],[]=>True
 | t :: ts,v :: vs=>Value.okWide P W .any base t v∧OkAll P W base ts vs
 | _,_=>False
section
variable {H:Type} {enc:TypeId×Value→H} {P:Program} {W:World} {base:Nat}
structure Ins (enc:TypeId×Value→H) (P:Program) (W:World) (base:Nat) (ts:List TypeId) (vs:List Value) (ds:List (DataW H)) (p:List MemPlace):Prop where
 trod:DataW.TrodAll enc P W 0 (fun _=>true) true ts vs ds p
 ok:OkAll P W base ts vs
 sized:(DataW.weightsEach P ts ds).all (· ≤reachBytes)=true
 lt:∀x∈p,x.block<W.heap.size
structure In1 (enc:TypeId×Value→H) (P:Program) (W:World) (base:Nat) (t:TypeId) (v:Value) (d:DataW H) (p:List MemPlace):Prop where
 trod:DataW.Trod enc P W 0 (fun _=>true) true t v d p
 ok:Value.okWide P W .any base t v
 sized:(d.weights P t).all (· ≤reachBytes)=true
 lt:∀x∈p,x.block<W.heap.size
theorem Ins.cons {t:TypeId}{ts:List TypeId}{vs:List Value}{ds:List (DataW H)}{p:List MemPlace}(h:Ins enc P W base (t :: ts) vs ds p) :
 ∃v vs' d ds' q q',vs=v :: vs'∧In1 enc P W base t v d q∧Ins enc P W base ts vs' ds' q':=by
 obtain⟨v,vs',d,ds',q,q',rfl,rfl,rfl,h1,h2⟩:=trodAll_cons h.trod
 have hs:=h.sized
 simp only[DataW.weightsEach,Qj,Qa] at hs
 exact⟨v,vs',d,ds',q,q',rfl,⟨h1,h.ok.1,hs.1,fun x hx=>h.lt x (Qg _ hx)⟩,⟨h2,h.ok.2,hs.2,fun x hx=>h.lt x (Qe _ hx)⟩⟩
theorem Ins.nil {vs:List Value}{ds:List (DataW H)}{p:List MemPlace}(h:Ins enc P W base [] vs ds p):vs=[]:=(trodAll_nil h.trod).1
def Args (W:World)(as:List AV)(vs:List Value):Prop:=vs.length=as.length∧∀(i:Nat) c,as[i]? =some c→VP W (old W) c (vs.getD i Go.undef)
theorem Args.nil:Args W [] []:=⟨rfl,fun i c h=>by simp at h⟩
theorem Args.cons {a:AV}{v:Value}{as:List AV}{vs:List Value}(h:VP W (old W) a v)(h':Args W as vs):Args W (a :: as) (v :: vs):=by
 refine⟨by simp [h'.1],fun i c hc=>?_⟩
 cases i with
 | zero=>simp at hc;subst hc;exact h
 | succ i=>simpa using h'.2 i c (by simpa using hc)
theorem In1.string {t:TypeId}{v:Value}{d:DataW H}{p:List MemPlace}(h:In1 enc P W base t v d p)(ht:P.underlying t=some .string) :
 ∃s:List UInt8,VP W (old W) (.str s) v∧s.length≤140737488351232:=by
 obtain⟨s,h1,rfl⟩:=vp_string ht h.ok h.trod
 refine⟨s,h1,?_⟩
 have:=h.sized
 simp only[DataW.weights,Qf,Qp,Qn,decide_eq_true_eq] at this
 have hr:reachBytes=140737488351232:=rfl
 omega
theorem In1.int {t:TypeId}{k:IntKind}{v:Value}{d:DataW H}{p:List MemPlace}(h:In1 enc P W base t v d p)(ht:P.underlying t=some (.int k)) :
 ∃n:Int,VP W (old W) (.int k n) v∧(Lit.int k n).wf=true:=vp_int ht h.ok h.trod
theorem In1.byte {t:TypeId}{v:Value}{d:DataW H}{p:List MemPlace}(h:In1 enc P W base t v d p)(ht:P.underlying t=some (.int .u8)) :
 ∃b:UInt8,VP W (old W) (.int .u8 b.toNat) v:=by
 obtain⟨n,h1,h2⟩:=h.int ht
 have h3:0≤n∧n≤255:=by
  have:(decide (IntKind.u8.min≤n) && decide (n≤IntKind.u8.max))=true:=h2
  simp only[Qa,decide_eq_true_eq] at this
  exact this
 refine⟨UInt8.ofNat n.toNat,?_⟩
 have e:((UInt8.ofNat n.toNat).toNat:Int)=n:=by
  rw[UInt8.toNat_ofNat',Qm (by omega)]
  omega
 rw[e];exact h1
theorem In1.i64 {t:TypeId}{v:Value}{d:DataW H}{p:List MemPlace}(h:In1 enc P W base t v d p)(ht:P.underlying t=some (.int .i64)) :
 ∃n:Int,VP W (old W) (.int .i64 n) v∧ -9223372036854775808≤n∧n≤9223372036854775807:=by
 obtain⟨n,h1,h2⟩:=h.int ht
 have:(decide (IntKind.i64.min≤n) && decide (n≤IntKind.i64.max))=true:=h2
 simp only[Qa,decide_eq_true_eq] at this
 exact⟨n,h1,this⟩
theorem In1.bool {t:TypeId}{v:Value}{d:DataW H}{p:List MemPlace}(h:In1 enc P W base t v d p)(ht:P.underlying t=some .bool) :
 ∃b:Bool,VP W (old W) (.bool b) v:=vp_bool ht h.ok h.trod
theorem In1.strings {t e:TypeId}{v:Value}{d:DataW H}{p:List MemPlace}(h:In1 enc P W base t v d p)(ht:P.underlying t=some (.slice e))(he:P.underlying e=some .string)(hc:P.cellsOf e=1)(hb:P.bytesOf e=16) :
 ∃ls:List (List UInt8),VP W (old W) (.sl 1 (ls.map .str)) v∧ls.length≤8796093021952∧∀i,(ls.getD i []).length≤140737488355328:=by
 obtain⟨ls,h1,h2,_⟩:=vp_strings ht he hc h.ok h.trod h.lt
 refine⟨ls,h1,?_⟩
 rcases h2 with⟨sp,rfl⟩ | ⟨rfl,rfl⟩
 ·have hs:=h.sized
  simp only[DataW.weights,ht,Qf,Qj,Qa,decide_eq_true_eq,hb,List.length_map] at hs
  have hr:reachBytes=140737488351232:=rfl
  have hs1:=hs.1
  refine⟨by omega,fun i=>?_⟩
  have key:∀(l:List (List UInt8)),(DataW.weightsAll P e (l.map fun s=>(DataW.lit (.string s):DataW H))).all (fun x=>decide (x≤reachBytes))=true→∀i,(l.getD i []).length≤140737488355328:=by
   intro l
   induction l with
   | nil=>intro _ i;simp
   | cons s r ih=>
    intro hl i
    simp only[List.map_cons,DataW.weightsAll,DataW.weights,Qj,Qf,Qp,Qn,Qa,decide_eq_true_eq] at hl
    cases i with
    | zero=>simp only[List.getD_cons_zero];omega
    | succ i=>simp only[List.getD_cons_succ];exact ih hl.2 i
  exact key ls hs.2.1 i
 ·exact⟨by simp,by simp⟩
theorem In1.bytes {t e:TypeId}{v:Value}{d:DataW H}{p:List MemPlace}(h:In1 enc P W base t v d p)(ht:P.underlying t=some (.slice e))(he:P.underlying e=some (.int .u8))(hc:P.cellsOf e=1)(hb:P.bytesOf e=1) :
 ∃bs:List UInt8,VP W (old W) (.sl 1 (ofBytes bs)) v∧bs.length≤140737488351232:=by
 obtain⟨a0,len,cap,rfl⟩:=okWide_slice ht h.ok
 obtain⟨fuel,hf⟩:=h.trod
 have hsz:=h.sized
 rcases open_ints ht he hc hf with⟨hcs,hx⟩ | ⟨a,len',cap',zs,hcs,_,hl,hm,hz,hx,hcell,hwf⟩
 ·simp [Value.cells] at hcs
  obtain⟨rfl,rfl,rfl⟩:=hcs
  exact⟨[],sl_nil _ _ _,by simp⟩
 ·simp [Value.cells] at hcs
  obtain⟨rfl,rfl,rfl⟩:=hcs
  simp only[if_true] at hz
  cases hx
  have hr:reachBytes=140737488351232:=rfl
  have hlz:(lits (H:=H) IntKind.u8 (zs.take len)).length=len:=by simp [lits];omega
  simp only[DataW.weights,ht,Qf,Qa,decide_eq_true_eq,hb,hlz] at hsz
  have hs1:=hsz.1
  have hblk:0<zs.length→a.block<W.heap.size∧a=⟨a.block,a.off,none⟩:=by
   intro h0
   have h1:=hcell 0 h0
   rw[show a.add 0=a from rfl] at h1
   unfold World.cell? at h1
   split at h1
   ·next c ty fz hh=>
    split at h1
    ·cases h1
    ·next hs=>
     refine⟨(Qh.1 hh).1,?_⟩
     obtain⟨b,o,sp⟩:=a
     cases sp with
     | none=>rfl
     | some x=>simp at hs
   ·cases h1
  have hby:∀n∈zs,((UInt8.ofNat n.toNat).toNat:Int)=n:=fun n hn=>by
   have:(decide (IntKind.u8.min≤n) && decide (n≤IntKind.u8.max))=true:=hwf n hn
   simp only[Qa,decide_eq_true_eq] at this
   have h3:0≤n∧n≤255:=this
   rw[UInt8.toNat_ofNat',Qm (by omega)]
   omega
  have hlen:(ofBytes ((zs.take len).map fun n=>UInt8.ofNat n.toNat)).length=len:=by simp [ofBytes];omega
  refine⟨(zs.take len).map fun n=>UInt8.ofNat n.toNat,?_,by simp;omega⟩
  have:=VP.sl (W:=W) (st:=old W) 1 (ofBytes ((zs.take len).map fun n=>UInt8.ofNat n.toNat)) (some a) cap (fun i _=> .int .u8 (zs.getD i 0)) (by omega) ?_ ?_
  ·rw[hlen] at this
   exact this
  ·intro i x hx
   have hi:i<zs.length:=by
    have:=(Qi.1 hx).1
    omega
   obtain⟨hb,ha⟩:=hblk (by omega)
   simp only[ofBytes,Qd,Qb] at hx
   obtain⟨y,_,rfl⟩:=hx
   refine⟨rfl,a.block,a.off,by rw[←ha],fun _=>hb,fun j hj=>?_⟩
   have h1:=hcell i hi
   have e:a.add i=⟨a.block,a.off+i * 1+j,none⟩:=by
    have:j=0:=by omega
    subst this
    unfold Addr.add
    split
    ·next h0=>subst h0;rw[ha];simp
    ·simp
   rw[←e];exact h1
  ·intro i x j c hx hc
   simp only[ofBytes,Qd,Qb] at hx
   obtain⟨y,⟨z,hz,rfl⟩,rfl⟩:=hx
   cases j with
   | zero=>
    simp only[AV.cells,List.getElem?_cons_zero,Option.some.injEq] at hc
    subst hc
    have hz':zs.getD i 0=z:=by
     rw[Ql] at hz
     split at hz
     ·simp [hz]
     ·cases hz
    have hmem:z∈zs:=Qk (List.mem_of_getElem? hz)
    rw[hz',hby z hmem]
    exact .int _ _
   | succ j=>simp [AV.cells] at hc
theorem trodAll_stays (hl:laidOutB P=true){W W':World}{sp:Nat→Bool}:∀{ts:List TypeId}{vs:List Value}{ds:List (DataW H)}{p:List MemPlace},
 (ts.all fun t=>P.readableRec t && decide (t<P.types.size))=true→DataW.TrodAll enc P W 0 (fun _=>true) true ts vs ds p→(∀x∈p,W.sameAt W' x)→(∀x∈p,sp x.block=true)→DataW.TrodAll enc P W' 0 sp true ts vs ds p:=by
 intro ts
 induction ts with
 | nil=>
  intro vs ds p _ h _ _
  obtain⟨rfl,rfl,rfl⟩:=trodAll_nil h
  exact rfl
 | cons t ts ih=>
  intro vs ds p hr h h1 h2
  obtain⟨v,vs',d,ds',q,q',rfl,rfl,rfl,h3,h4⟩:=trodAll_cons h
  simp only[Qf,Qa,decide_eq_true_eq] at hr
  exact⟨q,q',WideElems.Trod_stays hl hr.1.1 hr.1.2 h3 (fun x hx=>h1 x (Qg _ hx)) (fun x hx=>h2 x (Qg _ hx)),
   ih hr.2 h4 (fun x hx=>h1 x (Qe _ hx)) (fun x hx=>h2 x (Qe _ hx)),rfl⟩
theorem okAll_of {ts:List TypeId}:∀{vs:List Value},vs.length=ts.length→(∀(j:Nat) t v,ts[j]? =some t→vs[j]? =some v→Value.okWide P W .any base t v)→OkAll P W base ts vs:=by
 induction ts with
 | nil=>intro vs h _;cases vs with
  | nil=>trivial
  | cons=>simp at h
 | cons t ts ih=>intro vs h hv;cases vs with
  | nil=>simp at h
  | cons v vs=>exact⟨hv 0 t v rfl rfl,ih (by simpa using h) (fun j t' v' a b=>hv (j+1) t' v' (by simpa using a) (by simpa using b))⟩
theorem row_of_laid {X:World→Prop}(hX:∀(w w':World),w.heap=w'.heap→X w→X w'){C:Checked}{os:Os}{f:FuncId}{fn:Func}{s:ChangeSpec}{apart fresh handsOn:Bool}{tb:TypeId}(hC:C.prog=P)
 (own:ownKnob C.prog.godebug=none) (started:os.Started) (noInit:C.prog.inits.idxOf? f=none) (hfn:C.prog.funcs[f]? =some fn)
 (witness:∃(w:World) (tape:Tape) (i:Input),w.os=os∧(w.forCall tape i).Shaped C.prog∧i.vars=[]∧Input.okWide C.prog (w.forCall tape i) .any w.heap.size f i∧
   ((s.pre enc C.prog fn [] apart (w.forCall tape i).memory i.args∧X (w.forCall tape i).memory)∧sizedMet enc C.prog fn (OpenSpec.ofChange s) apart (w.forCall tape i).memory i.args)∧({}:Assume).holds C.prog (lone (Frame.enter C.prog f i.args .normal) [] (w.forCall tape i)))
 (hvars:s.vars=[]) (hres:fn.resultTypes.toList=[tb]) (htb:P.underlying tb=some .bool)
 (hspec:∀ds:List (DataW H),ds.length=fn.params.toList.length→(s.fn H ds).results=[.lit (.bool true)]∧(s.fn H ds).args=ds∧(s.fn H ds).vars=[])
 (hl:laidOutB P=true) (hr:(fn.params.toList.all fun t=>P.readableRec t && decide (t<P.types.size))=true)
 (main:∀(W:World) (base:Nat) (vs:List Value) (ds:List (DataW H)) (p:List MemPlace),Ins enc P W base fn.params.toList vs ds p→∃as,CallsR P f as [] (.bool true) []∧Args W as vs) :
 ReturnsInHanded {} C os f .any (fun w args=>(s.pre enc C.prog fn [] apart w args∧X w)∧sizedMet enc C.prog fn (OpenSpec.ofChange s) apart w args) (s.post enc C.prog fn apart fresh handsOn false):=by
 subst hC
 refine returnsInHanded_of_change_and (X:=fun w _=>X w) (fun w w' _ h=>hX w w' h) own started noInit hfn witness ?_
 intro W base args ds gs before hval hW _ hsz _ _
 have hW':=hW
 obtain⟨p,q,hA,hV,rfl,hz,_⟩:=hW
 rw[hvars] at hV
 obtain⟨rfl,rfl⟩:=trodVars_none hV
 have hlt:∀x∈p,x.block<W.heap.size:=fun x hx=>hW'.lt x (by simpa using hx)
 have hlen:=trodAll_length hA
 have hvt:s.plain.varTypes C.prog=[]:=by
  have:s.plain.vars=[]:=hvars
  simp [DataSpec.varTypes,this]
 rw[hvt,Qc,Qc] at hsz
 have hok:OkAll C.prog W base fn.params.toList args.toList:=okAll_of hlen.1 (fun j t v a b=>hval j t v (by simpa using a) (by simpa using b))
 obtain⟨as,hc,ha⟩:=main W base _ _ _ ⟨hA,hok,hsz,hlt⟩
 refine(calls_row hc (by simpa using ha.1) (fun i c h=>?_)).mono fun e W' ⟨he,hb⟩=>?_
 ·have:=ha.2 i c h
  simpa [Array.getD_eq_getD_getElem?] using this
 ·subst he
  obtain⟨s1,s2,s3⟩:=hspec ds hlen.2
  have hrs:(fn.resultTypes.size=1):=by rw[←Array.length_toList,hres];rfl
  refine⟨_,rfl,?_⟩
  refine post_below (pa:=p) (pv:=[]) hW' ?_ ?_ ?_ rfl hb ?_
  ·intro b sp hd
   rw[Qc,s1,hres,hrs]
   exact trodAll_mk1 (shut_bool htb true)
  ·intro sp hsp
   rw[Qc,s2]
   exact trodAll_stays hl hr hA (fun x hx=>hb.same (hlt x hx)) (fun x hx=>hsp x (by simpa using hx))
  ·intro sp hsp
   rw[Qc,s3,hvars]
   rfl
  ·intro j t r hj hrj
   rw[hrs] at hrj
   have hj':fn.resultTypes.toList[j]? =some t:=by simpa using hj
   rw[hres] at hj'
   cases j with
   | zero=>
    simp at hj'
    subst hj'
    have:r= .bool true:=by simpa [Value.resultList] using hrj.symm
    subst this
    exact okWide_bool_mk htb true
   | succ j=>simp at hj'
end
end Go.Pg
