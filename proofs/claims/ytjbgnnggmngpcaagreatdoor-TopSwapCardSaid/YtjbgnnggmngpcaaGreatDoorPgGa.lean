/- Pg: abstract values, what operations, regions, calls come to on them. -/
import Derived.Orders
import Derived.Laws.AppendOwn
import Derived.Laws.World
import Derived.Laws.Sem
import Derived.Laws.StructEq
import Derived.Laws.Slices
import Derived.Laws.Strings
import Derived.Laws.Small
import Derived.Laws.Tables
set_option linter.unusedVariables false
set_option linter.unusedSimpArgs false
set_option linter.unusedSectionVars false
open Array renaming getD_eq_getD_getElem? → Qa,getElem?_eq_getElem → Qd,getElem?_eq_some_iff → Qj,getElem?_toList → Ql,mem_toList_iff → Qm,getElem?_extract → Qp,getElem?_setIfInBounds_ne → Qv,mem_of_getElem? → Qx,toList_inj → Qy,getElem?_setIfInBounds → Q0,getElem?_replicate → Q7,getElem?_eq_none → Xb,getElem?_map → Xj,toList_map → Xp
open List renaming getElem?_eq_some_iff → Qb,getElem?_map → Qg,getElem?_drop → Qh,range → Qi,all_eq_true → Qn,map_cons → Qr,getElem?_eq_none → Qw,mem_filter → Qz,mem_map → Q1,getElem?_take → Q2,getElem?_append_right → Q3,getElem?_append_left → Q4,getElem?_eq_getElem → Q6,length_cons → Xa,mem_append → Xc,mem_append_left → Xd,mem_cons_of_mem → Xe,mem_of_getElem? → Xf,getElem?_range → Xg,ext_getElem? → Xk,append_assoc → Xl,take_length → Xm,length_drop → Xn,mem_toArray → Xo,range' → Xt
open Option renaming getD_some → Qc,map_eq_some_iff → Qf,map_some → Qq,bind_some → Q9,isSome → Xh
open Nat renaming le_refl → Qe,lt_or_ge → Qo,le_trans → Qs,zero_le → Q5,add_assoc → Q8,lt_of_lt_of_le → Xi,strongRecOn → Xq,testBit_or → Xr,add_zero → Xs
open Bool renaming false_eq_true → Qk,and_eq_true → Qt,or_eq_true → Qu
open Int renaming le_refl → Xu
namespace Go.Pg
open Go
inductive AV where
 | top
 | undef
 | nls
 | int (k:IntKind) (n:Int)
 | bool (b:Bool)
 | str (s:List UInt8)
 | agg (cs:List AV)
 | tuple (vs:List AV)
 | sl (sz:Nat) (vs:List AV)
 | slc (sz:Nat) (vs:List AV)
 | own (id sz len:Nat)
 | ptr (id sz len idx off:Nat)
 | win (id sz tot off len:Nat)
 | nfn
 | npt
 | mp (id:Nat)
 | it (id:Nat)
 | fm (es:List (AV×AV))
 | yld (l:Nat)
 | cst (v:Value)
 | rp (cs:List AV)
 | fn (f:FuncId) (cap:List AV)
 | mth (f:FuncId) (cap:List AV)
 | cond (g:Bool) (v:AV)
 | sym (i:Nat)
 | ows (id sz j:Nat)
instance:Inhabited AV:=⟨.top⟩
def AV.tame:AV→Bool
 | .int _ _ | .bool _ | .str _ | .sl _ _ | .slc _ _ | .nls=>true
 | _=>false
def AV.cells:AV→List AV
 | .agg cs=>cs
 | v=>[v]
inductive OpK where
 | bin (op:BinOp) (t:TypeId)
 | un (op:UnOp)
 | len (t:TypeId)
 | mn
 | mx
 | cvt (s d:TypeId)
 | idx (t:TypeId)
 | sidx (t:TypeId)
 | sub (t:TypeId) (m:Nat)
class Syms where
 av:Nat→AV
 tame:∀i,(av i).tame=true
 ae:Nat→TypeId
 az:Nat→Nat
 avs:Nat→List AV
 tames:∀i,(avs i).all (fun v=>v.cells.all AV.tame)=true
 ln:Nat→Nat
 tbl:List (OpK×List AV×AV)
variable [Syms]
inductive AO where
 | dead
 | arr (e:TypeId) (sz:Nat) (vs:List AV)
 | frz (e:TypeId) (sz:Nat) (vs:List AV)
 | mp (es:List (AV×AV))
 | fmp (es:List (AV×AV))
 | it (cur:Option (AV×AV)) (es:List (AV×AV))
 | tok (i:Nat)
instance:Inhabited AO:=⟨.dead⟩
def AO.lives:AO→Bool
 | .arr _ _ _ | .mp _ | .it _ _ | .tok _=>true
 | _=>false
def AO.fixed:AO→Bool
 | .frz _ _ _ | .fmp _=>true
 | _=>false
abbrev AH:=List AO
def AO.len:AO→Option Nat
 | .dead=>none
 | .arr _ _ vs=>some vs.length
 | .frz _ _ vs=>some vs.length
 | .tok i=>some (Syms.avs i).length
 | _=>some 0
def hlOf (H:AH)(id:Nat):Option Nat:=(H[id]?).bind AO.len
structure Env where
 W:World
 M:Nat→Option (Option Nat)
 st:Nat→Prop
 hl:Nat→Option Nat
structure Stamps (a:Array MapEntry) (clock:Nat):Prop where
 born:∀(i:Nat) e,a[i]? =some e→e.born<clock
 dist:∀(i j:Nat) e e',a[i]? =some e→a[j]? =some e'→e.born=e'.born→i=j
def SlAt (W:World)(st:Nat→Prop)(vs:List AV)(a:Option Addr)(sz:Nat)(f:Nat→Nat→Value):Prop:=
 ∀i v,vs[i]? =some v→v.cells.length=sz∧
  ∃b o,a=some ⟨b,o,none⟩∧(0<sz→st b)∧∀j,j<sz→W.cell? ⟨b,o+i * sz+j,none⟩=some (f i j)
def OwnAt (W:World)(m:Option (Option Nat))(sz len:Nat)(a:Option Addr)(cap:Nat):Prop:=
 (m=some none∧len=0∧cap=0)∨
 ∃b c ty fz,m=some (some b)∧a=some ⟨b,0,none⟩∧len≤cap∧cap≤maxLen∧W.heap[b]? =some (.cells c ty fz)∧c.size=cap * sz
inductive VP (W:World) (st:Nat→Prop):AV→Value→Prop
 | undef:VP W st .undef Go.undef
 | nls:VP W st .nls (.slice none 0 0)
 | nfn:VP W st .nfn .nilFunc
 | npt:VP W st .npt (.pointer none)
 | yld (l:Nat):VP W st (.yld l) (.func (.yield l) #[] #[])
 | cst (v:Value):VP W st (.cst v) v
 | int (k:IntKind) (n:Int):VP W st (.int k n) (.int k n)
 | bool (b:Bool):VP W st (.bool b) (.bool b)
 | str (s:ByteArray):VP W st (.str s.data.toList) (.string s)
 | agg (cs:List AV) (us:Array Value):us.size=cs.length→(∀i c,cs[i]? =some c→VP W st c (us.getD i Go.undef))→VP W st (.agg cs) (.agg us)
 | tuple (cs:List AV) (us:Array Value):us.size=cs.length→(∀i c,cs[i]? =some c→VP W st c (us.getD i Go.undef))→VP W st (.tuple cs) (.tuple us)
 | sl (sz:Nat) (vs:List AV) (a:Option Addr) (cap:Nat) (f:Nat→Nat→Value):vs.length≤cap→SlAt W st vs a sz f→
  (∀i v j c,vs[i]? =some v→v.cells[j]? =some c→VP W st c (f i j))→VP W st (.sl sz vs) (.slice a vs.length cap)
 | slc (sz:Nat) (vs:List AV) (a:Option Addr) (f:Nat→Nat→Value):SlAt W st vs a sz f→
  (∀i v j c,vs[i]? =some v→v.cells[j]? =some c→VP W st c (f i j))→VP W st (.slc sz vs) (.slice a vs.length vs.length)
 | fn (f:FuncId) (cap:List AV) (us:Array Value):us.size=cap.length→(∀i c,cap[i]? =some c→VP W st c (us.getD i Go.undef))→VP W st (.fn f cap) (.func (.func f) #[] us)
 | fm (es:List (AV×AV)) (b:Nat) (a:Array MapEntry) (clock:Nat):st b→W.heap[b]? =some (.map a clock)→a.size=es.length→Stamps a clock→
  (∀i k x,es[i]? =some (k,x)→VP W st k (a.getD i default).key)→(∀i k x,es[i]? =some (k,x)→VP W st x (a.getD i default).val)→VP W st (.fm es) (.map (some b))
 | sym (i:Nat) (v:Value):VP W st (Syms.av i) v→VP W st (.sym i) v
 | rp (cs:List AV) (b o:Nat) (f:Nat→Value):(0<cs.length→st b)→(∀j c,cs[j]? =some c→W.cell? ⟨b,o+j,none⟩=some (f j))→
  (∀j c,cs[j]? =some c→VP W st c (f j))→VP W st (.rp cs) (.pointer (some ⟨b,o,none⟩))
inductive VR (E:Env):AV→Value→Prop
 | top (v:Value):VR E .top v
 | undef:VR E .undef Go.undef
 | nls:VR E .nls (.slice none 0 0)
 | nfn:VR E .nfn .nilFunc
 | npt:VR E .npt (.pointer none)
 | mp (id b:Nat):(E.M id).isSome=true→(E.hl id=some 0→E.M id=some (some b))→VR E (.mp id) (.map (some b))
 | it (id b:Nat):(E.M id).isSome=true→(E.hl id=some 0→E.M id=some (some b))→VR E (.it id) (.pointer (some ⟨b,0,none⟩))
 | yld (l:Nat):VR E (.yld l) (.func (.yield l) #[] #[])
 | cst (v:Value):VR E (.cst v) v
 | int (k:IntKind) (n:Int):VR E (.int k n) (.int k n)
 | bool (b:Bool):VR E (.bool b) (.bool b)
 | str (s:ByteArray):VR E (.str s.data.toList) (.string s)
 | agg (cs:List AV) (us:Array Value):us.size=cs.length→(∀i c,cs[i]? =some c→VR E c (us.getD i Go.undef))→VR E (.agg cs) (.agg us)
 | tuple (cs:List AV) (us:Array Value):us.size=cs.length→(∀i c,cs[i]? =some c→VR E c (us.getD i Go.undef))→VR E (.tuple cs) (.tuple us)
 | sl (sz:Nat) (vs:List AV) (a:Option Addr) (cap:Nat) (f:Nat→Nat→Value):vs.length≤cap→SlAt E.W E.st vs a sz f→
  (∀i v j c,vs[i]? =some v→v.cells[j]? =some c→VP E.W E.st c (f i j))→VR E (.sl sz vs) (.slice a vs.length cap)
 | slc (sz:Nat) (vs:List AV) (a:Option Addr) (f:Nat→Nat→Value):SlAt E.W E.st vs a sz f→
  (∀i v j c,vs[i]? =some v→v.cells[j]? =some c→VP E.W E.st c (f i j))→VR E (.slc sz vs) (.slice a vs.length vs.length)
 | own (id sz len:Nat) (a:Option Addr) (cap:Nat):(E.M id).isSome=true→(a=none→len=0)→
  (∀L,E.hl id=some L→len≤L∧(len=L→OwnAt E.W (E.M id) sz len a cap))→VR E (.own id sz len) (.slice a len cap)
 | ptr (id sz len idx off:Nat) (a:Addr):(E.M id).isSome=true→
  (∀L,E.hl id=some L→len≤L∧(len=L→∃b,E.M id=some (some b)∧a=⟨b,idx * sz+off,none⟩))→VR E (.ptr id sz len idx off) (.pointer (some a))
 | win (id sz tot off len:Nat) (a:Option Addr) (cap:Nat):len≤cap→(E.M id).isSome=true→
  (∀L,E.hl id=some L→tot≤L∧(tot=L→0<len→∃b,E.M id=some (some b)∧a=some ⟨b,off * sz,none⟩))→VR E (.win id sz tot off len) (.slice a len cap)
 | rp (cs:List AV) (b o:Nat) (f:Nat→Value):(0<cs.length→E.st b)→(∀j c,cs[j]? =some c→E.W.cell? ⟨b,o+j,none⟩=some (f j))→
  (∀j c,cs[j]? =some c→VP E.W E.st c (f j))→VR E (.rp cs) (.pointer (some ⟨b,o,none⟩))
 | fm (es:List (AV×AV)) (b:Nat) (a:Array MapEntry) (clock:Nat):E.st b→E.W.heap[b]? =some (.map a clock)→a.size=es.length→Stamps a clock→
  (∀i k x,es[i]? =some (k,x)→VP E.W E.st k (a.getD i default).key)→(∀i k x,es[i]? =some (k,x)→VP E.W E.st x (a.getD i default).val)→VR E (.fm es) (.map (some b))
 | fn (f:FuncId) (cap:List AV) (us:Array Value):us.size=cap.length→(∀i c,cap[i]? =some c→VR E c (us.getD i Go.undef))→VR E (.fn f cap) (.func (.func f) #[] us)
 | mth (f:FuncId) (cap:List AV) (us:Array Value):us.size=cap.length→(∀i c,cap[i]? =some c→VR E c (us.getD i Go.undef))→VR E (.mth f cap) (.func (.func f) us #[])
 | sym (i:Nat) (v:Value):VP E.W E.st (Syms.av i) v→VR E (.sym i) v
 | ows (id sz j:Nat) (v:Value):VR E (.own id sz (Syms.ln j)) v→VR E (.ows id sz j) v
 | condT (a:AV) (v:Value):VR E a v→VR E (.cond true a) v
 | condF (a:AV):VR E (.cond false a) Go.undef
theorem VP.vr {E:Env}{a:AV}{v:Value}(h:VP E.W E.st a v):VR E a v:=by
 induction h with
 | undef=>exact .undef
 | nls=>exact .nls
 | nfn=>exact .nfn
 | npt=>exact .npt
 | yld l=>exact .yld l
 | cst v=>exact .cst v
 | int k n=>exact .int k n
 | bool b=>exact .bool b
 | str s=>exact .str s
 | agg cs us hs _ ih=>exact .agg cs us hs ih
 | tuple cs us hs _ ih=>exact .tuple cs us hs ih
 | sl sz vs a cap f hc hs hv _=>exact .sl sz vs a cap f hc hs hv
 | slc sz vs a f hs hv _=>exact .slc sz vs a f hs hv
 | fn f cap us hs _ ih=>exact .fn f cap us hs ih
 | rp cs b o f h1 h2 h3 _=>exact .rp cs b o f h1 h2 h3
 | fm es b a cl h1 h2 h3 h4 h5 h6 _ _=>exact .fm es b a cl h1 h2 h3 h4 h5 h6
 | sym i v h _=>exact .sym i v h
structure EExt (E E':Env):Prop where
 st:∀b,E.st b→E'.st b
 same:∀b,E.st b→E'.W.heap[b]? =E.W.heap[b]?
 shape:∀(b:Nat) (c:Array Value) (ty:TypeId) (fz:Nat×Nat),E.W.heap[b]? =some (.cells c ty fz)→∃c' fz',E'.W.heap[b]? =some (.cells c' ty fz')∧c'.size=c.size
 M:∀id,(E.M id).isSome=true→(E'.M id).isSome=true
 hl:∀id L',(E.M id).isSome=true→E'.hl id=some L'→∃L,E.hl id=some L∧L≤L'∧(L=L'→E'.M id=E.M id)
theorem cell_of_heap {w w':World}{b o:Nat}(h:w'.heap[b]? =w.heap[b]?):w'.cell? ⟨b,o,none⟩=w.cell? ⟨b,o,none⟩:=by
 simp [World.cell?,h]
theorem SlAt.monoW {W W':World}{st st':Nat→Prop}(h1:∀b,st b→st' b)(h2:∀b,st b→W'.heap[b]? =W.heap[b]?){vs:List AV}{a:Option Addr}{sz:Nat}{f:Nat→Nat→Value}(hs:SlAt W st vs a sz f) :
 SlAt W' st' vs a sz f:=by
 intro i v hv
 obtain⟨h3,b,o,ha,hst,hc⟩:=hs i v hv
 exact⟨h3,b,o,ha,fun h=>h1 b (hst h),fun j hj=>by rw[cell_of_heap (h2 b (hst (by omega)))];exact hc j hj⟩
theorem VP.mono {W W':World}{st st':Nat→Prop}(h1:∀b,st b→st' b)(h2:∀b,st b→W'.heap[b]? =W.heap[b]?){a:AV}{v:Value}(hv:VP W st a v):VP W' st' a v:=by
 induction hv with
 | undef=>exact .undef
 | nls=>exact .nls
 | nfn=>exact .nfn
 | npt=>exact .npt
 | yld l=>exact .yld l
 | cst v=>exact .cst v
 | int k n=>exact .int k n
 | bool b=>exact .bool b
 | str s=>exact .str s
 | agg cs us hs _ ih=>exact .agg cs us hs ih
 | tuple cs us hs _ ih=>exact .tuple cs us hs ih
 | sl sz vs a cap f hc hs _ ih=>exact .sl sz vs a cap f hc (hs.monoW h1 h2) ih
 | slc sz vs a f hs _ ih=>exact .slc sz vs a f (hs.monoW h1 h2) ih
 | fn f cap us hs _ ih=>exact .fn f cap us hs ih
 | rp cs b o f hst hc _ ih=>exact .rp cs b o f (fun h=>h1 b (hst h)) (fun j c hj=>by rw[cell_of_heap (h2 b (hst (by have:=(Qb.1 hj).1;omega)))];exact hc j c hj) ih
 | fm es b a cl g1 g2 g3 g4 _ _ i1 i2=>exact .fm es b a cl (h1 b g1) (by rw[h2 b g1];exact g2) g3 g4 i1 i2
 | sym i v _ ih=>exact .sym i v ih
theorem SlAt.mono {E E':Env}(h:EExt E E'){vs:List AV}{a:Option Addr}{sz:Nat}{f:Nat→Nat→Value}(hs:SlAt E.W E.st vs a sz f) :
 SlAt E'.W E'.st vs a sz f:=by
 intro i v hv
 obtain⟨h1,b,o,ha,hst,hc⟩:=hs i v hv
 exact⟨h1,b,o,ha,fun h'=>h.st b (hst h'),fun j hj=>by rw[cell_of_heap (h.same b (hst (by omega)))];exact hc j hj⟩
theorem OwnAt.mono {E E':Env}(h:EExt E E'){m:Option (Option Nat)}{sz len:Nat}{a:Option Addr}{cap:Nat}(ho:OwnAt E.W m sz len a cap) :
 OwnAt E'.W m sz len a cap:=by
 rcases ho with ho | ⟨b,c,ty,fz,h1,h2,h3,h4,h5,h6⟩
 ·exact .inl ho
 ·obtain⟨c',fz',hc,hsz⟩:=h.shape b c ty fz h5
  exact .inr ⟨b,c',ty,fz',h1,h2,h3,h4,hc,by rw[hsz,h6]⟩
theorem VR.mono {E E':Env}(h:EExt E E'){a:AV}{v:Value}(hv:VR E a v):VR E' a v:=by
 induction hv with
 | top v=>exact .top v
 | undef=>exact .undef
 | nls=>exact .nls
 | nfn=>exact .nfn
 | npt=>exact .npt
 | yld l=>exact .yld l
 | cst v=>exact .cst v
 | int k n=>exact .int k n
 | bool b=>exact .bool b
 | str s=>exact .str s
 | agg cs us hs _ ih=>exact .agg cs us hs ih
 | tuple cs us hs _ ih=>exact .tuple cs us hs ih
 | sl sz vs a cap f hc hs hv=>exact .sl sz vs a cap f hc (hs.mono h) (fun i v j c a b=>(hv i v j c a b).mono h.st h.same)
 | slc sz vs a f hs hv=>exact .slc sz vs a f (hs.mono h) (fun i v j c a b=>(hv i v j c a b).mono h.st h.same)
 | own id sz len a cap hm ha hl=>
  refine .own id sz len a cap (h.M id hm) ha fun L' hL'=>?_
  obtain⟨L,hL,hle,heq⟩:=h.hl id L' hm hL'
  obtain⟨h1,h2⟩:=hl L hL
  refine⟨by omega,fun he=>?_⟩
  have hLL:L=L':=by omega
  rw[heq hLL]
  exact(h2 (by omega)).mono h
 | ptr id sz len idx off v hm hl=>
  refine .ptr id sz len idx off v (h.M id hm) fun L' hL'=>?_
  obtain⟨L,hL,hle,heq⟩:=h.hl id L' hm hL'
  obtain⟨h1,h2⟩:=hl L hL
  refine⟨by omega,fun he=>?_⟩
  have hLL:L=L':=by omega
  rw[heq hLL]
  exact h2 (by omega)
 | win id sz tot off len a cap hc hm hl=>
  refine .win id sz tot off len a cap hc (h.M id hm) fun L' hL'=>?_
  obtain⟨L,hL,hle,heq⟩:=h.hl id L' hm hL'
  obtain⟨h1,h2⟩:=hl L hL
  refine⟨by omega,fun he=>?_⟩
  have hLL:L=L':=by omega
  rw[heq hLL]
  exact h2 (by omega)
 | mp id b hm hl=>
  refine .mp id b (h.M id hm) fun hL'=>?_
  obtain⟨L,hL,hle,heq⟩:=h.hl id 0 hm hL'
  have hL0:L=0:=by omega
  subst hL0
  rw[heq rfl];exact hl hL
 | it id b hm hl=>
  refine .it id b (h.M id hm) fun hL'=>?_
  obtain⟨L,hL,hle,heq⟩:=h.hl id 0 hm hL'
  have hL0:L=0:=by omega
  subst hL0
  rw[heq rfl];exact hl hL
 | rp cs b o f hst hc hv=>exact .rp cs b o f (fun h'=>h.st b (hst h')) (fun j c hj=>by rw[cell_of_heap (h.same b (hst (by have:=(Qb.1 hj).1;omega)))];exact hc j c hj) (fun j c hj=>(hv j c hj).mono h.st h.same)
 | fm es b a cl g1 g2 g3 g4 g5 g6=>exact .fm es b a cl (h.st b g1) (by rw[h.same b g1];exact g2) g3 g4 (fun i k x hi=>(g5 i k x hi).mono h.st h.same) (fun i k x hi=>(g6 i k x hi).mono h.st h.same)
 | fn f cap us hs _ ih=>exact .fn f cap us hs ih
 | mth f cap us hs _ ih=>exact .mth f cap us hs ih
 | sym i v hv=>exact .sym i v (hv.mono h.st h.same)
 | ows id sz j v _ ih=>exact .ows id sz j v ih
 | condT a v _ ih=>exact .condT a v ih
 | condF a=>exact .condF a
theorem EExt.refl (E:Env):EExt E E:=
 ⟨fun _ h=>h,fun _ _=>rfl,fun _ c _ _ h=>⟨c,_,h,rfl⟩,fun _ h=>h,fun _ L _ h=>⟨L,h,Qe _,fun _=>rfl⟩⟩
def Thaw (fz:Nat×Nat)(n:Nat):Prop:=∀j,j<n→¬(fz.1≤j∧j<fz.2)
def ThawS (e:TypeId)(sz:Nat)(fz:Nat×Nat)(n:Nat):Prop:=Thaw fz n∧((e == 3)=true∨sz≠1→¬(fz.1≤n∧n<fz.2))∧fz.1≤fz.2
theorem ThawS.zero (e:TypeId)(sz n:Nat):ThawS e sz (0,0) n:=⟨fun _ _ h=>by simp at h,fun _ h=>by simp at h,Qe _⟩
def mkFz (fz:Nat×Nat)(n:Nat):Nat×Nat:=if fz.1 == fz.2 then(n,n+1) else(min fz.1 n,max fz.2 (n+1))
theorem ThawS.mark {e:TypeId}{fz:Nat×Nat}{n:Nat}(h:ThawS e 1 fz n)(he:(e == 3)=false):ThawS e 1 (mkFz fz n) n:=by
 obtain⟨h1,h2,h3⟩:=h
 unfold mkFz
 by_cases hq:fz.1=fz.2
 ·rw[if_pos (beq_iff_eq.2 hq)]
  refine⟨fun j hj hh=>by simp only at hh;omega,fun hq=>?_,by simp⟩
  rcases hq with hq | hq
  ·rw[he] at hq;cases hq
  ·exact absurd rfl hq
 ·rw[if_neg (fun hh=>hq (beq_iff_eq.1 hh))]
  have hlo:n≤fz.1:=by
   rcases Qo fz.1 n with hlt | hge
   ·exact absurd ⟨Qe _,by omega⟩ (h1 fz.1 hlt)
   ·exact hge
  refine⟨fun j hj hh=>by simp only at hh;omega,fun hq=>?_,by simp only;omega⟩
  rcases hq with hq | hq
  ·rw[he] at hq;cases hq
  ·exact absurd rfl hq
def ARow (E:Env)(m:Option Nat)(e:TypeId)(sz:Nat)(vs:List AV):Prop:=
 (m=none∧vs=[])∨∃b c fz,m=some b∧E.W.heap[b]? =some (.cells c e fz)∧vs.length * sz≤c.size∧ThawS e sz fz c.size∧
   ∀i v,vs[i]? =some v→v.cells.length=sz∧∀j cc,v.cells[j]? =some cc→∃u,c[i * sz+j]? =some u∧VR E cc u
structure EntsAt (E:Env) (es:List (AV×AV)) (a:Array MapEntry):Prop where
 size:a.size=es.length
 ent:∀(i:Nat) k x,es[i]? =some (k,x)→∃e,a[i]? =some e∧VP E.W E.st k e.key∧VP E.W E.st x e.val
def MRow (E:Env)(m:Option Nat)(es:List (AV×AV)):Prop:=
 ∃b a clock,m=some b∧E.W.heap[b]? =some (.map a clock)∧EntsAt E es a∧Stamps a clock
def IRow (E:Env)(m:Option Nat)(cur:Option (AV×AV))(es:List (AV×AV)):Prop:=
 ∃b bm seen a clock,m=some b∧E.W.heap[b]? =some (.mapIter (some bm) clock seen clock)∧E.st bm∧E.W.heap[bm]? =some (.map a clock)∧
  EntsAt E es (a.filter fun e=>!seen.contains e.born)∧Stamps a clock∧
  ∀k x,cur=some (k,x)→∃(i:Nat) (e:MapEntry),a[i]? =some e∧seen.back? =some e.born∧VP E.W E.st k e.key∧VP E.W E.st x e.val
def ORow (E:Env)(m:Option Nat):AO→Prop
 | .dead=>True
 | .arr e sz vs=>ARow E m e sz vs
 | .frz e sz vs=>ARow E m e sz vs
 | .mp es=>MRow E m es
 | .fmp es=>MRow E m es
 | .it cur es=>IRow E m cur es
 | .tok i=>ARow E m (Syms.ae i) (Syms.az i) (Syms.avs i)
structure Rel (H:AH) (E:Env):Prop where
 hl:E.hl=hlOf H
 dom:∀id,H.length≤id→E.M id=none
 orow:∀id o m,H[id]? =some o→E.M id=some m→ORow E m o
 nst':∀id o b,H[id]? =some o→o.lives=true→E.M id=some (some b)→¬E.st b
 fst':∀id o b,H[id]? =some o→o.fixed=true→E.M id=some (some b)→E.st b
 inj':∀id id' o o' b,H[id]? =some o→H[id']? =some o'→o.lives=true→o'.lives=true→E.M id=some (some b)→E.M id'=some (some b)→id=id'
 stlt:∀b,E.st b→b<E.W.heap.size
theorem Rel.row {H:AH}{E:Env}(hr:Rel H E):∀id e sz vs,H[id]? =some (.arr e sz vs)∨H[id]? =some (.frz e sz vs)→∀m,E.M id=some m→ARow E m e sz vs:=by
 rintro id e sz vs (h | h) m hm <;> exact hr.orow id _ m h hm
theorem Rel.nst {H:AH}{E:Env}(hr:Rel H E):∀id e sz vs b,H[id]? =some (.arr e sz vs)→E.M id=some (some b)→¬E.st b:=fun id _ _ _ b h hm=>hr.nst' id _ b h rfl hm
theorem Rel.fst {H:AH}{E:Env}(hr:Rel H E):∀id e sz vs b,H[id]? =some (.frz e sz vs)→E.M id=some (some b)→E.st b:=fun id _ _ _ b h hm=>hr.fst' id _ b h rfl hm
theorem Rel.inj {H:AH}{E:Env}(hr:Rel H E):∀id id' e sz vs e' sz' vs' b,H[id]? =some (.arr e sz vs)→H[id']? =some (.arr e' sz' vs')→E.M id=some (some b)→E.M id'=some (some b)→id=id':=
 fun id id' _ _ _ _ _ _ b h h' hm hm'=>hr.inj' id id' _ _ b h h' rfl rfl hm hm'
theorem VP.ext {E E':Env}(h:EExt E E'){a:AV}{v:Value}(hv:VP E.W E.st a v):VP E'.W E'.st a v:=hv.mono h.st h.same
theorem EntsAt.mono {E E':Env}(h:EExt E E'){es:List (AV×AV)}{a:Array MapEntry}(he:EntsAt E es a):EntsAt E' es a:=
 ⟨he.size,fun i k x hi=>let⟨e,h1,h2,h3⟩:=he.ent i k x hi;⟨e,h1,h2.ext h,h3.ext h⟩⟩
theorem ORow.mono {E E':Env}(h:EExt E E'){m:Option Nat}{o:AO}(ho:ORow E m o)(hb:∀b,m=some b→E'.W.heap[b]? =E.W.heap[b]?):ORow E' m o:=by
 have arow:∀{e sz vs},ARow E m e sz vs→ARow E' m e sz vs:=by
  rintro e sz vs (h0 | ⟨b,c,fz,h1,h2,h3,h4,h5⟩)
  ·exact .inl h0
  ·exact .inr ⟨b,c,fz,h1,by rw[hb b h1];exact h2,h3,h4,fun i v hi=>⟨(h5 i v hi).1,fun k cc hk=>let⟨u,a1,a2⟩:=(h5 i v hi).2 k cc hk;⟨u,a1,a2.mono h⟩⟩⟩
 have mrow:∀{es},MRow E m es→MRow E' m es:=by
  rintro es ⟨b,a,cl,h1,h2,h3,h4⟩
  exact⟨b,a,cl,h1,by rw[hb b h1];exact h2,h3.mono h,h4⟩
 cases o with
 | dead=>trivial
 | arr e sz vs=>exact arow ho
 | frz e sz vs=>exact arow ho
 | tok i=>exact arow ho
 | mp es=>exact mrow ho
 | fmp es=>exact mrow ho
 | it cur es=>
  obtain⟨b,bm,seen,a,cl,h1,h2,h3,h4,h5,h6,h7⟩:=ho
  exact⟨b,bm,seen,a,cl,h1,by rw[hb b h1];exact h2,h.st bm h3,by rw[h.same bm h3];exact h4,h5.mono h,h6,fun k x hc=>let⟨i,e,k1,k2,k3,k4⟩:=h7 k x hc;⟨i,e,k1,k2,k3.ext h,k4.ext h⟩⟩
theorem ORow.block {E:Env}{b:Nat}{o:AO}(ho:ORow E (some b) o)(hd:o≠ .dead):b<E.W.heap.size:=by
 have arow:∀{e sz vs},ARow E (some b) e sz vs→b<E.W.heap.size:=by
  rintro e sz vs (⟨h,_⟩ | ⟨b',c,fz,h1,h2,_⟩)
  ·cases h
  ·cases h1;exact(Qj.1 h2).1
 have mrow:∀{es},MRow E (some b) es→b<E.W.heap.size:=by
  rintro es ⟨b',a,cl,h1,h2,_⟩
  cases h1;exact(Qj.1 h2).1
 cases o with
 | dead=>exact absurd rfl hd
 | arr e sz vs=>exact arow ho
 | frz e sz vs=>exact arow ho
 | tok i=>exact arow ho
 | mp es=>exact mrow ho
 | fmp es=>exact mrow ho
 | it cur es=>
  obtain⟨b',bm,seen,a,cl,h1,h2,_⟩:=ho
  cases h1;exact(Qj.1 h2).1
theorem AO.lives_dead {o:AO}(h:o.lives=true):o≠ .dead:=by rintro rfl;cases h
theorem AO.fixed_dead {o:AO}(h:o.fixed=true):o≠ .dead:=by rintro rfl;cases h
theorem AO.fixed_lives {o:AO}(h:o.fixed=true):o.lives=false:=by cases o <;> first | rfl | cases h
def Live (H:AH)(M:Nat→Option (Option Nat))(b:Nat):Prop:=∃id o,H[id]? =some o∧o.lives=true∧M id=some (some b)
structure Moved (L:Nat→Prop) (st:Nat→Prop) (W W':World) (st':Nat→Prop):Prop where
 os:W'.os=W.os
 tape:W'.tape=W.tape
 output:W'.output=W.output
 size:W.heap.size≤W'.heap.size
 keep:∀b,b<W.heap.size→¬L b→W'.heap[b]? =W.heap[b]?
 shape:∀(b:Nat) (c:Array Value) (ty:TypeId) (fz:Nat×Nat),W.heap[b]? =some (.cells c ty fz)→∃c' fz',W'.heap[b]? =some (.cells c' ty fz')∧c'.size=c.size
 old:∀b,b<W.heap.size→st' b→st b∨L b
 grow:∀b,st b→st' b
def MovedM (E:Env)(E':Env):Prop:=
 (∀id,(E.M id).isSome=true→(E'.M id).isSome=true)∧
 ∀id L',(E.M id).isSome=true→E'.hl id=some L'→∃L,E.hl id=some L∧L≤L'∧(L=L'→E'.M id=E.M id)
structure Step (H:AH) (E:Env) (H':AH) (E':Env):Prop where
 mv:Moved (Live H E.M) E.st E.W E'.W E'.st
 mm:MovedM E E'
 live:∀b,Live H' E'.M b→Live H E.M b∨E.W.heap.size≤b
theorem Step.ext {H H':AH}{E E':Env}(h:Step H E H' E')(hr:Rel H E):EExt E E':=by
 refine⟨h.mv.grow,fun b hb=>h.mv.keep b (hr.stlt b hb) ?_,h.mv.shape,h.mm.1,h.mm.2⟩
 rintro⟨id,o,h1,h2,h3⟩
 exact hr.nst' id o b h1 h2 h3 hb
theorem Moved.refl (L st:Nat→Prop)(W:World):Moved L st W W st:=
 ⟨rfl,rfl,rfl,Qe _,fun _ _ _=>rfl,fun _ c _ _ h=>⟨c,_,h,rfl⟩,fun _ _ h=> .inl h,fun _ h=>h⟩
theorem Step.refl (H:AH)(E:Env):Step H E H E:=
 ⟨Moved.refl _ _ _,⟨fun _ h=>h,fun _ L _ h=>⟨L,h,Qe _,fun _=>rfl⟩⟩,fun _ h=> .inl h⟩
theorem Step.trans {H H' H'':AH}{E E' E'':Env}(h:Step H E H' E')(k:Step H' E' H'' E''):Step H E H'' E'':=by
 refine⟨⟨k.mv.os.trans h.mv.os,k.mv.tape.trans h.mv.tape,k.mv.output.trans h.mv.output,Qs h.mv.size k.mv.size,?_,?_,?_,fun b hb=>k.mv.grow b (h.mv.grow b hb)⟩,⟨fun id hid=>k.mm.1 id (h.mm.1 id hid),?_⟩,?_⟩
 ·intro b hb hL
  rw[k.mv.keep b (Xi hb h.mv.size) ?_,h.mv.keep b hb hL]
  intro hl
  rcases h.live b hl with hl | hl
  ·exact hL hl
  ·omega
 ·intro b c ty fz hb
  obtain⟨c',fz1,h1,h2⟩:=h.mv.shape b c ty fz hb
  obtain⟨c'',fz2,h3,h4⟩:=k.mv.shape b c' ty fz1 h1
  exact⟨c'',fz2,h3,h4.trans h2⟩
 ·intro b hb hst
  rcases k.mv.old b (Xi hb h.mv.size) hst with hst | hl
  ·exact h.mv.old b hb hst
  ·rcases h.live b hl with hl | hl
   ·exact .inr hl
   ·omega
 ·intro id L' hid hL'
  obtain⟨L1,a1,a2,a3⟩:=k.mm.2 id L' (h.mm.1 id hid) hL'
  obtain⟨L,b1,b2,b3⟩:=h.mm.2 id L1 hid a1
  exact⟨L,b1,by omega,fun he=>(a3 (by omega)).trans (b3 (by omega))⟩
 ·intro b hb
  rcases k.live b hb with hb | hb
  ·exact h.live b hb
  ·exact .inr (Qs h.mv.size hb)
def VRs (E:Env)(as:List AV)(vs:Array Value):Prop:=vs.size=as.length∧∀i c,as[i]? =some c→VR E c (vs.getD i Go.undef)
def CallsR (P:Program)(f:FuncId)(args:List AV)(H:AH)(r:AV)(H':AH):Prop:=
 ∀(E:Env) (vals:Array Value),Rel H E→VRs E args vals→Calls P f vals E.W fun e W'=>
  ∃v E',e= .returned v∧E'.W=W'∧VR E' r v∧Rel H' E'∧Step H E H' E'
def AOle (o o':AO):Prop:=o'=o∨(∃e sz vs,o= .arr e sz vs∧o'= .frz e sz vs)∨∃es,o= .mp es∧o'= .fmp es
def AHle (H H':AH):Prop:=∀(id:Nat)(o:AO),H[id]? =some o→∃o',H'[id]? =some o'∧AOle o o'
theorem AOle.refl (o:AO):AOle o o:= .inl rfl
theorem AOle.trans {a b c:AO}(h:AOle a b)(k:AOle b c):AOle a c:=by
 rcases h with rfl | ⟨e,sz,vs,rfl,rfl⟩ | ⟨es,rfl,rfl⟩
 ·exact k
 ·rcases k with rfl | ⟨e',sz',vs',h,_⟩ | ⟨es,h,_⟩
  ·exact .inr (.inl ⟨e,sz,vs,rfl,rfl⟩)
  ·cases h
  ·cases h
 ·rcases k with rfl | ⟨e',sz',vs',h,_⟩ | ⟨es,h,_⟩
  ·exact .inr (.inr ⟨es,rfl,rfl⟩)
  ·cases h
  ·cases h
theorem AOle.len {a b:AO}(h:AOle a b):b.len=a.len:=by
 rcases h with rfl | ⟨e,sz,vs,rfl,rfl⟩ | ⟨es,rfl,rfl⟩ <;> rfl
theorem AOle.cases {o o':AO}(h:AOle o o'):o'=o∨(o.lives=true∧o'.fixed=true):=by
 rcases h with rfl | ⟨e,sz,vs,rfl,rfl⟩ | ⟨es,rfl,rfl⟩
 ·exact .inl rfl
 ·exact .inr ⟨rfl,rfl⟩
 ·exact .inr ⟨rfl,rfl⟩
theorem ORow.fix {E:Env}{m:Option Nat}{o o':AO}(h:AOle o o')(k:ORow E m o):ORow E m o':=by
 rcases h with rfl | ⟨e,sz,vs,rfl,rfl⟩ | ⟨es,rfl,rfl⟩ <;> exact k
theorem AHle.refl (H:AH):AHle H H:=fun _ o h=>⟨o,h,.refl o⟩
theorem AHle.trans {A B C:AH}(h:AHle A B)(k:AHle B C):AHle A C:=fun id o ho=>
 let⟨o1,h1,l1⟩:=h id o ho;let⟨o2,h2,l2⟩:=k id o1 h1;⟨o2,h2,l1.trans l2⟩
theorem AHle.length {H H':AH}(h:AHle H H'):H.length≤H'.length:=by
 rcases Qo H'.length H.length with hlt | hge
 ·obtain⟨o',ho',_⟩:=h H'.length H[H'.length] (by simp [hlt])
  simp at ho'
 ·exact hge
theorem Rel.le {H H':AH}{E:Env}(hr:Rel H E)(hle:AHle H H'):∃E',Rel H' E'∧E'.W=E.W∧E'.M=E.M∧Step H E H' E':=by
 let st':Nat→Prop:=fun b=>E.st b∨∃id o o',H[id]? =some o∧o.lives=true∧H'[id]? =some o'∧o'.fixed=true∧E.M id=some (some b)
 have hsome:∀id m,E.M id=some m→id<H.length:=by
  intro id m hm
  rcases Qo id H.length with h | h
  ·exact h
  ·rw[hr.dom id h] at hm;cases hm
 have was:∀id o m,H'[id]? =some o→E.M id=some m→∃o0,H[id]? =some o0∧AOle o0 o:=by
  intro id o m h hm
  have hlt:=hsome id m hm
  obtain⟨o',ho',hl⟩:=hle id H[id] (by simp [hlt])
  rw[ho'] at h;cases h
  exact⟨H[id],by simp [hlt],hl⟩
 have live:∀id o b,H'[id]? =some o→o.lives=true→E.M id=some (some b)→H[id]? =some o:=by
  intro id o b h hlv hm
  obtain⟨o0,h3,hl⟩:=was id o _ h hm
  rcases hl.cases with rfl | ⟨_,h5⟩
  ·exact h3
  ·rw[AO.fixed_lives h5] at hlv;cases hlv
 have hst:Step H E H' { W:=E.W,M:=E.M,st:=st',hl:=hlOf H' }:=by
  refine⟨⟨rfl,rfl,rfl,Qe _,fun _ _ _=>rfl,fun _ c _ _ h=>⟨c,_,h,rfl⟩,?_,fun b h=> .inl h⟩,⟨fun _ h=>h,?_⟩,?_⟩
  ·rintro b _ (h | ⟨id,o,o',h1,h2,_,_,h3⟩)
   ·exact .inl h
   ·exact .inr ⟨id,_,h1,h2,h3⟩
  ·intro id L' hid hL'
   refine⟨L',?_,Qe _,fun _=>rfl⟩
   obtain⟨m,hm⟩:=Option.isSome_iff_exists.1 hid
   have hlt:=hsome id m hm
   obtain⟨o',ho',hl⟩:=hle id H[id] (by simp [hlt])
   rw[hr.hl]
   simp only[hlOf,ho',Q9,hl.len] at hL'
   simp only[hlOf,Q6 hlt,Q9]
   exact hL'
  ·rintro b ⟨id,o,h1,hlv,h2⟩
   exact .inl ⟨id,o,live id o b h1 hlv h2,hlv,h2⟩
 have hx:=hst.ext hr
 refine⟨{ W:=E.W,M:=E.M,st:=st',hl:=hlOf H' },⟨rfl,?_,?_,?_,?_,?_,?_⟩,rfl,rfl,hst⟩
 ·intro id h;exact hr.dom id (Qs hle.length h)
 ·intro id o m h hm
  obtain⟨o0,h3,hl⟩:=was id o _ h hm
  exact((hr.orow id o0 m h3 hm).mono hx (fun _ _=>rfl)).fix hl
 ·intro id o b h hlv hm
  have hold:=live id o b h hlv hm
  rintro(h' | ⟨id',o1,o2,k1,k0,k2,k4,k3⟩)
  ·exact hr.nst' id o b hold hlv hm h'
  ·have:=hr.inj' id id' _ _ b hold k1 hlv k0 hm k3
   subst this
   rw[h] at k2;cases k2
   rw[AO.fixed_lives k4] at hlv;cases hlv
 ·intro id o b h hfx hm
  obtain⟨o0,h3,hl⟩:=was id o _ h hm
  rcases hl.cases with rfl | ⟨h4,h5⟩
  ·exact .inl (hr.fst' id _ b h3 hfx hm)
  ·exact .inr ⟨id,_,_,h3,h4,h,hfx,hm⟩
 ·intro id id' o o' b h h' hv hv' hm hm'
  exact hr.inj' id id' _ _ b (live id o b h hv hm) (live id' o' b h' hv' hm') hv hv' hm hm'
 ·rintro b (h | ⟨id,o,o',h1,h2,_,_,h3⟩)
  ·exact hr.stlt b h
  ·exact ORow.block (E:=E) (hr.orow id o _ h1 h3) (AO.lives_dead h2)
end Go.Pg
namespace Go.Pg
open Go
variable [Syms]
section
variable (P:Program) (ops:Array Oper)
def dstOf (i:Nat):Option Tmp:=(ops[i]?).bind (·.dst)
def looks (i:Nat):List Tmp:=((ops[i]?).map (fun o=>o.looksAt ops)).getD []
def Closed (D:Array Bool):Prop:=
 ∀i o,D.getD i false=true→ops[i]? =some o→∀e∈o.after,Region.binds .any e=true→D.getD e.on false=true
def preds (i:Nat):List Nat:=((ops[i]?).map fun o=>(o.after.toList.filter (Region.binds .any ·)).map (·.on)).getD []
def orMask (ms:List Nat)(l:List Nat):Nat:=l.foldl (fun s p=>s ||| (2 ^ p ||| ms.getD p 0)) 0
def masksOk (ms:List Nat):Bool:=
 (Qi ops.size).all fun i=>(preds ops i).all (· <i) && (ms.getD i 0 == orMask ms (preds ops i))
def anc (ms:List Nat)(i j:Nat):Bool:=(ms.getD i 0).testBit j
theorem orMask_testBit (ms:List Nat)(j:Nat):∀(l:List Nat)(s:Nat),(l.foldl (fun s p=>s ||| (2 ^ p ||| ms.getD p 0)) s).testBit j=true→
 s.testBit j=true∨∃p∈l,p=j∨(ms.getD p 0).testBit j=true:=by
 intro l
 induction l with
 | nil=>intro s h;exact .inl h
 | cons p l ih=>
  intro s h
  rcases ih _ h with h | ⟨q,hq,h⟩
  ·rw[Xr,Xr,Qu,Qu] at h
   rcases h with h | h | h
   ·exact .inl h
   ·right;refine⟨p,by simp,.inl ?_⟩
    by_cases e:p=j
    ·exact e
    ·rw[Nat.testBit_two_pow_of_ne e] at h;cases h
   ·exact .inr ⟨p,by simp,.inr h⟩
  ·exact .inr ⟨q,by simp [hq],h⟩
variable {ops}
theorem mem_preds {i p:Nat}(h:p∈preds ops i):∃o e,ops[i]? =some o∧e∈o.after∧Region.binds .any e=true∧e.on=p:=by
 unfold preds at h
 cases ho:ops[i]? with
 | none=>simp [ho] at h
 | some o=>
  simp only[ho,Qq,Qc,Q1,Qz,Qm] at h
  obtain⟨e,⟨he,hb⟩,rfl⟩:=h
  exact⟨o,e,rfl,he,hb,rfl⟩
theorem anc_mem {ms:List Nat}(hm:masksOk ops ms=true){D:Array Bool}(hc:Closed ops D) :
 ∀(i:Nat),i<ops.size→(∀p∈preds ops i,D.getD p false=true)→∀j,anc ms i j=true→D.getD j false=true:=by
 intro i
 induction i using Xq with
 | _ i ih=>
  intro hi hp j hj
  have hmi:=Qn.1 hm i (by simpa using hi)
  simp only[Qt,Qn,decide_eq_true_eq,beq_iff_eq] at hmi
  obtain⟨hlt,heq⟩:=hmi
  unfold anc at hj
  rw[heq] at hj
  rcases orMask_testBit ms j _ 0 hj with h | ⟨p,hpm,h⟩
  ·simp at h
  ·have hD:=hp p hpm
   rcases h with rfl | h
   ·exact hD
   ·have hpi:=hlt p hpm
    refine ih p hpi (by omega) ?_ j h
    intro q hq
    obtain⟨o,e,ho,he,hb,rfl⟩:=mem_preds hq
    exact hc p o hD ho e he hb
theorem ready_preds {D:Array Bool}{i:Nat}(h:i∈Region.ready .any ops D):i<ops.size∧D.getD i true=false∧∀p∈preds ops i,D.getD p false=true:=by
 obtain⟨h0,o,ho,he⟩:=mem_ready.1 h
 refine⟨(Qj.1 ho).1,h0,fun p hp=>?_⟩
 obtain⟨o',e,ho',hm,hb,rfl⟩:=mem_preds hp
 rw[ho] at ho';cases ho'
 exact he e hm hb
theorem ready_exists {ms:List Nat}(hm:masksOk ops ms=true){D:Array Bool}(hs:D.size=ops.size) :
 ∀(i:Nat),i<ops.size→D.getD i true=false→∃j,j∈Region.ready .any ops D:=by
 intro i
 induction i using Xq with
 | _ i ih=>
  intro hi hD
  by_cases h:∀p∈preds ops i,D.getD p false=true
  ·refine⟨i,mem_ready.2 ⟨hD,ops[i],by simp [hi],fun e he hb=>?_⟩⟩
   refine h e.on ?_
   unfold preds
   simp only[Qd hi,Qq,Qc,Q1,Qz,Qm]
   exact⟨e,⟨he,hb⟩,rfl⟩
  ·simp only[Classical.not_forall] at h
   obtain⟨p,hp,hn⟩:=h
   have hmi:=Qn.1 hm i (by simpa using hi)
   simp only[Qt,Qn,decide_eq_true_eq,beq_iff_eq] at hmi
   have hlt:=hmi.1 p hp
   refine ih p hlt (by omega) ?_
   have hpl:p<D.size:=by omega
   simp only[Qa,Qd hpl,Qc] at hn ⊢
   simpa using hn
theorem wpAny_inv {P:Program}{Q:Exit→Act→World→Prop}{ms:List Nat}(hm:masksOk ops ms=true)(Inv:Array Bool→Act→World→Prop)
 (hstep:∀D a w i,D.size=ops.size→Closed ops D→i∈Region.ready .any ops D→Inv D a w→wpOp P ops Q i (Inv (D.setIfInBounds i true)) a w)
 (hend:∀D a w,D.size=ops.size→(∀i,i<ops.size→D.getD i false=true)→Inv D a w→Q .normal a w) :
 ∀(fuel:Nat) (D:Array Bool) (a:Act) (w:World),D.size=ops.size→Closed ops D→((Qi ops.size).filter (fun i=>!D.getD i false)).length≤fuel→
  Inv D a w→wpAny P .any ops Q fuel D a w:=by
 have nil:∀(D:Array Bool),D.size=ops.size→Region.ready .any ops D=[]→∀i,i<ops.size→D.getD i false=true:=by
  intro D hs hr i hi
  by_cases h:D.getD i false=true
  ·exact h
  ·obtain⟨j,hj⟩:=ready_exists hm hs i hi (by
    have hpl:i<D.size:=by omega
    simp only[Qa,Qd hpl,Qc] at h ⊢
    simpa using h)
   rw[hr] at hj;cases hj
 intro fuel
 induction fuel with
 | zero=>
  intro D a w hs hc hl hi
  have hall:∀i,i<ops.size→D.getD i false=true:=by
   intro i hi'
   have h0:(Qi ops.size).filter (fun i=>!D.getD i false)=[]:=List.eq_nil_of_length_eq_zero (by omega)
   have:=List.filter_eq_nil_iff.1 h0 i (by simpa using hi')
   simpa using this
  refine⟨?_,hend D a w hs hall hi⟩
  rw[List.eq_nil_iff_forall_not_mem]
  intro j hj
  obtain⟨h1,h2,_⟩:=ready_preds hj
  have h3:=hall j h1
  have hpl:j<D.size:=by omega
  simp only[Qa,Qd hpl,Qc] at h2 h3
  rw[h2] at h3;cases h3
 | succ fuel ih=>
  intro D a w hs hc hl hi
  refine⟨fun hr=>hend D a w hs (nil D hs hr) hi,fun i hir=>?_⟩
  refine wpOp_mono (fun a' w' hi'=>?_) (hstep D a w i hs hc hir hi)
  obtain⟨h1,h2,h3⟩:=ready_preds hir
  have hiD:i<D.size:=by omega
  have hget:∀k,(D.setIfInBounds i true).getD k false=if k=i then true else D.getD k false:=by
   intro k
   simp only[Qa,Q0]
   split
   ·next h=>subst h;simp only[if_true,Qc]
   ·next h=>rw[if_neg (fun e=>h e.symm)]
  refine ih _ a' w' (by simpa using hs) ?_ ?_ hi'
  ·intro k o hk ho e he hb
   rw[hget] at hk ⊢
   split
   ·rfl
   ·split at hk
    ·next h=>subst h;exact h3 e.on (by
      unfold preds
      simp only[ho,Qq,Qc,Q1,Qz,Qm]
      exact⟨e,⟨he,hb⟩,rfl⟩)
    ·exact hc k o hk ho e he hb
  ·have hmem:i∈(Qi ops.size).filter (fun i=>!D.getD i false):=by
    simp only[Qz,List.mem_range,h1,true_and]
    have hpl:i<D.size:=by omega
    simp only[Qa,Qd hpl,Qc] at h2 ⊢
    simp [h2]
   have hlt:((Qi ops.size).filter (fun k=>!(D.setIfInBounds i true).getD k false)).length< ((Qi ops.size).filter (fun k=>!D.getD k false)).length:=by
    have e:(Qi ops.size).filter (fun k=>!(D.setIfInBounds i true).getD k false)=((Qi ops.size).filter (fun k=>!D.getD k false)).filter (fun k=>decide (k≠i)):=by
     rw[List.filter_filter]
     apply List.filter_congr
     intro k _
     rw[hget]
     by_cases h:k=i <;> simp [h]
    rw[e]
    have:=List.length_filter_lt_length_iff_exists (p:=fun k=>decide (k≠i)) (l:=(Qi ops.size).filter (fun k=>!D.getD k false))
    exact this.2 ⟨i,hmem,by simp⟩
   omega
structure Plan where
 heap:Nat→Bool
 want:Nat→Bool
 V:Nat→AV
 new:Nat→List Nat
 fp:Nat→List Nat
 wr:Nat→List Nat
 ro:Nat→List Nat
 H:Nat→AH
 env:Tmp→AV
 N:Nat
def seqEnv (ops:Array Oper)(pl:Plan):Nat→Tmp→AV
 | 0,t=>pl.env t
 | i+1,t=>if dstOf ops i=some t then pl.V i else seqEnv ops pl i t
def nextW (pl:Plan)(id:Nat):Nat→Nat→Nat
 | 0,i=>i
 | f+1,i=>if id∈pl.wr i then i else nextW pl id f (i+1)
def segEnd (ops:Array Oper)(pl:Plan)(id:Nat)(i:Nat):Nat:=nextW pl id (ops.size - i) i
theorem nextW_ge (pl:Plan)(id:Nat):∀f i,i≤nextW pl id f i∧nextW pl id f i≤i+f:=by
 intro f
 induction f with
 | zero=>intro i;simp [nextW]
 | succ f ih=>intro i;simp only[nextW];split; · omega
              ·have:=ih (i+1);omega
theorem nextW_none (pl:Plan)(id:Nat):∀f i k,i≤k→k<nextW pl id f i→id∉pl.wr k:=by
 intro f
 induction f with
 | zero=>intro i k h1 h2;simp [nextW] at h2;omega
 | succ f ih=>
  intro i k h1 h2
  simp only[nextW] at h2
  split at h2
  ·omega
  ·next h=>
   by_cases e:k=i
   ·subst e;exact h
   ·exact ih (i+1) k (by omega) h2
theorem nextW_write (pl:Plan)(id:Nat):∀f i,nextW pl id f i<i+f→id∈pl.wr (nextW pl id f i):=by
 intro f
 induction f with
 | zero=>intro i h;simp [nextW] at h
 | succ f ih=>
  intro i h
  simp only[nextW] at h ⊢
  split
  ·next h'=>exact h'
  ·next h'=>rw[if_neg h'] at h;exact ih (i+1) (by omega)
theorem segEnd_ge (pl:Plan)(id:Nat){i:Nat}(hi:i≤ops.size):i≤segEnd ops pl id i∧segEnd ops pl id i≤ops.size:=by
 have:=nextW_ge pl id (ops.size - i) i
 unfold segEnd;omega
theorem segEnd_eq (pl:Plan)(id:Nat){i j:Nat}(hij:i≤j)(hj:j≤ops.size)(h:∀k,i≤k→k<j→id∉pl.wr k):segEnd ops pl id i=segEnd ops pl id j:=by
 have hi1:=segEnd_ge (ops:=ops) pl id (i:=i) (by omega)
 have hj1:=segEnd_ge (ops:=ops) pl id hj
 have a1:∀k,i≤k→k<segEnd ops pl id i→id∉pl.wr k:=nextW_none pl id (ops.size - i) i
 have a2:∀k,j≤k→k<segEnd ops pl id j→id∉pl.wr k:=nextW_none pl id (ops.size - j) j
 have b1:segEnd ops pl id i<i+(ops.size - i)→id∈pl.wr (segEnd ops pl id i):=nextW_write pl id (ops.size - i) i
 have b2:segEnd ops pl id j<j+(ops.size - j)→id∈pl.wr (segEnd ops pl id j):=nextW_write pl id (ops.size - j) j
 rcases Nat.lt_trichotomy (segEnd ops pl id i) (segEnd ops pl id j) with h1 | h1 | h1
 ·have hw:=b1 (by omega)
  by_cases hk:segEnd ops pl id i<j
  ·exact absurd hw (h _ hi1.1 hk)
  ·exact absurd hw (a2 _ (by omega) h1)
 ·exact h1
 ·have hw:=b2 (by omega)
  exact absurd hw (a1 _ (by omega) h1)
theorem segEnd_self (pl:Plan)(id:Nat){i:Nat}(hi:i<ops.size)(h:id∈pl.wr i):segEnd ops pl id i=i:=by
 unfold segEnd
 obtain⟨f,hf⟩:∃f,ops.size - i=f+1:=⟨ops.size - i - 1,by omega⟩
 rw[hf];simp [nextW,h]
theorem segEnd_top (pl:Plan)(id:Nat):segEnd ops pl id ops.size=ops.size:=by
 have:=segEnd_ge (ops:=ops) pl id (i:=ops.size) (Qe _)
 omega
def Looked (ops:Array Oper)(pl:Plan)(i:Nat)(E:Env)(a:Act):Prop:=
 ∀t∈looks ops i,VR E (seqEnv ops pl i t) (a.tmps.getD t Go.undef)
def Has (H:AH)(id:Nat)(HD:AH):Prop:=∀o,H[id]? =some o→∃o',HD[id]? =some o'∧AOle o o'
def HeapOK (P:Program)(o:Oper)(look:Env→Act→Prop)(V:AV)(new fp wr:List Nat)(H H1:AH):Prop:=
 ∀(HD:AH) E a,look E a→Rel HD E→H1.length≤HD.length→(∀id∈fp,id∉wr→Has H1 id HD)→(∀id∈wr,HD[id]? =H[id]?)→(∀id∈new,E.M id=none∧Has H1 id HD)→
  ∀(K:Act→World→Prop) (Q:Exit→Act→World→Prop),
   (∀(HD':AH) E' v,HD'.length=HD.length→(∀id,id∉wr→HD'[id]? =HD[id]?)→(∀id∈wr,HD'[id]? =H1[id]?)→
     VR E' V v→Rel HD' E'→Step HD E HD' E'→(∀id,E.M id=none→E'.M id≠none→id∈new)→K (a.put o.dst v) E'.W)→o.wp P a E.W K Q
def PureOK (P:Program)(o:Oper)(look:Env→Act→Prop)(V:AV):Prop:=
 ∀E a,look E a→∃v,VR E V v∧(execOp a.eval o).run P E.W= .ok (.value v) E.W
def OpOK (P:Program)(ops:Array Oper)(pl:Plan)(i:Nat)(o:Oper):Prop:=
 match pl.want i,pl.heap i with
 | false,false=>∀E,VR E (pl.V i) Go.undef
 | false,true=>False
 | true,false=>PureOK P o (Looked ops pl i) (pl.V i)
 | true,true=>HeapOK P o (Looked ops pl i) (pl.V i) (pl.new i) (pl.fp i) (pl.wr i ++ pl.ro i) (pl.H i) (pl.H (i+1))
def WantOK (ops:Array Oper)(pl:Plan)(i:Nat)(o:Oper):Prop:=
 match o.guard with
 | none=>pl.want i=true
 | some (j,wt)=>∃t,dstOf ops j=some t∧((∃b,seqEnv ops pl i t= .bool b∧pl.want i=(b == wt))∨(seqEnv ops pl i t= .undef∧pl.want i=false)∨(∃g b,seqEnv ops pl i t= .cond g (.bool b)∧pl.want i=(g && (b == wt))))
structure PlanOK (P:Program) (ops:Array Oper) (pl:Plan):Prop where
 op:∀i o,ops[i]? =some o→OpOK P ops pl i o
 want:∀i o,ops[i]? =some o→WantOK ops pl i o
 dst:∀i t,i<ops.size→dstOf ops i=some t→t<pl.N
 quiet:∀i,i<ops.size→pl.heap i=false→pl.new i=[]∧pl.fp i=[]∧pl.wr i=[]
 wrfp:∀i id,i<ops.size→id∈pl.wr i→id∈pl.fp i
 wrlt:∀i id,i<ops.size→id∈pl.wr i→id< (pl.H i).length
 le:∀i id,i<ops.size→id∉pl.wr i→Has (pl.H i) id (pl.H (i+1))
 newlt:∀i id,i<ops.size→id∈pl.new i→(pl.H i).length≤id
 newup:∀i id,i<ops.size→id∈pl.new i→id< (pl.H (i+1)).length
 len:∀i,i<ops.size→(pl.H i).length≤(pl.H (i+1)).length
 ro:∀i id,i<ops.size→id∈pl.ro i→id∈pl.fp i∧∀k,i≤k→k≤ops.size→(∀j,i≤j→j<k→id∉pl.wr j)→(pl.H k)[id]? =(pl.H i)[id]?
theorem wanted_of {pl:Plan}{i:Nat}{o:Oper}{E:Env}{a:Act}(hw:WantOK ops pl i o)(ho:ops[i]? =some o)(hl:Looked ops pl i E a)
 (hsz:∀j wt t,o.guard=some (j,wt)→dstOf ops j=some t→t<a.tmps.size):Region.wanted o (yielded ops a.tmps)=pl.want i:=by
 unfold WantOK at hw
 unfold Region.wanted
 cases hg:o.guard with
 | none=>rw[hg] at hw;simp only at hw ⊢;exact hw.symm
 | some g=>
  obtain⟨j,wt⟩:=g
  rw[hg] at hw
  obtain⟨t,ht,hw⟩:=hw
  have hmem:t∈looks ops i:=by
   unfold looks
   simp only[ho,Qq,Qc,Oper.looksAt,hg,Xc]
   right
   unfold dstOf at ht
   simp [ht]
  have hv:=hl t hmem
  have hlt:=hsz j wt t hg ht
  have hy:yielded ops a.tmps j=match a.tmps.getD t Go.undef with | .bool b=>some b | _=>none:=by
   unfold yielded
   unfold dstOf at ht
   rw[ht]
   simp only[Q9,Qa,Qd hlt,Qc]
   cases a.tmps[t] <;> rfl
  rcases hw with⟨b,hb,hw⟩ | ⟨hb,hw⟩ | ⟨g,b,hb,hw⟩
  ·rw[hb] at hv
   generalize a.tmps.getD t Go.undef=x at hv hy
   cases hv
   simp only[hy,hw]
   cases b <;> cases wt <;> rfl
  ·rw[hb] at hv
   generalize a.tmps.getD t Go.undef=x at hv hy
   cases hv
   simp only[hy,hw]
   rfl
  ·rw[hb] at hv
   generalize a.tmps.getD t Go.undef=x at hv hy
   cases hv with
   | condT _ _ hv=>
    cases hv
    simp only[hy,hw]
    cases b <;> cases wt <;> rfl
   | condF=>
    simp only[hy,hw]
    rfl
def slotsOK (ops:Array Oper)(ms:List Nat):Bool:=
 masksOk ops ms && (Qi ops.size).all fun i=>(Qi ops.size).all fun j=>
  (i == j) || (match dstOf ops j with
    | none=>true
    | some t=>(dstOf ops i !=some t) && (!(looks ops i).contains t || (if j<i then anc ms i j else anc ms j i)))
def HeapOrd (ops:Array Oper)(ms:List Nat)(pl:Plan):Prop:=
 ∀i j id,i<ops.size→j<ops.size→i≠j→id∈pl.wr j→id∈pl.fp i∨id∈pl.new i→if i<j then anc ms j i=true else anc ms i j=true
theorem seqEnv_cases (pl:Plan)(t:Tmp):∀i,(∃j,j<i∧dstOf ops j=some t∧seqEnv ops pl i t=pl.V j)∨((∀j,j<i→dstOf ops j≠some t)∧seqEnv ops pl i t=pl.env t):=by
 intro i
 induction i with
 | zero=>exact .inr ⟨fun j h=>by omega,rfl⟩
 | succ i ih=>
  by_cases h:dstOf ops i=some t
  ·exact .inl ⟨i,by omega,h,by simp [seqEnv,h]⟩
  ·have e:seqEnv ops pl (i+1) t=seqEnv ops pl i t:=by simp [seqEnv,h]
   rw[e]
   rcases ih with⟨j,h1,h2,h3⟩ | ⟨h1,h2⟩
   ·exact .inl ⟨j,by omega,h2,h3⟩
   ·refine .inr ⟨fun j hj=>?_,h2⟩
    by_cases e:j=i
    ·subst e;exact h
    ·exact h1 j (by omega)
theorem Plan.len_mono {P:Program}{pl:Plan}(h:PlanOK P ops pl):∀j i,i≤j→j≤ops.size→(pl.H i).length≤(pl.H j).length:=by
 intro j
 induction j with
 | zero=>intro i h1 _;have:i=0:=by omega
         subst this;exact Qe _
 | succ j ih=>
  intro i h1 h2
  by_cases e:i=j+1
  ·subst e;exact Qe _
  ·exact Qs (ih i (by omega) (by omega)) (h.len j (by omega))
theorem Has.refl (H:AH)(id:Nat):Has H id H:=fun o h=>⟨o,h,.refl o⟩
theorem Has.trans {A B C:AH}{id:Nat}(h:Has A id B)(k:Has B id C):Has A id C:=fun o ho=>
 let⟨o1,h1,l1⟩:=h o ho;let⟨o2,h2,l2⟩:=k o1 h1;⟨o2,h2,l1.trans l2⟩
theorem Plan.le_to {P:Program}{pl:Plan}(h:PlanOK P ops pl)(id:Nat):∀j i,i≤j→j≤ops.size→(∀k,i≤k→k<j→id∉pl.wr k)→Has (pl.H i) id (pl.H j):=by
 intro j
 induction j with
 | zero=>intro i h1 _ _;have:i=0:=by omega
         subst this;exact .refl _ _
 | succ j ih=>
  intro i h1 h2 hw
  by_cases e:i=j+1
  ·subst e;exact .refl _ _
  ·exact(ih i (by omega) (by omega) (fun k a b=>hw k a (by omega))).trans (h.le j id (by omega) (hw j (by omega) (by omega)))
theorem Plan.le_seg {P:Program}{pl:Plan}(h:PlanOK P ops pl)(id:Nat){i:Nat}(hi:i≤ops.size):Has (pl.H i) id (pl.H (segEnd ops pl id i)):=
 Plan.le_to h id _ i (segEnd_ge pl id hi).1 (segEnd_ge pl id hi).2 (fun k h1 h2=>nextW_none pl id _ i k h1 h2)
theorem Plan.new_disj {P:Program}{pl:Plan}(h:PlanOK P ops pl){i j id:Nat}(hi:i<ops.size)(hj:j<ops.size)(hne:i≠j)(h1:id∈pl.new i):id∉pl.new j:=by
 intro h2
 have a1:=h.newlt i id hi h1
 have a2:=h.newup i id hi h1
 have b1:=h.newlt j id hj h2
 have b2:=h.newup j id hj h2
 rcases Nat.lt_or_gt_of_ne hne with hlt | hlt
 ·have:=Plan.len_mono h j (i+1) (by omega) (by omega);omega
 ·have:=Plan.len_mono h i (j+1) (by omega) (by omega);omega
theorem put_getD (a:Act)(dst:Option Tmp)(v:Value)(t:Tmp)(h:dst≠some t):(a.put dst v).tmps.getD t Go.undef=a.tmps.getD t Go.undef:=by
 cases dst with
 | none=>rfl
 | some d=>
  have hne:d≠t:=fun e=>h (by rw[e])
  simp [Act.put,Qv hne]
theorem put_getD_same (a:Act)(t:Tmp)(v:Value)(h:t<a.tmps.size):(a.put (some t) v).tmps.getD t Go.undef=v:=by
 simp [Act.put,h]
theorem put_size (a:Act)(dst:Option Tmp)(v:Value):(a.put dst v).tmps.size=a.tmps.size:=by
 cases dst <;> simp [Act.put]
theorem put_defers (a:Act)(dst:Option Tmp)(v:Value):(a.put dst v).defers=a.defers:=by
 cases dst <;> rfl
structure AtCur (ops:Array Oper) (pl:Plan) (c:Nat→Nat) (HD:AH):Prop where
 len:HD.length=(pl.H ops.size).length
 at_:∀id,HD[id]? =(pl.H (segEnd ops pl id (c id)))[id]?
structure RInv (P:Program) (ops:Array Oper) (pl:Plan) (ds:List Deferred) (E0:Env) (D:Array Bool) (a:Act) (E:Env) (c:Nat→Nat) (HD:AH):Prop where
 size:a.tmps.size=pl.N
 defers:a.defers=ds
 e1:∀t,(∀i,i<ops.size→D.getD i false=true→dstOf ops i≠some t)→VR E (pl.env t) (a.tmps.getD t Go.undef)
 e2:∀i t,i<ops.size→D.getD i false=true→dstOf ops i=some t→VR E (pl.V i) (a.tmps.getD t Go.undef)
 cle:∀id,c id≤ops.size
 cw:∀id,c id≠0→∃k,c id=k+1∧D.getD k false=true∧id∈pl.wr k
 p1:∀id k,k<c id→id∈pl.fp k→D.getD k false=true
 p2:∀id k,c id≤k→k<ops.size→id∈pl.wr k→D.getD k false=false
 atc:AtCur ops pl c HD
 rel:Rel HD E
 fresh:∀i id,i<ops.size→D.getD i false=false→id∈pl.new i→E.M id=none
 step:Step (pl.H 0) E0 HD E
theorem getD_set {D:Array Bool}{i:Nat}(hi:i<D.size)(k:Nat):(D.setIfInBounds i true).getD k false=if k=i then true else D.getD k false:=by
 simp only[Qa,Q0]
 split
 ·next h=>subst h;simp only[if_true,Qc]
 ·next h=>rw[if_neg (fun e=>h e.symm)]
theorem RInv.put {P:Program}{pl:Plan}{ds:List Deferred}{E0:Env}{D:Array Bool}{a:Act}{E E':Env}{c c':Nat→Nat}{HD HD':AH}{i:Nat}{o:Oper}{v:Value}
 (hpl:PlanOK P ops pl) (hinv:RInv P ops pl ds E0 D a E c HD) (hD:D.size=ops.size) (hi:i<ops.size) (ho:ops[i]? =some o)
 (hdd:∀j t,j<ops.size→j≠i→dstOf ops j=some t→dstOf ops i≠some t)
 (hx:EExt E E') (hv:VR E' (pl.V i) v)
 (hM:∀id,E.M id=none→E'.M id≠none→id∈pl.new i)
 (hcle:∀id,c' id≤ops.size) (hcw:∀id,c' id≠0→∃k,c' id=k+1∧(k=i∨D.getD k false=true)∧id∈pl.wr k)
 (hp1:∀id k,k<c' id→id∈pl.fp k→k=i∨D.getD k false=true)
 (hp2:∀id k,c' id≤k→k<ops.size→id∈pl.wr k→k≠i∧D.getD k false=false)
 (hatc:AtCur ops pl c' HD') (hrel:Rel HD' E') (hstep:Step (pl.H 0) E0 HD' E') :
 RInv P ops pl ds E0 (D.setIfInBounds i true) (a.put o.dst v) E' c' HD':=by
 have hdst:dstOf ops i=o.dst:=by simp [dstOf,ho]
 have hiD:i<D.size:=by omega
 refine⟨by rw[put_size];exact hinv.size,by rw[put_defers];exact hinv.defers,?_,?_,hcle,?_,?_,?_,hatc,hrel,?_,hstep⟩
 ·intro t ht
  have hne:o.dst≠some t:=by rw[←hdst];exact ht i hi (by rw[getD_set hiD];simp)
  rw[put_getD _ _ _ _ hne]
  refine(hinv.e1 t fun j hj hDj=>ht j hj ?_).mono hx
  rw[getD_set hiD];split <;> simp_all
 ·intro j t hj hDj hdj
  rw[getD_set hiD] at hDj
  by_cases e:j=i
  ·subst e
   rw[hdst] at hdj
   rw[hdj,put_getD_same _ _ _ (by rw[hinv.size];exact hpl.dst j t hj (by rw[hdst,hdj]))]
   exact hv
  ·rw[if_neg e] at hDj
   rw[put_getD _ _ _ _ (by rw[←hdst];exact hdd j t hj e hdj)]
   exact(hinv.e2 j t hj hDj hdj).mono hx
 ·intro id h0
  obtain⟨k,h1,h2,h3⟩:=hcw id h0
  refine⟨k,h1,?_,h3⟩
  rw[getD_set hiD]
  split
  ·rfl
  ·next e=>exact h2.resolve_left e
 ·intro id k hk hc
  rw[getD_set hiD]
  split
  ·rfl
  ·next e=>exact(hp1 id k hk hc).resolve_left e
 ·intro id k h1 h2 h3
  rw[getD_set hiD,if_neg (hp2 id k h1 h2 h3).1]
  exact(hp2 id k h1 h2 h3).2
 ·intro j id hj hDj hid
  rw[getD_set hiD] at hDj
  split at hDj
  ·cases hDj
  ·next e=>
   have h0:=hinv.fresh j id hj hDj hid
   cases hm:E'.M id with
   | none=>rfl
   | some m=>exact absurd hid (Plan.new_disj hpl hi hj (fun x=>e x.symm) (hM id h0 (by rw[hm];simp)))
def curHeap (ops:Array Oper)(pl:Plan)(c:Nat→Nat):AH:=
 (Qi (pl.H ops.size).length).map fun id=>((pl.H (segEnd ops pl id (c id)))[id]?).getD .dead
theorem atCur_cur {P:Program}{pl:Plan}(hpl:PlanOK P ops pl)(c:Nat→Nat)(hc:∀id,c id≤ops.size):AtCur ops pl c (curHeap ops pl c):=by
 refine⟨by simp [curHeap],fun id=>?_⟩
 have hs:=segEnd_ge (ops:=ops) pl id (hc id)
 by_cases hid:id< (pl.H ops.size).length
 ·have hdef:id< (pl.H (segEnd ops pl id (c id))).length:=by
   by_cases he:segEnd ops pl id (c id)=ops.size
   ·rw[he];exact hid
   ·have hlt:segEnd ops pl id (c id)<ops.size:=by omega
    exact hpl.wrlt _ id hlt (nextW_write pl id (ops.size - c id) (c id) (by change segEnd ops pl id (c id)<_;omega))
  simp only[curHeap,Qg,Xg hid,Qq,Q6 hdef,Qc]
 ·have hnone:(pl.H (segEnd ops pl id (c id)))[id]? =none:=Qw (by
   have:=Plan.len_mono hpl ops.size (segEnd ops pl id (c id)) hs.2 (Qe _);omega)
  rw[hnone]
  exact Qw (by simp [curHeap];omega)
theorem heap_op {P:Program}{pl:Plan}(hpl:PlanOK P ops pl){c:Nat→Nat}{HD:AH}{E:Env}{a:Act}{i:Nat}{o:Oper}{K:Act→World→Prop}{Q:Exit→Act→World→Prop}
 (hi:i<ops.size) (hop:HeapOK P o (Looked ops pl i) (pl.V i) (pl.new i) (pl.fp i) (pl.wr i ++ pl.ro i) (pl.H i) (pl.H (i+1))) (hlook:Looked ops pl i E a)
 (hcle:∀id,c id≤ops.size) (hatc:AtCur ops pl c HD) (hrel:Rel HD E)
 (hcur:∀id∈pl.fp i,c id≤i∧∀k,c id≤k→k<i→id∉pl.wr k)
 (hnew0:∀id∈pl.new i,E.M id=none) (hnewc:∀id∈pl.new i,c id≤i+1∧∀k,c id≤k→k<i+1→id∉pl.wr k)
 (hK:∀(HD':AH) E' v,AtCur ops pl (fun id=>if id∈pl.wr i then i+1 else c id) HD'→VR E' (pl.V i) v→Rel HD' E'→Step HD E HD' E'→
   (∀id,E.M id=none→E'.M id≠none→id∈pl.new i)→K (a.put o.dst v) E'.W):o.wp P a E.W K Q:=by
 refine hop HD E a hlook hrel (by rw[hatc.len];exact Plan.len_mono hpl ops.size (i+1) (by omega) (Qe _)) ?_ ?_ ?_ K Q ?_
 ·intro id hid hnw
  replace hnw:id∉pl.wr i:=fun h=>hnw (Xd _ h)
  obtain⟨h1,h2⟩:=hcur id hid
  have he:=segEnd_eq (ops:=ops) pl id (i:=c id) (j:=i+1) (by omega) (by omega) (fun k a b=>by
   by_cases e:k=i
   ·subst e;exact hnw
   ·exact h2 k a (by omega))
  have:=Plan.le_seg hpl id (i:=i+1) (by omega)
  intro x hx
  rw[hatc.at_ id,he]
  exact this x hx
 ·intro id hid
  by_cases hw:id∈pl.wr i
  ·obtain⟨h1,h2⟩:=hcur id (hpl.wrfp i id hi hw)
   rw[hatc.at_ id,segEnd_eq (ops:=ops) pl id h1 (by omega) h2,segEnd_self pl id hi hw]
  ·have hro:id∈pl.ro i:=(Xc.1 hid).resolve_left hw
   obtain⟨h3,h4⟩:=hpl.ro i id hi hro
   obtain⟨h1,h2⟩:=hcur id h3
   have hge:=segEnd_ge (ops:=ops) pl id (i:=i) (by omega)
   rw[hatc.at_ id,segEnd_eq (ops:=ops) pl id h1 (by omega) h2]
   exact h4 _ hge.1 hge.2 (fun j a b=>nextW_none pl id (ops.size - i) i j a b)
 ·intro id hid
  obtain⟨h1,h2⟩:=hnewc id hid
  have he:=segEnd_eq (ops:=ops) pl id h1 (by omega) h2
  refine⟨hnew0 id hid,fun x hx=>?_⟩
  rw[hatc.at_ id,he]
  exact Plan.le_seg hpl id (i:=i+1) (by omega) x hx
 ·intro HD1 E1 v hlen h1 h2 hv hr1 hst hM
  have hc'le:∀id,(if id∈pl.wr i then i+1 else c id)≤ops.size:=by
   intro id;split
   ·omega
   ·exact hcle id
  have hat':=atCur_cur hpl (fun id=>if id∈pl.wr i then i+1 else c id) hc'le
  have hle:AHle HD1 (curHeap ops pl (fun id=>if id∈pl.wr i then i+1 else c id)):=by
   intro id x hx
   rw[hat'.at_ id]
   by_cases hw:id∈pl.wr i
   ·rw[h2 id (Xd _ hw)] at hx
    simp only[if_pos hw]
    exact Plan.le_seg hpl id (i:=i+1) (by omega) x hx
   ·have hx:HD[id]? =some x:=by
     by_cases hr:id∈pl.ro i
     ·have hHD:HD[id]? =(pl.H i)[id]?:=by
       obtain⟨h3,h4⟩:=hpl.ro i id hi hr
       obtain⟨k1,k2⟩:=hcur id h3
       have hge:=segEnd_ge (ops:=ops) pl id (i:=i) (by omega)
       rw[hatc.at_ id,segEnd_eq (ops:=ops) pl id k1 (by omega) k2]
       exact h4 _ hge.1 hge.2 (fun j a b=>nextW_none pl id (ops.size - i) i j a b)
      rw[h2 id (List.mem_append_right _ hr),(hpl.ro i id hi hr).2 (i+1) (by omega) (by omega) (fun j a b=>by
       have:j=i:=by omega
       subst this;exact hw)] at hx
      rw[hHD];exact hx
     ·rw[h1 id (fun h=>(Xc.1 h).elim hw hr)] at hx
      exact hx
    rw[hatc.at_ id] at hx
    simp only[if_neg hw]
    exact⟨x,hx,.refl x⟩
  obtain⟨E2,hr2,hW,hMM,hst2⟩:=hr1.le hle
  rw[←hW]
  exact hK _ E2 v hat' (hv.mono (hst2.ext hr1)) hr2 (hst.trans hst2) (fun id h3 h4=>hM id h3 (by rw[←hMM];exact h4))
theorem region_any {P:Program}{Q:Exit→Act→World→Prop}{ms:List Nat}{pl:Plan}{E0:Env}{a0:Act}
 (hchk:slotsOK ops ms=true) (hord:HeapOrd ops ms pl) (hpl:PlanOK P ops pl)
 (hN:a0.tmps.size=pl.N) (henv:∀t,VR E0 (pl.env t) (a0.tmps.getD t Go.undef)) (hrel:Rel (pl.H 0) E0)
 (hQ:∀a E,a.tmps.size=pl.N→a.defers=a0.defers→(∀t,VR E (seqEnv ops pl ops.size t) (a.tmps.getD t Go.undef))→Rel (pl.H ops.size) E→
   Step (pl.H 0) E0 (pl.H ops.size) E→Q .normal a E.W) :
 wpAny P .any ops Q ops.size (Array.replicate ops.size false) a0 E0.W:=by
 simp only[slotsOK,Qt] at hchk
 obtain⟨hm,hall⟩:=hchk
 have hpair:∀i j,i<ops.size→j<ops.size→i≠j→
  (∀t,dstOf ops j=some t→dstOf ops i≠some t∧(t∈looks ops i→if j<i then anc ms i j=true else anc ms j i=true)):=by
  intro i j hi hj hne
  have h:=Qn.1 (Qn.1 hall i (by simpa using hi)) j (by simpa using hj)
  rw[Qu] at h
  rcases h with h | h1
  ·exact absurd (by simpa using h) hne
  ·intro t ht
   rw[ht] at h1
   simp only[Qt,bne_iff_ne,ne_eq,Qu,Bool.not_eq_true',List.contains_eq_mem,decide_eq_false_iff_not] at h1
   refine⟨h1.1,fun hl=>?_⟩
   rcases h1.2 with h | h
   ·exact absurd hl h
   ·by_cases hji:j<i
    ·rw[if_pos hji] at h ⊢;exact h
    ·rw[if_neg hji] at h ⊢;exact h
 refine wpAny_inv hm (fun D a w=>∃E c HD,E.W=w∧RInv P ops pl a0.defers E0 D a E c HD) ?_ ?_ ops.size _ a0 E0.W (by simp) ?_ ?_ ?_
 ·rintro D a w i hD hcl hri ⟨E,c,HD,rfl,hinv⟩
  obtain⟨hi,hDi,hpr⟩:=ready_preds hri
  have hiD:i<D.size:=by omega
  have hDi':D.getD i false=false:=by
   simp only[Qa,Qd hiD,Qc] at hDi ⊢;exact hDi
  have hanc:∀j,anc ms i j=true→D.getD j false=true:=anc_mem hm hcl i hi hpr
  have hancD:∀k j,k<ops.size→D.getD k false=true→anc ms k j=true→D.getD j false=true:=by
   intro k j hk hDk hkj
   refine anc_mem hm hcl k hk (fun p hp=>?_) j hkj
   obtain⟨o,e,ho,he,hb,rfl⟩:=mem_preds hp
   exact hcl k o hDk ho e he hb
  have hno:∀k,k<ops.size→D.getD k false=true→anc ms k i=true→False:=by
   intro k hk hDk h;have:=hancD k i hk hDk h;rw[hDi'] at this;cases this
  have ho:ops[i]? =some ops[i]:=by simp [hi]
  generalize ops[i]=o at ho
  have hlook:Looked ops pl i E a:=by
   intro t ht
   rcases seqEnv_cases (ops:=ops) pl t i with⟨j,h1,h2,h3⟩ | ⟨h1,h2⟩
   ·rw[h3]
    have hp:=(hpair i j hi (by omega) (by omega)) t h2
    have ha:=hp.2 ht
    rw[if_pos h1] at ha
    exact hinv.e2 j t (by omega) (hanc j ha) h2
   ·rw[h2]
    refine hinv.e1 t fun j hj hDj hdj=>?_
    by_cases e:j=i
    ·subst e;rw[hDi'] at hDj;cases hDj
    ·have hge:¬j<i:=fun h=>h1 j h hdj
     have ha:=((hpair i j hi hj (fun x=>e x.symm)) t hdj).2 ht
     rw[if_neg hge] at ha
     exact hno j hj hDj ha
  have hdd:∀j t,j<ops.size→j≠i→dstOf ops j=some t→dstOf ops i≠some t:=
   fun j t hj hne h=>((hpair i j hi hj (fun x=>hne x.symm)) t h).1
  have hwant:=wanted_of (hpl.want i o ho) ho hlook (fun j wt t hg ht=>by
   rw[hinv.size]
   have hjs:j<ops.size:=by
    rcases Qo j ops.size with h | h
    ·exact h
    ·simp [dstOf,Xb h] at ht
   exact hpl.dst j t hjs ht)
  have hop:=hpl.op i o ho
  unfold wpOp
  rw[ho]
  simp only[hwant]
  unfold OpOK at hop
  have quietly:∀v,pl.heap i=false→VR E (pl.V i) v→RInv P ops pl a0.defers E0 (D.setIfInBounds i true) (a.put o.dst v) E c HD:=by
   intro v hh hv
   obtain⟨q1,q2,q3⟩:=hpl.quiet i hi hh
   refine hinv.put hpl hD hi ho hdd (EExt.refl E) hv (fun id h1 h2=>absurd h1 h2) hinv.cle (fun id h0=>let⟨k,h1,h2,h3⟩:=hinv.cw id h0;⟨k,h1,.inr h2,h3⟩) (fun id k h1 h2=> .inr (hinv.p1 id k h1 h2)) (fun id k h1 h2 h3=>⟨?_,hinv.p2 id k h1 h2 h3⟩) hinv.atc hinv.rel hinv.step
   rintro rfl;rw[q3] at h3;cases h3
  cases hw:pl.want i with
  | false=>
   simp only[Qk,if_false]
   rw[hw] at hop
   cases hc:pl.heap i with
   | false=>rw[hc] at hop;exact⟨E,c,HD,rfl,quietly _ hc (hop E)⟩
   | true=>rw[hc] at hop;exact hop.elim
  | true=>
   simp only[if_true]
   rw[hw] at hop
   refine .inl ?_
   cases hc:pl.heap i with
   | false=>
    rw[hc] at hop
    obtain⟨v,hv,hrun⟩:=hop E a hlook
    unfold Oper.wp
    rw[hrun,Oper.upon_value]
    exact⟨E,c,HD,rfl,quietly v hc hv⟩
   | true=>
    rw[hc] at hop
    have hcur:∀id∈pl.fp i,c id≤i∧∀k,c id≤k→k<i→id∉pl.wr k:=by
     intro id hid
     have hci:c id≤i:=by
      rcases Qo i (c id) with h | h
      ·have:=hinv.p1 id i h hid;rw[hDi'] at this;cases this
      ·exact h
     refine⟨hci,fun k h1 h2 hwk=>?_⟩
     have ha:=hord i k id hi (by omega) (by omega) hwk (.inl hid)
     rw[if_neg (by omega)] at ha
     have:=hanc k ha
     rw[hinv.p2 id k h1 (by omega) hwk] at this;cases this
    have hnew1:∀id∈pl.new i,∀k,k<i+1→id∉pl.wr k:=by
     intro id hid k hk hwk
     have h1:=hpl.newlt i id hi hid
     have h2:=hpl.wrlt k id (by omega) hwk
     have:=Plan.len_mono hpl i k (by omega) (by omega)
     omega
    have hnewc:∀id∈pl.new i,c id≤i+1∧∀k,c id≤k→k<i+1→id∉pl.wr k:=by
     intro id hid
     refine⟨?_,fun k _ hk=>hnew1 id hid k hk⟩
     rcases Qo (i+1) (c id) with h | h
     ·obtain⟨k,h1,h2,h3⟩:=hinv.cw id (by omega)
      have hk:=hinv.cle id
      have ha:=hord i k id hi (by omega) (by omega) h3 (.inr hid)
      rw[if_pos (by omega)] at ha
      exact(hno k (by omega) h2 ha).elim
     ·exact h
    refine heap_op hpl hi hop hlook hinv.cle hinv.atc hinv.rel hcur (fun id hid=>hinv.fresh i id hi hDi' hid) hnewc ?_
    intro HD' E' v hat hv hr hst hM
    refine⟨E',_,HD',rfl,hinv.put hpl hD hi ho hdd (hst.ext hinv.rel) hv hM ?_ ?_ ?_ ?_ hat hr (hinv.step.trans hst)⟩
    ·intro id;split
     ·omega
     ·exact hinv.cle id
    ·intro id h0
     by_cases hwi:id∈pl.wr i
     ·exact⟨i,by simp only[if_pos hwi],.inl rfl,hwi⟩
     ·simp only[if_neg hwi] at h0 ⊢
      obtain⟨k,h1,h2,h3⟩:=hinv.cw id h0
      exact⟨k,h1,.inr h2,h3⟩
    ·intro id k hk hf
     split at hk
     ·next hwi=>
      by_cases e:k=i
      ·exact .inl e
      ·have ha:=hord k i id (by omega) hi e hwi (.inl hf)
       rw[if_pos (by omega)] at ha
       exact .inr (hanc k ha)
     ·exact .inr (hinv.p1 id k hk hf)
    ·intro id k h1 h2 h3
     split at h1
     ·next hwi=>
      refine⟨by omega,?_⟩
      cases hDk:D.getD k false with
      | false=>rfl
      | true=>
       have ha:=hord i k id hi h2 (by omega) h3 (.inl (hpl.wrfp i id hi hwi))
       rw[if_pos (by omega)] at ha
       exact(hno k h2 hDk ha).elim
     ·next hwi=>exact⟨fun e=>hwi (by rw[←e];exact h3),hinv.p2 id k h1 h2 h3⟩
 ·rintro D a w hD hall' ⟨E,c,HD,rfl,hinv⟩
  have hHD:HD=pl.H ops.size:=by
   apply Xk
   intro id
   rw[hinv.atc.at_ id,segEnd_eq (ops:=ops) pl id (hinv.cle id) (Qe _) (fun k h1 h2 hw=>by
    have:=hinv.p2 id k h1 h2 hw;rw[hall' k h2] at this;cases this),segEnd_top]
  subst hHD
  refine hQ a E hinv.size hinv.defers (fun t=>?_) hinv.rel hinv.step
  rcases seqEnv_cases (ops:=ops) pl t ops.size with⟨j,h1,h2,h3⟩ | ⟨h1,h2⟩
  ·rw[h3];exact hinv.e2 j t h1 (hall' j h1) h2
  ·rw[h2];exact hinv.e1 t fun j hj _=>h1 j hj
 ·intro i o h
  simp only[Qa,Q7] at h
  split at h <;> simp at h
 ·refine Qs (List.length_filter_le _ _) (by simp)
 ·have hat:=atCur_cur hpl (fun _=>0) (fun _=>Q5 _)
  obtain⟨E',hr',hW,hM,hst⟩:=hrel.le (H':=curHeap ops pl (fun _=>0)) (fun id x hx=>by
   rw[hat.at_ id];exact Plan.le_seg hpl id (i:=0) (by omega) x hx)
  refine⟨E',fun _=>0,_,hW,hN,rfl,?_,?_,fun _=>Q5 _,fun id h=>absurd rfl h,fun id k h=>by omega,?_,hat,hr',?_,hst⟩
  ·intro t _;exact(henv t).mono (hst.ext hrel)
  ·intro i t _ h
   simp only[Qa,Q7] at h
   split at h <;> simp at h
  ·intro id k _ hk _
   simp [Qa,hk]
  ·intro i id hi _ hid
   rw[hM]
   refine hrel.dom id (Qs ?_ (hpl.newlt i id hi hid))
   exact Plan.len_mono hpl i 0 (by omega) (by omega)
structure SInv (P:Program) (ops:Array Oper) (pl:Plan) (ds:List Deferred) (E0:Env) (i:Nat) (a:Act) (E:Env) (HD:AH):Prop where
 size:a.tmps.size=pl.N
 defers:a.defers=ds
 env:∀t,VR E (seqEnv ops pl i t) (a.tmps.getD t Go.undef)
 atc:AtCur ops pl (fun _=>i) HD
 rel:Rel HD E
 fresh:∀j id,i≤j→j<ops.size→id∈pl.new j→E.M id=none
 step:Step (pl.H 0) E0 HD E
theorem SInv.put {P:Program}{pl:Plan}{ds:List Deferred}{E0:Env}{a:Act}{E E':Env}{HD HD':AH}{i:Nat}{o:Oper}{v:Value}
 (hpl:PlanOK P ops pl) (hinv:SInv P ops pl ds E0 i a E HD) (hi:i<ops.size) (ho:ops[i]? =some o)
 (hx:EExt E E') (hv:VR E' (pl.V i) v) (hM:∀id,E.M id=none→E'.M id≠none→id∈pl.new i)
 (hatc:AtCur ops pl (fun _=>i+1) HD') (hrel:Rel HD' E') (hstep:Step (pl.H 0) E0 HD' E') :
 SInv P ops pl ds E0 (i+1) (a.put o.dst v) E' HD':=by
 have hdst:dstOf ops i=o.dst:=by simp [dstOf,ho]
 refine⟨by rw[put_size];exact hinv.size,by rw[put_defers];exact hinv.defers,?_,hatc,hrel,?_,hstep⟩
 ·intro t
  simp only[seqEnv]
  split
  ·next h=>
   rw[hdst] at h
   rw[h,put_getD_same _ _ _ (by rw[hinv.size];exact hpl.dst i t hi (by rw[hdst,h]))]
   exact hv
  ·next h=>
   rw[put_getD _ _ _ _ (by rw[←hdst];exact h)]
   exact(hinv.env t).mono hx
 ·intro j id h1 h2 h3
  have h0:=hinv.fresh j id (by omega) h2 h3
  cases hm:E'.M id with
  | none=>rfl
  | some m=>exact absurd h3 (Plan.new_disj hpl hi h2 (by omega) (hM id h0 (by rw[hm];simp)))
theorem region_seq {P:Program}{Q:Exit→Act→World→Prop}{pl:Plan}{E0:Env}{a0:Act}(hpl:PlanOK P ops pl)
 (hN:a0.tmps.size=pl.N) (henv:∀t,VR E0 (pl.env t) (a0.tmps.getD t Go.undef)) (hrel:Rel (pl.H 0) E0)
 (hQ:∀a E,a.tmps.size=pl.N→a.defers=a0.defers→(∀t,VR E (seqEnv ops pl ops.size t) (a.tmps.getD t Go.undef))→Rel (pl.H ops.size) E→
   Step (pl.H 0) E0 (pl.H ops.size) E→Q .normal a E.W) :
 wpOps P ops Q (Qi ops.size) a0 E0.W:=by
 have next:∀{i:Nat} {c:Nat→Nat} {HD:AH},i<ops.size→AtCur ops pl (fun id=>if id∈pl.wr i then i+1 else i) HD→AtCur ops pl (fun _=>i+1) HD:=by
  intro i c HD hi h
  refine⟨h.len,fun id=>?_⟩
  rw[h.at_ id]
  by_cases hw:id∈pl.wr i
  ·simp only[if_pos hw]
  ·simp only[if_neg hw]
   rw[segEnd_eq (ops:=ops) pl id (i:=i) (j:=i+1) (by omega) (by omega) (fun k h1 h2=>by have:k=i:=by omega
                                                                                        subst this;exact hw)]
 have key:∀(k i:Nat),i+k=ops.size→∀a E HD,SInv P ops pl a0.defers E0 i a E HD→wpOps P ops Q (Xt i k) a E.W:=by
  intro k
  induction k with
  | zero=>
   intro i hik a E HD hinv
   simp only[Xs] at hik
   subst hik
   simp only[Xt,wpOps]
   have hHD:HD=pl.H ops.size:=Xk fun id=>by rw[hinv.atc.at_ id,segEnd_top]
   subst hHD
   exact hQ a E hinv.size hinv.defers hinv.env hinv.rel hinv.step
  | succ k ih=>
   intro i hik a E HD hinv
   have hi:i<ops.size:=by omega
   have ho:ops[i]? =some ops[i]:=by simp [hi]
   generalize ops[i]=o at ho
   rw[List.range'_succ,wpOps_cons]
   have hlook:Looked ops pl i E a:=fun t _=>hinv.env t
   have hwant:=wanted_of (hpl.want i o ho) ho hlook (fun j wt t hg ht=>by
    rw[hinv.size]
    have hjs:j<ops.size:=by
     rcases Qo j ops.size with h | h
     ·exact h
     ·simp [dstOf,Xb h] at ht
    exact hpl.dst j t hjs ht)
   have hop:=hpl.op i o ho
   have quietly:∀v,pl.heap i=false→VR E (pl.V i) v→SInv P ops pl a0.defers E0 (i+1) (a.put o.dst v) E HD:=by
    intro v hh hv
    obtain⟨q1,q2,q3⟩:=hpl.quiet i hi hh
    refine hinv.put hpl hi ho (EExt.refl E) hv (fun id h1 h2=>absurd h1 h2) (next (c:=fun _=>0) hi ?_) hinv.rel hinv.step
    rw[q3];simpa using hinv.atc
   unfold wpOp
   rw[ho]
   simp only[hwant]
   unfold OpOK at hop
   cases hw:pl.want i with
   | false=>
    simp only[Qk,if_false]
    rw[hw] at hop
    cases hc:pl.heap i with
    | false=>rw[hc] at hop;exact ih (i+1) (by omega) _ E HD (quietly _ hc (hop E))
    | true=>rw[hc] at hop;exact hop.elim
   | true=>
    simp only[if_true]
    rw[hw] at hop
    refine .inl ?_
    cases hc:pl.heap i with
    | false=>
     rw[hc] at hop
     obtain⟨v,hv,hrun⟩:=hop E a hlook
     unfold Oper.wp
     rw[hrun,Oper.upon_value]
     exact ih (i+1) (by omega) _ E HD (quietly v hc hv)
    | true=>
     rw[hc] at hop
     refine heap_op hpl hi hop hlook (fun _=>by omega) hinv.atc hinv.rel (fun id _=>⟨Qe _,fun k h1 h2=>by omega⟩)
      (fun id hid=>hinv.fresh i id (Qe _) hi hid) (fun id hid=>⟨by omega,fun k h1 h2 hwk=>?_⟩) ?_
     ·have:k=i:=by omega
      subst this
      have:=hpl.newlt k id hi hid
      have:=hpl.wrlt k id hi hwk
      omega
     ·intro HD' E' v hat hv hr hst hM
      exact ih (i+1) (by omega) _ E' HD' (hinv.put hpl hi ho (hst.ext hinv.rel) hv hM (next (c:=fun _=>0) hi hat) hr (hinv.step.trans hst))
 have hat:=atCur_cur hpl (fun _=>0) (fun _=>Q5 _)
 obtain⟨E',hr',hW,hM,hst⟩:=hrel.le (H':=curHeap ops pl (fun _=>0)) (fun id x hx=>by
  rw[hat.at_ id];exact Plan.le_seg hpl id (i:=0) (by omega) x hx)
 rw[List.range_eq_range',←hW]
 refine key ops.size 0 (by omega) a0 E' _ ⟨hN,rfl,fun t=>(henv t).mono (hst.ext hrel),hat,hr',?_,hst⟩
 intro j id _ hj hid
 rw[hM]
 refine hrel.dom id (Qs ?_ (hpl.newlt j id hj hid))
 exact Plan.len_mono hpl j 0 (by omega) (by omega)
end
end Go.Pg
namespace Go.Pg
open Go
variable [Syms]
def ofLeaf:Value→AV
 | .bool b=> .bool b
 | .int k n=> .int k n
 | .string s=> .str s.data.toList
 | .slice none 0 0=> .nls
 | .nilFunc=> .nfn
 | .pointer none=> .npt
 | _=> .top
def ofV:Value→AV
 | .agg cs=> .agg (cs.toList.map ofLeaf)
 | .tuple vs=>if vs.size=0 then .undef else .top
 | v=>ofLeaf v
theorem ofLeaf_VR (E:Env)(v:Value):VR E (ofLeaf v) v:=by
 unfold ofLeaf
 split
 ·exact .bool _
 ·exact .int _ _
 ·exact .str _
 ·exact .nls
 ·exact .nfn
 ·exact .npt
 ·exact .top _
theorem getD_of_getElem? {us:Array Value}{i:Nat}{u:Value}(h:us[i]? =some u):us.getD i Go.undef=u:=by
 simp [h]
theorem ofV_VR (E:Env)(v:Value):VR E (ofV v) v:=by
 unfold ofV
 split
 ·next cs=>
  refine .agg _ _ (by simp) fun i c hc=>?_
  simp only[Qg,Ql,Qf] at hc
  obtain⟨u,hu,rfl⟩:=hc
  rw[getD_of_getElem? hu]
  exact ofLeaf_VR E u
 ·next vs=>
  split
  ·next h=>
   have:vs= #[]:=Array.eq_empty_of_size_eq_zero h
   subst this
   exact .undef
  ·exact .top _
 ·exact ofLeaf_VR E v
abbrev AEnv:=List (Tmp×AV)
def look (t:Tmp):AEnv→AV
 | []=> .top
 | (u,v) :: r=>if t=u then v else look t r
def opnd (ev:AEnv):Operand→AV
 | .tmp t=>look t ev
 | .const v=>ofV v
 | .func f=> .fn f []
 | .global _=> .top
def Opd (ev:AEnv)(E:Env)(a:Act)(o:Oper):Prop:=∀x∈o.op.operands,VR E (opnd ev x) (a.eval x)
theorem opnd_VR {ev:AEnv}{E:Env}{a:Act}(h:∀t,VR E (look t ev) (a.tmps.getD t Go.undef))(x:Operand):VR E (opnd ev x) (a.eval x):=by
 cases x with
 | tmp t=>exact h t
 | const v=>exact ofV_VR E v
 | func f=>exact .fn f [] #[] rfl (fun i c hc=>by simp at hc)
 | global g=>exact .top _
section
variable {E:Env} {v:Value}
theorem VR.int_inv {k:IntKind}{n:Int}(h:VR E (.int k n) v):v= .int k n:=by cases h;rfl
theorem VR.bool_inv {b:Bool}(h:VR E (.bool b) v):v= .bool b:=by cases h;rfl
theorem VR.str_inv {s:List UInt8}(h:VR E (.str s) v):∃b:ByteArray,v= .string b∧b.data.toList=s:=by cases h;exact⟨_,rfl,rfl⟩
theorem VR.undef_inv (h:VR E .undef v):v=Go.undef:=by cases h;rfl
theorem VR.nls_inv (h:VR E .nls v):v= .slice none 0 0:=by cases h;rfl
theorem VR.nfn_inv (h:VR E .nfn v):v= .nilFunc:=by cases h;rfl
theorem VR.yld_inv {l:Nat}(h:VR E (.yld l) v):v= .func (.yield l) #[] #[]:=by cases h;rfl
theorem VR.agg_inv {cs:List AV}(h:VR E (.agg cs) v):∃us:Array Value,v= .agg us∧us.size=cs.length∧∀(i:Nat) c,cs[i]? =some c→VR E c (us.getD i Go.undef):=by
 cases h with | agg _ us h1 h2=>exact⟨us,rfl,h1,h2⟩
theorem VR.tuple_inv {cs:List AV}(h:VR E (.tuple cs) v):∃us:Array Value,v= .tuple us∧us.size=cs.length∧∀(i:Nat) c,cs[i]? =some c→VR E c (us.getD i Go.undef):=by
 cases h with | tuple _ us h1 h2=>exact⟨us,rfl,h1,h2⟩
theorem VR.fn_inv {f:FuncId}{cs:List AV}(h:VR E (.fn f cs) v):∃us:Array Value,v= .func (.func f) #[] us∧us.size=cs.length∧∀(i:Nat) c,cs[i]? =some c→VR E c (us.getD i Go.undef):=by
 cases h with | fn _ _ us h1 h2=>exact⟨us,rfl,h1,h2⟩
end
def slen:AV→Option Nat
 | .nls=>some 0
 | .sl _ vs=>some vs.length
 | .slc _ vs=>some vs.length
 | .own _ _ n=>some n
 | _=>none
theorem slen_VR {E:Env}{x:AV}{v:Value}{n:Nat}(h:VR E x v)(hs:slen x=some n):∃a cap,v= .slice a n cap:=by
 cases h <;> simp [slen] at hs <;> subst hs <;> exact⟨_,_,rfl⟩
def intOp (op:BinOp)(k:IntKind)(a b:Int)(K:AV→Prop):Prop:=
 match op with
 | .add=>K (.int k (k.wrap (a+b)))
 | .sub=>K (.int k (k.wrap (a - b)))
 | .mul=>K (.int k (k.wrap (a * b)))
 | .quo=>b≠0∧K (.int k (k.wrap (a.tdiv b)))
 | .rem=>b≠0∧K (.int k (a.tmod b))
 | .eql=>K (.bool (a == b))
 | .neq=>K (.bool (a !=b))
 | .lss=>K (.bool (decide (a<b)))
 | .leq=>K (.bool (decide (a≤b)))
 | .gtr=>K (.bool (decide (a > b)))
 | .geq=>K (.bool (decide (a≥b)))
 | .shr=>0≤b∧K (.int k (a.fdiv (2 ^ (min b.toNat k.bits))))
 | .shl=>0≤b∧K (.int k (k.wrap (a * 2 ^ (min b.toNat k.bits))))
 | .and=>K (.int k (k.wrap (BitVec.ofInt k.bits a &&& BitVec.ofInt k.bits b).toNat))
 | .xor=>K (.int k (k.wrap (BitVec.ofInt k.bits a ^^^ BitVec.ofInt k.bits b).toNat))
 | _=>False
def strOp (op:BinOp)(a b:List UInt8)(K:AV→Prop):Prop:=
 match op with
 | .add=>a.length+b.length≤9223372036854775807∧K (.str (a ++ b))
 | .eql=>K (.bool (a == b))
 | .neq=>K (.bool (!(a == b)))
 | .lss=>K (.bool (Op.bytesLess a b))
 | _=>False
def eqFs (rec:TypeId→Option (List Nat))(P:Program):List Field→Nat→Option (List Nat)
 | [],_=>some []
 | f :: fs,off=>if f.name= "_" ∨f.offset≠off then none else match rec f.type,P.info? f.type with
  | some ks,some i=>if i.size=ks.length then(match eqFs rec P fs (off+ks.length) with
   | some r=>some (ks ++ r)
   | none=>none) else none
  | _,_=>none
def eqT (P:Program):Nat→TypeId→Option (List Nat)
 | 0,_=>none
 | d+1,t=>match P.underlying t with
  | some .bool=>some [0]
  | some (.int _)=>some [1]
  | some .string=>some [2]
  | some (.struct fs)=>if P.stoodInHeld t then none else eqFs (eqT P d) P fs.toList 0
  | _=>none
def eqK (P:Program)(t:TypeId):Option (List Nat):=if P.eqGuardType P.depth t then none else eqT P 6 t
def leafEq:Nat→AV→AV→Option Bool
 | 1,.int k a,.int k' b=>if k=k' then some (a == b) else none
 | 0,.bool a,.bool b=>some (a == b)
 | 2,.str a,.str b=>some (a == b)
 | _,_,_=>none
def cellsEq:List Nat→List AV→List AV→Option Bool
 | [],[],[]=>some true
 | k :: ks,a :: as,b :: bs=>match leafEq k a b,cellsEq ks as bs with
  | some x,some y=>some (x && y)
  | _,_=>none
 | _,_,_=>none
def cutL {α:Type}(l:List α)(a b:Nat):List α:=(l.drop a).take (b - a)
inductive TK where
 | str | bool | leaf | other
 | int (k:IntKind)
 | slice (e:TypeId) (sz:Nat)
 | arr (n:Nat) (e:TypeId) (sz tot:Nat)
 | struct (sz:Nat) (offs:List (Option (Nat×Nat)))
def sz1 (P:Program)(t:TypeId)(k:TK):TK:=
 match P.info? t with
 | some i=>if i.size=1 then k else .other
 | none=> .other
def tk (P:Program)(t:TypeId):TK:=
 match P.underlying t with
 | some .string=>sz1 P t .str
 | some .bool=>sz1 P t .bool
 | some (.int k)=>sz1 P t (.int k)
 | some (.slice e)=>match P.info? e with
  | some i=>sz1 P t (.slice e i.size)
  | none=> .other
 | some (.array n e)=>match P.info? e,P.info? t with
  | some i,some j=> .arr n e i.size j.size
  | _,_=> .other
 | some (.struct fs)=>match P.info? t with
  | some i=> .struct i.size (fs.toList.map fun f=>match P.info? f.type with
   | some j=>if j.size=0 then none else some (f.offset,j.size)
   | none=>none)
  | none=> .other
 | some (.pointer _) | some (.func _ _ _) | some (.map _ _) | some (.interface _)=>sz1 P t .leaf
 | _=> .other
theorem sz1_eq {P:Program}{t:TypeId}{k k':TK}(h:sz1 P t k=k')(hk:k'≠ .other):k=k'∧∃i,P.info? t=some i∧i.size=1:=by
 unfold sz1 at h
 split at h
 ·next i hi=>
  split at h
  ·next hs=>exact⟨h,i,hi,hs⟩
  ·exact absurd h.symm hk
 ·exact absurd h.symm hk
theorem tk_str {P:Program}{t:TypeId}(h:tk P t= .str):P.underlying t=some .string∧∃i,P.info? t=some i∧i.size=1:=by
 unfold tk at h
 split at h <;> first
  | (next hu=>exact⟨hu,(sz1_eq h (by simp)).2⟩)
  | (have:=(sz1_eq h (by simp)).1;cases this)
  | (repeat' split at h) <;> first | (cases h;done) | (have:=(sz1_eq h (by simp)).1;cases this)
theorem tk_bool {P:Program}{t:TypeId}(h:tk P t= .bool):P.underlying t=some .bool∧∃i,P.info? t=some i∧i.size=1:=by
 unfold tk at h
 split at h <;> first
  | (next hu=>exact⟨hu,(sz1_eq h (by simp)).2⟩)
  | (have:=(sz1_eq h (by simp)).1;cases this)
  | (repeat' split at h) <;> first | (cases h;done) | (have:=(sz1_eq h (by simp)).1;cases this)
theorem tk_int {P:Program}{t:TypeId}{k:IntKind}(h:tk P t= .int k):P.underlying t=some (.int k)∧∃i,P.info? t=some i∧i.size=1:=by
 unfold tk at h
 split at h <;> first
  | (next hu=>have hh:=sz1_eq h (by simp);cases hh.1;exact⟨hu,hh.2⟩)
  | (have:=(sz1_eq h (by simp)).1;cases this)
  | (repeat' split at h) <;> first | (cases h;done) | (have:=(sz1_eq h (by simp)).1;cases this)
theorem tk_slice {P:Program}{t e:TypeId}{n:Nat}(h:tk P t= .slice e n):P.underlying t=some (.slice e)∧(∃i,P.info? e=some i∧i.size=n)∧∃i,P.info? t=some i∧i.size=1:=by
 unfold tk at h
 split at h
 case h_4 e' hu=>
  split at h
  ·next i hi=>
   have hh:=sz1_eq h (by simp)
   cases hh.1
   exact⟨hu,⟨i,hi,rfl⟩,hh.2⟩
  ·cases h
 all_goals first
  | (have:=(sz1_eq h (by simp)).1;cases this;done)
  | (repeat' split at h) <;> first | (cases h;done) | (have:=(sz1_eq h (by simp)).1;cases this)
theorem tk_arr {P:Program}{t e:TypeId}{n m tot:Nat}(h:tk P t= .arr n e m tot):P.underlying t=some (.array n e)∧(∃i,P.info? e=some i∧i.size=m)∧∃i,P.info? t=some i∧i.size=tot:=by
 unfold tk at h
 split at h
 case h_5 n' e' hu=>
  split at h
  ·next i j hi hj=>cases h;exact⟨hu,⟨i,hi,rfl⟩,j,hj,rfl⟩
  ·cases h
 all_goals first
  | (have:=(sz1_eq h (by simp)).1;cases this;done)
  | (repeat' split at h) <;> first | (cases h;done) | (have:=(sz1_eq h (by simp)).1;cases this)
theorem tk_struct {P:Program}{t:TypeId}{n:Nat}{offs:List (Option (Nat×Nat))}(h:tk P t= .struct n offs) :
 ∃fs,P.underlying t=some (.struct fs)∧(∃i,P.info? t=some i∧i.size=n)∧fs.size=offs.length∧
  ∀(f x y:Nat),offs[f]? =some (some (x,y))→∃(fd:Field) (j:TypeInfo),fs[f]? =some fd∧fd.offset=x∧P.info? fd.type=some j∧j.size=y∧j.size≠0:=by
 unfold tk at h
 split at h
 case h_6 fs hu=>
  split at h
  ·next i hi=>
   cases h
   refine⟨fs,hu,⟨i,hi,rfl⟩,by simp,fun f x y hx=>?_⟩
   simp only[Qg,Ql,Qf] at hx
   obtain⟨fd,hfd,hx⟩:=hx
   split at hx
   ·next j hj=>
    split at hx
    ·cases hx
    ·next hn=>cases hx;exact⟨fd,j,hfd,rfl,hj,rfl,hn⟩
   ·cases hx
  ·cases h
 all_goals first
  | (have:=(sz1_eq h (by simp)).1;cases this;done)
  | (repeat' split at h) <;> first | (cases h;done) | (have:=(sz1_eq h (by simp)).1;cases this)
def TK.cells:TK→Option (Bool×Nat)
 | .str | .bool | .leaf | .int _ | .slice _ _=>some (false,1)
 | .arr _ _ _ n=>some (true,n)
 | .struct n _=>some (true,n)
 | .other=>none
theorem tk_cells {P:Program}{t:TypeId}{b:Bool}{n:Nat}(h:(tk P t).cells=some (b,n))(w:World) :
 (isAgg t).run P w= .ok b w∧∃i,P.info? t=some i∧i.size=n:=by
 cases hk:tk P t with
 | str=>rw[hk] at h;cases h;obtain⟨hu,hi⟩:=tk_str hk;exact⟨by simp [isAgg,run_underlying hu],hi⟩
 | int k=>rw[hk] at h;cases h;obtain⟨hu,hi⟩:=tk_int hk;exact⟨by simp [isAgg,run_underlying hu],hi⟩
 | slice e m=>rw[hk] at h;cases h;obtain⟨hu,_,hi⟩:=tk_slice hk;exact⟨by simp [isAgg,run_underlying hu],hi⟩
 | arr m e s tot=>rw[hk] at h;cases h;obtain⟨hu,_,hi⟩:=tk_arr hk;exact⟨by simp [isAgg,run_underlying hu],hi⟩
 | struct m offs=>rw[hk] at h;cases h;obtain⟨fs,hu,hi,_,_⟩:=tk_struct hk;exact⟨by simp [isAgg,run_underlying hu],hi⟩
 | other=>rw[hk] at h;cases h
 | bool=>
  rw[hk] at h;cases h
  unfold tk at hk
  split at hk <;> first
   | (next hu=>exact⟨by simp [isAgg,run_underlying hu],(sz1_eq hk (by simp)).2⟩)
   | (have:=(sz1_eq hk (by simp)).1;cases this;done)
   | (repeat' split at hk) <;> first | (cases hk;done) | (have:=(sz1_eq hk (by simp)).1;cases this)
 | leaf=>
  rw[hk] at h;cases h
  unfold tk at hk
  split at hk <;> first
   | (have:=(sz1_eq hk (by simp)).1;cases this;done)
   | (next hu=>exact⟨by simp [isAgg,run_underlying hu],(sz1_eq hk (by simp)).2⟩)
   | (repeat' split at hk) <;> first | (cases hk;done) | (have:=(sz1_eq hk (by simp)).1;cases this)
def tz (P:Program)(t:TypeId):AV:=
 match P.info? t with
 | some i=>match i.zero with
  | some v=>ofV v
  | none=> .top
 | none=> .top
def dzc (P:Program):Nat→TypeId→List AV
 | 0,_=>[]
 | d+1,t=>match P.underlying t with
  | some (.struct fs)=>fs.toList.flatMap fun f=>dzc P d f.type
  | some (.array n e)=>(List.replicate n (dzc P d e)).flatten
  | some (.slice e)=>[.sl (P.cellsOf e) []]
  | _=>(tz P t).cells
def dz (P:Program)(t:TypeId):AV:=
 match P.underlying t with
 | some (.struct _)=> .agg (dzc P 5 t)
 | some (.array _ _)=> .agg (dzc P 5 t)
 | some (.slice e)=> .sl (P.cellsOf e) []
 | _=>tz P t
def lay (cs:List AV)(off:Nat)(vs:List AV):List AV:=cs.take off ++ vs ++ cs.drop (off+vs.length)
def AV.definite:AV→Bool
 | .top | .cond _ _ | .cst _=>false
 | _=>true
def buildL (places:List (Option (Nat×Nat))):List (Nat×AV)→List AV→Option (List AV)
 | [],cs=>some cs
 | (i,v) :: rest,cs=>match places[i]? with
  | some (some (off,n))=>if v.cells.length=n∧off+n≤cs.length∧v.definite=true then buildL places rest (lay cs off v.cells) else none
  | _=>none
def arrPlaces (n sz:Nat):List (Option (Nat×Nat)):=(Qi n).map fun i=>some (i * sz,sz)
def foldInts (f:Int→Int→Int)(k:IntKind):Int→List AV→Option Int
 | a,[]=>some a
 | a,.int k' b :: r=>if k=k' then foldInts f k (f a b) r else none
 | _,_=>none
def funcT (P:Program)(t:TypeId):Bool:=
 match P.underlying t with
 | some (.func _ _ _)=>true
 | _=>false
def ptrT (P:Program)(t:TypeId):Bool:=
 match P.underlying t with
 | some (.pointer _)=>true
 | _=>false
def binK (P:Program)(op:BinOp)(t:TypeId)(x y:AV)(K:AV→Prop):Prop:=
 match x,y with
 | .int k a,.int k' b=>if k=k' then intOp op k a b K else(match op with | .shl | .shr=>intOp op k a b K | _=>False)
 | .str a,.str b=>strOp op a b K
 | .bool a,.bool b=>tk P t= .bool∧(match op with | .eql=>K (.bool (a == b)) | .neq=>K (.bool (!(a == b))) | _=>False)
 | .agg as,.agg bs=>match tk P t,eqK P t with
  | .struct _ _,some ks=>match cellsEq ks as bs with
   | some e=>(match op with | .eql=>K (.bool e) | .neq=>K (.bool (!e)) | _=>False)
   | none=>False
  | _,_=>False
 | .fn _ _,.nfn=>funcT P t=true∧(match op with | .eql=>K (.bool false) | .neq=>K (.bool true) | _=>False)
 | .nfn,.nfn=>funcT P t=true∧(match op with | .eql=>K (.bool true) | .neq=>K (.bool false) | _=>False)
 | .ptr _ _ _ _ _,.npt=>ptrT P t=true∧(match op with | .eql=>K (.bool false) | .neq=>K (.bool true) | _=>False)
 | .npt,.npt=>ptrT P t=true∧(match op with | .eql=>K (.bool true) | .neq=>K (.bool false) | _=>False)
 | _,_=>False
def sliceS (x:AV)(lo hi mx:Option AV)(K:AV→Prop):Prop:=
 match x,lo,hi,mx with
 | .str s,none,none,none=>K (.str s)
 | .str s,some (.int _ l),none,none=>0≤l∧l≤s.length∧K (.str (s.drop l.toNat))
 | .str s,none,some (.int _ h),none=>0≤h∧h≤s.length∧K (.str (s.take h.toNat))
 | .str s,some (.int _ l),some (.int _ h),none=>0≤l∧l≤h∧h≤s.length∧K (.str (cutL s l.toNat h.toNat))
 | _,_,_,_=>False
def sliceL (sz:Nat)(x:AV)(lo hi mx:Option AV)(K:AV→Prop):Prop:=
 match x,lo,hi,mx with
 | .sl z s,none,none,none=>z=sz∧K (.sl z s)
 | .sl z s,some (.int _ l),none,none=>z=sz∧0≤l∧l≤s.length∧K (.sl z (s.drop l.toNat))
 | .sl z s,none,some (.int _ h),none=>z=sz∧0≤h∧h≤s.length∧K (.sl z (s.take h.toNat))
 | .sl z s,some (.int _ l),some (.int _ h),none=>z=sz∧0≤l∧l≤h∧h≤s.length∧K (.sl z (cutL s l.toNat h.toNat))
 | .sl z s,none,some (.int _ h),some (.int _ m)=>z=sz∧0≤h∧h=m∧h≤s.length∧K (.slc z (s.take h.toNat))
 | .slc z s,none,none,none=>z=sz∧K (.slc z s)
 | .slc z s,some (.int _ l),none,none=>z=sz∧0≤l∧l≤s.length∧K (.slc z (s.drop l.toNat))
 | .slc z s,none,some (.int _ h),none=>z=sz∧0≤h∧h≤s.length∧K (.sl z (s.take h.toNat))
 | .slc z s,some (.int _ l),some (.int _ h),none=>z=sz∧0≤l∧l≤h∧h≤s.length∧K (.sl z (cutL s l.toNat h.toNat))
 | .slc z s,none,some (.int _ h),some (.int _ m)=>z=sz∧0≤h∧h=m∧h≤s.length∧K (.slc z (s.take h.toNat))
 | _,_,_,_=>False
def leafField (P:Program)(t:TypeId)(i:Nat):Option Nat:=
 match P.underlying t with
 | some (.struct fs)=>match fs[i]? with
  | some fd=>match P.underlying fd.type with
   | some (.struct _)=>none
   | some (.array _ _)=>none
   | none=>none
   | some _=>some fd.offset
  | none=>none
 | _=>none
def pureK (P:Program)(ev:AEnv)(o:Oper)(K:AV→Prop):Prop:=
 match o.op with
 | .move x | .assign x=>K (opnd ev x)
 | .pick c a b=>match opnd ev c with
  | .bool c=>K (if c then opnd ev a else opnd ev b)
  | _=>False
 | .unOp op _ x=>match op,opnd ev x with
  | .not,.bool b=>K (.bool (!b))
  | .neg,.int k n=>K (.int k (k.wrap (0 - n)))
  | _,_=>False
 | .binOp op t x y _=>binK P op t (opnd ev x) (opnd ev y) K
 | .fieldAddr s x f=>match tk P s,opnd ev x with
  | .struct _ offs,.ptr id sz len idx off=>match offs[f]? with
   | some (some (o,_))=>K (.ptr id sz len idx (off+o))
   | _=>False
  | .struct _ offs,.rp cs=>match offs[f]? with
   | some (some (o,_))=>K (.rp (cs.drop o))
   | _=>False
  | _,_=>False
 | .indexAddr t x i=>match tk P t,opnd ev x,opnd ev i with
  | .slice e sz,.sl z vs,.int _ n=>0≤n∧n.toNat<vs.length∧z=sz∧K (.rp (vs.getD n.toNat (dz P e)).cells)
  | .slice e sz,.slc z vs,.int _ n=>0≤n∧n.toNat<vs.length∧z=sz∧K (.rp (vs.getD n.toNat (dz P e)).cells)
  | .slice _ sz,.own id sz' len,.int _ n=>sz=sz'∧0≤n∧n<len∧K (.ptr id sz len n.toNat 0)
  | .arr m _ sz _,.ptr id z len idx off,.int _ n=>0≤n∧n<m∧K (.ptr id z len idx (off+n.toNat * sz))
  | .arr m _ sz _,.rp cs,.int _ n=>0≤n∧n<m∧K (.rp (cs.drop (n.toNat * sz)))
  | _,_,_=>False
 | .index t x i=>match tk P t,opnd ev x,opnd ev i with
  | .str,.str s,.int _ n=>0≤n∧n.toNat<s.length∧K (.int .u8 (s.getD n.toNat 0).toNat)
  | _,_,_=>False
 | .extract t ix=>match opnd ev t with
  | .tuple vs=>∃v,vs[ix]? =some v∧K v
  | _=>False
 | .field t x i=>match leafField P t i,opnd ev x with
  | some o,.agg vs=>∃v,vs[o]? =some v∧K v
  | _,_=>False
 | .build t parts=>match tk P t,tz P t with
  | .struct n offs,.agg zs=>zs.length=n∧offs.all Xh=true∧∃cs,buildL offs (parts.toList.map fun p=>(p.1,opnd ev p.2)) zs=some cs∧K (.agg cs)
  | .arr m _ sz _,.agg zs=>zs.length=m * sz∧∃cs,buildL (arrPlaces m sz) (parts.toList.map fun p=>(p.1,opnd ev p.2)) zs=some cs∧K (.agg cs)
  | _,_=>False
 | .slice t x lo hi mx=>match tk P t with
  | .str=>sliceS (opnd ev x) (lo.map (opnd ev)) (hi.map (opnd ev)) (mx.map (opnd ev)) K
  | .slice _ sz=>sliceL sz (opnd ev x) (lo.map (opnd ev)) (hi.map (opnd ev)) (mx.map (opnd ev)) K
  | _=>False
 | .makeFunc fn first cap=>match fn with
  | .func f=>first= #[]∧K (.fn f (cap.toList.map (opnd ev)))
  | _=>False
 | .nilCheck x=>match opnd ev x with
  | .ptr id sz len idx off=>K (.ptr id sz len idx off)
  | .rp cs=>K (.rp cs)
  | _=>False
 | .convert src dst x=>match tk P dst,opnd ev x with
  | .int k,.int _ n=>(tk P src≠ .other)∧K (.int k (k.wrap n))
  | .str,.str s=>(tk P src≠ .other)∧K (.str s)
  | _,_=>False
 | .call { callee:= .builtin b,args,argTypes }=>match b with
  | .len=>match args.toList,argTypes.toList with
   | [x],[t]=>match tk P t,opnd ev x with
    | .str,.str s=>K (.int .i64 s.length)
    | .slice _ _,y=>∃n,slen y=some n∧K (.int .i64 n)
    | .arr n _ _ _,_=>K (.int .i64 n)
    | _,_=>False
   | _,_=>False
  | .min=>match args.toList.map (opnd ev) with
   | .int k a :: r=>∃n,foldInts min k a r=some n∧K (.int k n)
   | _=>False
  | .max=>match args.toList.map (opnd ev) with
   | .int k a :: r=>∃n,foldInts max k a r=some n∧K (.int k n)
   | _=>False
  | _=>False
 | _=>False
end Go.Pg
namespace Go.Pg
open Go
variable [Syms]
def Snd (P:Program)(ev:AEnv)(o:Oper)(K:AV→Prop):Prop:=∃V,PureOK P o (fun E a=>Opd ev E a o) V∧K V
theorem run_binOp_same (P:Program)(w:World)(op:BinOp)(t:TypeId)(x y:Operand)(v:Value)(a b:Value)
 (hg:(eqGuard op t x y a b).run P w= .ok () w) (h:(binOp op t a b).run P w= .ok v w) :
 (do eqGuard op t x y a b;binOp op t a b:Sem Value).run P w= .ok v w:=by
 simp [hg,h]
theorem eqGuard_int (P:Program)(w:World)(op:BinOp)(t:TypeId)(x y:Operand)(k k':IntKind)(a b:Int) :
 (eqGuard op t x y (.int k a) (.int k' b)).run P w= .ok () w:=by
 cases op <;> simp [eqGuard]
theorem eqGuard_str (P:Program)(w:World)(op:BinOp)(t:TypeId)(x y:Operand)(a b:ByteArray) :
 (eqGuard op t x y (.string a) (.string b)).run P w= .ok () w:=by
 cases op <;> simp [eqGuard]
theorem eqGuard_bool (P:Program)(w:World)(op:BinOp)(t:TypeId)(x y:Operand)(a b:Bool) :
 (eqGuard op t x y (.bool a) (.bool b)).run P w= .ok () w:=by
 cases op <;> simp [eqGuard]
theorem intOp_sound {K:AV→Prop}{op:BinOp}{k k':IntKind}{a b:Int}(h:intOp op k a b K)(hk:k=k'∨op= .shl∨op= .shr) :
 ∃V,K V∧∀(P:Program) (E:Env) (t:TypeId),∃v,VR E V v∧(binOp op t (.int k a) (.int k' b)).run P E.W= .ok v E.W:=by
 have hkk:op≠ .shl→op≠ .shr→k=k':=fun h1 h2=>by
  rcases hk with h | h | h
  ·exact h
  ·exact absurd h h1
  ·exact absurd h h2
 cases op <;> simp only[intOp] at h
 case add=>have:=hkk (by simp) (by simp);subst this;exact⟨_,h,fun P E t=>⟨_,.int _ _,by simp [binOp,Op.intArith]⟩⟩
 case sub=>have:=hkk (by simp) (by simp);subst this;exact⟨_,h,fun P E t=>⟨_,.int _ _,by simp [binOp,Op.intArith]⟩⟩
 case mul=>have:=hkk (by simp) (by simp);subst this;exact⟨_,h,fun P E t=>⟨_,.int _ _,by simp [binOp,Op.intArith]⟩⟩
 case quo=>have:=hkk (by simp) (by simp);subst this;exact⟨_,h.2,fun P E t=>⟨_,.int _ _,by simp [binOp,Op.intDiv,h.1]⟩⟩
 case rem=>have:=hkk (by simp) (by simp);subst this;exact⟨_,h.2,fun P E t=>⟨_,.int _ _,by simp [binOp,Op.intDiv,h.1]⟩⟩
 case eql=>have:=hkk (by simp) (by simp);subst this;exact⟨_,h,fun P E t=>⟨_,.bool _,by simp [binOp,Op.intCmp]⟩⟩
 case neq=>have:=hkk (by simp) (by simp);subst this;exact⟨_,h,fun P E t=>⟨_,.bool _,by simp [binOp,Op.intCmp]⟩⟩
 case lss=>have:=hkk (by simp) (by simp);subst this;exact⟨_,h,fun P E t=>⟨_,.bool _,by simp [binOp,Op.intCmp]⟩⟩
 case leq=>have:=hkk (by simp) (by simp);subst this;exact⟨_,h,fun P E t=>⟨_,.bool _,by simp [binOp,Op.intCmp]⟩⟩
 case gtr=>have:=hkk (by simp) (by simp);subst this;exact⟨_,h,fun P E t=>⟨_,.bool _,by simp [binOp,Op.intCmp]⟩⟩
 case geq=>have:=hkk (by simp) (by simp);subst this;exact⟨_,h,fun P E t=>⟨_,.bool _,by simp [binOp,Op.intCmp]⟩⟩
 case and=>have:=hkk (by simp) (by simp);subst this;exact⟨_,h,fun P E t=>⟨_,.int _ _,by simp [binOp,Op.intBits]⟩⟩
 case xor=>have:=hkk (by simp) (by simp);subst this;exact⟨_,h,fun P E t=>⟨_,.int _ _,by simp [binOp,Op.intBits]⟩⟩
 case shr=>exact⟨_,h.2,fun P E t=>⟨_,.int _ _,by have:=h.1;simp [binOp,Op.shift,show ¬b<0 by omega]⟩⟩
 case shl=>exact⟨_,h.2,fun P E t=>⟨_,.int _ _,by have:=h.1;simp [binOp,Op.shift,show ¬b<0 by omega]⟩⟩
theorem strOp_sound {K:AV→Prop}{op:BinOp}{a b:ByteArray}(h:strOp op a.data.toList b.data.toList K) :
 ∃V,K V∧∀(P:Program) (E:Env) (t:TypeId),∃v,VR E V v∧(binOp op t (.string a) (.string b)).run P E.W= .ok v E.W:=by
 cases op <;> simp only[strOp] at h
 case add=>
  refine⟨_,h.2,fun P E t=>⟨.string (a ++ b),?_,?_⟩⟩
  ·have e:a.data.toList ++ b.data.toList=(a ++ b).data.toList:=by simp [ByteArray.data_append]
   rw[e];exact .str _
  ·have h1:=h.1
   have h2:¬(((a.size+b.size:Nat):Int) > IntKind.i64.max):=by
    have e1:IntKind.i64.max=9223372036854775807:=by decide
    have e2:a.data.toList.length=a.size:=rfl
    have e3:b.data.toList.length=b.size:=rfl
    rw[e1];omega
   simp only[binOp,Op.stringOp,if_neg h2,Sem.run_pure]
 case eql=>exact⟨_,h,fun P E t=>⟨_,.bool _,by simp [binOp,Op.stringOp,ByteArray.toList_eq]⟩⟩
 case neq=>exact⟨_,h,fun P E t=>⟨_,.bool _,by simp [binOp,Op.stringOp,ByteArray.toList_eq]⟩⟩
 case lss=>exact⟨_,h,fun P E t=>⟨_,.bool _,by simp [binOp,Op.stringOp,ByteArray.toList_eq]⟩⟩
def valOf (b:Bool)(us:Array Value):Value:=if b then .agg us else us.getD 0 Go.undef
def aggB (P:Program)(t:TypeId):Bool:=
 match P.underlying t with
 | some (.struct _) | some (.array _ _)=>true
 | _=>false
def VRl (E:Env)(xs:List AV)(us:Array Value):Prop:=us.size=xs.length∧∀(i:Nat) c,xs[i]? =some c→VR E c (us.getD i Go.undef)
theorem VRl.split {E:Env}{xs:List AV}{us:Array Value}{off n:Nat}(h:∀(i:Nat) c,xs[i]? =some c→VR E c (us.getD (off+i) Go.undef))(hs:off+xs.length≤us.size)(hn:n≤xs.length) :
 VRl E (xs.take n) (us.extract off (off+n)):=by
 refine⟨by simp;omega,fun i c hc=>?_⟩
 rw[Q2] at hc
 split at hc
 ·next hin=>
  have:=h i c hc
  have hlt:off+i<us.size:=by omega
  have e:(us.extract off (off+n)).getD i Go.undef=us.getD (off+i) Go.undef:=by
   rw[Qa,Qa,Qp,if_pos (by omega)]
  rw[e];exact this
 ·cases hc
theorem cellsEq_append:∀(ks ks':List Nat)(xs ys:List AV)(e:Bool),cellsEq (ks ++ ks') xs ys=some e→
 ∃a b,cellsEq ks (xs.take ks.length) (ys.take ks.length)=some a∧cellsEq ks' (xs.drop ks.length) (ys.drop ks.length)=some b∧e=(a && b)∧ks.length≤xs.length∧ks.length≤ys.length:=by
 intro ks
 induction ks with
 | nil=>intro ks' xs ys e h;exact⟨true,e,by simp [cellsEq],by simpa using h,by simp,by simp,by simp⟩
 | cons k ks ih=>
  intro ks' xs ys e h
  cases xs with
  | nil=>simp [cellsEq] at h
  | cons x xs=>
   cases ys with
   | nil=>simp [cellsEq] at h
   | cons y ys=>
    simp only[List.cons_append,cellsEq] at h
    split at h
    ·next x' y' h1 h2=>
     cases h
     obtain⟨a,b,h3,h4,h5,h6,h7⟩:=ih ks' xs ys _ h2
     exact⟨x' && a,b,by simp [cellsEq,h1,h3],by simpa using h4,by rw[h5];cases x' <;> simp,by simp;omega,by simp;omega⟩
    ·cases h
set_option maxHeartbeats 800000 in
theorem eq_run {P:Program}{E:Env}:∀(d:Nat)(t:TypeId)(ks:List Nat),eqT P d t=some ks→∀(xs ys:List AV)(us vs:Array Value)(e:Bool),
 VRl E xs us→VRl E ys vs→cellsEq ks xs ys=some e→∀(m:Nat) (w:World),
 (Op.equalIn (d+m) t (valOf (aggB P t) us) (valOf (aggB P t) vs)).run P w= .ok e w:=by
 intro d
 induction d with
 | zero=>intro t ks h;simp [eqT] at h
 | succ d ih=>
  intro t ks h xs ys us vs e hx hy hc m w
  simp only[eqT] at h
  have hd:d+1+m=(d+m)+1:=by omega
  rw[hd]
  split at h
  ·next hu=>
   cases h
   have hb:aggB P t=false:=by simp [aggB,hu]
   rw[hb]
   match xs,ys,hc with
   | [x],[y],hc=>
    have h1:=hx.2 0 x rfl
    have h2:=hy.2 0 y rfl
    simp only[valOf,Qk,if_false]
    generalize us.getD 0 Go.undef=u at *
    generalize vs.getD 0 Go.undef=v at *
    cases h1 <;> cases h2 <;> simp [cellsEq,leafEq] at hc
    rw[run_equalIn_bool' w _ t _ _ hu,←hc]
   | [],[],hc | [],_ :: _,hc | _ :: _,[],hc | _ :: _ :: _,[_],hc | [_],_ :: _ :: _,hc | _ :: _ :: _,_ :: _ :: _,hc=>simp [cellsEq] at hc
  ·next k hu=>
   cases h
   have hb:aggB P t=false:=by simp [aggB,hu]
   rw[hb]
   match xs,ys,hc with
   | [x],[y],hc=>
    have h1:=hx.2 0 x rfl
    have h2:=hy.2 0 y rfl
    simp only[valOf,Qk,if_false]
    generalize us.getD 0 Go.undef=u at *
    generalize vs.getD 0 Go.undef=v at *
    cases h1 <;> cases h2 <;> simp [cellsEq,leafEq] at hc
    next k1 a k2 b=>
     by_cases hk:k1=k2
     ·subst hk
      simp at hc
      rw[run_equalIn_int w _ t _ k a b hu,←hc]
     ·simp [hk] at hc
   | [],[],hc | [],_ :: _,hc | _ :: _,[],hc | _ :: _ :: _,[_],hc | [_],_ :: _ :: _,hc | _ :: _ :: _,_ :: _ :: _,hc=>simp [cellsEq] at hc
  ·next hu=>
   cases h
   have hb:aggB P t=false:=by simp [aggB,hu]
   rw[hb]
   match xs,ys,hc with
   | [x],[y],hc=>
    have h1:=hx.2 0 x rfl
    have h2:=hy.2 0 y rfl
    simp only[valOf,Qk,if_false]
    generalize us.getD 0 Go.undef=u at *
    generalize vs.getD 0 Go.undef=v at *
    cases h1 <;> cases h2 <;> simp [cellsEq,leafEq] at hc
    rw[run_equalIn_string w _ t _ _ hu,ByteArray.toList_eq,ByteArray.toList_eq,←hc]
    simp
   | [],[],hc | [],_ :: _,hc | _ :: _,[],hc | _ :: _ :: _,[_],hc | [_],_ :: _ :: _,hc | _ :: _ :: _,_ :: _ :: _,hc=>simp [cellsEq] at hc
  ·next fs hu=>
   split at h
   ·cases h
   ·next hst=>
    have hb:aggB P t=true:=by simp [aggB,hu]
    have hfo:P.fieldsOf t=fs:=by simp [Program.fieldsOf,hu]
    rw[hb]
    simp only[valOf,if_true]
    rw[run_equalIn_struct w (d+m) t us vs (by rw[hfo];exact hu) (by simpa using hst),hfo]
    clear hu hb hfo hst
    have key:∀(l:List Field) (off:Nat) (ks:List Nat) (xs ys:List AV) (e:Bool),eqFs (eqT P d) P l off=some ks→off+xs.length≤us.size→off+ys.length≤vs.size→
     (∀(i:Nat) c,xs[i]? =some c→VR E c (us.getD (off+i) Go.undef))→(∀(i:Nat) c,ys[i]? =some c→VR E c (vs.getD (off+i) Go.undef))→
     cellsEq ks xs ys=some e→(Op.eqFields (d+m) us vs l).run P w= .ok e w:=by
     intro l
     induction l with
     | nil=>
      intro off ks xs ys e h1 _ _ _ _ h2
      simp only[eqFs] at h1
      cases h1
      cases xs <;> cases ys <;> simp [cellsEq] at h2
      subst h2
      simp [Op.eqFields]
     | cons f fs ihl=>
      intro off ks xs ys e h1 hs1 hs2 hv1 hv2 h2
      simp only[eqFs] at h1
      split at h1
      ·cases h1
      ·next hn=>
       simp only[not_or,Decidable.not_not,ne_eq] at hn
       split at h1
       ·next ks1 i hk hi=>
        split at h1
        ·next hsz=>
         split at h1
         ·next r hr=>
          cases h1
          obtain⟨a,b,h3,h4,h5,h6,h7⟩:=cellsEq_append ks1 r xs ys e h2
          have hva:=VRl.split (n:=ks1.length) hv1 hs1 h6
          have hvb:=VRl.split (n:=ks1.length) hv2 hs2 h7
          have hrun:=ih f.type ks1 hk _ _ _ _ a hva hvb h3 m w
          have hpart:∀(cs:Array Value),off+ks1.length≤cs.size→(part f.type cs f.offset).run P w= .ok (valOf (aggB P f.type) (cs.extract off (off+ks1.length))) w:=by
           intro cs hcs
           rw[hn.2]
           cases d with
           | zero=>simp [eqT] at hk
           | succ d'=>
            simp only[eqT] at hk
            split at hk
            ·next hu=>cases hk;simp [part,isAgg,run_underlying hu,aggB,hu,valOf]
                      have:off<cs.size:=by simp at hcs;omega
                      have e1:(cs.extract off (off+1))[0]? =some cs[off]:=by rw[Qp,if_pos (by omega)];simp [this]
                      simp [this,e1]
            ·next hu=>cases hk;simp [part,isAgg,run_underlying hu,aggB,hu,valOf]
                      have:off<cs.size:=by simp at hcs;omega
                      have e1:(cs.extract off (off+1))[0]? =some cs[off]:=by rw[Qp,if_pos (by omega)];simp [this]
                      simp [this,e1]
            ·next hu=>cases hk;simp [part,isAgg,run_underlying hu,aggB,hu,valOf]
                      have:off<cs.size:=by simp at hcs;omega
                      have e1:(cs.extract off (off+1))[0]? =some cs[off]:=by rw[Qp,if_pos (by omega)];simp [this]
                      simp [this,e1]
            ·next hu=>simp [part,isAgg,run_underlying hu,aggB,hu,valOf,sizeOf,typeInfo,hi,hsz]
            ·cases hk
          simp only[Op.eqFields,if_pos hn.1,Sem.run_bind,hpart us (by omega),hpart vs (by omega),Result.andThen_ok,hrun]
          cases a with
          | false=>simp [h5]
          | true=>
           simp only[Bool.not_true,Qk,if_false]
           rw[h5,Bool.true_and]
           refine ihl (off+ks1.length) r (xs.drop ks1.length) (ys.drop ks1.length) b hr (by simp;omega) (by simp;omega) ?_ ?_ h4
           ·intro i c hc
            rw[Qh] at hc
            have:=hv1 _ c hc
            rwa [show off+(ks1.length+i)=off+ks1.length+i by omega] at this
           ·intro i c hc
            rw[Qh] at hc
            have:=hv2 _ c hc
            rwa [show off+(ks1.length+i)=off+ks1.length+i by omega] at this
         ·cases h1
        ·cases h1
       ·cases h1
    exact key fs.toList 0 ks xs ys e h (by rw[hx.1];omega) (by rw[hy.1];omega) (by simpa using hx.2) (by simpa using hy.2) hc
  ·cases h
theorem add_addr (b o n:Nat):(⟨b,o,none⟩:Addr).add n=⟨b,o+n,none⟩:=by
 unfold Addr.add;split
 ·next h=>subst h;rfl
 ·rfl
theorem cut_VR {E:Env}{z:Nat}{s:List AV}{a:Option Addr}{f:Nat→Nat→Value}(hs:SlAt E.W E.st s a z f)
 (hv:∀i v j c,s[i]? =some v→v.cells[j]? =some c→VP E.W E.st c (f i j)) (l h m:Nat) (hm:l<h→m≠l) :
 let a':=if m=l then a else a.map (·.add (l * z))
 SlAt E.W E.st (cutL s l h) a' z (fun i j=>f (l+i) j)∧∀i v j c,(cutL s l h)[i]? =some v→v.cells[j]? =some c→VP E.W E.st c (f (l+i) j):=by
 have hget:∀i v,(cutL s l h)[i]? =some v→s[l+i]? =some v∧l<h:=by
  intro i v hi
  unfold cutL at hi
  rw[Q2] at hi
  split at hi
  ·rw[Qh] at hi;exact⟨hi,by omega⟩
  ·cases hi
 refine⟨fun i v hi=>?_,fun i v j c hi hc=>?_⟩
 ·obtain⟨h1,h2⟩:=hget i v hi
  obtain⟨h3,b,o,ha,hst,hc⟩:=hs _ _ h1
  refine⟨h3,b,o+l * z,?_,hst,fun j hj=>?_⟩
  ·simp only[if_neg (hm h2),ha,Qq,add_addr]
  ·have:=hc j hj
   rwa [show o+(l+i) * z+j=o+l * z+i * z+j by rw[Nat.add_mul];omega] at this
 ·exact hv _ _ _ _ (hget i v hi).1 hc
theorem cutL_length {α:Type}(s:List α)(l h:Nat)(h1:l≤h)(h2:h≤s.length):(cutL s l h).length=h - l:=by
 unfold cutL;simp;omega
theorem cutL_zero {α:Type}(s:List α)(h:Nat):cutL s 0 h=s.take h:=by simp [cutL]
theorem cutL_end {α:Type}(s:List α)(l:Nat):cutL s l s.length=s.drop l:=by
 unfold cutL;rw[List.take_of_length_le (by simp)]
theorem sliced_sl {E:Env}{z:Nat}{s:List AV}{a:Option Addr}{f:Nat→Nat→Value}(hs:SlAt E.W E.st s a z f)
 (hv:∀i v j c,s[i]? =some v→v.cells[j]? =some c→VP E.W E.st c (f i j)) (l h m:Nat) (h1:l≤h) (h2:h≤s.length) (h3:h≤m) :
 VR E (.sl z (cutL s l h)) (sliced a l h m z):=by
 obtain⟨k1,k2⟩:=cut_VR hs hv l h m (by omega)
 have:=VR.sl z (cutL s l h) _ (m - l) _ (by rw[cutL_length s l h h1 h2];omega) k1 k2
 rw[cutL_length s l h h1 h2] at this
 exact this
theorem sliced_slc {E:Env}{z:Nat}{s:List AV}{a:Option Addr}{f:Nat→Nat→Value}(hs:SlAt E.W E.st s a z f)
 (hv:∀i v j c,s[i]? =some v→v.cells[j]? =some c→VP E.W E.st c (f i j)) (l h:Nat) (h1:l≤h) (h2:h≤s.length) :
 VR E (.slc z (cutL s l h)) (sliced a l h h z):=by
 obtain⟨k1,k2⟩:=cut_VR hs hv l h h (by omega)
 have:=VR.slc z (cutL s l h) _ _ k1 k2
 rw[cutL_length s l h h1 h2] at this
 exact this
def VRo (E:Env):Option AV→Option Value→Prop
 | none,none=>True
 | some a,some v=>VR E a v
 | _,_=>False
theorem VRo_none {E:Env}{l':Option Value}(h:VRo E none l'):l'=none:=by cases l' <;> simp [VRo] at h ⊢
theorem VRo_int {E:Env}{k:IntKind}{n:Int}{l':Option Value}(h:VRo E (some (.int k n)) l'):l'=some (.int k n):=by
 cases l' with
 | none=>simp [VRo] at h
 | some v=>simp only[VRo] at h;rw[h.int_inv]
theorem sliceS_sound {P:Program}{t:TypeId}{x:AV}{lo hi mx:Option AV}{K:AV→Prop}(h:sliceS x lo hi mx K)(ht:tk P t= .str) :
 ∃V,K V∧∀(E:Env) (v:Value) (l' h' m':Option Value),VR E x v→VRo E lo l'→VRo E hi h'→VRo E mx m'→
  ∃r,VR E V r∧(Instr.sliceAt t v l' h' m').run P E.W= .ok r E.W:=by
 have hu:=(tk_str ht).1
 have e1:∀(s:ByteArray) (a b:Nat),(s.extract a b).data.toList=cutL s.data.toList a b:=by
  intro s a b
  simp [cutL,ByteArray.data_extract,Array.toList_extract,List.extract]
 have e2:∀s:ByteArray,s.data.toList.length=s.size:=fun _=>rfl
 unfold sliceS at h
 split at h
 ·next s=>
  refine⟨_,h,fun E v l' h' m' hv hl hh hm=>?_⟩
  cases VRo_none hl;cases VRo_none hh;cases VRo_none hm
  obtain⟨b,rfl,hb⟩:=hv.str_inv
  rw[run_sliceAt_string E.W t _ none none none hu]
  refine⟨.string b,by rw[←hb];exact .str b,?_⟩
  simp [Instr.slice,run_underlying hu,Instr.sliceBounds]
 ·next s k l=>
  refine⟨_,h.2.2,fun E v l' h' m' hv hl hh hm=>?_⟩
  cases VRo_int hl;cases VRo_none hh;cases VRo_none hm
  obtain⟨b,rfl,hb⟩:=hv.str_inv
  obtain⟨h1,h2,_⟩:=h
  rw[←hb,e2] at h2
  rw[run_sliceAt_string E.W t _ _ none none hu]
  refine⟨.string (b.extract l.toNat b.size),?_,?_⟩
  ·rw[←hb,←cutL_end,e2,←e1];exact .str _
  ·simp [Instr.slice,run_underlying hu,Instr.sliceBounds,run_sliceBound,h1,h2]
 ·next s k h0=>
  refine⟨_,h.2.2,fun E v l' h' m' hv hl hh hm=>?_⟩
  cases VRo_none hl;cases VRo_int hh;cases VRo_none hm
  obtain⟨b,rfl,hb⟩:=hv.str_inv
  obtain⟨h1,h2,_⟩:=h
  rw[←hb,e2] at h2
  rw[run_sliceAt_string E.W t _ none _ none hu]
  refine⟨.string (b.extract 0 h0.toNat),?_,?_⟩
  ·rw[←hb,←cutL_zero,←e1];exact .str _
  ·simp [Instr.slice,run_underlying hu,Instr.sliceBounds,run_sliceBound,h1,h2]
 ·next s k l k' h0=>
  refine⟨_,h.2.2.2,fun E v l' h' m' hv hl hh hm=>?_⟩
  cases VRo_int hl;cases VRo_int hh;cases VRo_none hm
  obtain⟨b,rfl,hb⟩:=hv.str_inv
  obtain⟨h1,h2,h3,_⟩:=h
  rw[←hb,e2] at h3
  rw[run_sliceAt_string E.W t _ _ _ none hu]
  refine⟨.string (b.extract l.toNat h0.toNat),?_,?_⟩
  ·rw[←hb,←e1];exact .str _
  ·have eh:(h0.toNat:Int)=h0:=Int.toNat_of_nonneg (by omega)
   simp [Instr.slice,run_underlying hu,Instr.sliceBounds,run_sliceBound,h1,h2,h3,eh,(by omega:0≤h0)]
 ·exact h.elim
theorem VR.sl_inv {E:Env}{z:Nat}{s:List AV}{v:Value}(h:VR E (.sl z s) v):∃a cap f,v= .slice a s.length cap∧s.length≤cap∧SlAt E.W E.st s a z f∧∀i v j c,s[i]? =some v→v.cells[j]? =some c→VP E.W E.st c (f i j):=by
 cases h with | sl _ _ a cap f h1 h2 h3=>exact⟨a,cap,f,rfl,h1,h2,h3⟩
theorem VR.slc_inv {E:Env}{z:Nat}{s:List AV}{v:Value}(h:VR E (.slc z s) v):∃a f,v= .slice a s.length s.length∧SlAt E.W E.st s a z f∧∀i v j c,s[i]? =some v→v.cells[j]? =some c→VP E.W E.st c (f i j):=by
 cases h with | slc _ _ a f h2 h3=>exact⟨a,f,rfl,h2,h3⟩
theorem sliceL_sound {P:Program}{t e:TypeId}{sz:Nat}{x:AV}{lo hi mx:Option AV}{K:AV→Prop}(h:sliceL sz x lo hi mx K)(ht:tk P t= .slice e sz) :
 ∃V,K V∧∀(E:Env) (v:Value) (l' h' m':Option Value),VR E x v→VRo E lo l'→VRo E hi h'→VRo E mx m'→
  ∃r,VR E V r∧(Instr.sliceAt t v l' h' m').run P E.W= .ok r E.W:=by
 obtain⟨hu,⟨i,hi,hsz⟩,_⟩:=tk_slice ht
 have hel:P.elem t=e:=by simp [Program.elem,hu]
 have hu':P.underlying t=some (.slice (P.elem t)):=by rw[hel];exact hu
 have hs:∀w:World,(sizeOf (P.elem t)).run P w= .ok sz w:=fun w=>by rw[hel];simp [sizeOf,typeInfo,hi,hsz]
 have fin:∀(E:Env) (a:Option Addr) (len cap l h m:Nat) (V:AV) (x:Result Value),VR E V (sliced a l h m sz)→
  x=((sizeOf (P.elem t)).run P E.W).andThen (fun s w=> .ok (sliced a l h m s) w)→∃r,VR E V r∧x= .ok r E.W:=by
  intro E a len cap l h m V x hv hx
  exact⟨_,hv,by rw[hx,hs];rfl⟩
 unfold sliceL at h
 split at h
 ·next z s=>
  refine⟨_,h.2,fun E v l' h' m' hv hl hh hm=>?_⟩
  cases VRo_none hl;cases VRo_none hh;cases VRo_none hm
  obtain⟨a,cap,f,rfl,hc,h1,h2⟩:=hv.sl_inv
  obtain⟨rfl,_⟩:=h
  rw[run_sliceAt_slice E.W t _ none none none hu']
  refine fin E a s.length cap 0 s.length cap _ _ ?_ (run_slice_all E.W t a s.length cap hu')
  have:=sliced_sl h1 h2 0 s.length cap (Q5 _) (Qe _) hc
  rwa [cutL_zero,Xm] at this
 ·next z s k l=>
  refine⟨_,h.2.2.2,fun E v l' h' m' hv hl hh hm=>?_⟩
  cases VRo_int hl;cases VRo_none hh;cases VRo_none hm
  obtain⟨a,cap,f,rfl,hc,h1,h2⟩:=hv.sl_inv
  obtain⟨rfl,g1,g2,_⟩:=h
  rw[run_sliceAt_slice E.W t _ _ none none hu']
  refine fin E a s.length cap l.toNat s.length cap _ _ ?_ (run_slice_l E.W t a s.length cap hu' k l g1 g2)
  have:=sliced_sl h1 h2 l.toNat s.length cap (by omega) (Qe _) hc
  rwa [cutL_end] at this
 ·next z s k h0=>
  refine⟨_,h.2.2.2,fun E v l' h' m' hv hl hh hm=>?_⟩
  cases VRo_none hl;cases VRo_int hh;cases VRo_none hm
  obtain⟨a,cap,f,rfl,hc,h1,h2⟩:=hv.sl_inv
  obtain⟨rfl,g1,g2,_⟩:=h
  rw[run_sliceAt_slice E.W t _ none _ none hu']
  refine fin E a s.length cap 0 h0.toNat cap _ _ ?_ (run_slice_h E.W t a s.length cap hu' k h0 g1 (by omega))
  have:=sliced_sl h1 h2 0 h0.toNat cap (by omega) (by omega) (by omega)
  rwa [cutL_zero] at this
 ·next z s k l k' h0=>
  refine⟨_,h.2.2.2.2,fun E v l' h' m' hv hl hh hm=>?_⟩
  cases VRo_int hl;cases VRo_int hh;cases VRo_none hm
  obtain⟨a,cap,f,rfl,hc,h1,h2⟩:=hv.sl_inv
  obtain⟨rfl,g1,g2,g3,_⟩:=h
  rw[run_sliceAt_slice E.W t _ _ _ none hu']
  exact fin E a s.length cap l.toNat h0.toNat cap _ _ (sliced_sl h1 h2 l.toNat h0.toNat cap (by omega) (by omega) (by omega)) (run_slice_lh E.W t a s.length cap hu' k k' l h0 g1 g2 (by omega))
 ·next z s k h0 k' m0=>
  refine⟨_,h.2.2.2.2,fun E v l' h' m' hv hl hh hm=>?_⟩
  cases VRo_none hl;cases VRo_int hh;cases VRo_int hm
  obtain⟨a,cap,f,rfl,hc,h1,h2⟩:=hv.sl_inv
  obtain⟨rfl,g1,rfl,g3,_⟩:=h
  rw[run_sliceAt_slice E.W t _ none _ _ hu']
  refine fin E a s.length cap 0 h0.toNat h0.toNat _ _ ?_ (run_slice_hm E.W t a s.length cap hu' k k' h0 h0 g1 (Xu _) (by omega))
  have:=sliced_slc h1 h2 0 h0.toNat (by omega) (by omega)
  rwa [cutL_zero] at this
 ·next z s=>
  refine⟨_,h.2,fun E v l' h' m' hv hl hh hm=>?_⟩
  cases VRo_none hl;cases VRo_none hh;cases VRo_none hm
  obtain⟨a,f,rfl,h1,h2⟩:=hv.slc_inv
  obtain⟨rfl,_⟩:=h
  rw[run_sliceAt_slice E.W t _ none none none hu']
  refine fin E a s.length s.length 0 s.length s.length _ _ ?_ (run_slice_all E.W t a s.length s.length hu')
  have:=sliced_slc h1 h2 0 s.length (Q5 _) (Qe _)
  rwa [cutL_zero,Xm] at this
 ·next z s k l=>
  refine⟨_,h.2.2.2,fun E v l' h' m' hv hl hh hm=>?_⟩
  cases VRo_int hl;cases VRo_none hh;cases VRo_none hm
  obtain⟨a,f,rfl,h1,h2⟩:=hv.slc_inv
  obtain⟨rfl,g1,g2,_⟩:=h
  rw[run_sliceAt_slice E.W t _ _ none none hu']
  refine fin E a s.length s.length l.toNat s.length s.length _ _ ?_ (run_slice_l E.W t a s.length s.length hu' k l g1 g2)
  have:=sliced_slc h1 h2 l.toNat s.length (by omega) (Qe _)
  rwa [cutL_end] at this
 ·next z s k h0=>
  refine⟨_,h.2.2.2,fun E v l' h' m' hv hl hh hm=>?_⟩
  cases VRo_none hl;cases VRo_int hh;cases VRo_none hm
  obtain⟨a,f,rfl,h1,h2⟩:=hv.slc_inv
  obtain⟨rfl,g1,g2,_⟩:=h
  rw[run_sliceAt_slice E.W t _ none _ none hu']
  refine fin E a s.length s.length 0 h0.toNat s.length _ _ ?_ (run_slice_h E.W t a s.length s.length hu' k h0 g1 (by omega))
  have:=sliced_sl h1 h2 0 h0.toNat s.length (by omega) (by omega) (by omega)
  rwa [cutL_zero] at this
 ·next z s k l k' h0=>
  refine⟨_,h.2.2.2.2,fun E v l' h' m' hv hl hh hm=>?_⟩
  cases VRo_int hl;cases VRo_int hh;cases VRo_none hm
  obtain⟨a,f,rfl,h1,h2⟩:=hv.slc_inv
  obtain⟨rfl,g1,g2,g3,_⟩:=h
  rw[run_sliceAt_slice E.W t _ _ _ none hu']
  exact fin E a s.length s.length l.toNat h0.toNat s.length _ _ (sliced_sl h1 h2 l.toNat h0.toNat s.length (by omega) (by omega) (by omega)) (run_slice_lh E.W t a s.length s.length hu' k k' l h0 g1 g2 (by omega))
 ·next z s k h0 k' m0=>
  refine⟨_,h.2.2.2.2,fun E v l' h' m' hv hl hh hm=>?_⟩
  cases VRo_none hl;cases VRo_int hh;cases VRo_int hm
  obtain⟨a,f,rfl,h1,h2⟩:=hv.slc_inv
  obtain⟨rfl,g1,rfl,g3,_⟩:=h
  rw[run_sliceAt_slice E.W t _ none _ _ hu']
  refine fin E a s.length s.length 0 h0.toNat h0.toNat _ _ ?_ (run_slice_hm E.W t a s.length s.length hu' k k' h0 h0 g1 (Xu _) (by omega))
  have:=sliced_slc h1 h2 0 h0.toNat (by omega) (by omega)
  rwa [cutL_zero] at this
 ·exact h.elim
theorem VP.one {W:World}{st:Nat→Prop}{a:AV}{v:Value}(h:VP W st a v)(ht:a.tame=true):v.cells= #[v]:=by
 cases h <;> first | rfl | (simp [AV.tame] at ht)
theorem cells_VR {E:Env}{a:AV}{v:Value}(h:VR E a v)(hd:a.definite=true):VRl E a.cells v.cells:=by
 have one:∀{a:AV} {v:Value},VR E a v→v.cells= #[v]→a.cells=[a]→VRl E a.cells v.cells:=by
  intro a v h h1 h2
  rw[h1,h2]
  refine⟨rfl,fun i c hc=>?_⟩
  cases i with
  | zero=>simp at hc;subst hc;simpa using h
  | succ i=>simp at hc
 cases h with
 | top v=>simp [AV.definite] at hd
 | agg cs us h1 h2=>exact⟨h1,h2⟩
 | undef=>exact one .undef rfl rfl
 | nls=>exact one .nls rfl rfl
 | nfn=>exact one .nfn rfl rfl
 | npt=>exact one .npt rfl rfl
 | mp id b h1 h2=>exact one (.mp id b h1 h2) rfl rfl
 | it id b h1 h2=>exact one (.it id b h1 h2) rfl rfl
 | fm es b a cl g1 g2 g3 g4 g5 g6=>exact one (.fm es b a cl g1 g2 g3 g4 g5 g6) rfl rfl
 | yld l=>exact one (.yld l) rfl rfl
 | cst v=>simp [AV.definite] at hd
 | int k n=>exact one (.int k n) rfl rfl
 | bool b=>exact one (.bool b) rfl rfl
 | str s=>exact one (.str s) rfl rfl
 | tuple cs us h1 h2=>exact one (.tuple cs us h1 h2) rfl rfl
 | sl sz vs a cap f h1 h2 h3=>exact one (.sl sz vs a cap f h1 h2 h3) rfl rfl
 | slc sz vs a f h2 h3=>exact one (.slc sz vs a f h2 h3) rfl rfl
 | own id sz len a cap h1 h0 h2=>exact one (.own id sz len a cap h1 h0 h2) rfl rfl
 | ptr id sz len idx off a h1 h2=>exact one (.ptr id sz len idx off a h1 h2) rfl rfl
 | win id sz tot off len a cap hc h1 h2=>exact one (.win id sz tot off len a cap hc h1 h2) rfl rfl
 | rp cs b o f h1 h2 h3=>exact one (.rp cs b o f h1 h2 h3) rfl rfl
 | fn f cap us h1 h2=>exact one (.fn f cap us h1 h2) rfl rfl
 | mth f cap us h1 h2=>exact one (.mth f cap us h1 h2) rfl rfl
 | sym i v hv=>exact one (.sym i v hv) (hv.one (Syms.tame i)) rfl
 | ows id sz j v h=>exact one (.ows id sz j v h) (by cases h;rfl) rfl
 | condT a v h=>simp [AV.definite] at hd
 | condF a=>simp [AV.definite] at hd
theorem foldl_set (off:Nat):∀(l:List Value)(s:Nat)(cs:Array Value),
 ((l.zipIdx s).foldl (fun cs (p:Value×Nat)=>cs.setIfInBounds (off+p.2) p.1) cs).size=cs.size∧
 ∀k,k<cs.size→((l.zipIdx s).foldl (fun cs (p:Value×Nat)=>cs.setIfInBounds (off+p.2) p.1) cs).getD k Go.undef =
  if off+s≤k∧k<off+s+l.length then l.getD (k - (off+s)) Go.undef else cs.getD k Go.undef:=by
 intro l
 induction l with
 | nil=>intro s cs;refine⟨rfl,fun k hk=>?_⟩;simp;intro h1 h2;omega
 | cons v l ih=>
  intro s cs
  obtain⟨h1,h2⟩:=ih (s+1) (cs.setIfInBounds (off+s) v)
  simp only[List.zipIdx_cons,List.foldl_cons]
  refine⟨by rw[h1];simp,fun k hk=>?_⟩
  rw[h2 k (by simpa using hk)]
  by_cases e:k=off+s
  ·subst e
   rw[if_neg (by omega),if_pos (by simp only[Xa];omega)]
   simp [hk]
  ·have e1:(cs.setIfInBounds (off+s) v).getD k Go.undef=cs.getD k Go.undef:=by
    simp [Qv (show off+s≠k by omega)]
   rw[e1]
   by_cases hin:off+(s+1)≤k∧k<off+(s+1)+l.length
   ·rw[if_pos hin,if_pos (by simp only[Xa];omega)]
    have:k - (off+s)=(k - (off+(s+1)))+1:=by omega
    rw[this,List.getD_cons_succ]
   ·rw[if_neg hin,if_neg (by simp only[Xa];omega)]
theorem lay_VR {E:Env}{cs vs:List AV}{us ws:Array Value}{off:Nat}(h:VRl E cs us)(k:VRl E vs ws)(ho:off+vs.length≤cs.length) :
 VRl E (lay cs off vs) (ws.zipIdx.foldl (fun cs (p:Value×Nat)=>cs.setIfInBounds (off+p.2) p.1) us):=by
 have e:ws.zipIdx.foldl (fun cs (p:Value×Nat)=>cs.setIfInBounds (off+p.2) p.1) us =
  (ws.toList.zipIdx 0).foldl (fun cs (p:Value×Nat)=>cs.setIfInBounds (off+p.2) p.1) us:=by
  rw[←Array.foldl_toList,Array.toList_zipIdx]
 rw[e]
 obtain⟨h1,h2⟩:=foldl_set off ws.toList 0 us
 have hw:ws.toList.length=vs.length:=by rw[Array.length_toList,k.1]
 have hlen:(lay cs off vs).length=cs.length:=by simp [lay];omega
 refine⟨by rw[h1,h.1,hlen],fun i c hc=>?_⟩
 have hi:i<cs.length:=by rw[←hlen];exact(Qb.1 hc).1
 rw[h2 i (by rw[h.1];exact hi)]
 simp only[Xs]
 unfold lay at hc
 by_cases hin:off≤i∧i<off+ws.toList.length
 ·rw[if_pos hin]
  rw[Xl,Q3 (by simp;omega),Q4 (by simp;omega)] at hc
  have e2:i - (cs.take off).length=i - off:=by simp;omega
  rw[e2] at hc
  have:=k.2 _ c hc
  have e3:ws.toList.getD (i - off) Go.undef=ws.getD (i - off) Go.undef:=by simp [List.getD]
  rw[e3];exact this
 ·rw[if_neg hin]
  refine h.2 i c ?_
  by_cases hl:i<off
  ·rw[Xl,Q4 (by simp;omega),Q2,if_pos hl] at hc
   exact hc
  ·rw[Q3 (by simp;omega),Qh] at hc
   have:off+vs.length+(i - (cs.take off ++ vs).length)=i:=by simp;omega
   rw[this] at hc;exact hc
theorem fill_VR {E:Env}{offs:List (Option (Nat×Nat))}{place:Nat→Option (Nat×Nat)}(hp:∀i x,offs[i]? =some (some x)→place i=some x) :
 ∀(parts:List (Nat×AV)) (parts':List (Nat×Value)) (zs cs:List AV) (us:Array Value),buildL offs parts zs=some cs→VRl E zs us→
  parts.length=parts'.length→(∀(i:Nat) p p',parts[i]? =some p→parts'[i]? =some p'→p.1=p'.1∧VR E p.2 p'.2)→
  ∃us',Instr.fill place us parts'=some us'∧VRl E cs us':=by
 intro parts
 induction parts with
 | nil=>
  intro parts' zs cs us h hz hl _
  cases parts' with
  | nil=>simp only[buildL] at h;cases h;exact⟨us,rfl,hz⟩
  | cons p l=>simp at hl
 | cons p parts ih=>
  intro parts' zs cs us h hz hl hv
  cases parts' with
  | nil=>simp at hl
  | cons p' parts'=>
   obtain⟨i,v⟩:=p
   obtain⟨i',v'⟩:=p'
   obtain⟨h1,h2⟩:=hv 0 _ _ rfl rfl
   simp only at h1 h2
   subst h1
   simp only[buildL] at h
   split at h
   ·next off n hoff=>
    split at h
    ·next hc=>
     obtain⟨c1,c2,c3⟩:=hc
     have hcv:=cells_VR h2 c3
     have hsz:v'.cells.size=n:=by rw[hcv.1,c1]
     simp only[Instr.fill,hp i _ hoff]
     rw[if_neg (by simp only[hsz,hz.1,Qu,decide_eq_true_eq,ne_eq,not_true_eq_false,false_or];omega)]
     refine ih parts' _ cs _ h (lay_VR hz hcv (by omega)) (by simpa using hl) (fun i p p' a b=>hv (i+1) p p' (by simpa using a) (by simpa using b))
    ·cases h
   ·cases h
theorem offs_places {P:Program}:∀(fs:List Field),(fs.map fun f=>match P.info? f.type with
 | some j=>if j.size=0 then none else some (f.offset,j.size)
 | none=>none).all Xh=true→∃places,fs.mapM (fun f=>(P.info? f.type).map fun i=>(f.offset,i.size))=some places∧
 ∀(i:Nat) x,(fs.map fun f=>match P.info? f.type with
  | some j=>if j.size=0 then none else some (f.offset,j.size)
  | none=>none)[i]? =some (some x)→places[i]? =some x:=by
 intro fs
 induction fs with
 | nil=>intro _;exact⟨[],by simp,by simp⟩
 | cons f fs ih=>
  intro h
  simp only[Qr,List.all_cons,Qt] at h
  obtain⟨h1,h2⟩:=h
  obtain⟨pl,hpl,hi⟩:=ih h2
  cases hj:P.info? f.type with
  | none=>rw[hj] at h1;simp at h1
  | some j=>
   refine⟨(f.offset,j.size) :: pl,by simp [List.mapM_cons,hj,hpl],fun i x hx=>?_⟩
   cases i with
   | zero=>
    simp only[Qr,hj,List.getElem?_cons_zero,Option.some.injEq] at hx
    split at hx
    ·cases hx
    ·cases hx;rfl
   | succ i=>
    simp only[Qr,List.getElem?_cons_succ] at hx ⊢
    exact hi i x hx
theorem tz_VR {P:Program}{t:TypeId}{zs:List AV}(h:tz P t= .agg zs)(E:Env):∃i z,P.info? t=some i∧i.zero=some z∧VRl E zs z.cells:=by
 unfold tz at h
 split at h
 ·next i hi=>
  split at h
  ·next v hv=>
   refine⟨i,v,hi,hv,?_⟩
   have:=ofV_VR E v
   rw[h] at this
   obtain⟨us,rfl,h1,h2⟩:=this.agg_inv
   exact⟨h1,h2⟩
  ·cases h
 ·cases h
theorem build_sound {P:Program}{t:TypeId}{parts:List (Nat×AV)}{cs zs:List AV}{offs:List (Option (Nat×Nat))}(hz:tz P t= .agg zs)
 (hk:(∃n,tk P t= .struct n offs∧offs.all Xh=true)∨∃m e sz tot,tk P t= .arr m e sz tot∧offs=arrPlaces m sz)
 (hb:buildL offs parts zs=some cs) (E:Env) (parts':Array (Nat×Value)) (hl:parts.length=parts'.size)
 (hv:∀(i:Nat) p p',parts[i]? =some p→parts'[i]? =some p'→p.1=p'.1∧VR E p.2 p'.2) :
 ∃v,VR E (.agg cs) v∧(Instr.build t parts').run P E.W= .ok v E.W:=by
 obtain⟨it,z,hit,hiz,hzs⟩:=tz_VR hz E
 rcases hk with⟨n,hk,hall⟩ | ⟨m,e,sz,tot,hk,rfl⟩
 ·unfold tk at hk
  split at hk
  case h_6 fs hu=>
   rw[hit] at hk
   simp only[TK.struct.injEq] at hk
   obtain⟨_,rfl⟩:=hk
   obtain⟨places,hpl,hpi⟩:=offs_places fs.toList hall
   obtain⟨us',hf,hus⟩:=fill_VR (place:=(places.toArray[·]?)) (fun i x hx=>by simpa using hpi i x hx) parts parts'.toList zs cs z.cells hb hzs (by simpa using hl) (fun i p p' a b=>hv i p p' a (by simpa using b))
   refine⟨.agg us',.agg _ _ hus.1 hus.2,run_build E.W t parts' us' ?_⟩
   simp [Program.built,hit,hu,hiz,hpl]
   simpa using hf
  all_goals first
   | (have:=(sz1_eq hk (by simp)).1;cases this;done)
   | (repeat' split at hk) <;> first | (cases hk;done) | (have:=(sz1_eq hk (by simp)).1;cases this)
 ·obtain⟨hu,⟨ie,hie,hsz⟩,_⟩:=tk_arr hk
  obtain⟨us',hf,hus⟩:=fill_VR (place:=fun i=>some (i * sz,sz)) (fun i x hx=>by
   simp only[arrPlaces,Qg,Qf] at hx
   obtain⟨j,hj,hx⟩:=hx
   rcases Qo i m with h | h
   ·rw[Xg h] at hj;cases hj;exact hx
   ·rw[Qw (by simpa using h)] at hj;cases hj) parts parts'.toList zs cs z.cells hb hzs (by simpa using hl) (fun i p p' a b=>hv i p p' a (by simpa using b))
  refine⟨.agg us',.agg _ _ hus.1 hus.2,run_build E.W t parts' us' ?_⟩
  simp [Program.built,hit,hu,hiz,hie,hsz,hf]
theorem foldInts_run {f:Int→Int→Int}{g:Value→Value→Sem Value}(hg:∀(P:Program)(w:World) k a k' b,(g (.int k a) (.int k' b)).run P w= .ok (.int k (f a b)) w){E:Env}{k:IntKind} :
 ∀(r:List AV) (a n:Int) (vs:List Value),foldInts f k a r=some n→vs.length=r.length→(∀(i:Nat) c v,r[i]? =some c→vs[i]? =some v→VR E c v)→
  ∀(P:Program) (w:World),(vs.foldlM g (.int k a)).run P w= .ok (.int k n) w:=by
 intro r
 induction r with
 | nil=>
  intro a n vs h hl _ P w
  cases vs with
  | nil=>simp only[foldInts] at h;cases h;simp
  | cons v vs=>simp at hl
 | cons c r ih=>
  intro a n vs h hl hv P w
  cases vs with
  | nil=>simp at hl
  | cons v vs=>
   cases c <;> simp only[foldInts] at h <;> try (cases h;done)
   next k' b=>
    split at h
    ·next hk=>
     subst hk
     have h0:=(hv 0 _ v rfl rfl).int_inv
     subst h0
     simp only[List.foldlM_cons,Sem.run_bind,hg,Result.andThen_ok]
     exact ih _ n vs h (by simpa using hl) (fun i c v a b=>hv (i+1) c v (by simpa using a) (by simpa using b)) P w
    ·cases h
theorem min2_run (P:Program)(w:World)(k:IntKind)(a:Int)(k':IntKind)(b:Int):(Builtin.min2 (.int k a) (.int k' b)).run P w= .ok (.int k (min a b)) w:=by
 simp only[Builtin.min2,Sem.run_pure]
 congr 2
 split <;> omega
theorem max2_run (P:Program)(w:World)(k:IntKind)(a:Int)(k':IntKind)(b:Int):(Builtin.max2 (.int k a) (.int k' b)).run P w= .ok (.int k (max a b)) w:=by
 simp only[Builtin.max2,Sem.run_pure]
 congr 2
 split <;> omega
theorem fn_eql {P:Program}{t:TypeId}(hf:funcT P t=true)(w:World)(f:Fn)(a b:Array Value):(Op.equal t (.func f a b) .nilFunc).run P w= .ok false w∧(Op.equal t .nilFunc .nilFunc).run P w= .ok true w:=by
 unfold funcT at hf
 split at hf
 ·next hu=>
  have h1:∀d,(Op.equalIn (d+1) t (.func f a b) .nilFunc).run P w= .ok false w:=fun d=>by simp [Op.equalIn,run_underlying hu]
  have h2:∀d,(Op.equalIn (d+1) t .nilFunc .nilFunc).run P w= .ok true w:=fun d=>by simp [Op.equalIn,run_underlying hu]
  exact⟨h1 9999,h2 9999⟩
 ·cases hf
theorem eqPtr_some {P:Program}(w:World)(d:Nat){t el:TypeId}(h:P.underlying t=some (.pointer el))(a:Addr):(Op.equalIn (d+1) t (.pointer (some a)) (.pointer none)).run P w= .ok false w:=by
 simp only[Op.equalIn,Sem.run_bind,run_underlying h,Result.andThen_ok,Sem.run_pure]
theorem eqPtr_none {P:Program}(w:World)(d:Nat){t el:TypeId}(h:P.underlying t=some (.pointer el)):(Op.equalIn (d+1) t (.pointer none) (.pointer none)).run P w= .ok true w:=by
 simp only[Op.equalIn,Sem.run_bind,run_underlying h,Result.andThen_ok,Sem.run_pure,Option.isNone_none]
theorem binK_sound {P:Program}{op:BinOp}{t:TypeId}{x y:AV}{K:AV→Prop}(h:binK P op t x y K) :
 ∃V,K V∧∀(E:Env) (u v:Value) (p q:Operand),VR E x u→VR E y v→∃r,VR E V r∧(do eqGuard op t p q u v;binOp op t u v:Sem Value).run P E.W= .ok r E.W:=by
 unfold binK at h
 split at h
 ·next k a k' b=>
  have hh:intOp op k a b K∧(k=k'∨op= .shl∨op= .shr):=by
   split at h
   ·next hk=>exact⟨h,.inl hk⟩
   ·split at h
    ·exact⟨h,.inr (.inl rfl)⟩
    ·exact⟨h,.inr (.inr rfl)⟩
    ·exact h.elim
  obtain⟨V,hK,hr⟩:=intOp_sound hh.1 hh.2
  refine⟨V,hK,fun E u v p q hu hv=>?_⟩
  rw[hu.int_inv,hv.int_inv]
  obtain⟨r,h1,h2⟩:=hr P E t
  exact⟨r,h1,run_binOp_same P E.W op t p q r _ _ (eqGuard_int ..) h2⟩
 ·next a b=>
  by_cases hex:∃c d:ByteArray,c.data.toList=a∧d.data.toList=b
  ·obtain⟨c,d,rfl,rfl⟩:=hex
   obtain⟨V,hK,hr⟩:=strOp_sound h
   refine⟨V,hK,fun E u v p q hu hv=>?_⟩
   obtain⟨c',rfl,hc⟩:=hu.str_inv
   obtain⟨d',rfl,hd⟩:=hv.str_inv
   have e1:c'=c:=by
    have:c'.data=c.data:=Qy.1 hc
    cases c;cases c';simp at this;simp [this]
   have e2:d'=d:=by
    have:d'.data=d.data:=Qy.1 hd
    cases d;cases d';simp at this;simp [this]
   subst e1;subst e2
   obtain⟨r,h1,h2⟩:=hr P E t
   exact⟨r,h1,run_binOp_same P E.W op t p q r _ _ (eqGuard_str ..) h2⟩
  ·exact absurd ⟨⟨a.toArray⟩,⟨b.toArray⟩,rfl,rfl⟩ hex
 ·next a b=>
  obtain⟨he,h⟩:=h
  have hu:=(tk_bool he).1
  have heq:∀(w:World),(Op.equal t (.bool a) (.bool b)).run P w= .ok (a == b) w:=fun w=>run_equalIn_bool' w 9999 t a b hu
  split at h
  ·exact⟨_,h,fun E u v p q hu hv=>⟨_,.bool _,by rw[hu.bool_inv,hv.bool_inv];refine run_binOp_same P E.W _ t p q _ _ _ (eqGuard_bool ..) ?_;simp [binOp,heq]⟩⟩
  ·exact⟨_,h,fun E u v p q hu hv=>⟨_,.bool _,by rw[hu.bool_inv,hv.bool_inv];refine run_binOp_same P E.W _ t p q _ _ _ (eqGuard_bool ..) ?_;simp [binOp,heq]⟩⟩
  ·exact h.elim
 ·next as bs=>
  split at h
  ·next n offs ks hk he=>
   split at h
   ·next e hc=>
    have hb:aggB P t=true:=by
     obtain⟨fs,hu,_⟩:=tk_struct hk
     simp [aggB,hu]
    unfold eqK at he
    split at he
    ·cases he
    ·next hg=>
     have hg':P.eqGuardType P.depth t=false:=by simpa using hg
     have heq:∀(E:Env) (us vs:Array Value),VRl E as us→VRl E bs vs→∀w,(Op.equalIn 10000 t (.agg us) (.agg vs)).run P w= .ok e w:=by
      intro E us vs h1 h2 w
      have:=eq_run (E:=E) 6 t ks he as bs us vs e h1 h2 hc 9994 w
      rw[hb] at this
      exact this
     split at h
     ·refine⟨_,h,fun E u v p q hu hv=>?_⟩
      obtain⟨us,rfl,h1,h2⟩:=hu.agg_inv
      obtain⟨vs,rfl,h3,h4⟩:=hv.agg_inv
      refine⟨_,.bool _,run_binOp_same P E.W _ t p q _ _ _ (run_eqGuard_agg E.W _ t p q us vs hg') ?_⟩
      rw[run_eql_struct,heq E us vs ⟨h1,h2⟩ ⟨h3,h4⟩];rfl
     ·refine⟨_,h,fun E u v p q hu hv=>?_⟩
      obtain⟨us,rfl,h1,h2⟩:=hu.agg_inv
      obtain⟨vs,rfl,h3,h4⟩:=hv.agg_inv
      refine⟨_,.bool _,run_binOp_same P E.W _ t p q _ _ _ (run_eqGuard_agg E.W _ t p q us vs hg') ?_⟩
      rw[run_neq_struct,heq E us vs ⟨h1,h2⟩ ⟨h3,h4⟩];rfl
     ·exact h.elim
   ·exact h.elim
  ·exact h.elim
 ·next f cap=>
  obtain⟨hf,h⟩:=h
  split at h
  ·exact⟨_,h,fun E u v p q hu hv=>⟨_,.bool _,by obtain⟨us,rfl,_⟩:=hu.fn_inv;rw[hv.nfn_inv];refine run_binOp_same P E.W _ t p q _ _ _ (by simp [eqGuard]) ?_;simp [binOp,(fn_eql hf _ _ _ _).1]⟩⟩
  ·exact⟨_,h,fun E u v p q hu hv=>⟨_,.bool _,by obtain⟨us,rfl,_⟩:=hu.fn_inv;rw[hv.nfn_inv];refine run_binOp_same P E.W _ t p q _ _ _ (by simp [eqGuard]) ?_;simp [binOp,(fn_eql hf _ _ _ _).1]⟩⟩
  ·exact h.elim
 ·obtain⟨hf,h⟩:=h
  split at h
  ·exact⟨_,h,fun E u v p q hu hv=>⟨_,.bool _,by rw[hu.nfn_inv,hv.nfn_inv];refine run_binOp_same P E.W _ t p q _ _ _ (by simp [eqGuard]) ?_;simp [binOp,(fn_eql hf _ (.func 0) #[] #[]).2]⟩⟩
  ·exact⟨_,h,fun E u v p q hu hv=>⟨_,.bool _,by rw[hu.nfn_inv,hv.nfn_inv];refine run_binOp_same P E.W _ t p q _ _ _ (by simp [eqGuard]) ?_;simp [binOp,(fn_eql hf _ (.func 0) #[] #[]).2]⟩⟩
  ·exact h.elim
 ·obtain⟨hf,h⟩:=h
  have hu0:∃el,P.underlying t=some (.pointer el):=by
   unfold ptrT at hf
   split at hf
   ·next el h=>exact⟨el,h⟩
   ·cases hf
  obtain⟨el,hu0⟩:=hu0
  have hpe:∀(a:Addr) (w:World),(Op.equal t (.pointer (some a)) (.pointer none)).run P w= .ok false w:=fun a w=>eqPtr_some w 9999 hu0 a
  split at h
  ·exact⟨_,h,fun E u v p q hu hv=>⟨_,.bool _,by cases hu;cases hv;refine run_binOp_same P E.W _ t p q _ _ _ (by simp [eqGuard]) ?_;simp [binOp,hpe]⟩⟩
  ·exact⟨_,h,fun E u v p q hu hv=>⟨_,.bool _,by cases hu;cases hv;refine run_binOp_same P E.W _ t p q _ _ _ (by simp [eqGuard]) ?_;simp [binOp,hpe]⟩⟩
  ·exact h.elim
 ·obtain⟨hf,h⟩:=h
  have hu0:∃el,P.underlying t=some (.pointer el):=by
   unfold ptrT at hf
   split at hf
   ·next el h=>exact⟨el,h⟩
   ·cases hf
  obtain⟨el,hu0⟩:=hu0
  have hpe:∀(w:World),(Op.equal t (.pointer none) (.pointer none)).run P w= .ok true w:=fun w=>eqPtr_none w 9999 hu0
  split at h
  ·exact⟨_,h,fun E u v p q hu hv=>⟨_,.bool _,by cases hu;cases hv;refine run_binOp_same P E.W _ t p q _ _ _ (by simp [eqGuard]) ?_;simp [binOp,hpe]⟩⟩
  ·exact⟨_,h,fun E u v p q hu hv=>⟨_,.bool _,by cases hu;cases hv;refine run_binOp_same P E.W _ t p q _ _ _ (by simp [eqGuard]) ?_;simp [binOp,hpe]⟩⟩
  ·exact h.elim
 ·exact h.elim
end Go.Pg
namespace Go.Pg
open Go
variable [Syms]
theorem pureK_sound {P:Program}{ev:AEnv}{o:Oper}{K:AV→Prop}(h:pureK P ev o K):Snd P ev o K:=by
 obtain⟨dst,op,type,pos,after,guard⟩:=o
 unfold pureK at h
 unfold Snd PureOK
 simp only at h ⊢
 cases op with
 | move x=>exact⟨_,fun E a hl=>⟨_,hl x (by simp [Op.operands]),by simp [execOp]⟩,h⟩
 | assign x=>exact⟨_,fun E a hl=>⟨_,hl x (by simp [Op.operands]),by simp [execOp]⟩,h⟩
 | pick c x y=>
  simp only at h
  split at h
  ·next b hb=>
   refine⟨_,fun E a hl=>?_,h⟩
   have h1:=hl c (by simp [Op.operands])
   rw[hb] at h1
   have h2:=hl x (by simp [Op.operands])
   have h3:=hl y (by simp [Op.operands])
   cases b with
   | true=>exact⟨_,h2,by simp [execOp,h1.bool_inv,asBool]⟩
   | false=>exact⟨_,h3,by simp [execOp,h1.bool_inv,asBool]⟩
  ·exact h.elim
 | unOp op t x=>
  simp only at h
  split at h
  ·next b hb=>
   refine⟨_,fun E a hl=>?_,h⟩
   have h1:=hl x (by simp [Op.operands])
   rw[hb] at h1
   exact⟨_,.bool _,by simp [execOp,h1.bool_inv,Op.unary]⟩
  ·next k n hb=>
   refine⟨_,fun E a hl=>?_,h⟩
   have h1:=hl x (by simp [Op.operands])
   rw[hb] at h1
   exact⟨_,.int _ _,by simp [execOp,h1.int_inv,Op.unary,Op.intArith]⟩
  ·exact h.elim
 | binOp op t x y yt=>
  simp only at h
  obtain⟨V,hK,hr⟩:=binK_sound h
  refine⟨V,fun E a hl=>?_,hK⟩
  obtain⟨r,h1,h2⟩:=hr E _ _ x y (hl x (by simp [Op.operands])) (hl y (by simp [Op.operands]))
  refine⟨r,h1,?_⟩
  simp only[execOp,Sem.run_bind] at h2 ⊢
  rw[h2];rfl
 | fieldAddr s x f=>
  simp only at h
  split at h
  ·next n offs id sz len idx off hk hx=>
   split at h
   ·next o y ho=>
    refine⟨_,fun E a hl=>?_,h⟩
    have h1:=hl x (by simp [Op.operands])
    rw[hx] at h1
    obtain⟨fs,hu,_,_,hf⟩:=tk_struct hk
    obtain⟨fd,j,hfd,rfl,hj,_,hne⟩:=hf f o y ho
    cases h1v:a.eval x <;> rw[h1v] at h1 <;> cases h1
    next ad hm hl'=>
    refine⟨.pointer (some (ad.add fd.offset)),.ptr _ _ _ _ _ _ hm fun L hL=>⟨(hl' L hL).1,fun he=>?_⟩,?_⟩
    ·obtain⟨b,hb,rfl⟩:=(hl' L hL).2 he
     exact⟨b,hb,by rw[add_addr,Q8]⟩
    ·simp [execOp,Instr.fieldAt,run_underlying hu,hfd,h1v,Instr.sureAddr,fieldPlace,sizeOf,typeInfo,hj,hne]
   ·exact h.elim
  ·next n offs cs hk hx=>
   split at h
   ·next o y ho=>
    refine⟨_,fun E a hl=>?_,h⟩
    have h1:=hl x (by simp [Op.operands])
    rw[hx] at h1
    obtain⟨fs,hu,_,_,hf⟩:=tk_struct hk
    obtain⟨fd,j,hfd,rfl,hj,_,hne⟩:=hf f o y ho
    cases h1v:a.eval x <;> rw[h1v] at h1 <;> cases h1
    next b o' g hst hc hv=>
    refine⟨.pointer (some ⟨b,o'+fd.offset,none⟩),.rp _ b _ (fun j=>g (fd.offset+j)) (fun h=>hst (by rw[Xn] at h;omega)) (fun j c hj=>?_) (fun j c hj=>?_),?_⟩
    ·rw[Qh] at hj;rw[Q8];exact hc _ c hj
    ·rw[Qh] at hj;exact hv _ c hj
    ·simp [execOp,Instr.fieldAt,run_underlying hu,hfd,h1v,Instr.sureAddr,fieldPlace,sizeOf,typeInfo,hj,hne,add_addr]
   ·exact h.elim
  ·exact h.elim
 | indexAddr t x i=>
  simp only at h
  split at h
  ·next e sz z vs k n hk hx hi=>
   obtain⟨hn,hlt0,rfl,hK⟩:=h
   have hv:vs[n.toNat]? =some (vs.getD n.toNat (dz P e)):=by simp [hlt0]
   refine⟨_,fun E a hl=>?_,hK⟩
   have h1:=hl x (by simp [Op.operands])
   have h2:=hl i (by simp [Op.operands])
   rw[hx] at h1
   rw[hi] at h2
   obtain⟨ad,cap,f,hav,hcap,hs,hvr⟩:=h1.sl_inv
   obtain⟨hu,⟨ti,hti,hsz⟩,_⟩:=tk_slice hk
   obtain⟨hvl,b,o',rfl,hst,hc⟩:=hs _ _ hv
   have hlt:n.toNat<vs.length:=(Qb.1 hv).1
   refine⟨.pointer (some ⟨b,o'+n.toNat * z,none⟩),.rp _ b _ (f n.toNat) (fun h=>hst (by omega)) (fun j c hj=>hc j ?_) (fun j c hj=>hvr _ _ _ _ hv hj),?_⟩
   ·rw[←hvl];exact(Qb.1 hj).1
   ·simp [execOp,Instr.indexAt,hav,h2.int_inv,asIntOf,run_underlying hu,sizeOf,typeInfo,hti,hsz,hn,show n< (vs.length:Int) by omega,add_addr]
  ·next e sz z vs k n hk hx hi=>
   obtain⟨hn,hlt0,rfl,hK⟩:=h
   have hv:vs[n.toNat]? =some (vs.getD n.toNat (dz P e)):=by simp [hlt0]
   refine⟨_,fun E a hl=>?_,hK⟩
   have h1:=hl x (by simp [Op.operands])
   have h2:=hl i (by simp [Op.operands])
   rw[hx] at h1
   rw[hi] at h2
   obtain⟨ad,f,hav,hs,hvr⟩:=h1.slc_inv
   obtain⟨hu,⟨ti,hti,hsz⟩,_⟩:=tk_slice hk
   obtain⟨hvl,b,o',rfl,hst,hc⟩:=hs _ _ hv
   have hlt:n.toNat<vs.length:=(Qb.1 hv).1
   refine⟨.pointer (some ⟨b,o'+n.toNat * z,none⟩),.rp _ b _ (f n.toNat) (fun h=>hst (by omega)) (fun j c hj=>hc j ?_) (fun j c hj=>hvr _ _ _ _ hv hj),?_⟩
   ·rw[←hvl];exact(Qb.1 hj).1
   ·simp [execOp,Instr.indexAt,hav,h2.int_inv,asIntOf,run_underlying hu,sizeOf,typeInfo,hti,hsz,hn,show n< (vs.length:Int) by omega,add_addr]
  ·next e sz id sz' len k n hk hx hi=>
   obtain⟨rfl,hn,hlt,hK⟩:=h
   refine⟨_,fun E a hl=>?_,hK⟩
   have h1:=hl x (by simp [Op.operands])
   have h2:=hl i (by simp [Op.operands])
   rw[hx] at h1
   rw[hi] at h2
   obtain⟨hu,⟨ti,hti,hsz⟩,_⟩:=tk_slice hk
   cases h1v:a.eval x <;> rw[h1v] at h1 <;> cases h1
   next ad cap hm ha hl'=>
   cases ad with
   | none=>have:=ha rfl;omega
   | some ad=>
    refine⟨.pointer (some (ad.add (n.toNat * sz))),.ptr _ _ _ _ _ _ hm fun L hL=>⟨(hl' L hL).1,fun he=>?_⟩,?_⟩
    ·rcases(hl' L hL).2 he with⟨_,h,_⟩ | ⟨b,c,ty,fz,hb,had,_⟩
     ·omega
     ·cases had;exact⟨b,hb,by rw[add_addr];simp⟩
    ·simp [execOp,Instr.indexAt,h1v,h2.int_inv,asIntOf,run_underlying hu,sizeOf,typeInfo,hti,hsz,hn,show n< (len:Int) by omega]
  ·next m e sz tot id z len idx off k n hk hx hi=>
   obtain⟨hn,hlt,hK⟩:=h
   refine⟨_,fun E a hl=>?_,hK⟩
   have h1:=hl x (by simp [Op.operands])
   have h2:=hl i (by simp [Op.operands])
   rw[hx] at h1
   rw[hi] at h2
   obtain⟨hu,⟨ti,hti,hsz⟩,_⟩:=tk_arr hk
   cases h1v:a.eval x <;> rw[h1v] at h1 <;> cases h1
   next ad hm hl'=>
   refine⟨.pointer (some (ad.add (n.toNat * sz))),.ptr _ _ _ _ _ _ hm fun L hL=>⟨(hl' L hL).1,fun he=>?_⟩,?_⟩
   ·obtain⟨b,hb,rfl⟩:=(hl' L hL).2 he
    exact⟨b,hb,by rw[add_addr,Q8]⟩
   ·simp [execOp,Instr.indexAt,h1v,h2.int_inv,asIntOf,run_underlying hu,sizeOf,typeInfo,hti,hsz,hn,hlt,Instr.sureAddr]
  ·next m e sz tot cs k n hk hx hi=>
   obtain⟨hn,hlt,hK⟩:=h
   refine⟨_,fun E a hl=>?_,hK⟩
   have h1:=hl x (by simp [Op.operands])
   have h2:=hl i (by simp [Op.operands])
   rw[hx] at h1
   rw[hi] at h2
   obtain⟨hu,⟨ti,hti,hsz⟩,_⟩:=tk_arr hk
   cases h1v:a.eval x <;> rw[h1v] at h1 <;> cases h1
   next b o' g hst hc hv=>
   refine⟨.pointer (some ⟨b,o'+n.toNat * sz,none⟩),.rp _ b _ (fun j=>g (n.toNat * sz+j)) (fun h=>hst (by rw[Xn] at h;omega)) (fun j c hj=>?_) (fun j c hj=>?_),?_⟩
   ·rw[Qh] at hj;rw[Q8];exact hc _ c hj
   ·rw[Qh] at hj;exact hv _ c hj
   ·simp [execOp,Instr.indexAt,h1v,h2.int_inv,asIntOf,run_underlying hu,sizeOf,typeInfo,hti,hsz,hn,hlt,Instr.sureAddr,add_addr]
  ·exact h.elim
 | index t x i=>
  simp only at h
  split at h
  ·next s k n hk hx hi=>
   obtain⟨hn,hlt0,hK⟩:=h
   have hb:s[n.toNat]? =some (s.getD n.toNat 0):=by simp [hlt0]
   generalize s.getD n.toNat 0=b at hb hK
   refine⟨_,fun E a hl=>?_,hK⟩
   have h1:=hl x (by simp [Op.operands])
   have h2:=hl i (by simp [Op.operands])
   rw[hx] at h1
   rw[hi] at h2
   obtain⟨s',hs',rfl⟩:=h1.str_inv
   have hu:=(tk_str hk).1
   refine⟨_,.int _ _,?_⟩
   have hg:s'[n.toNat]? =some b:=by
    obtain⟨hlt,hb'⟩:=Qb.1 hb
    have hlt':n.toNat<s'.size:=hlt
    rw[getElem?_pos s' n.toNat hlt',←hb']
    rfl
   simp [execOp,Instr.index,hs',h2.int_inv,asIntOf,run_underlying hu,hn,hg]
  ·exact h.elim
 | extract t ix=>
  simp only at h
  split at h
  ·next vs hx=>
   obtain⟨v,hv,hK⟩:=h
   refine⟨_,fun E a hl=>?_,hK⟩
   have h1:=hl t (by simp [Op.operands])
   rw[hx] at h1
   obtain⟨us,hus,hsz,hvr⟩:=h1.tuple_inv
   have hlt:ix<us.size:=by rw[hsz];exact(Qb.1 hv).1
   have:=hvr ix v hv
   simp only[Qa,Qd hlt,Qc] at this
   exact⟨_,this,by simp [execOp,Instr.extract,hus,hlt]⟩
  ·exact h.elim
 | field t x i=>
  simp only at h
  split at h
  ·next o vs hf hx=>
   obtain⟨v,hv,hK⟩:=h
   refine⟨_,fun E a hl=>?_,hK⟩
   have h1:=hl x (by simp [Op.operands])
   rw[hx] at h1
   obtain⟨us,hus,hsz,hvr⟩:=h1.agg_inv
   have hlt:o<us.size:=by rw[hsz];exact(Qb.1 hv).1
   have:=hvr o v hv
   simp only[Qa,Qd hlt,Qc] at this
   refine⟨_,this,?_⟩
   unfold leafField at hf
   split at hf
   ·next fs hu=>
    split at hf
    ·next fd hfd=>
     split at hf
     ·cases hf
     ·cases hf
     ·cases hf
     ·next ty n1 n2 hty=>
      cases hf
      have hagg:∀w:World,(isAgg fd.type).run P w= .ok false w:=by
       intro w
       cases ty <;> first | (exact absurd rfl (n1 _)) | (exact absurd rfl (n2 _ _)) | simp [isAgg,run_underlying hty]
      simp [execOp,Instr.field,run_underlying hu,hfd,hus,part,hagg,hlt,asAgg]
    ·cases hf
   ·cases hf
  ·exact h.elim
 | build t parts=>
  simp only at h
  split at h
  ·next n offs zs hk hz=>
   obtain⟨_,hall,cs,hb,hK⟩:=h
   refine⟨_,fun E a hl=>?_,hK⟩
   obtain⟨v,h1,h2⟩:=build_sound hz (.inl ⟨n,hk,hall⟩) hb E (parts.map fun(i,x)=>(i,a.eval x)) (by simp) (fun i p p' a1 a2=>by
    simp only[Qg,Ql,Qf,Xj] at a1 a2
    obtain⟨q,hq,rfl⟩:=a1
    obtain⟨q',hq',rfl⟩:=a2
    rw[hq] at hq';cases hq'
    refine⟨rfl,hl q.2 ?_⟩
    simp only[Op.operands,Xo,Q1,Qm]
    exact⟨q,Qx hq,rfl⟩)
   exact⟨v,h1,by simp only[execOp,Sem.run_bind,h2];rfl⟩
  ·next m e sz tot zs hk hz=>
   obtain⟨_,cs,hb,hK⟩:=h
   refine⟨_,fun E a hl=>?_,hK⟩
   obtain⟨v,h1,h2⟩:=build_sound hz (.inr ⟨m,e,sz,tot,hk,rfl⟩) hb E (parts.map fun(i,x)=>(i,a.eval x)) (by simp) (fun i p p' a1 a2=>by
    simp only[Qg,Ql,Qf,Xj] at a1 a2
    obtain⟨q,hq,rfl⟩:=a1
    obtain⟨q',hq',rfl⟩:=a2
    rw[hq] at hq';cases hq'
    refine⟨rfl,hl q.2 ?_⟩
    simp only[Op.operands,Xo,Q1,Qm]
    exact⟨q,Qx hq,rfl⟩)
   exact⟨v,h1,by simp only[execOp,Sem.run_bind,h2];rfl⟩
  ·exact h.elim
 | slice t x lo hi mx=>
  simp only at h
  have opt:∀(E:Env) (a:Act) (y:Option Operand),(∀z,y=some z→VR E (opnd ev z) (a.eval z))→VRo E (y.map (opnd ev)) (y.map a.eval):=by
   intro E a y hy
   cases y with
   | none=>trivial
   | some z=>exact hy z rfl
  split at h
  ·next hk=>
   obtain⟨V,hK,hr⟩:=sliceS_sound h hk
   refine⟨V,fun E a hl=>?_,hK⟩
   obtain⟨r,h1,h2⟩:=hr E _ _ _ _ (hl x (by simp [Op.operands])) (opt E a lo fun z hz=>hl z (by simp [Op.operands,hz])) (opt E a hi fun z hz=>hl z (by simp [Op.operands,hz])) (opt E a mx fun z hz=>hl z (by simp [Op.operands,hz]))
   exact⟨r,h1,by simp only[execOp,Sem.run_bind,h2];rfl⟩
  ·next e sz hk=>
   obtain⟨V,hK,hr⟩:=sliceL_sound h hk
   refine⟨V,fun E a hl=>?_,hK⟩
   obtain⟨r,h1,h2⟩:=hr E _ _ _ _ (hl x (by simp [Op.operands])) (opt E a lo fun z hz=>hl z (by simp [Op.operands,hz])) (opt E a hi fun z hz=>hl z (by simp [Op.operands,hz])) (opt E a mx fun z hz=>hl z (by simp [Op.operands,hz]))
   exact⟨r,h1,by simp only[execOp,Sem.run_bind,h2];rfl⟩
  ·exact h.elim
 | makeFunc fn first cap=>
  simp only at h
  split at h
  ·next f=>
   obtain⟨rfl,hK⟩:=h
   refine⟨_,fun E a hl=>⟨.func (.func f) #[] (cap.map a.eval),.fn f _ _ (by simp) (fun i c hc=>?_),by simp [execOp,Instr.makeFunc]⟩,hK⟩
   simp only[Qg,Ql,Qf] at hc
   obtain⟨x,hx,rfl⟩:=hc
   have:(cap.map a.eval).getD i Go.undef=a.eval x:=by simp [hx]
   rw[this]
   exact hl x (by simp [Op.operands,Qx hx])
  ·exact h.elim
 | nilCheck x=>
  simp only at h
  split at h
  ·next id sz len idx off hx=>
   refine⟨_,fun E a hl=>?_,h⟩
   have h1:=hl x (by simp [Op.operands])
   rw[hx] at h1
   refine⟨_,h1,?_⟩
   cases h1v:a.eval x <;> rw[h1v] at h1 <;> cases h1
   simp [execOp,h1v]
  ·next cs hx=>
   refine⟨_,fun E a hl=>?_,h⟩
   have h1:=hl x (by simp [Op.operands])
   rw[hx] at h1
   refine⟨_,h1,?_⟩
   cases h1v:a.eval x <;> rw[h1v] at h1 <;> cases h1
   simp [execOp,h1v]
  ·exact h.elim
 | convert src dst x=>
  simp only at h
  have hsrc:tk P src≠ .other→∃d,P.underlying src=some d:=by
   intro h
   cases hu:P.underlying src with
   | none=>simp [tk,hu] at h
   | some d=>exact⟨d,rfl⟩
  split at h
  ·next k k' n hk hx=>
   obtain⟨ho,hK⟩:=h
   obtain⟨d,hd⟩:=hsrc ho
   refine⟨_,fun E a hl=>?_,hK⟩
   have h1:=hl x (by simp [Op.operands])
   rw[hx] at h1
   exact⟨_,.int _ _,by simp [execOp,convert,run_underlying hd,run_underlying (tk_int hk).1,h1.int_inv,Conv.intToInt]⟩
  ·next s hk hx=>
   obtain⟨ho,hK⟩:=h
   obtain⟨d,hd⟩:=hsrc ho
   refine⟨_,fun E a hl=>?_,hK⟩
   have h1:=hl x (by simp [Op.operands])
   rw[hx] at h1
   obtain⟨s',hs',rfl⟩:=h1.str_inv
   exact⟨_,.str s',by simp [execOp,convert,run_underlying hd,run_underlying (tk_str hk).1,hs']⟩
  ·exact h.elim
 | call c=>
  obtain⟨callee,args,argTypes⟩:=c
  cases callee with
  | builtin b=>
   simp only at h
   have hops:∀x∈args.toList,x∈(Op.call { callee:= .builtin b,args,argTypes }).operands:=by
    intro x hx;simpa [Op.operands,Call.operands] using hx
   cases b <;> simp only at h <;> try exact h.elim
   case len=>
    split at h
    ·next x t hargs htys=>
     have hx0:∀(E:Env) (a:Act),Opd ev E a { dst:=dst,op:= .call { callee:= .builtin .len,args,argTypes },type:=type,pos:=pos,after:=after,guard:=guard }→VR E (opnd ev x) (a.eval x):=
      fun E a hl=>hl x (hops x (by rw[hargs];simp))
     have ha:args= #[x]:=by rw[←Qy];exact hargs
     have ht:argTypes= #[t]:=by rw[←Qy];exact htys
     subst ha;subst ht
     split at h
     ·next s hk hx=>
      refine⟨_,fun E a hl=>?_,h⟩
      have h1:=hx0 E a hl
      rw[hx] at h1
      obtain⟨s',hs',rfl⟩:=h1.str_inv
      exact⟨_,.int _ _,by simp [execOp,resolve,invoke,builtin,Builtin.len_,run_underlying (tk_str hk).1,hs',goInt]⟩
     ·next _ _ e sz hk=>
      obtain⟨n,hn,hK⟩:=h
      refine⟨_,fun E a hl=>?_,hK⟩
      obtain⟨ad,cap,hv⟩:=slen_VR (hx0 E a hl) hn
      exact⟨_,.int _ _,by simp [execOp,resolve,invoke,builtin,Builtin.len_,run_underlying (tk_slice hk).1,hv,goInt]⟩
     ·next _ _ n e sz tot hk=>
      refine⟨_,fun E a hl=>?_,h⟩
      exact⟨_,.int _ _,by simp [execOp,resolve,invoke,builtin,Builtin.len_,run_underlying (tk_arr hk).1,goInt]⟩
     ·exact h.elim
    ·exact h.elim
   case min=>
    split at h
    ·next k n r hargs=>
     obtain⟨m,hm,hK⟩:=h
     refine⟨_,fun E a hl=>?_,hK⟩
     cases hl0:args.toList with
     | nil=>rw[hl0] at hargs;simp at hargs
     | cons x xs=>
      rw[hl0] at hargs
      simp only[Qr,List.cons.injEq] at hargs
      have h1:=hl x (hops x (by rw[hl0];simp))
      rw[hargs.1] at h1
      have hv:(args.map a.eval).toList= .int k n :: xs.map a.eval:=by rw[Xp,hl0,Qr,h1.int_inv]
      refine⟨_,.int k m,?_⟩
      have:=foldInts_run (g:=Builtin.min2) min2_run (E:=E) r n m (xs.map a.eval) hm (by rw[←hargs.2];simp) (fun i c v h1 h2=>by
       rw[←hargs.2] at h1
       simp only[Qg,Qf] at h1 h2
       obtain⟨y,hy,rfl⟩:=h1
       obtain⟨y',hy',rfl⟩:=h2
       rw[hy] at hy';cases hy'
       exact hl y (hops y (by rw[hl0];exact Xe _ (Xf hy)))) P E.W
      simp only[execOp,resolve,invoke,builtin,Sem.run_bind,Sem.run_pure,Result.andThen_ok,Builtin.min_,hv,this]
    ·exact h.elim
   case max=>
    split at h
    ·next k n r hargs=>
     obtain⟨m,hm,hK⟩:=h
     refine⟨_,fun E a hl=>?_,hK⟩
     cases hl0:args.toList with
     | nil=>rw[hl0] at hargs;simp at hargs
     | cons x xs=>
      rw[hl0] at hargs
      simp only[Qr,List.cons.injEq] at hargs
      have h1:=hl x (hops x (by rw[hl0];simp))
      rw[hargs.1] at h1
      have hv:(args.map a.eval).toList= .int k n :: xs.map a.eval:=by rw[Xp,hl0,Qr,h1.int_inv]
      refine⟨_,.int k m,?_⟩
      have:=foldInts_run (g:=Builtin.max2) max2_run (E:=E) r n m (xs.map a.eval) hm (by rw[←hargs.2];simp) (fun i c v h1 h2=>by
       rw[←hargs.2] at h1
       simp only[Qg,Qf] at h1 h2
       obtain⟨y,hy,rfl⟩:=h1
       obtain⟨y',hy',rfl⟩:=h2
       rw[hy] at hy';cases hy'
       exact hl y (hops y (by rw[hl0];exact Xe _ (Xf hy)))) P E.W
      simp only[execOp,resolve,invoke,builtin,Sem.run_bind,Sem.run_pure,Result.andThen_ok,Builtin.max_,hv,this]
    ·exact h.elim
  | value f=>simp only at h
  | invoke r m=>simp only at h
 | _=>simp only at h
end Go.Pg
