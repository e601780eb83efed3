/- Pg, part 25: code in a round of a range over a function; what stands in an environment when a block that is no cells is turned. -/
import Derived.Test.YtjbgnnggmngpcaaGreatDoorPgSub
import Derived.RangeFuncNested
import Derived.RangeFuncLeaves
import Derived.OrdersIn
import Derived.Sort.LoopGhostIn
set_option linter.unusedVariables false
set_option linter.unusedSimpArgs false
set_option linter.unusedSectionVars false
open Nat renaming lt_of_lt_of_le → Qa,le_trans → Qb,le_refl → Qc
namespace Go.Pg
open Go
variable [Syms]
def FW:Option Nat→Fence
 | none=>Fence.wide
 | some l=>Fence.wide.inRound l
theorem FW_round (rd:Option Nat):(FW rd).round=rd:=by cases rd <;> rfl
theorem FW_fn (rd:Option Nat)(f:FuncId):(FW rd).fn f:=by cases rd <;> exact trivial
theorem FW_depth (rd:Option Nat):(FW rd).depth=none:=by cases rd <;> rfl
def noDefer (o:Oper):Bool:=match o.op with
 | .defer _=>false
 | _=>true
theorem noDefer_ne {o:Oper}(h:noDefer o=true):∀c,o.op≠ .defer c:=by
 intro c e
 unfold noDefer at h
 rw[e] at h
 cases h
theorem calls_FW {rd:Option Nat}{n:Nat}{P:Program}{f:FuncId}{args:Array Value}{w:World}{R:Ending→World→Prop}(h:Calls P f args w R):CallsIn (FW rd) n P f args w R:=by
 cases rd with
 | none=>exact callsIn_wide.2 h
 | some l=>exact CallsIn.inRound l (callsIn_wide.2 h)
theorem rows_FW {rd:Option Nat}{n:Nat}{P:Program}{row:String}{args:Array Value}{w:World}{R:Value→World→Prop}(h:Rows P row args w R):RowsIn (FW rd) n P row args w R:=by
 intro c cs _
 obtain⟨v,w',r,s⟩:=h c cs
 refine⟨v,w',r,?_⟩
 have:StepsIn (Machine.fenced P Fence.wide) P (lone (Frame.ofRow P row args .normal) (c :: cs) w) (lone (c.finish v) cs w'):=stepsIn_wide.2 s
 cases rd <;> exact this
theorem oper_FW {rd:Option Nat}{n:Nat}{P:Program}{o:Oper}{a:Act}{w:World}{K:Act→World→Prop}{Q:Exit→Act→World→Prop}(hd:noDefer o=true)(h:o.wp P a w K Q):o.wpIn (FW rd) n P a w K Q:=by
 refine⟨fun f _=>FW_fn rd f,?_⟩
 rw[FW_round,Oper.semAt_eq _ _ _ (noDefer_ne hd)]
 unfold Oper.wp at h
 have hdep:(FW rd).depth.isSome=true→1≤n:=fun e=>by rw[FW_depth] at e;cases e
 generalize (execOp a.eval o).run P w=r at h
 cases r with
 | ok x w'=>
  cases x with
  | value v=>exact h
  | skip=>exact h
  | defer d=>exact h
  | enter f args=>exact⟨hdep,calls_FW h⟩
  | row row args=>exact⟨hdep,rows_FW h⟩
  | round l f tmps assign body=>exact h.elim
  | _=>exact h.elim
 | halt x w'=>cases x <;> first | exact h | exact h.elim
theorem wpOp_FW {rd:Option Nat}{n:Nat}{P:Program}{ops:Array Oper}{Q:Exit→Act→World→Prop}(hQ:¬LetsOut Q)(hd:∀(i:Nat)(o:Oper),ops[i]? =some o→noDefer o=true){i:Nat}{K K':Act→World→Prop}(hK:∀a w,K a w→K' a w){a:Act}{w:World}
 (h:wpOp P ops Q i K a w):wpOpIn (FW rd) n P ops Q i K' a w:=by
 unfold wpOp at h
 unfold wpOpIn
 cases ho:ops[i]? with
 | none=>rw[ho] at h;exact hK _ _ h
 | some o=>
  rw[ho] at h
  simp only at h ⊢
  split at h
  ·next hw=>
   rw[if_pos hw]
   rcases h with h | h
   ·exact oper_FW (hd i o ho) (Oper.wp_mono hK h)
   ·exact absurd h.2 hQ
  ·next hw=>rw[if_neg hw];exact⟨fun f _=>FW_fn rd f,hK _ _ h⟩
theorem wpOps_FW {rd:Option Nat}{n:Nat}{P:Program}{ops:Array Oper}{Q:Exit→Act→World→Prop}(hQ:¬LetsOut Q)(hd:∀(i:Nat)(o:Oper),ops[i]? =some o→noDefer o=true):∀(l:List Nat)(a:Act)(w:World),wpOps P ops Q l a w→wpOpsIn (FW rd) n P ops Q l a w:=by
 intro l
 induction l with
 | nil=>intro a w h;exact h
 | cons i r ih=>
  intro a w h
  rw[wpOps_cons] at h
  rw[wpOpsIn_cons]
  exact wpOp_FW hQ hd (fun a w h=>ih a w h) h
theorem wpAny_FW {rd:Option Nat}{n:Nat}{P:Program}{md:Region.Mode}{ops:Array Oper}{Q:Exit→Act→World→Prop}(hQ:¬LetsOut Q)(hd:∀(i:Nat)(o:Oper),ops[i]? =some o→noDefer o=true):∀(fuel:Nat)(listed:Array Bool)(a:Act)(w:World),wpAny P md ops Q fuel listed a w→wpAnyIn (FW rd) n P md ops Q fuel listed a w:=by
 intro fuel
 induction fuel with
 | zero=>intro l a w h;exact h
 | succ fuel ih=>intro l a w h;exact⟨h.1,fun i hi=>wpOp_FW hQ hd (fun a w h=>ih _ a w h) (h.2 i hi)⟩
def bk:Obj→Bool
 | .loop _=>true
 | .deferred _=>true
 | _=>false
def IsCells (W:World)(b:Nat):Prop:=∃o,W.heap[b]? =some o∧bk o=false
structure KeepsB (B:Nat) (W W':World):Prop where
 size:W.heap.size≤W'.heap.size
 same:∀(k:Nat) (o:Obj),B≤k→W.heap[k]? =some o→bk o=true→W'.heap[k]? =some o
def StC (B:Nat)(E:Env):Prop:=∀b,E.st b→b<B∨IsCells E.W b
theorem cell_isCells {W:World}{b o:Nat}{u:Value}(h:W.cell? ⟨b,o,none⟩=some u):IsCells W b:=by
 unfold World.cell? at h
 unfold IsCells
 cases hb:W.heap[b]? with
 | none=>simp [hb] at h
 | some x=>
  cases x with
  | cells c ty fz=>exact⟨_,rfl,rfl⟩
  | _=>simp [hb] at h
def shr (B:Nat)(E:Env):Env:={ E with st:=fun b=>E.st b∧(b<B∨IsCells E.W b) }
theorem VP.shr {W:World}{st:Nat→Prop}{B:Nat}{a:AV}{v:Value}(h:VP W st a v):VP W (fun b=>st b∧(b<B∨IsCells W b)) a v:=by
 have sl:∀{vs:List AV} {ad:Option Addr} {sz:Nat} {f:Nat→Nat→Value},SlAt W st vs ad sz f→SlAt W (fun b=>st b∧(b<B∨IsCells W b)) vs ad sz f:=by
  intro vs ad sz f hs i v hv
  obtain⟨h1,b,o,h2,h3,h4⟩:=hs i v hv
  exact⟨h1,b,o,h2,fun hz=>⟨h3 hz,.inr (cell_isCells (h4 0 hz))⟩,h4⟩
 induction h with
 | undef=>exact .undef
 | nls=>exact .nls
 | nfn=>exact .nfn
 | npt=>exact .npt
 | yld l=>exact .yld l
 | cst v=>exact .cst v
 | int k n=>exact .int k n
 | bool b=>exact .bool b
 | str s=>exact .str s
 | agg cs us hs _ ih=>exact .agg cs us hs ih
 | tuple cs us hs _ ih=>exact .tuple cs us hs ih
 | sl sz vs a cap f hc hs _ ih=>exact .sl sz vs a cap f hc (sl hs) ih
 | slc sz vs a f hs _ ih=>exact .slc sz vs a f (sl hs) ih
 | fn f cap us hs _ ih=>exact .fn f cap us hs ih
 | rp cs b o f hst hc _ ih=>exact .rp cs b o f (fun hz=>⟨hst hz,.inr (cell_isCells (hc 0 cs[0] (by simp)))⟩) hc ih
 | fm es b a cl g1 g2 g3 g4 _ _ i1 i2=>exact .fm es b a cl ⟨g1,.inr ⟨_,g2,rfl⟩⟩ g2 g3 g4 i1 i2
 | sym i v _ ih=>exact .sym i v ih
theorem VR.shr {E:Env}{B:Nat}{a:AV}{v:Value}(h:VR E a v):VR (Go.Pg.shr B E) a v:=by
 have sl:∀{vs:List AV} {ad:Option Addr} {sz:Nat} {f:Nat→Nat→Value},SlAt E.W E.st vs ad sz f→SlAt E.W (Go.Pg.shr B E).st vs ad sz f:=by
  intro vs ad sz f hs i v hv
  obtain⟨h1,b,o,h2,h3,h4⟩:=hs i v hv
  exact⟨h1,b,o,h2,fun hz=>⟨h3 hz,.inr (cell_isCells (h4 0 hz))⟩,h4⟩
 induction h with
 | top v=>exact .top v
 | undef=>exact .undef
 | nls=>exact .nls
 | nfn=>exact .nfn
 | npt=>exact .npt
 | yld l=>exact .yld l
 | cst v=>exact .cst v
 | int k n=>exact .int k n
 | bool b=>exact .bool b
 | str s=>exact .str s
 | agg cs us hs _ ih=>exact .agg cs us hs ih
 | tuple cs us hs _ ih=>exact .tuple cs us hs ih
 | sl sz vs a cap f hc hs hv=>exact .sl sz vs a cap f hc (sl hs) (fun i v j c a b=>(hv i v j c a b).shr)
 | slc sz vs a f hs hv=>exact .slc sz vs a f (sl hs) (fun i v j c a b=>(hv i v j c a b).shr)
 | own id sz len a cap hm ha hl=>exact .own id sz len a cap hm ha hl
 | ptr id sz len idx off v hm hl=>exact .ptr id sz len idx off v hm hl
 | win id sz tot off len a cap hc hm hl=>exact .win id sz tot off len a cap hc hm hl
 | mp id b hm hl=>exact .mp id b hm hl
 | it id b hm hl=>exact .it id b hm hl
 | rp cs b o f hst hc hv=>exact .rp cs b o f (fun hz=>⟨hst hz,.inr (cell_isCells (hc 0 cs[0] (by simp)))⟩) hc (fun j c hj=>(hv j c hj).shr)
 | fm es b a cl g1 g2 g3 g4 g5 g6=>exact .fm es b a cl ⟨g1,.inr ⟨_,g2,rfl⟩⟩ g2 g3 g4 (fun i k x hi=>(g5 i k x hi).shr) (fun i k x hi=>(g6 i k x hi).shr)
 | fn f cap us hs _ ih=>exact .fn f cap us hs ih
 | mth f cap us hs _ ih=>exact .mth f cap us hs ih
 | sym i v hv=>exact .sym i v hv.shr
 | ows id sz j v _ ih=>exact .ows id sz j v ih
 | condT a v _ ih=>exact .condT a v ih
 | condF a=>exact .condF a
theorem shr_StC (B:Nat)(E:Env):StC B (shr B E):=fun _ h=>h.2
theorem bk_orow {E:Env}{b:Nat}{o:AO}(h:ORow E (some b) o)(hd:o≠ .dead):IsCells E.W b:=by
 have arow:∀{e sz vs},ARow E (some b) e sz vs→IsCells E.W b:=by
  rintro e sz vs (⟨h,_⟩ | ⟨b',c,fz,h1,h2,_⟩)
  ·cases h
  ·cases h1;exact⟨_,h2,rfl⟩
 have mrow:∀{es},MRow E (some b) es→IsCells E.W b:=by
  rintro es ⟨b',a,cl,h1,h2,_⟩
  cases h1;exact⟨_,h2,rfl⟩
 cases o with
 | dead=>exact absurd rfl hd
 | arr e sz vs=>exact arow h
 | frz e sz vs=>exact arow h
 | tok i=>exact arow h
 | mp es=>exact mrow h
 | fmp es=>exact mrow h
 | it cur es=>
  obtain⟨b',bm,seen,a,cl,h1,h2,_⟩:=h
  cases h1;exact⟨_,h2,rfl⟩
theorem EntsAt.shr {E:Env}{B:Nat}{es:List (AV×AV)}{a:Array MapEntry}(h:EntsAt E es a):EntsAt (Go.Pg.shr B E) es a:=
 ⟨h.size,fun i k x hi=>let⟨e,h1,h2,h3⟩:=h.ent i k x hi;⟨e,h1,h2.shr,h3.shr⟩⟩
theorem Rel.shr {H:AH}{E:Env}(hr:Rel H E)(B:Nat):Rel H (Go.Pg.shr B E):=by
 refine⟨hr.hl,hr.dom,?_,fun id o b h hl hm hs=>hr.nst' id o b h hl hm hs.1,fun id o b h hf hm=>⟨hr.fst' id o b h hf hm,.inr (bk_orow (E:=E) (hr.orow id o _ h hm) (AO.fixed_dead hf))⟩,hr.inj',fun b hb=>hr.stlt b hb.1⟩
 intro id o m h hm
 have h0:=hr.orow id o m h hm
 have arow:∀{e sz vs},ARow E m e sz vs→ARow (Go.Pg.shr B E) m e sz vs:=by
  rintro e sz vs (h1 | ⟨b,c,fz,h1,h2,h3,h4,h5⟩)
  ·exact .inl h1
  ·refine .inr ⟨b,c,fz,h1,h2,h3,h4,fun i v hv=>⟨(h5 i v hv).1,fun j cc hcc=>?_⟩⟩
   obtain⟨u,hu,hvr⟩:=(h5 i v hv).2 j cc hcc
   exact⟨u,hu,hvr.shr⟩
 have mrow:∀{es},MRow E m es→MRow (Go.Pg.shr B E) m es:=by
  rintro es ⟨b,a,cl,h1,h2,h3,h4⟩
  exact⟨b,a,cl,h1,h2,h3.shr,h4⟩
 cases o with
 | dead=>trivial
 | arr e sz vs=>exact arow h0
 | frz e sz vs=>exact arow h0
 | tok i=>exact arow h0
 | mp es=>exact mrow h0
 | fmp es=>exact mrow h0
 | it cur es=>
  obtain⟨b,bm,seen,a,cl,h1,h2,h3,h4,h5,h6,h7⟩:=h0
  exact⟨b,bm,seen,a,cl,h1,h2,⟨h3,.inr ⟨_,h4,rfl⟩⟩,h4,h5.shr,h6,fun k x hc=>let⟨i,e,k1,k2,k3,k4⟩:=h7 k x hc;⟨i,e,k1,k2,k3.shr,k4.shr⟩⟩
theorem Step.shr {H0 H:AH}{E0 E:Env}(h0:Rel H0 E0)(h:Step H0 E0 H E):Step H0 E0 H (Go.Pg.shr E0.W.heap.size E):=
 ⟨⟨h.mv.os,h.mv.tape,h.mv.output,h.mv.size,h.mv.keep,h.mv.shape,fun b hb hs=>h.mv.old b hb hs.1,fun b hb=>⟨h.mv.grow b hb,.inl (h0.stlt b hb)⟩⟩,h.mm,h.live⟩
theorem turn_ok {H0 H:AH}{E0 E:Env}{B:Nat}{W':World}{row:Option Nat}(hB:E0.W.heap.size≤B)(hr:Rel H E)(hs:Step H0 E0 H E)(hc:StC E0.W.heap.size E)(hg:E.W.grownBy W' row)
 (hrow:∀r,row=some r→B≤r∧∃o:Obj,E.W.heap[r]? =some o∧bk o=true) :
 Rel H { E with W:=W' }∧Step H0 E0 H { E with W:=W' }∧StC E0.W.heap.size { E with W:=W' }∧EExt E { E with W:=W' }:=by
 have hdata:∀(b:Nat) (o:Obj),E.W.heap[b]? =some o→bk o=false→W'.heap[b]? =some o:=by
  intro b o hb hk
  rw[hg.block b (Array.getElem?_eq_some_iff.1 hb).1 ?_,hb]
  intro e
  obtain⟨_,o',ho,hn⟩:=hrow b e.symm
  rw[hb] at ho
  cases ho
  rw[hk] at hn;cases hn
 have hcell:∀(b:Nat) (c:Array Value) (ty:TypeId) (fz:Nat×Nat),E.W.heap[b]? =some (Obj.cells c ty fz)→W'.heap[b]? =some (Obj.cells c ty fz):=fun b c ty fz hb=>hdata b _ hb rfl
 have hst:∀b,E.st b→W'.heap[b]? =E.W.heap[b]?:=by
  intro b hb
  refine hg.block b (hr.stlt b hb) ?_
  intro e
  obtain⟨h1,o,ho,hn⟩:=hrow b e.symm
  rcases hc b hb with h | ⟨o',h,h'⟩
  ·omega
  ·rw[h] at ho
   cases ho
   rw[h'] at hn;cases hn
 have hx:EExt E { E with W:=W' }:=⟨fun _ h=>h,hst,fun b c ty fz h=>⟨c,_,hcell b c ty fz h,rfl⟩,fun _ h=>h,fun id L _ h=>⟨L,h,Qc _,fun _=>rfl⟩⟩
 refine⟨⟨hr.hl,hr.dom,?_,hr.nst',hr.fst',hr.inj',fun b hb=>Qa (hr.stlt b hb) hg.size⟩,⟨⟨hg.os.trans hs.mv.os,hg.tape.trans hs.mv.tape,hg.output.trans hs.mv.output,Qb hs.mv.size hg.size,?_,?_,hs.mv.old,hs.mv.grow⟩,hs.mm,hs.live⟩,?_,hx⟩
 ·intro id o m h hm
  have h0:=hr.orow id o m h hm
  by_cases hd:o= .dead
  ·subst hd;trivial
  ·refine h0.mono hx fun b hb=>?_
   subst hb
   obtain⟨o',h1,h2⟩:=bk_orow h0 hd
   exact(hdata b o' h1 h2).trans h1.symm
 ·intro b hb hL
  rw[hg.block b (Qa hb hs.mv.size) ?_,hs.mv.keep b hb hL]
  intro e
  have:=(hrow b e.symm).1
  omega
 ·intro b c ty fz hb
  obtain⟨c',fz',h1,h2⟩:=hs.mv.shape b c ty fz hb
  exact⟨c',fz',hcell _ _ _ _ h1,h2⟩
 ·intro b hb
  rcases hc b hb with h | ⟨o,h,h'⟩
  ·exact .inl h
  ·exact .inr ⟨o,hdata _ _ h h',h'⟩
theorem touch_lt {H:AH}{E:Env}(hr:Rel H E){b:Nat}(h:Touch H E b):b<E.W.heap.size:=by
 rcases h with h | ⟨id,o,h1,hl,h2⟩
 ·exact hr.stlt b h
 ·exact hr.lt' h1 (AO.lives_dead hl) h2
theorem turn_own {H0 H:AH}{E0 E:Env}{S:Nat→Prop}{W':World}(hr:Rel H E)(hs:Step H0 E0 H E)(hS:∀b,S b→¬Touch H E b∧E0.W.heap.size≤b)(hg:OwnStep S E.W W') :
 Rel H { E with W:=W' }∧Step H0 E0 H { E with W:=W' }∧EExt E { E with W:=W' }:=by
 have hst:∀b,E.st b→W'.heap[b]? =E.W.heap[b]?:=fun b hb=>hg.keep b (hr.stlt b hb) (fun h=>(hS b h).1 (.inl hb))
 have hx:EExt E { E with W:=W' }:=⟨fun _ h=>h,hst,hg.shape,fun _ h=>h,fun id L _ h=>⟨L,h,Qc _,fun _=>rfl⟩⟩
 refine⟨⟨hr.hl,hr.dom,?_,hr.nst',hr.fst',hr.inj',fun b hb=>Qa (hr.stlt b hb) hg.size⟩,⟨⟨hg.os.trans hs.mv.os,hg.tape.trans hs.mv.tape,hg.output.trans hs.mv.output,Qb hs.mv.size hg.size,?_,?_,hs.mv.old,hs.mv.grow⟩,hs.mm,hs.live⟩,hx⟩
 ·intro id o m h hm
  have h0:=hr.orow id o m h hm
  by_cases hd:o= .dead
  ·subst hd;trivial
  ·refine h0.mono hx fun b hb=>?_
   subst hb
   have ht:Touch H E b:=by
    by_cases hl:o.lives=true
    ·exact .inr ⟨id,o,h,hl,hm⟩
    ·have hf:o.fixed=true:=by cases o <;> first | rfl | exact absurd rfl hl | exact absurd rfl hd
     exact .inl (hr.fst' id o b h hf hm)
   exact hg.keep b (touch_lt hr ht) (fun h=>(hS b h).1 ht)
 ·intro b hb hL
  rw[hg.keep b (Qa hb hs.mv.size) (fun h=>?_),hs.mv.keep b hb hL]
  have:=(hS b h).2
  omega
 ·intro b c ty fz hb
  obtain⟨c',fz1,h1,h2⟩:=hs.mv.shape b c ty fz hb
  obtain⟨c'',fz2,h3,h4⟩:=hg.shape b c' ty fz1 h1
  exact⟨c'',fz2,h3,h4.trans h2⟩
theorem Touch.shr {H:AH}{E:Env}{B b:Nat}(h:Touch H (Go.Pg.shr B E) b):Touch H E b:=h.elim (fun h=> .inl h.1) .inr
theorem Step.touch {H H':AH}{E E':Env}(h:Step H E H' E'){b:Nat}(hb:b<E.W.heap.size)(ht:Touch H' E' b):Touch H E b:=by
 rcases ht with ht | ht
 ·exact h.mv.old b hb ht
 ·rcases h.live b ht with h1 | h1
  ·exact .inr h1
  ·omega
end Go.Pg
