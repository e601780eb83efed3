/- Pg: abstract values, what operations, regions, calls come to on them. -/
import Derived.Test.YtjbgnnggmngpcaaGreatDoorPgGf
set_option linter.unusedVariables false
set_option linter.unusedSimpArgs false
set_option linter.unusedSectionVars false
open List renaming mem_of_getElem? → Qa,sizeOf_lt_of_mem → Qb,all_eq_true → Qd,getD_eq_getElem?_getD → Qf,mem_singleton → Qg,map → Qh
open Option renaming map_eq_some_iff → Qc
open Bool renaming and_eq_true → Qe
namespace Go.Pg
open Go
variable [Syms]
mutual
def xp:AV→AV
 | .agg cs=> .agg (xpL cs)
 | .tuple cs=> .tuple (xpL cs)
 | .sl sz vs=> .sl sz (xpL vs)
 | .slc sz vs=> .slc sz (xpL vs)
 | .rp cs=> .rp (xpL cs)
 | .fn f cs=> .fn f (xpL cs)
 | .mth f cs=> .mth f (xpL cs)
 | .cond g v=> .cond g (xp v)
 | .sym i=>Syms.av i
 | .ows id sz j=> .own id sz (Syms.ln j)
 | .top=> .top
 | .undef=> .undef
 | .nls=> .nls
 | .int k n=> .int k n
 | .bool b=> .bool b
 | .str s=> .str s
 | .own a b c=> .own a b c
 | .ptr a b c d e=> .ptr a b c d e
 | .win a b c d e=> .win a b c d e
 | .nfn=> .nfn
 | .npt=> .npt
 | .mp a=> .mp a
 | .it a=> .it a
 | .fm es=> .fm es
 | .yld l=> .yld l
 | .cst v=> .cst v
def xpL:List AV→List AV
 | []=>[]
 | x :: r=>xp x :: xpL r
end
theorem xpL_map:∀(l:List AV),xpL l=l.map xp
 | []=>by simp [xpL]
 | x :: r=>by simp [xpL,xpL_map r]
theorem xpL_length (l:List AV):(xpL l).length=l.length:=by simp [xpL_map]
theorem xpL_get {l:List AV}{i:Nat}{c:AV}:(xpL l)[i]? =some c↔∃d,l[i]? =some d∧xp d=c:=by
 simp [xpL_map,Qc]
theorem tame_cells {x:AV}(h:x.tame=true):x.cells=[x]:=by
 cases x <;> first | rfl | (simp [AV.tame] at h)
theorem xp_cells (x:AV):(xp x).cells=x.cells.map xp:=by
 cases x <;> first
  | (simp [xp,AV.cells,xpL_map];done)
  | (simp only[xp,AV.cells,Qh];exact tame_cells (Syms.tame _))
theorem xp_cells_len (x:AV):(xp x).cells.length=x.cells.length:=by simp [xp_cells]
theorem xp_cells_get {x:AV}{j:Nat}{c:AV}:(xp x).cells[j]? =some c↔∃d,x.cells[j]? =some d∧xp d=c:=by
 simp [xp_cells,Qc]
theorem xp_SlAt {W:World}{st:Nat→Prop}{vs:List AV}{a:Option Addr}{sz:Nat}{f:Nat→Nat→Value}:SlAt W st (xpL vs) a sz f↔SlAt W st vs a sz f:=by
 unfold SlAt
 constructor
 ·intro h i v hv
  have:=h i (xp v) (xpL_get.2 ⟨v,hv,rfl⟩)
  rwa [xp_cells_len] at this
 ·intro h i v hv
  obtain⟨d,hd,rfl⟩:=xpL_get.1 hv
  rw[xp_cells_len]
  exact h i d hd
theorem cells_size {v:AV}{c:AV}(h:c∈v.cells):SizeOf.sizeOf c≤SizeOf.sizeOf v:=by
 cases v with
 | agg cs=>have:=Qb (show c∈cs from h);simp;omega
 | _=>simp only[AV.cells,Qg] at h;subst h;exact Nat.le_refl _
theorem xp_list {p:Nat→AV→Prop}{cs:List AV}(ih:∀c∈cs,∀i,p i (xp c)↔p i c):(∀i c,(xpL cs)[i]? =some c→p i c)↔∀i c,cs[i]? =some c→p i c:=by
 constructor
 ·intro h i c hc
  exact(ih c (Qa hc) i).1 (h i (xp c) (xpL_get.2 ⟨c,hc,rfl⟩))
 ·intro h i c hc
  obtain⟨d,hd,rfl⟩:=xpL_get.1 hc
  exact(ih d (Qa hd) i).2 (h i d hd)
theorem xp_list2 {p:Nat→Nat→AV→Prop}{vs:List AV}(ih:∀v∈vs,∀c∈v.cells,∀i j,p i j (xp c)↔p i j c) :
 (∀i v j c,(xpL vs)[i]? =some v→v.cells[j]? =some c→p i j c)↔∀i v j c,vs[i]? =some v→v.cells[j]? =some c→p i j c:=by
 constructor
 ·intro h i v j c hv hc
  exact(ih v (Qa hv) c (Qa hc) i j).1 (h i (xp v) j (xp c) (xpL_get.2 ⟨v,hv,rfl⟩) (xp_cells_get.2 ⟨c,hc,rfl⟩))
 ·intro h i v j c hv hc
  obtain⟨d,hd,rfl⟩:=xpL_get.1 hv
  obtain⟨e,he,rfl⟩:=xp_cells_get.1 hc
  exact(ih d (Qa hd) e (Qa he) i j).2 (h i d j e hd he)
theorem xp_VP {W:World}{st:Nat→Prop}(x:AV):∀v,VP W st (xp x) v↔VP W st x v:=by
 intro v
 match x with
 | .sym i=>exact⟨.sym i v,fun h=>by cases h;assumption⟩
 | .ows id sz j=>exact⟨fun h=>(by simp only[xp] at h;cases h),fun h=>by cases h⟩
 | .cond g a=>exact⟨fun h=>(by simp only[xp] at h;cases h),fun h=>by cases h⟩
 | .mth f cs=>exact⟨fun h=>(by simp only[xp] at h;cases h),fun h=>by cases h⟩
 | .agg cs=>
  have ih:∀c∈cs,∀u,VP W st (xp c) u↔VP W st c u:=fun c hc=>xp_VP c
  simp only[xp]
  constructor
  ·intro h
   cases h with | agg _ us h1 h2=>exact .agg cs us (by rwa [xpL_length] at h1) ((xp_list (p:=fun i c=>VP W st c (us.getD i Go.undef)) fun c hc i=>ih c hc _).1 h2)
  ·intro h
   cases h with | agg _ us h1 h2=>exact .agg _ us (by rwa [xpL_length]) ((xp_list (p:=fun i c=>VP W st c (us.getD i Go.undef)) fun c hc i=>ih c hc _).2 h2)
 | .tuple cs=>
  have ih:∀c∈cs,∀u,VP W st (xp c) u↔VP W st c u:=fun c hc=>xp_VP c
  simp only[xp]
  constructor
  ·intro h
   cases h with | tuple _ us h1 h2=>exact .tuple cs us (by rwa [xpL_length] at h1) ((xp_list (p:=fun i c=>VP W st c (us.getD i Go.undef)) fun c hc i=>ih c hc _).1 h2)
  ·intro h
   cases h with | tuple _ us h1 h2=>exact .tuple _ us (by rwa [xpL_length]) ((xp_list (p:=fun i c=>VP W st c (us.getD i Go.undef)) fun c hc i=>ih c hc _).2 h2)
 | .fn f cs=>
  have ih:∀c∈cs,∀u,VP W st (xp c) u↔VP W st c u:=fun c hc=>xp_VP c
  simp only[xp]
  constructor
  ·intro h
   cases h with | fn _ _ us h1 h2=>exact .fn f cs us (by rwa [xpL_length] at h1) ((xp_list (p:=fun i c=>VP W st c (us.getD i Go.undef)) fun c hc i=>ih c hc _).1 h2)
  ·intro h
   cases h with | fn _ _ us h1 h2=>exact .fn f _ us (by rwa [xpL_length]) ((xp_list (p:=fun i c=>VP W st c (us.getD i Go.undef)) fun c hc i=>ih c hc _).2 h2)
 | .rp cs=>
  have ih:∀c∈cs,∀u,VP W st (xp c) u↔VP W st c u:=fun c hc=>xp_VP c
  simp only[xp]
  constructor
  ·intro h
   cases h with
   | rp _ b o f h1 h2 h3=>
    refine .rp cs b o f (by rwa [xpL_length] at h1) (fun j c hc=>h2 j (xp c) (xpL_get.2 ⟨c,hc,rfl⟩)) ((xp_list (p:=fun j c=>VP W st c (f j)) fun c hc i=>ih c hc _).1 h3)
  ·intro h
   cases h with
   | rp _ b o f h1 h2 h3=>
    refine .rp _ b o f (by rwa [xpL_length]) (fun j c hc=>?_) ((xp_list (p:=fun j c=>VP W st c (f j)) fun c hc i=>ih c hc _).2 h3)
    obtain⟨d,hd,rfl⟩:=xpL_get.1 hc
    exact h2 j d hd
 | .sl sz vs=>
  have ih:∀v∈vs,∀c∈v.cells,∀u,VP W st (xp c) u↔VP W st c u:=fun v hv c hc=>xp_VP c
  simp only[xp]
  constructor
  ·intro h
   generalize hq:xpL vs=ws at h
   cases h with
   | sl _ _ a cap f h1 h2 h3=>
    subst hq
    rw[xpL_length] at h1 ⊢
    exact .sl sz vs a cap f h1 (xp_SlAt.1 h2) ((xp_list2 (p:=fun i j c=>VP W st c (f i j)) fun v hv c hc i j=>ih v hv c hc _).1 h3)
  ·intro h
   cases h with
   | sl _ _ a cap f h1 h2 h3=>
    rw[←xpL_length vs] at h1 ⊢
    exact .sl sz _ a cap f h1 (xp_SlAt.2 h2) ((xp_list2 (p:=fun i j c=>VP W st c (f i j)) fun v hv c hc i j=>ih v hv c hc _).2 h3)
 | .slc sz vs=>
  have ih:∀v∈vs,∀c∈v.cells,∀u,VP W st (xp c) u↔VP W st c u:=fun v hv c hc=>xp_VP c
  simp only[xp]
  constructor
  ·intro h
   generalize hq:xpL vs=ws at h
   cases h with
   | slc _ _ a f h2 h3=>
    subst hq
    rw[xpL_length]
    exact .slc sz vs a f (xp_SlAt.1 h2) ((xp_list2 (p:=fun i j c=>VP W st c (f i j)) fun v hv c hc i j=>ih v hv c hc _).1 h3)
  ·intro h
   cases h with
   | slc _ _ a f h2 h3=>
    rw[←xpL_length vs]
    exact .slc sz _ a f (xp_SlAt.2 h2) ((xp_list2 (p:=fun i j c=>VP W st c (f i j)) fun v hv c hc i j=>ih v hv c hc _).2 h3)
 | .top | .undef | .nls | .int _ _ | .bool _ | .str _ | .own _ _ _ | .ptr _ _ _ _ _ | .win _ _ _ _ _ | .nfn | .npt | .mp _ | .it _ | .fm _ | .yld _ | .cst _=>simp only[xp]
termination_by SizeOf.sizeOf x
decreasing_by
 all_goals simp_wf
 all_goals first
  | (have h1:=cells_size ‹c∈AV.cells _›;have h2:=Qb ‹_∈vs›;omega)
  | (have h1:=Qb ‹c∈cs›;omega)
end Go.Pg
namespace Go.Pg
open Go
variable [Syms]
theorem xp_VR {E:Env}(x:AV):∀v,VR E (xp x) v↔VR E x v:=by
 intro v
 match x with
 | .sym i=>exact⟨fun h=> .sym i v (pureLeaf_VP h (tame_pure (Syms.tame i))),fun h=>by cases h with | sym _ _ h=>exact h.vr⟩
 | .ows id sz j=>exact⟨fun h=> .ows id sz j v h,fun h=>by cases h with | ows _ _ _ _ h=>exact h⟩
 | .cond g a=>
  have ih:∀u,VR E (xp a) u↔VR E a u:=xp_VR a
  simp only[xp]
  constructor
  ·intro h
   cases h with
   | condT _ _ h=>exact .condT _ _ ((ih _).1 h)
   | condF _=>exact .condF _
  ·intro h
   cases h with
   | condT _ _ h=>exact .condT _ _ ((ih _).2 h)
   | condF _=>exact .condF _
 | .mth f cs=>
  have ih:∀c∈cs,∀u,VR E (xp c) u↔VR E c u:=fun c hc=>xp_VR c
  simp only[xp]
  constructor
  ·intro h
   cases h with | mth _ _ us h1 h2=>exact .mth f cs us (by rwa [xpL_length] at h1) ((xp_list (p:=fun i c=>VR E c (us.getD i Go.undef)) fun c hc i=>ih c hc _).1 h2)
  ·intro h
   cases h with | mth _ _ us h1 h2=>exact .mth f _ us (by rwa [xpL_length]) ((xp_list (p:=fun i c=>VR E c (us.getD i Go.undef)) fun c hc i=>ih c hc _).2 h2)
 | .agg cs=>
  have ih:∀c∈cs,∀u,VR E (xp c) u↔VR E c u:=fun c hc=>xp_VR c
  simp only[xp]
  constructor
  ·intro h
   cases h with | agg _ us h1 h2=>exact .agg cs us (by rwa [xpL_length] at h1) ((xp_list (p:=fun i c=>VR E c (us.getD i Go.undef)) fun c hc i=>ih c hc _).1 h2)
  ·intro h
   cases h with | agg _ us h1 h2=>exact .agg _ us (by rwa [xpL_length]) ((xp_list (p:=fun i c=>VR E c (us.getD i Go.undef)) fun c hc i=>ih c hc _).2 h2)
 | .tuple cs=>
  have ih:∀c∈cs,∀u,VR E (xp c) u↔VR E c u:=fun c hc=>xp_VR c
  simp only[xp]
  constructor
  ·intro h
   cases h with | tuple _ us h1 h2=>exact .tuple cs us (by rwa [xpL_length] at h1) ((xp_list (p:=fun i c=>VR E c (us.getD i Go.undef)) fun c hc i=>ih c hc _).1 h2)
  ·intro h
   cases h with | tuple _ us h1 h2=>exact .tuple _ us (by rwa [xpL_length]) ((xp_list (p:=fun i c=>VR E c (us.getD i Go.undef)) fun c hc i=>ih c hc _).2 h2)
 | .fn f cs=>
  have ih:∀c∈cs,∀u,VR E (xp c) u↔VR E c u:=fun c hc=>xp_VR c
  simp only[xp]
  constructor
  ·intro h
   cases h with | fn _ _ us h1 h2=>exact .fn f cs us (by rwa [xpL_length] at h1) ((xp_list (p:=fun i c=>VR E c (us.getD i Go.undef)) fun c hc i=>ih c hc _).1 h2)
  ·intro h
   cases h with | fn _ _ us h1 h2=>exact .fn f _ us (by rwa [xpL_length]) ((xp_list (p:=fun i c=>VR E c (us.getD i Go.undef)) fun c hc i=>ih c hc _).2 h2)
 | .rp cs=>
  have ih:∀c∈cs,∀u,VP E.W E.st (xp c) u↔VP E.W E.st c u:=fun c hc=>xp_VP c
  simp only[xp]
  constructor
  ·intro h
   cases h with
   | rp _ b o f h1 h2 h3=>
    refine .rp cs b o f (by rwa [xpL_length] at h1) (fun j c hc=>h2 j (xp c) (xpL_get.2 ⟨c,hc,rfl⟩)) ((xp_list (p:=fun j c=>VP E.W E.st c (f j)) fun c hc i=>ih c hc _).1 h3)
  ·intro h
   cases h with
   | rp _ b o f h1 h2 h3=>
    refine .rp _ b o f (by rwa [xpL_length]) (fun j c hc=>?_) ((xp_list (p:=fun j c=>VP E.W E.st c (f j)) fun c hc i=>ih c hc _).2 h3)
    obtain⟨d,hd,rfl⟩:=xpL_get.1 hc
    exact h2 j d hd
 | .sl sz vs=>
  have ih:∀v∈vs,∀c∈v.cells,∀u,VP E.W E.st (xp c) u↔VP E.W E.st c u:=fun v hv c hc=>xp_VP c
  simp only[xp]
  constructor
  ·intro h
   generalize hq:xpL vs=ws at h
   cases h with
   | sl _ _ a cap f h1 h2 h3=>
    subst hq
    rw[xpL_length] at h1 ⊢
    exact .sl sz vs a cap f h1 (xp_SlAt.1 h2) ((xp_list2 (p:=fun i j c=>VP E.W E.st c (f i j)) fun v hv c hc i j=>ih v hv c hc _).1 h3)
  ·intro h
   cases h with
   | sl _ _ a cap f h1 h2 h3=>
    rw[←xpL_length vs] at h1 ⊢
    exact .sl sz _ a cap f h1 (xp_SlAt.2 h2) ((xp_list2 (p:=fun i j c=>VP E.W E.st c (f i j)) fun v hv c hc i j=>ih v hv c hc _).2 h3)
 | .slc sz vs=>
  have ih:∀v∈vs,∀c∈v.cells,∀u,VP E.W E.st (xp c) u↔VP E.W E.st c u:=fun v hv c hc=>xp_VP c
  simp only[xp]
  constructor
  ·intro h
   generalize hq:xpL vs=ws at h
   cases h with
   | slc _ _ a f h2 h3=>
    subst hq
    rw[xpL_length]
    exact .slc sz vs a f (xp_SlAt.1 h2) ((xp_list2 (p:=fun i j c=>VP E.W E.st c (f i j)) fun v hv c hc i j=>ih v hv c hc _).1 h3)
  ·intro h
   cases h with
   | slc _ _ a f h2 h3=>
    rw[←xpL_length vs]
    exact .slc sz _ a f (xp_SlAt.2 h2) ((xp_list2 (p:=fun i j c=>VP E.W E.st c (f i j)) fun v hv c hc i j=>ih v hv c hc _).2 h3)
 | .top | .undef | .nls | .int _ _ | .bool _ | .str _ | .own _ _ _ | .ptr _ _ _ _ _ | .win _ _ _ _ _ | .nfn | .npt | .mp _ | .it _ | .fm _ | .yld _ | .cst _=>simp only[xp]
termination_by SizeOf.sizeOf x
decreasing_by
 all_goals simp_wf
 all_goals first
  | (have h1:=cells_size ‹c∈AV.cells _›;have h2:=Qb ‹_∈vs›;omega)
  | (have h1:=Qb ‹c∈cs›;omega)
theorem xp_VRs {E:Env}{as:List AV}{vs:Array Value}:VRs E (xpL as) vs↔VRs E as vs:=by
 unfold VRs
 rw[xpL_length]
 exact and_congr_right fun _=>xp_list (p:=fun i c=>VR E c (vs.getD i Go.undef)) fun c _ i=>xp_VR c _
def xpE (es:List (AV×AV)):List (AV×AV):=es.map fun e=>(xp e.1,xp e.2)
def xpO:AO→AO
 | .dead=> .dead
 | .arr e sz vs=> .arr e sz (xpL vs)
 | .frz e sz vs=> .frz e sz (xpL vs)
 | .mp es=> .mp (xpE es)
 | .fmp es=> .fmp (xpE es)
 | .it cur es=> .it (cur.map fun e=>(xp e.1,xp e.2)) (xpE es)
 | .tok i=> .arr (Syms.ae i) (Syms.az i) (Syms.avs i)
def xpH (H:AH):AH:=H.map xpO
theorem xpO_len (o:AO):(xpO o).len=o.len:=by cases o <;> simp [xpO,AO.len,xpL_length]
theorem xpO_lives (o:AO):(xpO o).lives=o.lives:=by cases o <;> rfl
theorem xpO_fixed (o:AO):(xpO o).fixed=o.fixed:=by cases o <;> rfl
theorem xpH_get {H:AH}{id:Nat}{o:AO}:(xpH H)[id]? =some o↔∃d,H[id]? =some d∧xpO d=o:=by
 simp [xpH,Qc]
theorem xpH_hl (H:AH):hlOf (xpH H)=hlOf H:=by
 funext id
 unfold hlOf xpH
 rw[List.getElem?_map]
 cases H[id]? with
 | none=>rfl
 | some o=>exact xpO_len o
theorem xp_ARow {E:Env}{m:Option Nat}{e:TypeId}{sz:Nat}{vs:List AV}:ARow E m e sz (xpL vs)↔ARow E m e sz vs:=by
 unfold ARow
 constructor
 ·rintro(⟨h1,h2⟩ | ⟨b,c,fz,h1,h2,h3,h4,h5⟩)
  ·exact .inl ⟨h1,List.length_eq_zero_iff.1 (by rw[←xpL_length,h2];rfl)⟩
  ·refine .inr ⟨b,c,fz,h1,h2,by rwa [xpL_length] at h3,h4,fun i v hv=>?_⟩
   obtain⟨g1,g2⟩:=h5 i (xp v) (xpL_get.2 ⟨v,hv,rfl⟩)
   rw[xp_cells_len] at g1
   refine⟨g1,fun j cc hc=>?_⟩
   obtain⟨u,hu,hr⟩:=g2 j (xp cc) (xp_cells_get.2 ⟨cc,hc,rfl⟩)
   exact⟨u,hu,(xp_VR _ _).1 hr⟩
 ·rintro(⟨h1,h2⟩ | ⟨b,c,fz,h1,h2,h3,h4,h5⟩)
  ·subst h2;exact .inl ⟨h1,by simp [xpL]⟩
  ·refine .inr ⟨b,c,fz,h1,h2,by rwa [xpL_length],h4,fun i v hv=>?_⟩
   obtain⟨d,hd,rfl⟩:=xpL_get.1 hv
   obtain⟨g1,g2⟩:=h5 i d hd
   refine⟨by rwa [xp_cells_len],fun j cc hc=>?_⟩
   obtain⟨q,hq,rfl⟩:=xp_cells_get.1 hc
   obtain⟨u,hu,hr⟩:=g2 j q hq
   exact⟨u,hu,(xp_VR _ _).2 hr⟩
theorem xpE_get {es:List (AV×AV)}{i:Nat}{k x:AV}:(xpE es)[i]? =some (k,x)↔∃k' x',es[i]? =some (k',x')∧xp k'=k∧xp x'=x:=by
 simp [xpE,Qc]
theorem xp_Ents {E:Env}{es:List (AV×AV)}{a:Array MapEntry}:EntsAt E (xpE es) a↔EntsAt E es a:=by
 constructor
 ·rintro⟨h1,h2⟩
  refine⟨by simpa [xpE] using h1,fun i k x h=>?_⟩
  obtain⟨e,q1,q2,q3⟩:=h2 i (xp k) (xp x) (xpE_get.2 ⟨k,x,h,rfl,rfl⟩)
  exact⟨e,q1,(xp_VP _ _).1 q2,(xp_VP _ _).1 q3⟩
 ·rintro⟨h1,h2⟩
  refine⟨by simpa [xpE] using h1,fun i k x h=>?_⟩
  obtain⟨k',x',hk,rfl,rfl⟩:=xpE_get.1 h
  obtain⟨e,q1,q2,q3⟩:=h2 i k' x' hk
  exact⟨e,q1,(xp_VP _ _).2 q2,(xp_VP _ _).2 q3⟩
theorem xp_MRow {E:Env}{m:Option Nat}{es:List (AV×AV)}:MRow E m (xpE es)↔MRow E m es:=by
 unfold MRow
 simp only[xp_Ents]
theorem xp_IRow {E:Env}{m:Option Nat}{cur:Option (AV×AV)}{es:List (AV×AV)}:IRow E m (cur.map fun e=>(xp e.1,xp e.2)) (xpE es)↔IRow E m cur es:=by
 unfold IRow
 simp only[xp_Ents]
 constructor
 ·rintro⟨b,bm,seen,a,clock,h1,h2,h3,h4,h5,h6,h7⟩
  refine⟨b,bm,seen,a,clock,h1,h2,h3,h4,h5,h6,fun k x hc=>?_⟩
  subst hc
  obtain⟨i,e,q1,q2,q3,q4⟩:=h7 _ _ rfl
  exact⟨i,e,q1,q2,(xp_VP _ _).1 q3,(xp_VP _ _).1 q4⟩
 ·rintro⟨b,bm,seen,a,clock,h1,h2,h3,h4,h5,h6,h7⟩
  refine⟨b,bm,seen,a,clock,h1,h2,h3,h4,h5,h6,fun k x hc=>?_⟩
  rw[Qc] at hc
  obtain⟨⟨k',x'⟩,hc,he⟩:=hc
  cases he
  obtain⟨i,e,q1,q2,q3,q4⟩:=h7 _ _ hc
  exact⟨i,e,q1,q2,(xp_VP _ _).2 q3,(xp_VP _ _).2 q4⟩
theorem xp_ORow {E:Env}{m:Option Nat}(o:AO):ORow E m (xpO o)↔ORow E m o:=by
 cases o with
 | dead=>exact Iff.rfl
 | arr e sz vs=>exact xp_ARow
 | frz e sz vs=>exact xp_ARow
 | mp es=>exact xp_MRow
 | fmp es=>exact xp_MRow
 | it cur es=>exact xp_IRow
 | tok i=>exact Iff.rfl
theorem xp_Rel {H:AH}{E:Env}:Rel (xpH H) E↔Rel H E:=by
 constructor
 ·rintro⟨h1,h2,h3,h4,h5,h6,h7⟩
  refine⟨by rw[h1,xpH_hl],fun id h=>h2 id (by simpa [xpH] using h),fun id o m h hm=>(xp_ORow o).1 (h3 id _ m (xpH_get.2 ⟨o,h,rfl⟩) hm),fun id o b h hl=>h4 id _ b (xpH_get.2 ⟨o,h,rfl⟩) (by rwa [xpO_lives]),
   fun id o b h hl=>h5 id _ b (xpH_get.2 ⟨o,h,rfl⟩) (by rwa [xpO_fixed]),fun id id' o o' b h h' hl hl'=>h6 id id' _ _ b (xpH_get.2 ⟨o,h,rfl⟩) (xpH_get.2 ⟨o',h',rfl⟩) (by rwa [xpO_lives]) (by rwa [xpO_lives]),h7⟩
 ·rintro⟨h1,h2,h3,h4,h5,h6,h7⟩
  refine⟨by rw[h1,xpH_hl],fun id h=>h2 id (by simpa [xpH] using h),fun id o m h hm=>?_,fun id o b h hl=>?_,fun id o b h hl=>?_,fun id id' o o' b h h' hl hl'=>?_,h7⟩
  ·obtain⟨d,hd,rfl⟩:=xpH_get.1 h
   exact(xp_ORow d).2 (h3 id d m hd hm)
  ·obtain⟨d,hd,rfl⟩:=xpH_get.1 h
   exact h4 id d b hd (by rwa [xpO_lives] at hl)
  ·obtain⟨d,hd,rfl⟩:=xpH_get.1 h
   exact h5 id d b hd (by rwa [xpO_fixed] at hl)
  ·obtain⟨d,hd,rfl⟩:=xpH_get.1 h
   obtain⟨d',hd',rfl⟩:=xpH_get.1 h'
   exact h6 id id' d d' b hd hd' (by rwa [xpO_lives] at hl) (by rwa [xpO_lives] at hl')
theorem xp_Live {H:AH}{M:Nat→Option (Option Nat)}:Live (xpH H) M=Live H M:=by
 funext b
 apply propext
 unfold Live
 constructor
 ·rintro⟨id,o,h1,h2,h3⟩
  obtain⟨d,hd,rfl⟩:=xpH_get.1 h1
  exact⟨id,d,hd,by rwa [xpO_lives] at h2,h3⟩
 ·rintro⟨id,o,h1,h2,h3⟩
  exact⟨id,_,xpH_get.2 ⟨o,h1,rfl⟩,by rwa [xpO_lives],h3⟩
theorem xp_Step {H H':AH}{E E':Env}:Step (xpH H) E (xpH H') E'↔Step H E H' E':=by
 constructor
 ·rintro⟨h1,h2,h3⟩
  rw[xp_Live] at h1 h3
  rw[xp_Live] at h3
  exact⟨h1,h2,h3⟩
 ·rintro⟨h1,h2,h3⟩
  refine⟨?_,h2,?_⟩
  ·rwa [xp_Live]
  ·rwa [xp_Live,xp_Live]
theorem calls_xp {P:Program}{f:FuncId}{as:List AV}{H:AH}{r:AV}{H':AH}:CallsR P f (xpL as) (xpH H) (xp r) (xpH H')↔CallsR P f as H r H':=by
 unfold CallsR
 simp only[xp_Rel,xp_VRs,xp_VR,xp_Step]
end Go.Pg
namespace Go.Pg
open Go
variable [Syms]
def opkV (P:Program):OpK→List AV→Option AV
 | .bin op t,[x,y]=>binO P op t x y
 | .un .not,[.bool b]=>some (.bool (!b))
 | .un .neg,[.int k n]=>some (.int k (k.wrap (0 - n)))
 | .len t,[x]=>match tk P t,x with
  | .str,.str s=>some (.int .i64 s.length)
  | .slice _ _,y=>(slen y).map fun(n:Nat)=>AV.int .i64 (n:Int)
  | _,_=>none
 | .mn,.int k a :: r=>(foldInts min k a r).map (.int k)
 | .mx,.int k a :: r=>(foldInts max k a r).map (.int k)
 | .cvt s d,[x]=>match tk P s,tk P d,x with
  | .other,_,_=>none
  | _,.int k,.int _ n=>some (.int k (k.wrap n))
  | _,.str,.str s=>some (.str s)
  | _,_,_=>none
 | .idx t,[x,i]=>match tk P t,x,i with
  | .slice e sz,.sl z vs,.int _ n=>if 0≤n∧n.toNat<vs.length∧z=sz then some (.rp (vs.getD n.toNat (dz P e)).cells) else none
  | _,_,_=>none
 | .sidx t,[x,i]=>match tk P t,x,i with
  | .str,.str s,.int _ n=>if 0≤n∧n.toNat<s.length then some (.int .u8 (s.getD n.toNat 0).toNat) else none
  | _,_,_=>none
 | .sub t 0,[x]=>match tk P t with
  | .str=>sliceSO x none none none
  | .slice _ sz=>sliceLO sz x none none none
  | _=>none
 | .sub t 1,[x,l]=>match tk P t with
  | .str=>sliceSO x (some l) none none
  | .slice _ sz=>sliceLO sz x (some l) none none
  | _=>none
 | .sub t 2,[x,h]=>match tk P t with
  | .str=>sliceSO x none (some h) none
  | .slice _ sz=>sliceLO sz x none (some h) none
  | _=>none
 | .sub t 3,[x,l,h]=>match tk P t with
  | .str=>sliceSO x (some l) (some h) none
  | .slice _ sz=>sliceLO sz x (some l) (some h) none
  | _=>none
 | _,_=>none
def xpEv (ev:AEnv):AEnv:=ev.map fun p=>(p.1,xp p.2)
theorem look_xp (t:Tmp):∀(ev:AEnv),look t (xpEv ev)=xp (look t ev)
 | []=>by simp [xpEv,look,xp]
 | (u,v) :: r=>by
  have:=look_xp t r
  simp only[xpEv,Qh,look] at this ⊢
  split
  ·rfl
  ·exact this
theorem xp_ofLeaf (v:Value):xp (ofLeaf v)=ofLeaf v:=by
 unfold ofLeaf
 split <;> simp only[xp]
theorem xp_ofV (v:Value):xp (ofV v)=ofV v:=by
 unfold ofV
 split
 ·simp only[xp,xpL_map,List.map_map]
  congr 1
  exact List.map_congr_left fun c _=>xp_ofLeaf c
 ·split <;> simp only[xp]
 ·exact xp_ofLeaf v
theorem opnd_xp (ev:AEnv)(x:Operand):opnd (xpEv ev) x=xp (opnd ev x):=by
 cases x with
 | tmp t=>exact look_xp t ev
 | const v=>exact(xp_ofV v).symm
 | func f=>simp only[opnd,xp,xpL]
 | global g=>simp only[opnd,xp]
theorem opk_xp {ev:AEnv}{o:Oper}{k:OpK}{xs:List AV}(h:opk ev o=some (k,xs)):opk (xpEv ev) o=some (k,xs.map xp):=by
 unfold opk at h ⊢
 split at h
 all_goals try (cases h;simp only[opnd_xp,Qh];done)
 ·split at h <;> (cases h;simp only[opnd_xp,Qh])
 ·split at h
  ·split at h
   ·next h1 h2=>cases h;simp [h1,h2,opnd_xp]
   ·cases h
  ·cases h;simp [opnd_xp]
  ·cases h;simp [opnd_xp]
  ·cases h
 ·cases h
theorem pureO_opk {P:Program}{ev:AEnv}{o:Oper}{k:OpK}{xs:List AV}{v:AV}(h:opk ev o=some (k,xs))(hv:opkV P k xs=some v):pureO P ev o=some v:=by
 unfold opk at h
 unfold pureO
 split at h
 ·next op t x y c ho=>cases h;rw[ho];exact hv
 ·next op t x ho=>
  cases h
  rw[ho]
  simp only[opkV] at hv
  cases op <;> cases hx:opnd ev x <;> simp_all [opkV]
 ·next s d x ho=>cases h;rw[ho];exact hv
 ·next t x i ho=>
  cases h
  rw[ho]
  simp only[opkV] at hv
  split at hv
  ·next h1 h2 h3=>simp only[h1,h2,h3];exact hv
  ·cases hv
 ·next t x i ho=>
  cases h
  rw[ho]
  simp only[opkV] at hv
  split at hv
  ·next h1 h2 h3=>simp only[h1,h2,h3];exact hv
  ·cases hv
 ·next t x lo hi ho=>
  rw[ho]
  split at h <;> (cases h;simp only[opkV] at hv;split at hv <;> first | (next h1=>simp only[h1,Option.map];exact hv) | cases hv)
 ·next b args ats ty ho=>
  rw[ho]
  split at h
  ·split at h
   ·next x t h1 h2=>
    cases h
    simp only[h1,h2]
    simp only[opkV] at hv
    split at hv
    ·next h3 h4=>cases hv;simp [h3,h4]
    ·next h3=>simp only[h3];exact hv
    ·cases hv
   ·cases h
  ·cases h
   simp only
   unfold opkV at hv
   split at hv <;> simp_all
  ·cases h
   simp only
   unfold opkV at hv
   split at hv <;> simp_all
  ·cases h
 ·cases h
theorem tblOK_of {P:Program}(h:∀r∈Syms.tbl,opkV P r.1 (xpL r.2.1)=some (xp r.2.2)):TblOK P:=by
 intro k xs v hm ev o ho
 have h1:=pureO_opk (opk_xp ho) (by rw[←xpL_map];exact h _ hm)
 obtain⟨V',h2,h3⟩:=pureK_sound (pureO_K h1)
 cases h3
 intro E a ha
 obtain⟨u,hu,hr⟩:=h2 E a (fun x hx=>by rw[opnd_xp];exact(xp_VR _ _).2 (ha x hx))
 exact⟨u,(xp_VR _ _).1 hu,hr⟩
end Go.Pg
namespace Go.Pg
open Go
variable [Syms]
def beqHs:AH→AH→Bool
 | [],[]=>true
 | x :: r,y :: s=>beqO x y && beqHs r s
 | _,_=>false
theorem beqHs_eq:∀(a b:AH),beqHs a b=true→a=b
 | [],[],_=>rfl
 | [],_ :: _,h=>by cases h
 | _ :: _,[],h=>by cases h
 | x :: r,y :: s,h=>by
  simp only[beqHs,Qe] at h
  rw[(beqO_eq h.1).1,beqHs_eq r s h.2]
structure CRow where
 f:FuncId
 as:List AV
 H:AH
 r:AV
 H':AH
def CRow.ok (P:Program)(c:CRow):Prop:=CallsR P c.f c.as c.H c.r c.H'
theorem CRow.ok_of {P:Program}{c:CRow}(h:CallsR P c.f (xpL c.as) (xpH c.H) (xp c.r) (xpH c.H')):c.ok P:=calls_xp.1 h
def rowsF:List CRow→FuncId→List AV→AH→Option (AV×AH)
 | [],_,_,_=>none
 | c :: l,f,as,H=>match Nat.beq c.f f && (beqL c.as as && beqHs c.H H) with
  | true=>some (c.r,c.H')
  | false=>rowsF l f as H
theorem rowsF_ok {P:Program}:∀{l:List CRow},(∀c∈l,c.ok P)→∀f as H r H',rowsF l f as H=some (r,H')→CallsR P f as H r H'
 | c :: l,hl,f,as,H,r,H',h=>by
  unfold rowsF at h
  split at h
  ·next he=>
   simp only[Qe] at he
   obtain⟨h1,h2,h3⟩:=he
   cases Nat.eq_of_beq_eq_true h1
   cases beqL_eq _ _ h2
   cases beqHs_eq _ _ h3
   cases h
   exact hl c (by simp)
  ·exact rowsF_ok (fun c' hc'=>hl c' (List.mem_cons_of_mem _ hc')) f as H r H' h
def Lf.rows (l:List CRow)(L:Lf):Lf:={ L with fn:=fun f as H=>match rowsF l f as H with
 | some x=>some x
 | none=>L.fn f as H }
theorem LfOK.rows {P:Program}{L:Lf}(hL:LfOK P L){l:List CRow}(hl:∀c∈l,c.ok P):LfOK P (L.rows l):=by
 refine⟨hL.tb,?_,hL.tl,hL.idl,hL.ext⟩
 intro f as H r H' h
 simp only[Lf.rows] at h
 split at h
 ·next x hx=>cases h;exact rowsF_ok hl _ _ _ _ _ hx
 ·exact hL.fn _ _ _ _ _ h
end Go.Pg
namespace Go.Pg
open Go
mutual
def nt:AV→Bool
 | .sym _=>false
 | .ows _ _ _=>false
 | .agg cs=>ntL cs
 | .tuple cs=>ntL cs
 | .sl _ cs=>ntL cs
 | .slc _ cs=>ntL cs
 | .rp cs=>ntL cs
 | .fn _ cs=>ntL cs
 | .mth _ cs=>ntL cs
 | .cond _ v=>nt v
 | .fm _=>false
 | _=>true
def ntL:List AV→Bool
 | []=>true
 | x :: r=>nt x && ntL r
end
theorem ntL_mem:∀{l:List AV},ntL l=true→∀c∈l,nt c=true
 | x :: r,h,c,hc=>by
  simp only[ntL,Qe] at h
  simp only[List.mem_cons] at hc
  rcases hc with rfl | hc
  ·exact h.1
  ·exact ntL_mem h.2 c hc
theorem nt_cells {v:AV}(h:nt v=true):∀c∈v.cells,nt c=true:=by
 cases v with
 | agg cs=>simp only[nt] at h;exact ntL_mem h
 | _=>intro c hc;simp only[AV.cells,Qg] at hc;subst hc;exact h
theorem ntL_cells {vs:List AV}(h:ntL vs=true):∀v∈vs,∀c∈v.cells,nt c=true:=fun v hv=>nt_cells (ntL_mem h v hv)
theorem tr_VP (S1 S2:Syms){W:World}{st:Nat→Prop}(x:AV)(hn:nt x=true):∀v,@VP S1 W st x v→ @VP S2 W st x v:=by
 intro v h
 match x,hn with
 | .top,_=>cases h
 | .undef,_=>cases h;exact .undef
 | .nls,_=>cases h;exact .nls
 | .nfn,_=>cases h;exact .nfn
 | .npt,_=>cases h;exact .npt
 | .yld l,_=>cases h;exact .yld l
 | .cst v,_=>cases h;exact .cst _
 | .int k n,_=>cases h;exact .int k n
 | .bool b,_=>cases h;exact .bool b
 | .str s,_=>cases h with | str s=>exact .str s
 | .own _ _ _,_=>cases h
 | .ptr _ _ _ _ _,_=>cases h
 | .win _ _ _ _ _,_=>cases h
 | .mp _,_=>cases h
 | .it _,_=>cases h
 | .mth _ _,_=>cases h
 | .cond _ _,_=>cases h
 | .agg cs,hn=>
  have ih:∀c∈cs,∀u,@VP S1 W st c u→ @VP S2 W st c u:=fun c hc=>tr_VP S1 S2 c (ntL_mem (by simpa [nt] using hn) c hc)
  cases h with | agg _ us h1 h2=>exact .agg cs us h1 fun i c hc=>ih c (Qa hc) _ (h2 i c hc)
 | .tuple cs,hn=>
  have ih:∀c∈cs,∀u,@VP S1 W st c u→ @VP S2 W st c u:=fun c hc=>tr_VP S1 S2 c (ntL_mem (by simpa [nt] using hn) c hc)
  cases h with | tuple _ us h1 h2=>exact .tuple cs us h1 fun i c hc=>ih c (Qa hc) _ (h2 i c hc)
 | .fn f cs,hn=>
  have ih:∀c∈cs,∀u,@VP S1 W st c u→ @VP S2 W st c u:=fun c hc=>tr_VP S1 S2 c (ntL_mem (by simpa [nt] using hn) c hc)
  cases h with | fn _ _ us h1 h2=>exact .fn f cs us h1 fun i c hc=>ih c (Qa hc) _ (h2 i c hc)
 | .rp cs,hn=>
  have ih:∀c∈cs,∀u,@VP S1 W st c u→ @VP S2 W st c u:=fun c hc=>tr_VP S1 S2 c (ntL_mem (by simpa [nt] using hn) c hc)
  cases h with | rp _ b o f h1 h2 h3=>exact .rp cs b o f h1 h2 fun i c hc=>ih c (Qa hc) _ (h3 i c hc)
 | .sl sz vs,hn=>
  have ih:∀v∈vs,∀c∈v.cells,∀u,@VP S1 W st c u→ @VP S2 W st c u:=fun v hv c hc=>tr_VP S1 S2 c (ntL_cells (by simpa [nt] using hn) v hv c hc)
  cases h with | sl _ _ a cap f h1 h2 h3=>exact .sl sz vs a cap f h1 h2 fun i v j c hv hc=>ih v (Qa hv) c (Qa hc) _ (h3 i v j c hv hc)
 | .slc sz vs,hn=>
  have ih:∀v∈vs,∀c∈v.cells,∀u,@VP S1 W st c u→ @VP S2 W st c u:=fun v hv c hc=>tr_VP S1 S2 c (ntL_cells (by simpa [nt] using hn) v hv c hc)
  cases h with | slc _ _ a f h2 h3=>exact .slc sz vs a f h2 fun i v j c hv hc=>ih v (Qa hv) c (Qa hc) _ (h3 i v j c hv hc)
termination_by SizeOf.sizeOf x
decreasing_by
 all_goals simp_wf
 all_goals first
  | (have h1:=cells_size ‹c∈AV.cells _›;have h2:=Qb ‹_∈vs›;omega)
  | (have h1:=Qb ‹c∈cs›;omega)
theorem tr_VR (S1 S2:Syms){E:Env}(x:AV)(hn:nt x=true):∀v,@VR S1 E x v→ @VR S2 E x v:=by
 intro v h
 match x,hn with
 | .top,_=>exact .top v
 | .undef,_=>cases h;exact .undef
 | .nls,_=>cases h;exact .nls
 | .nfn,_=>cases h;exact .nfn
 | .npt,_=>cases h;exact .npt
 | .yld l,_=>cases h;exact .yld l
 | .cst v,_=>cases h;exact .cst _
 | .int k n,_=>cases h;exact .int k n
 | .bool b,_=>cases h;exact .bool b
 | .str s,_=>cases h with | str s=>exact .str s
 | .own a b c,_=>cases h with | own _ _ _ p cap h1 h2 h3=>exact .own a b c p cap h1 h2 h3
 | .ptr a b c d e,_=>cases h with | ptr _ _ _ _ _ p h1 h2=>exact .ptr a b c d e p h1 h2
 | .win a b c d e,_=>cases h with | win _ _ _ _ _ p cap h1 h2 h3=>exact .win a b c d e p cap h1 h2 h3
 | .mp a,_=>cases h with | mp _ b h1 h2=>exact .mp a b h1 h2
 | .it a,_=>cases h with | it _ b h1 h2=>exact .it a b h1 h2
 | .cond g y,hn=>
  have ih:∀u,@VR S1 E y u→ @VR S2 E y u:=tr_VR S1 S2 y (by simpa [nt] using hn)
  cases h with
  | condT _ _ h=>exact .condT _ _ (ih _ h)
  | condF _=>exact .condF _
 | .agg cs,hn=>
  have ih:∀c∈cs,∀u,@VR S1 E c u→ @VR S2 E c u:=fun c hc=>tr_VR S1 S2 c (ntL_mem (by simpa [nt] using hn) c hc)
  cases h with | agg _ us h1 h2=>exact .agg cs us h1 fun i c hc=>ih c (Qa hc) _ (h2 i c hc)
 | .tuple cs,hn=>
  have ih:∀c∈cs,∀u,@VR S1 E c u→ @VR S2 E c u:=fun c hc=>tr_VR S1 S2 c (ntL_mem (by simpa [nt] using hn) c hc)
  cases h with | tuple _ us h1 h2=>exact .tuple cs us h1 fun i c hc=>ih c (Qa hc) _ (h2 i c hc)
 | .fn f cs,hn=>
  have ih:∀c∈cs,∀u,@VR S1 E c u→ @VR S2 E c u:=fun c hc=>tr_VR S1 S2 c (ntL_mem (by simpa [nt] using hn) c hc)
  cases h with | fn _ _ us h1 h2=>exact .fn f cs us h1 fun i c hc=>ih c (Qa hc) _ (h2 i c hc)
 | .mth f cs,hn=>
  have ih:∀c∈cs,∀u,@VR S1 E c u→ @VR S2 E c u:=fun c hc=>tr_VR S1 S2 c (ntL_mem (by simpa [nt] using hn) c hc)
  cases h with | mth _ _ us h1 h2=>exact .mth f cs us h1 fun i c hc=>ih c (Qa hc) _ (h2 i c hc)
 | .rp cs,hn=>
  cases h with | rp _ b o f h1 h2 h3=>exact .rp cs b o f h1 h2 fun i c hc=>tr_VP S1 S2 c (ntL_mem (by simpa [nt] using hn) c (Qa hc)) _ (h3 i c hc)
 | .sl sz vs,hn=>
  cases h with | sl _ _ a cap f h1 h2 h3=>exact .sl sz vs a cap f h1 h2 fun i v j c hv hc=>tr_VP S1 S2 c (ntL_cells (by simpa [nt] using hn) v (Qa hv) c (Qa hc)) _ (h3 i v j c hv hc)
 | .slc sz vs,hn=>
  cases h with | slc _ _ a f h2 h3=>exact .slc sz vs a f h2 fun i v j c hv hc=>tr_VP S1 S2 c (ntL_cells (by simpa [nt] using hn) v (Qa hv) c (Qa hc)) _ (h3 i v j c hv hc)
termination_by SizeOf.sizeOf x
decreasing_by
 all_goals simp_wf
 all_goals first
  | (have h1:=Qb ‹c∈cs›;omega)
  | omega
def ntE (es:List (AV×AV)):Bool:=es.all fun e=>nt e.1 && nt e.2
def ntO:AO→Bool
 | .dead=>true
 | .arr _ _ vs=>ntL vs
 | .frz _ _ vs=>ntL vs
 | .mp es=>ntE es
 | .fmp es=>ntE es
 | .it _ _=>false
 | .tok _=>false
def ntH (H:AH):Bool:=H.all ntO
theorem tr_ARow (S1 S2:Syms){E:Env}{m:Option Nat}{e:TypeId}{sz:Nat}{vs:List AV}(hn:ntL vs=true)(h: @ARow S1 E m e sz vs): @ARow S2 E m e sz vs:=by
 rcases h with h | ⟨b,c,fz,h1,h2,h3,h4,h5⟩
 ·exact .inl h
 ·refine .inr ⟨b,c,fz,h1,h2,h3,h4,fun i v hv=>⟨(h5 i v hv).1,fun j cc hc=>?_⟩⟩
  obtain⟨u,hu,hr⟩:=(h5 i v hv).2 j cc hc
  exact⟨u,hu,tr_VR S1 S2 cc (ntL_cells hn v (Qa hv) cc (Qa hc)) _ hr⟩
theorem tr_MRow (S1 S2:Syms){E:Env}{m:Option Nat}{es:List (AV×AV)}(hn:ntE es=true)(h: @MRow S1 E m es): @MRow S2 E m es:=by
 obtain⟨b,a,cl,h1,h2,⟨h3,h4⟩,h5⟩:=h
 refine⟨b,a,cl,h1,h2,⟨h3,fun i k x hi=>?_⟩,h5⟩
 obtain⟨e,q1,q2,q3⟩:=h4 i k x hi
 have:=Qd.1 hn _ (Qa hi)
 simp only[Qe] at this
 exact⟨e,q1,tr_VP S1 S2 k this.1 _ q2,tr_VP S1 S2 x this.2 _ q3⟩
theorem tr_ORow (S1 S2:Syms){E:Env}{m:Option Nat}{o:AO}(hn:ntO o=true)(h: @ORow S1 E m o): @ORow S2 E m o:=by
 cases o with
 | dead=>trivial
 | arr e sz vs=>exact tr_ARow S1 S2 hn h
 | frz e sz vs=>exact tr_ARow S1 S2 hn h
 | mp es=>exact tr_MRow S1 S2 hn h
 | fmp es=>exact tr_MRow S1 S2 hn h
 | it c es=>cases hn
 | tok i=>cases hn
theorem tr_hl (S1 S2:Syms){H:AH}(hn:ntH H=true): @hlOf S1 H= @hlOf S2 H:=by
 funext id
 unfold hlOf
 cases ho:H[id]? with
 | none=>rfl
 | some o=>
  have:=Qd.1 hn o (Qa ho)
  cases o <;> first | rfl | cases this
theorem tr_Rel (S1 S2:Syms){H:AH}{E:Env}(hn:ntH H=true)(h: @Rel S1 H E): @Rel S2 H E:=by
 obtain⟨h1,h2,h3,h4,h5,h6,h7⟩:=h
 exact⟨by rw[h1,tr_hl S1 S2 hn],h2,fun id o m ho hm=>tr_ORow S1 S2 (Qd.1 hn o (Qa ho)) (h3 id o m ho hm),h4,h5,h6,h7⟩
theorem tr_VRs (S1 S2:Syms){E:Env}{as:List AV}{vs:Array Value}(hn:ntL as=true)(h: @VRs S1 E as vs): @VRs S2 E as vs:=
 ⟨h.1,fun i c hc=>tr_VR S1 S2 c (ntL_mem hn c (Qa hc)) _ (h.2 i c hc)⟩
theorem tr_calls (S1 S2:Syms){P:Program}{f:FuncId}{as:List AV}{H:AH}{r:AV}{H':AH}(h1:ntL as=true)(h2:ntH H=true)(h3:nt r=true)(h4:ntH H'=true)
 (h: @CallsR S1 P f as H r H'): @CallsR S2 P f as H r H':=by
 intro E vals hr hv
 refine(h E vals (tr_Rel S2 S1 h2 hr) (tr_VRs S2 S1 h1 hv)).mono fun e W'=>?_
 rintro⟨v,E',q1,q2,q3,q4,q5⟩
 exact⟨v,E',q1,q2,tr_VR S1 S2 r h3 _ q3,tr_Rel S1 S2 h4 q4,q5⟩
end Go.Pg
namespace Go.Pg
open Go
structure ArrT where
 e:TypeId
 z:Nat
 vs:List AV
def tameL (a:List AV):Bool:=a.all AV.tame
def tameAs (a:List ArrT):Bool:=a.all fun x=>x.vs.all fun v=>v.cells.all AV.tame
theorem tame_getD {a:List AV}(h:tameL a=true)(i:Nat):(a.getD i .nls).tame=true:=by
 rw[Qf]
 cases hi:a[i]? with
 | none=>rfl
 | some x=>exact Qd.1 h x (Qa hi)
theorem tameA_getD {a:List ArrT}(h:tameAs a=true)(i:Nat):((a.getD i ⟨0,0,[]⟩).vs.all fun v=>v.cells.all AV.tame)=true:=by
 rw[Qf]
 cases hi:a[i]? with
 | none=>rfl
 | some x=>exact Qd.1 h x (Qa hi)
@[reducible] def mkS (av:List AV) (arrs:List ArrT) (ln:List Nat) (tbl:List (OpK×List AV×AV)) (h1:tameL av=true) (h2:tameAs arrs=true):Syms where
 av:=fun i=>av.getD i .nls
 tame:=tame_getD h1
 ae:=fun i=>(arrs.getD i ⟨0,0,[]⟩).e
 az:=fun i=>(arrs.getD i ⟨0,0,[]⟩).z
 avs:=fun i=>(arrs.getD i ⟨0,0,[]⟩).vs
 tames:=tameA_getD h2
 ln:=fun i=>ln.getD i 0
 tbl:=tbl
theorem run_rows [Syms] {P:Program}{L:Lf}{rows:List CRow}(hL:LfOK P L)(hr:∀c∈rows,CallsR P c.f (xpL c.as) (xpH c.H) (xp c.r) (xpH c.H'))(hmix:P.follows .mixedOrders=true)
 {n:Nat} {f:FuncId} {as:List AV} {H:AH} {r:AV} {H':AH} (h:evF P (L.rows rows) n f as H= .ok (r,H')):CallsR P f (xpL as) (xpH H) (xp r) (xpH H'):=
 calls_xp.2 (evF_ok (hL.rows fun c hc=>CRow.ok_of (hr c hc)) hmix _ _ _ _ _ _ h)
theorem ntL_map {α:Type}(f:α→AV)(h:∀x,nt (f x)=true):∀l:List α,ntL (l.map f)=true
 | []=>rfl
 | x :: r=>by simp only[List.map_cons,ntL,h x,ntL_map f h r,Bool.and_self]
theorem tame_map {α:Type}(f:α→AV)(h:∀x,(f x).cells.all AV.tame=true)(l:List α):((l.map f).all fun v=>v.cells.all AV.tame)=true:=by
 rw[Qd]
 intro v hv
 obtain⟨x,_,rfl⟩:=List.mem_map.1 hv
 exact h x
end Go.Pg
namespace Go.Pg
open Go
def Ln:Lf where
 fn:=fun _ _ _=>none
 tl:=fun _ _=>none
 kl:=fun _=>false
 ext:=fun _ _=>none
theorem Ln_ok [Syms] {P:Program}(h:TblOK P):LfOK P Ln:=by
 refine⟨h,?_,?_,?_,?_⟩
 ·intro _ _ _ _ _ h;cases h
 ·unfold TlOK;intros;simp_all [Ln]
 ·unfold IdOK;intros;simp_all [Ln]
 ·intro _ _ _ _ _ h;cases h
end Go.Pg
