/- slices.Insert within a list of numbers: the walk. slices.Delete of a list of numbers: the walk. Lists of numbers: some put in, some taken out. The index of lines: all lines behind one are moved. The index of lines: a text is put in. A text's lines, by a run on tokens. slices.Insert within a list of pieces: the walk. slices.Delete of a list of pieces: the walk. Lists of pieces: an element, some put in, some taken out. -/
import Derived.Test.YtjbgnnggmngpcaaGreatDoorProg
import Derived.Test.YtjbgnnggmngpcaaGreatDoorPgGv
import Derived.KernelRfl
import Derived.WalkKit
import Derived.Shelf.RegionOpenPlain
import Derived.Lib.Walk
import Derived.Lib.SliceRun
import Derived.Lib.JoinLaws
import Derived.Lib.AppendZeros
import Derived.Lib.AppendZerosOnto
import Derived.Lib.Overlaps
import Derived.Laws.Externs
import Derived.Laws.NewBlocks
import Derived.Shelf.Spec.SlicesInsert
import Derived.Deep.LoopGhost
import Derived.Deep.RegionLaw
import Derived.Sort.WalkB12
import Derived.Test.YtjbgnnggmngpcaaGreatDoorPgHx0
import Derived.Test.YtjbgnnggmngpcaaGreatDoorPgGt
set_option linter.unusedVariables false
set_option linter.unusedSimpArgs false
set_option linter.unusedSectionVars false
open List renaming length_take → Qa,length_map → Qc,length_drop → Qd,length_append → Qe,take_append_of_le_length → Qf,append_assoc → Qg,take_of_length_le → Qi,drop_of_length_le → Qj,getElem?_eq_none → Qk,nil_append → Ql,size_toArray → Qm,drop_append → Qn,map_take → Qp,map_drop → Qq,drop_zero → Qt,ext_getElem? → Qu,getElem?_map → Qv,drop_append_of_le_length → Qx,getElem?_range → Qz,drop_drop → Q0,getD_eq_getElem?_getD → Q1,getElem?_eq_getElem → Q2,length_eq_zero_iff → Q3,drop_eq_nil_of_le → Q5,length_pos_iff → Q7,map_congr_left → Q8,range → Q9,length_range → Xb,length_set → Xc,take_take → Xd,mem_cons → Xe,map_cons → Xf,map_map → Xh,mem_map → Xi
open Array renaming length_toList → Qb,getElem?_eq_some_iff → Qo,getElem?_push → Qs,size_append → Xa
open Int renaming toNat_natCast → Qh,toNat → Xg
open Nat renaming min_def → Qr,min_eq_left → Qy,min → Q4,zero_add → Q6,mul_one → Xj
open Bool renaming and_eq_true → Qw
namespace Go.Pg.Li1
open Go Go.Pg Go.Proofs Go.RowKit Go.Lib
variable [Syms]
theorem info:∃i0 z,Tryz.prog.info? 3=some i0∧i0.zero=some z∧i0.size=1∧z.cells.size=1∧i0.bytes=8:=by
 have h:(match Tryz.prog.info? 3 with
  | some i=>match i.zero with
   | some z=>i.size == 1 && z.cells.size == 1 && i.bytes == 8
   | none=>false
  | none=>false)=true:=by kernel_rfl
 split at h
 ·next i hi=>
  split at h
  ·next z hz=>
   simp only[Qw,beq_iff_eq] at h
   exact⟨i,z,hi,hz,h.1.1,h.1.2,h.2⟩
  ·cases h
 ·cases h
set_option maxHeartbeats 4000000 in
set_option maxRecDepth 100000 in
theorem walk_room (b n cap i vb m vc:Nat)(c d:Array Value)(ty dty:TypeId)(fz dfz:Nat×Nat)(w:World)
 (hb:w.heap[b]? =some (.cells c ty fz)) (hth:Thaw fz c.size) (hsz:c.size=cap * 1) (hcm:cap≤9223372036854775807)
 (hd:w.heap[vb]? =some (.cells d dty dfz)) (hdth:Thaw dfz d.size) (hdst:¬(dfz.1≤d.size∧d.size<dfz.2)) (hdsz:m * 1≤d.size)
 (hvb:vb≠b) (hi:i<n) (hm:0<m) (hroom:n+m≤cap) (h1c:∀v∈(c.toList.drop (i * 1)).take ((n - i) * 1),v.oneCell'=true) (h1d:∀v∈(d.toList.drop 0).take (m * 1),v.oneCell'=true) :
 Calls Tryz.prog 269 #[.slice (some ⟨b,0,none⟩) n cap,.int .i64 i,.slice (some ⟨vb,0,none⟩) m vc] w fun e w'=>
  e= .returned (.slice (some ⟨b,0,none⟩) (n+m) cap)∧w'=w.drew.setRow b (c.toList.take (i * 1) ++ (d.toList.drop 0).take (m * 1) ++ (c.toList.drop (i * 1)).take ((n - i) * 1) ++ c.toList.drop ((n+m) * 1)).toArray:=by
 obtain⟨i0,z0,hi0,hz0,hs0,hzc0,hby0⟩:=info
 have u1:=Tryz.underlying285
 have z3:=Tryz.sizeOf3
 have zE:=Tryz.sizeOf3
 have mixed:Tryz.prog.follows .mixedOrders=true:=by kernel_rfl
 have hz1:¬((m:Int)=0):=by omega
 have hz2:¬((i:Int)=(n:Int)):=by omega
 have hsz':(Tryz.prog.info? 3).map (·.size)=some 1:=by rw[hi0];simp [hs0]
 have hfa:w.frozen? ⟨vb,0,none⟩=false:=by
  have:=hdth 0 (by omega)
  obtain⟨lo,hi'⟩:=dfz
  simp only[World.frozen?,hd]
  simp only at this
  simp
  omega
 have hfe:w.frozen? ⟨vb,d.size,none⟩=false:=by
  obtain⟨lo,hi'⟩:=dfz
  simp only[World.frozen?,hd]
  simp only at hdst
  simp
  omega
 have hov:∀off lb cb,(callFunc 345 #[.slice (some ⟨vb,0,none⟩) m vc,.slice (some ⟨b,off,none⟩) lb cb]).run Tryz.prog w= .ok (.value (.bool false)) w:=fun off lb cb=>by
  rw[run_callFunc_extern Tryz.func345 (by kernel_rfl) (by kernel_rfl) (by kernel_rfl) (e:=Extern.SlicesOverlaps.overlaps #[285,285] #[4]) (by kernel_rfl),
   Lib.run_overlaps_apart w 285 4 3 u1 1 zE ⟨vb,0,none⟩ ⟨b,off,none⟩ m vc lb cb hvb dty ty d.size c.size (by simp [World.shape?,hd]) (by simp [World.shape?,hb]) (by omega) hfa hfe]
  rfl
 have hw1:IntKind.i64.wrap ((i:Int)+(m:Int))=(i:Int)+(m:Int):=by rw[IntKind.wrap_i64];omega
 have hw2:IntKind.i64.wrap ((n:Int)+(m:Int))=(n:Int)+(m:Int):=by rw[IntKind.wrap_i64];omega
 have hb1:(0:Int)≤(i:Int)+(m:Int):=by omega
 have hin:i≤n:=by omega
 have htn:((i:Int)+(m:Int)).toNat=i+m:=by omega
 have hb2:¬(cap=i+m):=by omega
 have hb3:(i:Int)≤(n:Int)+(m:Int):=by omega
 have hb4:¬(cap=i):=by omega
 have hbd:w.drew.heap[b]? =some (.cells c ty fz):=hb
 obtain⟨cs,hcs⟩:∃cs,cs=(c.toList.drop (i * 1)).take ((n - i) * 1):=⟨_,rfl⟩
 have hcl:cs.length=(n - i) * 1:=by rw[hcs,Qa,Qd,Qb,hsz];omega
 obtain⟨ds,hds⟩:∃ds,ds=(d.toList.drop 0).take (m * 1):=⟨_,rfl⟩
 have hdl:ds.length=m * 1:=by rw[hds,Qa,Qd,Qb];omega
 obtain⟨R1,hR1⟩:∃R1:List Value,R1=c.toList.take ((i+m) * 1) ++ cs ++ c.toList.drop ((i+m) * 1+cs.length):=⟨_,rfl⟩
 have hR1l:R1.length=c.size:=by rw[hR1];simp only[Qe,Qa,Qd,Qb,hcl];omega
 obtain⟨W1,hW1⟩:∃W1,W1=w.drew.setRow b R1.toArray:=⟨_,rfl⟩
 have hcp1:∀ty' dc sc,(Builtin.copy_ #[285,285] ty' #[.slice (some ⟨b,(i+m),none⟩) (n+m - (i+m)) dc,.slice (some ⟨b,(i),none⟩) (n+m - i) sc]).run Tryz.prog w.drew= .ok (goInt (Q4 (n+m - i) (n+m - (i+m)))) W1:=fun ty' dc sc=>by
  have h:=run_copyR w.drew 285 285 ty' 3 1 b ((i+m) * 1) (n+m - (i+m)) dc c ty fz hbd hth ⟨b,i * 1,none⟩ (n+m - i) sc cs u1 hsz' (by rw[hcl];simp only[Qr];split <;> omega)
   (by rw[hcs];exact cell_of_drop hbd _ _) (by rw[hcl];omega) (by rw[hcs];exact h1c)
  rw[←hR1,←hW1] at h
  simpa using h
 have hb1':W1.heap[b]? =some (.cells R1.toArray ty fz):=by rw[hW1];exact setRow_heap w.drew b c _ ty fz hbd
 have hd1:W1.heap[vb]? =some (.cells d dty dfz):=by rw[hW1,setRow_other _ _ _ _ hvb];exact hd
 have hfin:R1.take (i * 1) ++ ds ++ R1.drop (i * 1+ds.length)=c.toList.take (i * 1) ++ ds ++ cs ++ c.toList.drop ((n+m) * 1):=by
  rw[hdl,hR1,hcl]
  have e1:(c.toList.take ((i+m) * 1) ++ cs ++ c.toList.drop ((i+m) * 1+(n - i) * 1)).take (i * 1)=c.toList.take (i * 1):=by
   rw[Qg,Qf (by simp only[Qa,Qb];omega),Xd,Qy (by omega)]
  have e2:(c.toList.take ((i+m) * 1) ++ cs ++ c.toList.drop ((i+m) * 1+(n - i) * 1)).drop (i * 1+m * 1)=cs ++ c.toList.drop ((i+m) * 1+(n - i) * 1):=by
   rw[Qg,Qx (by simp only[Qa,Qb];omega),Q5 (by simp only[Qa,Qb];omega),Ql]
  rw[e1,e2,show(i+m) * 1+(n - i) * 1=(n+m) * 1 by omega]
  simp only[Qg]
 have hcp2:∀(W:World),W.heap=W1.heap→∀ty' dc,(Builtin.copy_ #[285,285] ty' #[.slice (some ⟨b,(i),none⟩) (n+m - i) dc,.slice (some ⟨vb,0,none⟩) m vc]).run Tryz.prog W= .ok (goInt (Q4 m (n+m - i))) (W.setRow b (R1.take (i * 1) ++ ds ++ R1.drop (i * 1+ds.length)).toArray):=fun W hW ty' dc=>by
  have h:=run_copyR W 285 285 ty' 3 1 b (i * 1) (n+m - i) dc R1.toArray ty fz (by rw[hW];exact hb1') (by simpa [hR1l] using hth) ⟨vb,0,none⟩ m vc ds u1 hsz' (by rw[hdl];simp only[Qr];split <;> omega)
   (by rw[hds];exact cell_of_drop (by rw[hW];exact hd1) _ _) (by rw[hdl];simp [hR1l];omega) (by rw[hds];exact h1d)
  simpa using h
 rw[←hds,←hcs,←hfin]
 clear hfin hfa hfe hds hcs hR1
 go_enter Tryz.func269,Tryz.ntmps269
 go_wp2_with (simp only[hov])
 go_region_law_o (refine step_copy_runI rfl _ _ 285 285 rfl _ _ (by simp [Act.eval,Act.put]) (by simp [Act.eval,Act.put]) (hcp1 _ _ _) ?_)
 go_wp2_with (at_builtin;refine wpList_copy_runI _ rfl _ _ 285 285 rfl _ _ rfl rfl (hcp2 _ rfl _ _) ?_)
 go_ret
 exact⟨rfl,by first | (rw[hW1,setRow_setRow];done) | (rw[setRow_setRow];simp [hdl,Qg])⟩
set_option maxHeartbeats 4000000 in
set_option maxRecDepth 100000 in
theorem walk_grow (b n cap i vb m vc:Nat)(c d:Array Value)(ty dty:TypeId)(fz dfz:Nat×Nat)(w:World)
 (hb:w.heap[b]? =some (.cells c ty fz)) (hsz:c.size=cap * 1) (hnc:n≤cap)
 (hd:w.heap[vb]? =some (.cells d dty dfz)) (hdsz:m * 1≤d.size)
 (hi:i<n) (hm:0<m) (hroom:cap<n+m) (hbig:(n+m) * 8≤140737488355328) (h1c:∀v∈(c.toList.drop (i * 1)).take ((n - i) * 1),v.oneCell'=true) (h1d:∀v∈(d.toList.drop 0).take (m * 1),v.oneCell'=true) :
 Calls Tryz.prog 269 #[.slice (some ⟨b,0,none⟩) n cap,.int .i64 i,.slice (some ⟨vb,0,none⟩) m vc] w fun e w'=>∃S:List Value,S.length=(grownCap w (n+m) cap 3 - (n+m)) * 1∧
  e= .returned (.slice (some ⟨w.heap.size,0,none⟩) (n+m) (grownCap w (n+m) cap 3))∧SameBut w w'∧
  w'.heap=w.heap.push (.cells (c.toList.take (i * 1) ++ (d.toList.drop 0).take (m * 1) ++ (c.toList.drop (i * 1)).take ((n - i) * 1) ++ S).toArray 3 (0,0)):=by
 obtain⟨i0,z0,hi0,hz0,hs0,hzc0,hby0⟩:=info
 have u1:=Tryz.underlying285
 have u3:=Tryz.underlying3
 have mixed:Tryz.prog.follows .mixedOrders=true:=by kernel_rfl
 have hz1:¬((m:Int)=0):=by omega
 have hz2:¬((i:Int)=(n:Int)):=by omega
 have hz3:(cap:Int)< (n:Int)+(m:Int):=by omega
 have hsz':(Tryz.prog.info? 3).map (·.size)=some 1:=by rw[hi0];simp [hs0]
 have hbw:b<w.heap.size:=(Qo.1 hb).1
 have hvw:vb<w.heap.size:=(Qo.1 hd).1
 have hkk:(n:Int)+(m:Int) - (i:Int)=((n+m - i:Nat):Int):=by omega
 have hik:i+(n+m - i)=n+m:=by omega
 obtain⟨cs,hcs⟩:∃cs,cs=(c.toList.drop (i * 1)).take ((n - i) * 1):=⟨_,rfl⟩
 have hcl:cs.length=(n - i) * 1:=by rw[hcs,Qa,Qd,Qb,hsz];omega
 obtain⟨ds,hds⟩:∃ds,ds=(d.toList.drop 0).take (m * 1):=⟨_,rfl⟩
 have hdl:ds.length=m * 1:=by rw[hds,Qa,Qd,Qb];omega
 obtain⟨os,hos⟩:∃os,os=(c.toList.drop 0).take (i * 1):=⟨_,rfl⟩
 have hol:os.length=i * 1:=by rw[hos,Qa,Qd,Qb,hsz];omega
 have hold:(Builtin.firstCells i0.size i (.slice (some ⟨b,0,none⟩) i cap)).run Tryz.prog w.drew= .ok os.toArray w.drew:=by
  rw[hs0]
  exact run_firstCells_some w.drew 1 i ⟨b,0,none⟩ i cap os hol (by rw[hos];exact cell_of_drop (show w.drew.heap[b]? =_ from hb) 0 _)
 obtain⟨G,hG⟩:∃G,G=grownCap w (n+m) cap 3:=⟨_,rfl⟩
 obtain⟨Z1,hZ1⟩:∃Z1,Z1=Builtin.zeroCells z0.cells (n+m - i):=⟨_,rfl⟩
 obtain⟨Z2,hZ2⟩:∃Z2,Z2=Builtin.zeroCells z0.cells (G - (n+m)):=⟨_,rfl⟩
 have hZ1l:Z1.size=(n+m - i) * 1:=by rw[hZ1];simp [Builtin.zeroCells,hzc0]
 have hZ2l:Z2.size=(G - (n+m)) * 1:=by rw[hZ2];simp [Builtin.zeroCells,hzc0]
 obtain⟨ROW,hROW⟩:∃ROW:Array Value,ROW=os.toArray ++ Z1 ++ Z2:=⟨_,rfl⟩
 obtain⟨W1,hW1⟩:∃W1,W1=w.drew.alloc (.cells ROW 3):=⟨_,rfl⟩
 have hrz:∀ty',(Builtin.append_ #[285,3] ty' #[.slice (some ⟨b,0,none⟩) i cap,.int .i64 ((n:Int)+(m:Int) - (i:Int))]).run Tryz.prog w =
  .ok (.slice (some ⟨w.heap.size,0,none⟩) (n+m) G) W1:=fun ty'=>by
  have h:=Lib.run_append_grow_zeros w 285 3 ty' 3 i0 _ .i64 .i64 u1 u3 hi0 hz0 (some ⟨b,0,none⟩) i cap os hold (n+m - i) (by omega) (by omega) (by omega) (by omega) (by rw[hby0];omega) (by rw[hby0,hik];exact growslice_fits hroom hbig)
  rw[hik,←hG,←hZ1,←hZ2,←hROW,←hW1] at h
  rw[hkk]
  exact h
 have hGn:n+m≤G:=by rw[hG];exact grownCap_ge w _ _ _
 have hG63:G≤9223372036854775807:=by
  have:=grownCap_le_maxLen w (n+m) cap 3 (by unfold maxLen;omega)
  rw[←hG] at this
  unfold maxLen at this
  omega
 have hRl:ROW.size=G * 1:=by
  rw[hROW]
  simp only[Xa,Qm,hol,hZ1l,hZ2l]
  omega
 have hGi:¬(G=i):=by omega
 have hGim:¬(G=i+m):=by omega
 have hci:¬(cap=i):=by omega
 have hW1h:W1.heap=w.heap.push (.cells ROW 3 (0,0)):=by rw[hW1];exact(drew_same w (.cells ROW 3)).2
 have hnew:W1.heap[w.heap.size]? =some (.cells ROW 3 (0,0)):=by rw[hW1h];simp
 obtain⟨R2,hR2⟩:∃R2:List Value,R2=ROW.toList.take (i * 1) ++ ds ++ ROW.toList.drop (i * 1+ds.length):=⟨_,rfl⟩
 have hR2l:R2.length=G * 1:=by rw[hR2];simp only[Qe,Qa,Qd,Qb,hdl,hRl];omega
 have hcpA:∀(W:World),W.heap=W1.heap→∀ty' dc,(Builtin.copy_ #[285,285] ty' #[.slice (some ⟨w.heap.size,(i),none⟩) (n+m - i) dc,.slice (some ⟨vb,0,none⟩) m vc]).run Tryz.prog W= .ok (goInt (Q4 m (n+m - i))) (W.setRow w.heap.size R2.toArray):=fun W hW ty' dc=>by
  have h:=run_copyR W 285 285 ty' 3 1 w.heap.size (i * 1) (n+m - i) dc ROW 3 (0,0) (by rw[hW];exact hnew) (fun _ _ h=>by simp at h) ⟨vb,0,none⟩ m vc ds u1 hsz' (by rw[hdl];simp only[Qr];split <;> omega)
   (by rw[hds];exact cell_of_drop (by rw[hW,hW1h,Qs,if_neg (by omega)];exact hd) _ _) (by rw[hdl,hRl];omega) (by rw[hds];exact h1d)
  rw[←hR2] at h
  simpa using h
 obtain⟨R3,hR3⟩:∃R3:List Value,R3=R2.take ((i+m) * 1) ++ cs ++ R2.drop ((i+m) * 1+cs.length):=⟨_,rfl⟩
 have hcpB:∀(W:World),W.heap=(W1.setRow w.heap.size R2.toArray).heap→∀ty' dc sc,(Builtin.copy_ #[285,285] ty' #[.slice (some ⟨w.heap.size,(i+m),none⟩) (n+m - (i+m)) dc,.slice (some ⟨b,(i),none⟩) (n - i) sc]).run Tryz.prog W= .ok (goInt (Q4 (n - i) (n+m - (i+m)))) (W.setRow w.heap.size R3.toArray):=fun W hW ty' dc sc=>by
  have h:=run_copyR W 285 285 ty' 3 1 w.heap.size ((i+m) * 1) (n+m - (i+m)) dc R2.toArray 3 (0,0) (by rw[hW];exact setRow_heap W1 _ _ _ _ _ hnew) (fun _ _ h=>by simp at h) ⟨b,i * 1,none⟩ (n - i) sc cs u1 hsz' (by rw[hcl];simp only[Qr];split <;> omega)
   (by rw[hcs];exact cell_of_drop (by rw[hW,setRow_other _ _ _ _ (by omega),hW1h,Qs,if_neg (by omega)];exact hb) _ _) (by rw[hcl];simp only[Qm,hR2l];omega) (by rw[hcs];exact h1c)
  simp only[←hR3] at h
  simpa using h
 have hfin:R3=c.toList.take (i * 1) ++ ds ++ cs ++ Z2.toList:=by
  have hRT:ROW.toList=os ++ (Z1.toList ++ Z2.toList):=by rw[hROW];simp [Qg]
  have e0:os=c.toList.take (i * 1):=by rw[hos,Qt]
  have e1:R2=os ++ ds ++ ((Z1.toList ++ Z2.toList).drop (m * 1)):=by
   rw[hR2,hdl,hRT,Qf (by omega),Qi (by omega),Qn,Qj (by omega),Ql,show i * 1+m * 1 - os.length=m * 1 by omega]
  rw[hR3,hcl,e1,←e0]
  have hol2:(os ++ ds).length=(i+m) * 1:=by rw[Qe,hol,hdl];omega
  rw[Qf (by omega),Qi (by omega),Qn,Qj (by omega),Ql,show(i+m) * 1+(n - i) * 1 - (os ++ ds).length=(n - i) * 1 by omega,Q0,
   Qn,Qj (by rw[Qb,hZ1l];omega),Ql,Qb,hZ1l,show m * 1+(n - i) * 1 - (n+m - i) * 1=0 by omega,Qt]
 have hw1:IntKind.i64.wrap ((i:Int)+(m:Int))=(i:Int)+(m:Int):=by rw[IntKind.wrap_i64];omega
 have hw2:IntKind.i64.wrap ((n:Int)+(m:Int))=(n:Int)+(m:Int):=by rw[IntKind.wrap_i64];omega
 have hb1:(0:Int)≤(i:Int)+(m:Int):=by omega
 have hin:i≤n:=by omega
 have htn:((i:Int)+(m:Int)).toNat=i+m:=by omega
 have hb3:(i:Int)≤(n:Int):=by omega
 rw[←hds,←hcs,←hG]
 have hend:∀W:World,W.heap=(W1.setRow w.heap.size R2.toArray).heap→(W.setRow w.heap.size R3.toArray).heap=w.heap.push (.cells (c.toList.take (i * 1) ++ ds ++ cs ++ Z2.toList).toArray 3 (0,0)):=fun W hW=>by
  rw[heap_push_setRow W w.heap R2.toArray 3 (0,0) (by rw[hW,heap_push_setRow W1 w.heap ROW 3 (0,0) hW1h]),hfin]
 clear hfin hkk hik hold hROW hG hds hcs hos hR3 hR2
 have hS:Z2.toList.length=(G - (n+m)) * 1:=by rw[Qb];exact hZ2l
 clear hnew hW1h
 subst hW1
 have hE1:((w.alloc (.cells ROW 3)).drew).heap=(w.drew.alloc (.cells ROW 3)).heap:=rfl
 have hF1:(((w.alloc (.cells ROW 3)).drew.setRow w.heap.size R2.toArray).drew).heap=((w.drew.alloc (.cells ROW 3)).setRow w.heap.size R2.toArray).heap:=rfl
 have hsame:∀(R:Array Value) (W:World),SameBut w W→SameBut w (W.setRow w.heap.size R):=fun R W h=>⟨h.1,h.2,h.3⟩
 go_enter Tryz.func269,Tryz.ntmps269
 go_wp2_with (first
  | (at_builtin;refine Lib.wpList_append_run _ rfl _ _ _ _ rfl _ _ rfl rfl _ _ (hrz _) ?_)
  | (at_builtin;refine wpList_copy_runI _ rfl _ _ 285 285 rfl _ _ rfl rfl (hcpA _ hE1 _ _) ?_))
 go_region_law_o (refine step_copy_runI rfl _ _ 285 285 rfl (.slice (some ⟨w.heap.size,(i+m),none⟩) (n+m - (i+m)) (G - (i+m))) (.slice (some ⟨b,(i),none⟩) (n - i) (cap - i)) (by simp [Act.eval,Act.put]) (by simp [Act.eval,Act.put]) (hcpB _ hF1 3 (G - (i+m)) (cap - i)) ?_)
 go_wp2
 go_ret
 refine⟨Z2.toList,hS,rfl,?_,?_⟩
 ·exact⟨rfl,rfl,rfl⟩
 ·exact hend _ rfl
theorem calls_mid (vs ws:List AV)(i:Nat)(hi:i<vs.length)(hm:0<ws.length)(hbig:(vs.length+ws.length) * 8≤140737488355328)(hlv:vs.all AV.leafy=true)(hlw:ws.all AV.leafy=true) :
 CallsR Tryz.prog 269 [.own 0 1 vs.length,.int .i64 i,.own 1 1 ws.length] [.arr 3 1 vs,.arr 3 1 ws] (.own 2 1 (vs.length+ws.length)) [.dead,.arr 3 1 ws,.arr 3 1 (vs.take i ++ ws ++ vs.drop i)]:=
 insert_calls (by decide) walk_room walk_grow vs ws i hi hm hbig hlv hlw (by omega)
theorem own_any {H:AH}{E:Env}(hr:Rel H E){id sz:Nat}{e:TypeId}{vs:List AV}{v:Value}(ho:H[id]? =some (.arr e sz vs))(h:VR E (.own id sz vs.length) v) :
 ∃base cap,v= .slice base vs.length cap∧vs.length≤cap∧cap≤9223372036854775807∧(base=none→vs.length=0∧cap=0):=by
 cases h with
 | own _ _ _ a cap q1 q2 q3=>
  have h1:=(q3 vs.length (by rw[hr.hl];simp [hlOf,ho,AO.len])).2 rfl
  rcases h1 with⟨_,h2,h3⟩ | ⟨b,c,ty,fz,hm,rfl,hcap,hmax,hb,hsz⟩
  ·exact⟨a,cap,rfl,by omega,by omega,fun _=>⟨h2,h3⟩⟩
  ·exact⟨_,cap,rfl,hcap,hmax,(fun h=>by cases h)⟩
set_option maxHeartbeats 4000000 in
set_option maxRecDepth 100000 in
theorem walk_zero (base vbase:Option Addr)(n cap i vc:Nat)(w:World)(hi:i≤n)(hn:n≤cap)(hcm:cap≤9223372036854775807)(hnil:base=none→n=0∧cap=0) :
 Calls Tryz.prog 269 #[.slice base n cap,.int .i64 i,.slice vbase 0 vc] w fun e w'=>e= .returned (.slice base n cap)∧w'=w:=by
 have u1:=Tryz.underlying285
 have zE:=Tryz.sizeOf3
 have mixed:Tryz.prog.follows .mixedOrders=true:=by kernel_rfl
 cases base with
 | none=>
  obtain⟨rfl,rfl⟩:=hnil rfl
  have h0:i=0:=by omega
  subst h0
  go_enter Tryz.func269,Tryz.ntmps269
  go_wp2
  go_ret
  exact⟨rfl,rfl⟩
 | some a=>
  obtain⟨ab,ao,asp⟩:=a
  go_enter Tryz.func269,Tryz.ntmps269
  go_wp2
  all_goals (go_ret;exact⟨rfl,rfl⟩)
set_option maxHeartbeats 4000000 in
set_option maxRecDepth 100000 in
theorem walk_end (base vbase:Option Addr)(n cap m vc:Nat)(v':Value)(w w':World)(hn:n≤cap)(hcm:cap≤9223372036854775807)(hnil:base=none→n=0∧cap=0)(hm:0<m)
 (hrun:∀ty',(Builtin.append_ #[285,285] ty' #[.slice base n cap,.slice vbase m vc]).run Tryz.prog w= .ok v' w') :
 Calls Tryz.prog 269 #[.slice base n cap,.int .i64 n,.slice vbase m vc] w fun e W=>e= .returned v'∧W=w':=by
 have u1:=Tryz.underlying285
 have zE:=Tryz.sizeOf3
 have mixed:Tryz.prog.follows .mixedOrders=true:=by kernel_rfl
 have hz1:¬((m:Int)=0):=by omega
 cases base with
 | none=>
  obtain⟨rfl,rfl⟩:=hnil rfl
  go_enter Tryz.func269,Tryz.ntmps269
  go_wp2_with (at_builtin;refine Lib.wpList_append_run _ rfl _ _ _ _ rfl _ _ rfl rfl _ _ (hrun _) ?_)
  go_ret
  exact⟨rfl,rfl⟩
 | some a=>
  obtain⟨ab,ao,asp⟩:=a
  go_enter Tryz.func269,Tryz.ntmps269
  go_wp2_with (at_builtin;refine Lib.wpList_append_run _ rfl _ _ _ _ rfl _ _ rfl rfl _ _ (hrun _) ?_)
  all_goals (go_ret;exact⟨rfl,rfl⟩)
theorem calls_zero (vs:List AV)(i:Nat)(hi:i≤vs.length) :
 CallsR Tryz.prog 269 [.own 0 1 vs.length,.int .i64 i,.own 1 1 0] [.arr 3 1 vs,.arr 3 1 []] (.own 0 1 vs.length) [.arr 3 1 vs,.arr 3 1 []]:=by
 intro E vals hr hv
 obtain⟨u1,u2,u3,rfl,k1,k2,k3⟩:=hv.three
 obtain⟨base,cap,rfl,h1,h2,h3⟩:=own_any hr (id:=0) (vs:=vs) rfl k1
 obtain⟨vbase,vc,rfl,_⟩:=own_any hr (id:=1) (vs:=[]) rfl k3
 rw[k2.int_inv]
 refine(walk_zero base vbase vs.length cap i vc E.W hi h1 h2 h3).mono fun x W' ⟨he,hW⟩=>?_
 exact⟨_,E,he,hW.symm,k1,hr,Step.refl _ _⟩
theorem tkS:tk Tryz.prog 285= .slice 3 1:=by kernel_rfl
theorem calls_end (vs ws:List AV)(hm:0<ws.length)(hbig:(vs.length+ws.length) * 8≤140737488355328)(hlw:ws.all AV.leafy=true) :
 CallsR Tryz.prog 269 [.own 0 1 vs.length,.int .i64 vs.length,.own 1 1 ws.length] [.arr 3 1 vs,.arr 3 1 ws] (.own 0 1 (vs.length+ws.length)) [.arr 3 1 (vs ++ ws),.arr 3 1 ws]:=by
 intro E vals hr hv
 obtain⟨u1,u2,u3,rfl,k1,k2,k3⟩:=hv.three
 obtain⟨base,cap,rfl,h1,h2,h3⟩:=own_any hr (id:=0) (vs:=vs) rfl k1
 obtain⟨i0,z0,hi0,hz0,hs0,hzc0,hby0⟩:=info
 obtain⟨news,hs,hf⟩:=srcE_run (P:=Tryz.prog) (H:=[.arr 3 1 vs,.arr 3 1 ws]) hr (t':=285) (sz:=1) k3 (new:=ws) (fp:=[1]) (by simp [srcE,tkS,srcV,objAt]) (fun id _ o ho=>⟨o,ho,AOle.refl o⟩)
 obtain⟨vbase,vc,rfl,_⟩:=own_any hr (id:=1) (vs:=ws) rfl k3
 obtain⟨E',v',hrun,hv',hr',hst,_⟩:=app_own (P:=Tryz.prog) (t:=285) (t':=285) (ty:=285) Tryz.underlying285 hi0 hz0 (by rw[hzc0,hs0]) hs0 hby0 (by decide) hr k1 (id:=0) (vs:=vs) rfl rfl hs hf hlw hbig
 rw[k2.int_inv]
 refine(walk_end base vbase vs.length cap ws.length vc v' E.W E'.W h1 h2 h3 hm (fun ty'=>by simpa [Builtin.append_] using hrun)).mono fun x W' ⟨he,hW⟩=>?_
 exact⟨_,E',he,hW.symm,hv',hr',hst⟩
theorem calls_ins (vs ws:List AV)(i:Nat)(hi:i≤vs.length)(hbig:(vs.length+ws.length) * 8≤140737488355328)(hlv:vs.all AV.leafy=true)(hlw:ws.all AV.leafy=true) :
 CallsR Tryz.prog 269 [.own 0 1 vs.length,.int .i64 i,.own 1 1 ws.length] [.arr 3 1 vs,.arr 3 1 ws] (.own 2 1 (vs.length+ws.length)) [.dead,.arr 3 1 ws,.arr 3 1 (vs.take i ++ ws ++ vs.drop i)]:=by
 by_cases h0:ws=[]
 ·subst h0
  have h2:=(calls_zero vs i hi).adopt (id:=0) rfl rfl
  simpa using h2
 ·have hmp:0<ws.length:=Q7.2 h0
  by_cases hn:i=vs.length
  ·subst hn
   have h2:=(calls_end vs ws hmp hbig hlw).adopt (id:=0) rfl (by rw[Qe])
   simpa using h2
  ·exact calls_mid vs ws i (by omega) hmp hbig hlv hlw
end Go.Pg.Li1
namespace Go.Pg.Ld1
open Go Go.Pg Go.Proofs Go.RowKit Go.Lib Go.Sort
variable [Syms]
theorem info:∃i0 z,Tryz.prog.info? 3=some i0∧i0.zero=some z∧i0.size=1∧z.cells.size=1∧i0.bytes=8:=by
 have h:(match Tryz.prog.info? 3 with
  | some i=>match i.zero with
   | some z=>i.size == 1 && z.cells.size == 1 && i.bytes == 8
   | none=>false
  | none=>false)=true:=by kernel_rfl
 split at h
 ·next i hi=>
  split at h
  ·next z hz=>
   simp only[Qw,beq_iff_eq] at h
   exact⟨i,z,hi,hz,h.1.1,h.1.2,h.2⟩
  ·cases h
 ·cases h
set_option maxHeartbeats 4000000 in
set_option maxRecDepth 1000000 in
theorem walk (b n cap i j:Nat)(c:Array Value)(ty:TypeId)(fz:Nat×Nat)(w:World)
 (hb:w.heap[b]? =some (.cells c ty fz)) (hth:Thaw fz c.size) (hsz:c.size=cap * 1) (hnc:n≤cap) (hcm:cap≤9223372036854775807) (hij:i<j) (hj:j≤n)
 (h1c:∀v∈(c.toList.drop (j * 1)).take ((n - j) * 1),v.oneCell'=true) :
 Calls Tryz.prog 426 #[.slice (some ⟨b,0,none⟩) n cap,.int .i64 i,.int .i64 j] w fun e w'=>∃S:List Value,S.length=(cap - (i+(n - j))) * 1∧
  e= .returned (.slice (some ⟨b,0,none⟩) (i+(n - j)) cap)∧w'=w.drew.setRow b (c.toList.take (i * 1) ++ (c.toList.drop (j * 1)).take ((n - j) * 1) ++ S).toArray:=by
 obtain⟨i0,z,hi0,hz,hs1,hzc,hby⟩:=info
 have u1:=Tryz.underlying285
 have zv:=Tryz.zeroValue3
 have mixed:Tryz.prog.follows .mixedOrders=true:=by kernel_rfl
 have hltc:c.toList.length=c.size:=Qb
 obtain⟨cs,hcs⟩:∃cs,cs=(c.toList.drop (j * 1)).take ((n - j) * 1):=⟨_,rfl⟩
 have hcl:cs.length=(n - j) * 1:=by rw[hcs,Qa,Qd,hltc,hsz];omega
 have hcellS:∀k,k<c.size→(w.drew.cell? ⟨b,k,none⟩).isSome=true:=fun k hk=>by
  have hb':w.drew.heap[b]? =some (.cells c ty fz):=hb
  simp [World.cell?,hb',hk]
 have hfrz:∀k,k<c.size→w.drew.frozen? ⟨b,k,none⟩=false:=fun k hk=>by
  have:=hth k hk
  have hb':w.drew.heap[b]? =some (.cells c ty fz):=hb
  obtain⟨lo,hi⟩:=fz
  simp only[World.frozen?,hb']
  simp only at this
  simp
  omega
 obtain⟨A,hA,hsrc⟩:∃A:Addr,(if cap=j then(some ⟨b,0,none⟩:Option Addr) else some ⟨b,(j),none⟩)=some A∧Go.RowKit.Hid (∀t u,cs[t]? =some u→w.drew.cell? (A.add t)=some u):=by
  by_cases h:cap=j
  ·refine⟨⟨b,0,none⟩,by simp [h],fun t u hu=>?_⟩
   have h0:cs.length=0:=by rw[hcl];omega
   rw[Q3.1 h0] at hu
   simp at hu
  ·refine⟨⟨b,(j),none⟩,by simp [h],fun t u hu=>?_⟩
   have:=cell_of_drop (w:=w.drew) (show w.drew.heap[b]? =some (.cells c ty fz) from hb) (j * 1) ((n - j) * 1) t u (by rw[←hcs];exact hu)
   simpa using this
 have s1:Go.RowKit.Hid (cs.length=(n - j) * 1):=hcl
 have s2:Go.RowKit.Hid (∀u∈cs,u.oneCell'=true):=by rw[hcs];exact h1c
 have s3:Go.RowKit.Hid (∀t,t<cs.length→(w.drew.cell? ⟨b,0+i * 1+t,none⟩).isSome=true∧w.drew.frozen? ⟨b,0+i * 1+t,none⟩=false):=by
  intro t ht
  rw[hcl] at ht
  exact⟨hcellS _ (by rw[hsz];omega),hfrz _ (by rw[hsz];omega)⟩
 obtain⟨R1,hR1⟩:∃R1:List Value,R1=c.toList.take (i * 1) ++ cs ++ c.toList.drop (i * 1+cs.length):=⟨_,rfl⟩
 have hR1l:R1.length=c.size:=by rw[hR1];simp only[Qe,Qa,Qd,hltc,hcl];omega
 obtain⟨W1,hW1⟩:∃W1,W1=w.drew.setCells b (0+i * 1) cs:=⟨_,rfl⟩
 have hW1':W1=w.drew.setRow b R1.toArray:=by
  rw[hW1,Q6,setCells_row (P:=Tryz.prog) w.drew b (i * 1) c ty fz hb hth cs (by rw[hcl,hsz];omega) s2,hR1]
 have hb1:W1.heap[b]? =some (.cells R1.toArray ty fz):=by rw[hW1'];exact setRow_heap w.drew b c _ ty fz hb
 have hZl:(Builtin.zeroCells (Value.int .i64 0).cells (n - (i+(n - j)))).toList.length=(n - (i+(n - j))) * 1:=by simp [Builtin.zeroCells,Value.cells]
 obtain⟨Z,hZ⟩:∃Z,Z=(Builtin.zeroCells (Value.int .i64 0).cells (n - (i+(n - j)))).toList:=⟨_,rfl⟩
 rw[←hZ] at hZl
 have hZ1:∀v∈Z,v.oneCell'=true:=by
  intro v hv
  rw[hZ] at hv
  have:=zeroCells_mem _ _ v hv
  simp [Value.cells] at this
  first | (subst this;rfl) | (rcases this with rfl | rfl | rfl <;> rfl) | (rcases this with rfl | rfl <;> rfl)
 have hcl2:∀ty',(Builtin.clear_ #[285] ty' #[.slice (some ⟨b,(i+(n - j)),none⟩) (n - (i+(n - j))) (cap - (i+(n - j)))]).run Tryz.prog W1= .ok (.tuple #[]) (W1.setCells b ((i+(n - j)) * 1) Z):=fun ty'=>by
  have h:=run_clearK (P:=Tryz.prog) W1 285 3 ty' (Value.int .i64 0) u1 zv (by simp [Value.cells,Value.oneCell']) b ((i+(n - j)) * 1) (n - (i+(n - j))) (cap - (i+(n - j))) (by omega)
   (fun k hk=>by
     have hk':(i+(n - j)) * 1+k<R1.toArray.size:=by simp only[Qm,hR1l,hsz];simp [Value.cells] at hk;omega
     simp [World.cell?,hb1];simpa using hk')
   (fun k hk=>by
     have hk':(i+(n - j)) * 1+k<c.size:=by simp only[hsz];simp [Value.cells] at hk;omega
     have:=hth _ hk'
     obtain⟨lo,hi⟩:=fz
     simp only[World.frozen?,hb1]
     simp only at this
     simp
     omega)
  rw[←hZ] at h
  simpa using h
 have hfin:W1.setCells b ((i+(n - j)) * 1) Z=w.drew.setRow b (c.toList.take (i * 1) ++ cs ++ (Z ++ c.toList.drop (n * 1))).toArray:=by
  rw[setCells_row (P:=Tryz.prog) W1 b ((i+(n - j)) * 1) R1.toArray ty fz hb1 (by simpa [hR1l] using hth) Z (by simp only[Qm,hR1l,hsz,hZl];omega) hZ1,hW1',setRow_setRow]
  congr 2
  have hl0:(c.toList.take (i * 1) ++ cs).length=(i+(n - j)) * 1:=by rw[Qe,Qa,hltc,hcl,hsz];omega
  have e1:R1.take ((i+(n - j)) * 1)=c.toList.take (i * 1) ++ cs:=by rw[hR1,Qf (by omega),Qi (by omega)]
  have e2:R1.drop ((i+(n - j)) * 1+Z.length)=c.toList.drop (n * 1):=by
   rw[hR1,hZl,Qn,Qj (by omega),Ql,Q0,hcl]
   congr 1;omega
  show R1.take _ ++ Z ++ R1.drop _=_
  rw[e1,e2,Qg]
 have hW:Go.RowKit.Hid (W1=w.drew.setCells b (0+i * 1) cs):=hW1
 have X:Go.Aside (W1.setCells b ((i+(n - j)) * 1) Z=w.drew.setRow b (c.toList.take (i * 1) ++ cs ++ (Z ++ c.toList.drop (n * 1))).toArray):=hfin
 have hS:(Z ++ c.toList.drop (n * 1)).length=(cap - (i+(n - j))) * 1:=by rw[Qe,hZl,Qd,hltc,hsz];omega
 rw[←hcs]
 clear hW1 hW1' hb1 hcs hR1 hfin hZ hcellS hfrz
 have hic:i≤cap:=by omega
 have hjc:j≤cap:=by omega
 have hne:¬((i:Int)=(j:Int)):=by omega
 have hci:¬(cap=i+(n - j)):=by omega
 go_enter Tryz.func426,Tryz.ntmps426
 go_wp2_with fail
 go_region_law_o (refine step_append_room rfl (.tmp 22) (.tmp 25) 285 rfl 3 i0 1 u1 hi0 hs1 b 0 i cap (by simp [Act.eval,Act.put]) A (n - j) (cap - j) cs (by simp [Act.eval,Act.put,hA]) s1.out hsrc.out s2.out (by omega) s3.out ?_;rw[←hW.out])
 go_wp2
 go_ret
 exact⟨Z ++ c.toList.drop (n * 1),hS,rfl,by first | exact X.out | (have h:=X.out;simp only[Xj] at h ⊢;exact h)⟩
theorem calls_del (vs:List AV)(i j:Nat)(hi:i<j)(hj:j≤vs.length)(hlv:vs.all AV.leafy=true) :
 CallsR Tryz.prog 426 [.own 0 1 vs.length,.int .i64 i,.int .i64 j] [.arr 3 1 vs] (.own 1 1 (i+(vs.length - j))) [.dead,.arr 3 1 (vs.take i ++ vs.drop j)]:=
 delete_calls walk vs i j hi hj hlv
end Go.Pg.Ld1
namespace Go.Pg
open Go Go.Proofs
variable [Syms]
theorem calls_InsI (l more:List Int)(i:Nat)(hi:i≤l.length)(hl:l.length≤1099511627)(hm:more.length≤1099511627) :
 CallsR Tryz.prog 269 [.own 0 1 l.length,.int .i64 i,.own 1 1 more.length] [.arr 3 1 (l.map bInt),.arr 3 1 (more.map bInt)]
  (.own 2 1 (l.length+more.length)) [.dead,.arr 3 1 (more.map bInt),.arr 3 1 ((l.take i ++ more ++ l.drop i).map bInt)]:=by
 have h:=Li1.calls_ins (l.map bInt) (more.map bInt) i (by rw[Qc];omega) (by simp only[Qc];omega) (leafy_bints l) (leafy_bints more)
 simpa [Qp,Qq] using h
abbrev hOwnI:HC (List Int):=hOwn 3 1 (cInt .i64) bInt_pure
def kInsI:C1:=C1.mby (hCons hOwnI (hCons (hP .id (cInt .i64)) (hCons hOwnI hNil))) (fun d=>0≤d.2.1∧d.2.1≤d.1.length∧d.1.length≤1099511627∧d.2.2.1.length≤1099511627)
 (fun d=> .own 2 1 (d.1.length+d.2.2.1.length)) (fun d=>[.dead,.arr 3 1 (d.2.2.1.map bInt),.arr 3 1 ((d.1.take d.2.1.toNat ++ d.2.2.1 ++ d.1.drop d.2.1.toNat).map bInt)])
theorem ok_InsI:C1OK Tryz.prog 269 kInsI:=C1OK.mby (by kernel_rfl) (fun d h=>by
 have:=calls_InsI d.1 d.2.2.1 d.2.1.toNat (by omega) h.2.2.1 h.2.2.2
 rw[show((d.2.1.toNat:Nat):Int)=d.2.1 by omega] at this
 exact this) (fun d _=>by simp [hCons,hOwn,hP,hNil])
theorem calls_DelI (l:List Int)(i j:Nat)(hi:i<j)(hj:j≤l.length) :
 CallsR Tryz.prog 426 [.own 0 1 l.length,.int .i64 i,.int .i64 j] [.arr 3 1 (l.map bInt)] (.own 1 1 (i+(l.length - j))) [.dead,.arr 3 1 ((l.take i ++ l.drop j).map bInt)]:=by
 have h:=Ld1.calls_del (l.map bInt) i j hi (by rw[Qc];exact hj) (leafy_bints l)
 simpa [Qp,Qq] using h
def kDelI:C1:=C1.mby (hCons hOwnI (hCons (hP .id (cInt .i64)) (hCons (hP .id (cInt .i64)) hNil))) (fun d=>0≤d.2.1∧d.2.1<d.2.2.1∧d.2.2.1≤d.1.length)
 (fun d=> .own 1 1 (d.2.1.toNat+(d.1.length - d.2.2.1.toNat))) (fun d=>[.dead,.arr 3 1 ((d.1.take d.2.1.toNat ++ d.1.drop d.2.2.1.toNat).map bInt)])
theorem ok_DelI:C1OK Tryz.prog 426 kDelI:=C1OK.mby (by kernel_rfl) (fun d h=>by
 have:=calls_DelI d.1 d.2.1.toNat d.2.2.1.toNat (by omega) (by omega)
 rw[show((d.2.1.toNat:Nat):Int)=d.2.1 by omega,show((d.2.2.1.toNat:Nat):Int)=d.2.2.1 by omega] at this
 exact this) (fun d _=>by simp [hCons,hOwn,hP,hNil])
set_option maxRecDepth 20000 in
set_option maxHeartbeats 4000000 in
theorem calls_VInsI (l more:List Int)(i:Nat)(hi:i≤l.length)(hl:l.length≤1099511627)(hm:more.length≤1099511627) :
 CallsR Tryz.prog 200 [.ptr 0 1 1 0 0,.int .i64 i,.own 2 1 more.length] [.arr 288 1 [.agg [.own 1 1 l.length]],.arr 3 1 (l.map bInt),.arr 3 1 (more.map bInt)] (.bool true)
  [.arr 288 1 [.agg [.own 3 1 (l.length+more.length)]],.dead,.arr 3 1 (more.map bInt),.arr 3 1 ((l.take i ++ more ++ l.drop i).map bInt)]:=by
 refine callsR_of (mrg:=true) (dyn:=[]) (CtrOK.cons ok_InsI (CtrOK.nil _)) mixed Tryz.func200 rfl (by simp [Tryz.ntmps200,AV.cells]) (by kernel_rfl) ?_
 rw[show Tryz.f200.results.toList=[.tmp 6] from by kernel_rfl]
 have c1:decide ((i:Int)<0)=false:=decide_eq_false (by omega)
 have c2:decide ((i:Int) > (l.length:Int))=false:=decide_eq_false (by omega)
 simp (maxSteps:=4000000) only[go_sem,seval,c1,c2,pureB_bints,leafy_bints,kInsI,decL_bints,renL_bints,Qc,Qh]
 exact⟨by omega,by decide,.inr ⟨⟨⟨rfl,rfl,rfl⟩,trivial⟩,trivial⟩,subX_eq rfl (pureB_bints _),subX_eq rfl (pureB_bints _)⟩
set_option maxRecDepth 20000 in
set_option maxHeartbeats 4000000 in
theorem calls_VDelI (l:List Int)(i n:Nat)(hi:i<l.length)(hn:0<n)(hin:i+n≤l.length)(hl:l.length≤1099511627) :
 CallsR Tryz.prog 392 [.ptr 0 1 1 0 0,.int .i64 i,.int .i64 n] (vI l) .top
  [.arr 288 1 [.agg [.own 2 1 (i+(l.length - (i+n)))]],.dead,.arr 3 1 ((l.take i ++ l.drop (i+n)).map bInt)]:=by
 refine callsR_of (mrg:=true) (dyn:=[]) (CtrOK.cons ok_HasI (CtrOK.cons ok_DelI (CtrOK.cons ok_CloneIW (CtrOK.nil _)))) mixed Tryz.func392 rfl (by simp [Tryz.ntmps392,AV.cells]) (by kernel_rfl) ?_
 rw[show Tryz.f392.results.toList=[.tmp 6] from by kernel_rfl]
 have hd:decide (0≤(i:Int)∧(i:Int)< (l.length:Int))=true:=decide_eq_true (by omega)
 have c1:decide ((n:Int)<1)=false:=decide_eq_false (by omega)
 have w1:IntKind.i64.wrap ((l.length:Int) - (i:Int))=((l.length - i:Nat):Int):=by rw[wrap64 (by omega) (by omega)];omega
 have w2:min (n:Int) ((l.length - i:Nat):Int)=(n:Int):=by omega
 have w3:IntKind.i64.wrap ((i:Int)+(n:Int))=((i+n:Nat):Int):=by rw[wrap64 (by omega) (by omega)];omega
 simp (maxSteps:=4000000) only[go_sem,seval,hd,c1,w1,w2,w3,pureB_bints,leafy_bints,kHasI,kDelI,kCloneIW,decL_bints,renL_bints,Qc,Qh]
 exact⟨by omega,⟨by simp [hlOf,AO.len],by omega,by omega,by omega⟩,by omega,by omega,by decide,.inr ⟨⟨⟨rfl,rfl,rfl⟩,trivial⟩,trivial⟩,subX_eq rfl (pureB_bints _)⟩
set_option maxRecDepth 20000 in
set_option maxHeartbeats 4000000 in
theorem calls_VDelI0 (l:List Int)(i:Int)(hl:l.length≤1099511627):CallsR Tryz.prog 392 [.ptr 0 1 1 0 0,.int .i64 i,.int .i64 0] (vI l) .top (vI l):=by
 refine callsR_of (mrg:=true) (dyn:=[]) (CtrOK.cons ok_HasI (CtrOK.cons ok_DelI (CtrOK.cons ok_CloneIW (CtrOK.nil _)))) mixed Tryz.func392 rfl (by simp [Tryz.ntmps392,AV.cells]) (by kernel_rfl) ?_
 rw[show Tryz.f392.results.toList=[.tmp 6] from by kernel_rfl]
 cases hd:decide (0≤i∧i< (l.length:Int)) with
 | true=>
  simp (maxSteps:=4000000) only[go_sem,seval,hd,pureB_bints,leafy_bints,kHasI,kDelI,kCloneIW,decL_bints,renL_bints,Qc,Qh]
  exact⟨by omega,by decide,.inr ⟨⟨⟨rfl,rfl,rfl⟩,trivial⟩,trivial⟩,subX_eq rfl (pureB_bints _)⟩
 | false=>
  simp (maxSteps:=4000000) only[go_sem,seval,hd,pureB_bints,leafy_bints,kHasI,kDelI,kCloneIW,decL_bints,renL_bints,Qc,Qh]
  exact⟨by omega,by decide,.inr ⟨⟨⟨rfl,rfl,rfl⟩,trivial⟩,trivial⟩,subX_eq rfl (pureB_bints _)⟩
def kVInsI:C1:=C1.mby (hCons hVecI (hCons (hP .id (cInt .i64)) (hCons hOwnI hNil))) (fun d=>0≤d.2.1∧d.2.1≤d.1.1.length∧d.1.1.length≤1099511627∧d.2.2.1.length≤1099511627)
 (fun _=> .bool true) (fun d=>[.arr 288 1 [.agg [.own 3 1 (d.1.1.length+d.2.2.1.length)]],.dead,.arr 3 1 (d.2.2.1.map bInt),.arr 3 1 ((d.1.1.take d.2.1.toNat ++ d.2.2.1 ++ d.1.1.drop d.2.1.toNat).map bInt)])
theorem ok_VInsI:C1OK Tryz.prog 200 kVInsI:=C1OK.mby (by kernel_rfl) (fun d h=>by
 have:=calls_VInsI d.1.1 d.2.2.1 d.2.1.toNat (by omega) h.2.2.1 h.2.2.2
 rw[show((d.2.1.toNat:Nat):Int)=d.2.1 by omega] at this
 exact this) (fun d _=>by simp [hVecI,hPtr,hCons,hOwn,hP,hNil,hBox,hAgg])
end Go.Pg
namespace Go.Pg
open Go Go.Proofs
variable [Syms]
def mvK (l:List Int)(line by_:Int)(k:Nat):List Int:=(Q9 l.length).map fun(i:Nat)=>if line< (i:Int)∧i<k then l.getD i 0+by_ else l.getD i 0
theorem mvK_len (l:List Int)(line by_:Int)(k:Nat):(mvK l line by_ k).length=l.length:=by simp [mvK]
theorem mvK_zero (l:List Int)(line by_:Int):mvK l line by_ 0=l:=by
 apply Qu
 intro i
 unfold mvK
 rw[Qv]
 by_cases h:i<l.length
 ·rw[Qz h];simp [h]
 ·rw[Qk (by simpa using h),Qk (by omega)];rfl
theorem mvK_get (l:List Int)(line by_:Int)(k i:Nat)(h:i<l.length):(mvK l line by_ k)[i]? =some (if line< (i:Int)∧i<k then l.getD i 0+by_ else l.getD i 0):=by
 unfold mvK
 rw[Qv,Qz h];rfl
theorem mvK_set (l:List Int)(line by_:Int)(k:Nat)(hk:k<l.length)(h:line< (k:Int)):(mvK l line by_ k).set k (l.getD k 0+by_)=mvK l line by_ (k+1):=by
 apply Qu
 intro i
 rw[List.getElem?_set]
 by_cases hi:i<l.length
 ·rw[mvK_get _ _ _ _ _ hi,mvK_get _ _ _ _ _ hi]
  by_cases e:k=i
  ·subst e;simp [mvK_len,hk,h]
  ·rw[if_neg e]
   congr 1
   by_cases c:line< (i:Int)∧i<k
   ·rw[if_pos c,if_pos ⟨c.1,by omega⟩]
   ·rw[if_neg c,if_neg (fun hh=>c ⟨hh.1,by omega⟩)]
 ·rw[if_neg (by omega),Qk (by rw[mvK_len];omega),Qk (by rw[mvK_len];omega)]
theorem mvK_skip (l:List Int)(line by_:Int)(k:Nat)(h:¬line< (k:Int)):mvK l line by_ (k+1)=mvK l line by_ k:=by
 unfold mvK
 apply Q8
 intro i _
 by_cases c:line< (i:Int)∧i<k+1
 ·rw[if_pos c,if_pos ⟨c.1,by omega⟩]
 ·rw[if_neg c,if_neg (fun hh=>c ⟨hh.1,by omega⟩)]
theorem mvK_done (l:List Int)(line:Nat)(by_:Int):mvK l line by_ l.length=l.take (line+1) ++ (l.drop (line+1)).map (· +by_):=by
 apply Qu
 intro i
 by_cases hi:i<l.length
 ·rw[mvK_get _ _ _ _ _ hi]
  by_cases c:i<line+1
  ·rw[if_neg (by omega),List.getElem?_append_left (by rw[Qa];omega),List.getElem?_take,if_pos c]
   simp [hi]
  ·rw[if_pos ⟨by omega,hi⟩,List.getElem?_append_right (by rw[Qa];omega),Qa,Qv,List.getElem?_drop,Qy (by omega),show line+1+(i - (line+1))=i by omega]
   simp [hi]
 ·rw[Qk (by rw[mvK_len];omega),Qk (by simp;omega)]
abbrev xHI (n:Int)(l:List Int):AH:=[.arr 216 2 [.agg [.ptr 1 1 1 0 0,.int .i64 n]],.arr 288 1 [.agg [.own 2 1 l.length]],.arr 3 1 (l.map bInt)]
theorem tell_map (l:List Int):∀k,tellInts k l=(Q9 l.length).map fun i=>[.int .i64 ((k+i:Nat):Int),.int .i64 (l.getD i 0)]:=by
 intro k
 apply Qu
 intro i
 by_cases hi:i<l.length
 ·rw[tellInts_get l k i hi,Qv,Qz hi];rfl
 ·rw[Qk (by rw[tellInts_len];omega),Qk (by simpa using hi)]
set_option maxRecDepth 20000 in
set_option maxHeartbeats 4000000 in
theorem calls_move (n:Int)(l:List Int)(line by_:Int)(hl:l.length≤65536)(hb:∀x∈l,-4611686018427387904≤x∧x≤4611686018427387904)(hby: -4611686018427387904<by_∧by_<4611686018427387904) :
 CallsR Tryz.prog 199 [.ptr 0 2 1 0 0,.int .i64 line,.int .i64 by_] (xHI n l) (.tuple []) (xHI n (mvK l line by_ l.length)):=by
 refine callsR_of (mrg:=true) (dyn:=[5]) (CtrOK.cons ok_VAllI (CtrOK.cons ok_SetI (CtrOK.cons ok_TellI (CtrOK.nil _)))) mixed Tryz.func199 rfl (by simp [Tryz.ntmps199,AV.cells]) (by kernel_rfl) ?_
 rw[show Tryz.f199.results.toList=[] from by kernel_rfl]
 simp (maxSteps:=4000000) only[go_sem,seval,pureB_bints,leafy_bints,kVAllI,kSetI,kTellI,decL_bints,renL_bints,Qc]
 refine⟨by omega,hl,?_⟩
 rw[mark_eq,tell_map]
 simp only[Q6]
 refine rangG_intro (Q9 l.length) (fun(i:Nat)=>[.int .i64 (i:Int),.int .i64 (l.getD i 0)]) 0 [(5,.ptr 5 1 1 0 0),(4,.ptr 4 1 1 0 0),(3,.ptr 3 1 1 0 0)] (xHI n l ++ [.arr 143 1 [.ptr 0 2 1 0 0],.arr 3 1 [.int .i64 line],.arr 3 1 [.int .i64 by_]])
  (fun k=>([(5,.ptr 5 1 1 0 0),(4,.ptr 4 1 1 0 0),(3,.ptr 3 1 1 0 0)],xHI n (mvK l line by_ k) ++ [.arr 143 1 [.ptr 0 2 1 0 0],.arr 3 1 [.int .i64 line],.arr 3 1 [.int .i64 by_]])) (fun _=>True) rfl ?_ ?_ trivial (fun _=>rfl) ?_ ?_
 ·simp (maxSteps:=4000000) only[go_sem,seval,pureB_bints,leafy_bints,kVAllI,kSetI,kTellI,decL_bints,renL_bints,Qc]
  (repeat' first | exact subX_eq rfl (pureB_bints _) | exact subX_self rfl | apply And.intro | decide | rfl)
 ·simp only[mvK_zero]
  simp (maxSteps:=4000000) only[go_sem,seval,pureB_bints,leafy_bints,Qc]
  (repeat' first | exact subX_eq rfl (pureB_bints _) | exact subX_self rfl | apply And.intro | decide | rfl)
 ·intro k hk _
  rw[Xb] at hk
  have hkd:(Q9 l.length).getD k 0=k:=by simp [hk]
  have hlm:=mvK_len l line by_ k
  have hlm1:=mvK_len l line by_ (k+1)
  have hx:=hb (l.getD k 0) (by rw[Q1,Q2 hk];exact List.getElem_mem hk)
  have hw:IntKind.i64.wrap (l.getD k 0+by_)=l.getD k 0+by_:=wrap64 (by omega) (by omega)
  have hin:(0≤(k:Int)∧(k:Int)< (l.length:Int))=True:=eq_true ⟨by omega,by omega⟩
  rw[hkd]
  by_cases hlt:line< (k:Int)
  ·have c1:decide ((k:Int) > line)=true:=decide_eq_true hlt
   have hset:=mvK_set l line by_ k hk hlt
   simp (maxSteps:=4000000) only[go_sem,seval,hlm,hlm1,hw,hin,c1,hset,pureB_bints,leafy_bints,kVAllI,kSetI,kTellI,decL_bints,renL_bints,Qc,Qh]
   (repeat' first | exact subX_eq rfl (pureB_bints _) | exact subX_self rfl | omega | decide | rfl | apply And.intro)
  ·have c1:decide ((k:Int) > line)=false:=decide_eq_false hlt
   have hset:=mvK_skip l line by_ k hlt
   simp (maxSteps:=4000000) only[go_sem,seval,hlm,hlm1,hset,c1,pureB_bints,leafy_bints,kVAllI,kSetI,kTellI,decL_bints,renL_bints,Qc,Qh]
   (repeat' first | exact subX_eq rfl (pureB_bints _) | exact subX_self rfl | omega | decide | rfl | apply And.intro)
 ·intro _
  have hlm:=mvK_len l line by_ l.length
  rw[Xb]
  simp (maxSteps:=4000000) only[go_sem,seval,hlm,pureB_bints,leafy_bints,kVAllI,kSetI,kTellI,decL_bints,renL_bints,Qc]
  (repeat' first | exact subX_eq rfl (pureB_bints _) | exact subX_self rfl | omega | decide | rfl | apply And.intro)
end Go.Pg
namespace Go.Pg
open Go Go.Proofs
variable [Syms]
abbrev hIdx:HC ((List Int×Unit)×Int×Unit):=hPtr 216 2 (hCons hVecI (hCons (hP .id (cInt .i64)) hNil))
def lineI (l:List Int)(off:Int):Int:=Tb.line (l.map Xg) off.toNat
theorem toNat_cN (l:List Nat):(cN l).map Xg=l:=by
 unfold cN
 rw[Xh]
 conv=>rhs;rw[←List.map_id l]
 exact Q8 fun x _=>by simp
def okIdx (l:List Int)(off:Int):Prop:=∃T:Tb.Bs,l=cN (Tb.starts T)∧0≤off∧off≤T.length∧T.length≤60000
theorem starts_le (T:Tb.Bs):(Tb.starts T).length≤T.length+1:=by
 have:∀(o:Nat) (a:Tb.Bs),(Tb.nls o a).length≤a.length:=by
  intro o a
  induction a generalizing o with
  | nil=>simp [Tb.nls]
  | cons c r ih=>
   have:=ih (o+1)
   simp only[Tb.nls]
   split <;> simp <;> omega
 have:=this 0 T
 simp [Tb.starts];omega
def kLine:C1:=C1.mx none true false (hCons hIdx (hCons (hP .id (cInt .i64)) hNil)) (fun d=>okIdx d.1.1.1 d.2.1) (fun d=> .int .i64 (lineI d.1.1.1 d.2.1)) (fun d=>xHI d.1.2.1 d.1.1.1)
theorem ok_Line:C1OK Tryz.prog 198 kLine:=C1OK.mx (by kernel_rfl) (fun d h _=>by
 obtain⟨⟨⟨l,_⟩,n,_⟩,off,_⟩:=d
 obtain⟨T,rfl,h1,h2,h3⟩:=h
 replace h1:0≤off:=h1
 replace h2:off≤T.length:=h2
 have hs:=starts_le T
 have h:=calls_line T n off.toNat (by omega) (by omega) (by omega)
 rw[show((off.toNat:Nat):Int)=off by omega,←Tb.line_ok T (show off.toNat≤T.length by omega)] at h
 show CallsR _ _ _ _ (.int .i64 (lineI (cN (Tb.starts T)) off)) _
 unfold lineI
 rw[toNat_cN]
 exact h) (fun _=>rfl) (fun d _=>by simp [hIdx,hVecI,hPtr,hCons,hOwn,hP,hNil,hBox,hAgg,xHI])
def okMv (l:List Int)(by_:Int):Prop:=l.length≤65536∧(∀x∈l,-4611686018427387904≤x∧x≤4611686018427387904)∧ -4611686018427387904<by_∧by_<4611686018427387904
def kMove:C1:=C1.mby (hCons hIdx (hCons (hP .id (cInt .i64)) (hCons (hP .id (cInt .i64)) hNil))) (fun d=>okMv d.1.1.1 d.2.2.1) (fun _=> .tuple []) (fun d=>xHI d.1.2.1 (mvK d.1.1.1 d.2.1 d.2.2.1 d.1.1.1.length))
theorem ok_Move:C1OK Tryz.prog 199 kMove:=C1OK.mby (by kernel_rfl) (fun d h=>calls_move d.1.2.1 d.1.1.1 d.2.1 d.2.2.1 h.1 h.2.1 h.2.2) (fun d _=>by simp [hIdx,hVecI,hPtr,hCons,hOwn,hP,hNil,hBox,hAgg,xHI])
theorem starts_bound (T:Tb.Bs):∀x∈Tb.starts T,x≤T.length:=by
 intro x hx
 simp only[Tb.starts,Xe] at hx
 rcases hx with rfl | hx
 ·omega
 ·have:=Tb.nls_gt 0 T x hx;omega
theorem okMv_starts (T:Tb.Bs)(by_:Int)(h:T.length≤60000)(hb: -4611686018427387904<by_∧by_<4611686018427387904):okMv (cN (Tb.starts T)) by_:=by
 refine⟨by rw[cN_len];have:=starts_le T;omega,fun x hx=>?_,hb⟩
 obtain⟨n,hn,rfl⟩:=Xi.1 hx
 have:=starts_bound T n hn
 have e:(Int.ofNat n)=(n:Int):=rfl
 rw[e]
 omega
theorem nls_snoc (o:Nat)(s:Tb.Bs)(i:Nat)(h:i<s.length):Tb.nls o (s.take (i+1))=Tb.nls o (s.take i) ++ (if s.getD i 0=10 then[o+i+1] else[]):=by
 have e:s.take (i+1)=s.take i ++ [s.getD i 0]:=by
  rw[List.take_add_one,Q1,Q2 h];rfl
 rw[e,Tb.nls_app,Qa,Qy (by omega)]
 simp [Tb.nls]
theorem mv_starts (T:Tb.Bs)(k:Nat)(n:Nat):mvK (cN (Tb.starts T)) k n (cN (Tb.starts T)).length=cN (Tb.moveF (Tb.starts T) k (· +n)):=by
 rw[mvK_done]
 simp only[cN,Tb.moveF,List.map_append,Qp,Qq,Xh]
 congr 1
theorem insX_cN (T:Tb.Bs)(off:Nat)(s:Tb.Bs)(h:off≤T.length) :
 (cN (Tb.moveF (Tb.starts T) (Tb.line (Tb.starts T) off) (· +s.length))).take (Tb.line (Tb.starts T) off+1) ++ cN (Tb.nls off s) ++ (cN (Tb.moveF (Tb.starts T) (Tb.line (Tb.starts T) off) (· +s.length))).drop (Tb.line (Tb.starts T) off+1)=cN (Tb.starts (T.take off ++ s ++ T.drop off)):=by
 rw[←Tb.insX_ok T s h]
 simp [cN,Tb.insX]
set_option maxRecDepth 20000 in
set_option maxHeartbeats 4000000 in
theorem calls_IIns (T s:Tb.Bs)(off:Nat)(h:off≤T.length)(hT:T.length≤60000)(hs:s.length≤60000)(hle:T.length+s.length≤60000) :
 CallsR Tryz.prog 140 [.ptr 0 2 1 0 0,.int .i64 off,.str s] (xHI T.length (cN (Tb.starts T))) (.bool true)
  [.arr 216 2 [.agg [.ptr 1 1 1 0 0,.int .i64 ((T.take off ++ s ++ T.drop off).length:Nat)]],.arr 288 1 [.agg [.own 3 1 (cN (Tb.starts (T.take off ++ s ++ T.drop off))).length]],.dead,.arr 3 1 ((cN (Tb.starts (T.take off ++ s ++ T.drop off))).map bInt)]:=by
 refine callsR_of (mrg:=true) (dyn:=[]) (CtrOK.cons ok_Line (CtrOK.cons ok_Move (CtrOK.cons ok_VInsI (CtrOK.nil _)))) mixed Tryz.func140 rfl (by simp [Tryz.ntmps140,AV.cells]) (by kernel_rfl) ?_
 rw[show Tryz.f140.results.toList=[.tmp 6] from by kernel_rfl]
 have c1:decide ((off:Int)<0)=false:=decide_eq_false (by omega)
 have c2:decide ((off:Int) > (T.length:Int))=false:=decide_eq_false (by omega)
 obtain⟨T',hT'⟩:∃T',T'=T.take off ++ s ++ T.drop off:=⟨_,rfl⟩
 have hTl:T'.length=T.length+s.length:=by rw[hT'];simp only[Qe,Qa,Qd];omega
 rw[←hT']
 obtain⟨k,hk⟩:∃k,k=Tb.line (Tb.starts T) off:=⟨_,rfl⟩
 have hL:lineI (cN (Tb.starts T)) (off:Int)=(k:Int):=by unfold lineI;rw[toNat_cN,hk];rfl
 have hmv:=mv_starts T k s.length
 have hkl:k+1≤(Tb.starts T).length:=by rw[hk,Tb.line_ok T h,Tb.starts,Tb.nls_cut T h];simp
 have hml:(cN (Tb.moveF (Tb.starts T) k (· +s.length))).length=(cN (Tb.starts T)).length:=by rw[cN_len,cN_len];simp [Tb.moveF];omega
 have hsl:=starts_le T
 have hfin:=insX_cN T off s h
 rw[←hk,←hT',Qg] at hfin
 simp (maxSteps:=4000000) only[go_sem,seval,c1,c2,hL,hmv,pureB_bints,leafy_bints,kLine,kMove,kVInsI,decL_bints,renL_bints,Qc]
 have hmf:(Tb.moveF (Tb.starts T) k (· +s.length)).length=(Tb.starts T).length:=by simp [Tb.moveF];omega
 have w3:IntKind.i64.wrap ((k:Int)+1)=((k+1:Nat):Int):=by rw[wrap64 (by omega) (by omega)];omega
 have w4:IntKind.i64.wrap ((T.length:Int)+(s.length:Int))=(T'.length:Int):=by rw[wrap64 (by omega) (by omega),hTl];omega
 have hlT:(Tb.starts T).length+(Tb.nls off s).length=(Tb.starts T').length:=by
  have:=congrArg List.length hfin
  simp only[cN_len,Qe,Qa,Qd,hmf] at this
  omega
 have hsl':=starts_le T'
 have hn0:Tb.nls off (s.take 0)=[]:=by simp [Tb.nls]
 have hc0:cN []=[]:=rfl
 have hkL:(List.map Xg (cN (Tb.starts T)))=Tb.starts T:=toNat_cN _
 refine⟨⟨T,rfl,by omega,by omega,hT⟩,okMv_starts T _ hT ⟨by omega,by omega⟩,?_⟩
 refine loopH_intro (α:=Nat) (fun i=>([(0,.ptr 0 2 1 0 0),(1,.int .i64 off),(2,.str s),(7,.int .i64 k),(8,.own 3 1 (Tb.nls off (s.take i)).length),(29,.int .i64 s.length),(30,.int .i64 i)],
  [.arr 216 2 [.agg [.ptr 1 1 1 0 0,.int .i64 T.length]],.arr 288 1 [.agg [.own 2 1 (Tb.starts T).length]],.arr 3 1 ((cN (Tb.moveF (Tb.starts T) k (· +s.length))).map bInt),.arr 3 1 ((cN (Tb.nls off (s.take i))).map bInt)]))
  (fun i=>i≤s.length) (fun i=>s.length - i) 0 (by omega) ?_ ?_
 ·simp (maxSteps:=4000000) only[go_sem,seval,hml,hmf,hn0,hc0,cN_len,pureB_bints,leafy_bints,Qc,List.length_nil,List.map_nil]
  (repeat' first | exact subX_eq rfl (pureB_bints _) | exact subX_self rfl | omega | decide | rfl | apply And.intro)
 intro i hi
 by_cases hlt:i<s.length
 ·have ct:decide ((i:Int)< (s.length:Int))=true:=decide_eq_true (by omega)
  have hsn:=nls_snoc off s i hlt
  have hin:(0≤(i:Int)∧i<s.length)=True:=eq_true ⟨by omega,by omega⟩
  have w0:IntKind.i64.wrap ((i:Int)+1)=((i+1:Nat):Int):=by rw[wrap64 (by omega) (by omega)];omega
  by_cases h10:s.getD i 0=10
  ·rw[if_pos h10] at hsn
   have ce:(((s.getD i 0).toNat:Int) == 10)=true:=by rw[h10];rfl
   have w1:IntKind.i64.wrap ((off:Int)+(i:Int))=((off+i:Nat):Int):=by rw[wrap64 (by omega) (by omega)];omega
   have w2:IntKind.i64.wrap (((off+i:Nat):Int)+1)=((off+i+1:Nat):Int):=by rw[wrap64 (by omega) (by omega)];omega
   have hap:(cN (Tb.nls off (s.take i))).map bInt ++ [AV.int .i64 ((off+i+1:Nat):Int)]=(cN (Tb.nls off (s.take (i+1)))).map bInt:=by rw[hsn];simp [cN,bInt]
   have hl1:(Tb.nls off (s.take i)).length+1=(Tb.nls off (s.take (i+1))).length:=by rw[hsn];simp
   have hnb:(Tb.nls off (s.take i)).length≤60000:=by
    have:=starts_le (s.take i)
    have e:(Tb.nls off (s.take i)).length=(Tb.nls 0 (s.take i)).length:=by
     have:=Tb.nls_add off 0 (s.take i)
     rw[Q6] at this
     rw[this,Qc]
    rw[e]
    simp only[Tb.starts,List.length_cons,Qa] at this
    omega
   simp (maxSteps:=4000000) only[go_sem,seval,ct,ce,hin,hml,hmf,w0,w1,w2,hap,hl1,cN_len,pureB_bints,leafy_bints,Qc,Qh]
   refine⟨⟨by decide,by omega⟩,i+1,by omega,by omega,by decide,?_⟩
   (repeat' first | exact subX_eq rfl (pureB_bints _) | exact subX_self rfl | exact .inr ⟨⟨⟨rfl,rfl,rfl⟩,trivial⟩,trivial⟩ | omega | decide | rfl | apply And.intro)
  ·rw[if_neg h10,List.append_nil] at hsn
   have ce:(((s.getD i 0).toNat:Int) == 10)=false:=beq_eq_false_iff_ne.2 (fun hh=>h10 (by apply UInt8.toNat_inj.1;show _=10;omega))
   simp (maxSteps:=4000000) only[go_sem,seval,ct,ce,hin,hml,hmf,w0,hsn,cN_len,pureB_bints,leafy_bints,Qc,Qh]
   refine⟨i+1,by omega,by omega,by decide,?_⟩
   rw[hsn]
   (repeat' first | exact subX_eq rfl (pureB_bints _) | exact subX_self rfl | exact .inr ⟨⟨⟨rfl,rfl,rfl⟩,trivial⟩,trivial⟩ | omega | decide | rfl | apply And.intro)
 ·have ct:decide ((i:Int)< (s.length:Int))=false:=decide_eq_false (by omega)
  have hie:s.take i=s:=Qi (by omega)
  simp (maxSteps:=4000000) only[go_sem,seval,ct,hie,hml,hmf,w3,w4,hfin,hlT,cN_len,pureB_bints,leafy_bints,kVInsI,decL_bints,renL_bints,Qc,Qh]
  have hb9:(Tb.nls off s).length≤60001:=by omega
  refine⟨⟨by omega,by omega,by omega,by omega⟩,by decide,?_⟩
  (repeat' first | exact subX_eq rfl (pureB_bints _) | exact subX_self rfl | exact .inr ⟨⟨⟨rfl,rfl,rfl⟩,trivial⟩,trivial⟩ | omega | decide | rfl | apply And.intro)
end Go.Pg
namespace Go.Pg
open Go Go.Proofs
theorem readI_whole (F A:Tb.Bs)(hi:Int) [Syms]:∀(L:List Tb.Pc)(at_:Int),(∀p∈L,Tb.fits F A p)→0≤at_→at_+((Tb.whole F A L).length:Int)≤hi→readI F A 0 hi at_ (L.map fun p=>(p.added,(p.off:Int),(p.n:Int)))=Tb.whole F A L
 | [],_,_,_,_=>rfl
 | p :: r,at_,h,h0,hh=>by
  have hf:=h p (by simp)
  have htl:=Tb.text_len hf
  have hpos:=hf.1
  simp only[Tb.whole,Qe,htl] at hh
  have ih:=readI_whole F A hi r (at_+p.n) (fun q hq=>h q (by simp [hq])) (by omega) (by omega)
  simp only[Xf,readI,Tb.whole]
  rw[if_pos (by omega),ih]
  congr 1
  have e1:(max (0:Int) at_ - at_).toNat=0:=by omega
  have e2:(min hi (at_+(p.n:Int)) - at_).toNat=p.n:=by omega
  rw[e1,e2,Qt,Nat.sub_zero]
  have e3:textI F A (p.added,(p.off:Int),(p.n:Int))=Tb.text F A p:=by simp [textI,Tb.text]
  rw[e3]
  exact Qi (by omega)
theorem sumP_whole (F A:Tb.Bs) [Syms]:∀(L:List Tb.Pc),(∀p∈L,Tb.fits F A p)→sumP (L.map fun p=>(p.added,(p.off:Int),(p.n:Int)))=((Tb.whole F A L).length:Int)
 | [],_=>rfl
 | p :: r,h=>by
  have:=sumP_whole F A r fun q hq=>h q (by simp [hq])
  have htl:=Tb.text_len (h p (by simp))
  simp only[Xf,sumP,Tb.whole,Qe,this,htl]
  omega
abbrev pcs (L:List Tb.Pc):List Pc:=L.map fun p=>(p.added,(p.off:Int),(p.n:Int))
theorem inPc_fits {F A:Tb.Bs}{L:List Tb.Pc} [Syms] (h:∀p∈L,Tb.fits F A p):∀p∈pcs L,inPc F A p:=by
 intro p hp
 obtain⟨q,hq,rfl⟩:=Xi.1 hp
 have:=(h q hq).2
 refine⟨by simp,by simp,?_⟩
 simp only
 omega
abbrev bH (F A:Tb.Bs)(l:List Pc)(size edits:Int)(ts:List Int):AH:=
 [.arr 146 2 [.agg [.ptr 1 6 1 0 0,.ptr 5 2 1 0 0]],
  .arr 211 6 [.agg [.str F,.own 2 1 A.length,.ptr 3 1 1 0 0,.int .i64 size,.int .i64 4095,.int .i64 edits]],.arr 5 1 (ofBytes A),
  .arr 283 1 [.agg [.own 4 3 l.length]],.arr 209 3 (l.map aPc),
  .arr 216 2 [.agg [.ptr 6 1 1 0 0,.int .i64 size]],.arr 288 1 [.agg [.own 7 1 ts.length]],.arr 3 1 (ts.map bInt)]
abbrev bT:AH:=
 [.arr 146 2 [.agg [.ptr 1 6 1 0 0,.ptr 5 2 1 0 0]],
  .arr 211 6 [.agg [.sym 0,.ows 2 1 0,.ptr 3 1 1 0 0,.sym 1,.int .i64 4095,.sym 2]],.tok 0,
  .arr 283 1 [.agg [.ows 4 3 1]],.tok 1,
  .arr 216 2 [.agg [.ptr 6 1 1 0 0,.sym 1]],.arr 288 1 [.agg [.ows 7 1 2]],.tok 2]
theorem tame_bytes (A:Tb.Bs):((ofBytes A).all fun v=>v.cells.all AV.tame)=true:=tame_map (fun b:UInt8=>AV.int .u8 (b.toNat:Int)) (fun _=>rfl) A
theorem tame_pcs (l:List Pc):((l.map aPc).all fun v=>v.cells.all AV.tame)=true:=tame_map aPc (fun _=>rfl) l
theorem tame_bints (l:List Int):((l.map bInt).all fun v=>v.cells.all AV.tame)=true:=tame_map bInt (fun _=>rfl) l
theorem tame3 (A:Tb.Bs)(l:List Pc)(ts:List Int):tameAs [⟨5,1,ofBytes A⟩,⟨209,3,l.map aPc⟩,⟨3,1,ts.map bInt⟩]=true:=by
 simp only[tameAs,List.all_cons,List.all_nil,tame_bytes,tame_pcs,tame_bints,Bool.and_self]
theorem nt_bytes (A:Tb.Bs):ntL (ofBytes A)=true:=ntL_map (fun b:UInt8=>AV.int .u8 (b.toNat:Int)) (fun _=>rfl) A
theorem nt_pcs (l:List Pc):ntL (l.map aPc)=true:=ntL_map aPc (fun _=>rfl) l
theorem nt_bints (l:List Int):ntL (l.map bInt)=true:=ntL_map bInt (fun _=>rfl) l
theorem nt_bH (F A:Tb.Bs)(l:List Pc)(size edits:Int)(ts:List Int):ntH (bH F A l size edits ts)=true:=by
 simp [ntH,ntO,ntL,nt,nt_bytes,nt_pcs,nt_bints]
@[reducible] def sLines (F A T:Tb.Bs) (l:List Pc) (size edits:Int) (ts:List Int):Syms:=
 mkS [.str F,.int .i64 size,.int .i64 edits,.str T,.sl 1 ((splitL T).map .str)] [⟨5,1,ofBytes A⟩,⟨209,3,l.map aPc⟩,⟨3,1,ts.map bInt⟩] [A.length,l.length,ts.length] [] rfl (tame3 A l ts)
theorem calls_Lines [S:Syms] (F A:Tb.Bs)(L:List Tb.Pc)(edits:Int)(ts:List Int)(h:∀p∈L,Tb.fits F A p)(hF:F.length≤60000)(hA:A.length≤60000)(hL:L.length≤60000)(hT:(Tb.whole F A L).length≤60000) :
 CallsR Tryz.prog 67 [.ptr 0 2 1 0 0] (bH F A (pcs L) ((Tb.whole F A L).length:Nat) edits ts) (.sl 1 ((splitL (Tb.whole F A L)).map .str)) (bH F A (pcs L) ((Tb.whole F A L).length:Nat) edits ts):=by
 generalize hTT:Tb.whole F A L=T at hT ⊢
 let S1:=sLines F A T (pcs L) (T.length:Nat) edits ts
 have hslice:= @calls_Slice S1 F A (pcs L) (T.length:Nat) 4095 edits 0 (T.length:Nat) (by omega) (by omega) (by rw[Qc];omega) (@inPc_fits F A L S1 h) (by rw[←hTT];exact @sumP_whole F A S1 L h) (by omega) (by omega) (by omega) (by omega)
 rw[Int.zero_add,@readI_whole F A (T.length:Nat) S1 L 0 h (by omega) (by rw[hTT];omega),hTT] at hslice
 have hsplit:= @calls_Split S1 T hT
 have hrun: @evF S1 Tryz.prog (@Lf.rows [⟨122,[.ptr 0 6 1 0 0,.int .i64 0,.sym 1],[.arr 211 6 [.agg [.sym 0,.ows 1 1 0,.ptr 2 1 1 0 0,.sym 1,.int .i64 4095,.sym 2]],.tok 0,.arr 283 1 [.agg [.ows 3 3 1]],.tok 1],.tuple [.sym 3,.int .i64 0],
  [.arr 211 6 [.agg [.sym 0,.ows 1 1 0,.ptr 2 1 1 0 0,.sym 1,.int .i64 4095,.sym 2]],.tok 0,.arr 283 1 [.agg [.ows 3 3 1]],.tok 1]⟩,
  ⟨82,[.sym 3,.str [10]],[],.sym 4,[]⟩] Ln) 20 67 [.ptr 0 2 1 0 0] bT= .ok (.sym 4,bT):=by kernel_rfl
 have h2:= @run_rows S1 _ _ _ (@Ln_ok S1 _ (@tblOK_of S1 _ (fun r hr=>by cases hr))) (fun c hc=>by
  simp only[Xe,List.not_mem_nil,or_false] at hc
  rcases hc with rfl | rfl
  ·exact hslice
  ·exact hsplit) mixed _ _ _ _ _ _ hrun
 exact tr_calls S1 S (by simp [ntL,nt]) (nt_bH _ _ _ _ _ _) (by simp only[nt];exact ntL_map _ (fun _=>rfl) _) (nt_bH _ _ _ _ _ _) h2
end Go.Pg
namespace Go.Pg.Li3
open Go Go.Pg Go.Proofs Go.RowKit Go.Lib
variable [Syms]
theorem info:∃i0 z,Tryz.prog.info? 209=some i0∧i0.zero=some z∧i0.size=3∧z.cells.size=3∧i0.bytes=24:=by
 have h:(match Tryz.prog.info? 209 with
  | some i=>match i.zero with
   | some z=>i.size == 3 && z.cells.size == 3 && i.bytes == 24
   | none=>false
  | none=>false)=true:=by kernel_rfl
 split at h
 ·next i hi=>
  split at h
  ·next z hz=>
   simp only[Qw,beq_iff_eq] at h
   exact⟨i,z,hi,hz,h.1.1,h.1.2,h.2⟩
  ·cases h
 ·cases h
set_option maxHeartbeats 4000000 in
set_option maxRecDepth 100000 in
theorem walk_room (b n cap i vb m vc:Nat)(c d:Array Value)(ty dty:TypeId)(fz dfz:Nat×Nat)(w:World)
 (hb:w.heap[b]? =some (.cells c ty fz)) (hth:Thaw fz c.size) (hsz:c.size=cap * 3) (hcm:cap≤9223372036854775807)
 (hd:w.heap[vb]? =some (.cells d dty dfz)) (hdth:Thaw dfz d.size) (hdst:¬(dfz.1≤d.size∧d.size<dfz.2)) (hdsz:m * 3≤d.size)
 (hvb:vb≠b) (hi:i<n) (hm:0<m) (hroom:n+m≤cap) (h1c:∀v∈(c.toList.drop (i * 3)).take ((n - i) * 3),v.oneCell'=true) (h1d:∀v∈(d.toList.drop 0).take (m * 3),v.oneCell'=true) :
 Calls Tryz.prog 196 #[.slice (some ⟨b,0,none⟩) n cap,.int .i64 i,.slice (some ⟨vb,0,none⟩) m vc] w fun e w'=>
  e= .returned (.slice (some ⟨b,0,none⟩) (n+m) cap)∧w'=w.drew.setRow b (c.toList.take (i * 3) ++ (d.toList.drop 0).take (m * 3) ++ (c.toList.drop (i * 3)).take ((n - i) * 3) ++ c.toList.drop ((n+m) * 3)).toArray:=by
 obtain⟨i0,z0,hi0,hz0,hs0,hzc0,hby0⟩:=info
 have u1:=Tryz.underlying280
 have z3:=Tryz.sizeOf3
 have zE:=Tryz.sizeOf209
 have mixed:Tryz.prog.follows .mixedOrders=true:=by kernel_rfl
 have hz1:¬((m:Int)=0):=by omega
 have hz2:¬((i:Int)=(n:Int)):=by omega
 have hsz':(Tryz.prog.info? 209).map (·.size)=some 3:=by rw[hi0];simp [hs0]
 have hfa:w.frozen? ⟨vb,0,none⟩=false:=by
  have:=hdth 0 (by omega)
  obtain⟨lo,hi'⟩:=dfz
  simp only[World.frozen?,hd]
  simp only at this
  simp
  omega
 have hfe:w.frozen? ⟨vb,d.size,none⟩=false:=by
  obtain⟨lo,hi'⟩:=dfz
  simp only[World.frozen?,hd]
  simp only at hdst
  simp
  omega
 have hov:∀off lb cb,(callFunc 263 #[.slice (some ⟨vb,0,none⟩) m vc,.slice (some ⟨b,off,none⟩) lb cb]).run Tryz.prog w= .ok (.value (.bool false)) w:=fun off lb cb=>by
  rw[run_callFunc_extern Tryz.func263 (by kernel_rfl) (by kernel_rfl) (by kernel_rfl) (e:=Extern.SlicesOverlaps.overlaps #[280,280] #[4]) (by kernel_rfl),
   Lib.run_overlaps_apart w 280 4 209 u1 3 zE ⟨vb,0,none⟩ ⟨b,off,none⟩ m vc lb cb hvb dty ty d.size c.size (by simp [World.shape?,hd]) (by simp [World.shape?,hb]) (by omega) hfa hfe]
  rfl
 have hw1:IntKind.i64.wrap ((i:Int)+(m:Int))=(i:Int)+(m:Int):=by rw[IntKind.wrap_i64];omega
 have hw2:IntKind.i64.wrap ((n:Int)+(m:Int))=(n:Int)+(m:Int):=by rw[IntKind.wrap_i64];omega
 have hb1:(0:Int)≤(i:Int)+(m:Int):=by omega
 have hin:i≤n:=by omega
 have htn:((i:Int)+(m:Int)).toNat=i+m:=by omega
 have hb2:¬(cap=i+m):=by omega
 have hb3:(i:Int)≤(n:Int)+(m:Int):=by omega
 have hb4:¬(cap=i):=by omega
 have hbd:w.drew.heap[b]? =some (.cells c ty fz):=hb
 obtain⟨cs,hcs⟩:∃cs,cs=(c.toList.drop (i * 3)).take ((n - i) * 3):=⟨_,rfl⟩
 have hcl:cs.length=(n - i) * 3:=by rw[hcs,Qa,Qd,Qb,hsz];omega
 obtain⟨ds,hds⟩:∃ds,ds=(d.toList.drop 0).take (m * 3):=⟨_,rfl⟩
 have hdl:ds.length=m * 3:=by rw[hds,Qa,Qd,Qb];omega
 obtain⟨R1,hR1⟩:∃R1:List Value,R1=c.toList.take ((i+m) * 3) ++ cs ++ c.toList.drop ((i+m) * 3+cs.length):=⟨_,rfl⟩
 have hR1l:R1.length=c.size:=by rw[hR1];simp only[Qe,Qa,Qd,Qb,hcl];omega
 obtain⟨W1,hW1⟩:∃W1,W1=w.drew.setRow b R1.toArray:=⟨_,rfl⟩
 have hcp1:∀ty' dc sc,(Builtin.copy_ #[280,280] ty' #[.slice (some ⟨b,(i+m) * 3,none⟩) (n+m - (i+m)) dc,.slice (some ⟨b,(i) * 3,none⟩) (n+m - i) sc]).run Tryz.prog w.drew= .ok (goInt (Q4 (n+m - i) (n+m - (i+m)))) W1:=fun ty' dc sc=>by
  have h:=run_copyR w.drew 280 280 ty' 209 3 b ((i+m) * 3) (n+m - (i+m)) dc c ty fz hbd hth ⟨b,i * 3,none⟩ (n+m - i) sc cs u1 hsz' (by rw[hcl];simp only[Qr];split <;> omega)
   (by rw[hcs];exact cell_of_drop hbd _ _) (by rw[hcl];omega) (by rw[hcs];exact h1c)
  rw[←hR1,←hW1] at h
  simpa using h
 have hb1':W1.heap[b]? =some (.cells R1.toArray ty fz):=by rw[hW1];exact setRow_heap w.drew b c _ ty fz hbd
 have hd1:W1.heap[vb]? =some (.cells d dty dfz):=by rw[hW1,setRow_other _ _ _ _ hvb];exact hd
 have hfin:R1.take (i * 3) ++ ds ++ R1.drop (i * 3+ds.length)=c.toList.take (i * 3) ++ ds ++ cs ++ c.toList.drop ((n+m) * 3):=by
  rw[hdl,hR1,hcl]
  have e1:(c.toList.take ((i+m) * 3) ++ cs ++ c.toList.drop ((i+m) * 3+(n - i) * 3)).take (i * 3)=c.toList.take (i * 3):=by
   rw[Qg,Qf (by simp only[Qa,Qb];omega),Xd,Qy (by omega)]
  have e2:(c.toList.take ((i+m) * 3) ++ cs ++ c.toList.drop ((i+m) * 3+(n - i) * 3)).drop (i * 3+m * 3)=cs ++ c.toList.drop ((i+m) * 3+(n - i) * 3):=by
   rw[Qg,Qx (by simp only[Qa,Qb];omega),Q5 (by simp only[Qa,Qb];omega),Ql]
  rw[e1,e2,show(i+m) * 3+(n - i) * 3=(n+m) * 3 by omega]
  simp only[Qg]
 have hcp2:∀(W:World),W.heap=W1.heap→∀ty' dc,(Builtin.copy_ #[280,280] ty' #[.slice (some ⟨b,(i) * 3,none⟩) (n+m - i) dc,.slice (some ⟨vb,0,none⟩) m vc]).run Tryz.prog W= .ok (goInt (Q4 m (n+m - i))) (W.setRow b (R1.take (i * 3) ++ ds ++ R1.drop (i * 3+ds.length)).toArray):=fun W hW ty' dc=>by
  have h:=run_copyR W 280 280 ty' 209 3 b (i * 3) (n+m - i) dc R1.toArray ty fz (by rw[hW];exact hb1') (by simpa [hR1l] using hth) ⟨vb,0,none⟩ m vc ds u1 hsz' (by rw[hdl];simp only[Qr];split <;> omega)
   (by rw[hds];exact cell_of_drop (by rw[hW];exact hd1) _ _) (by rw[hdl];simp [hR1l];omega) (by rw[hds];exact h1d)
  simpa using h
 rw[←hds,←hcs,←hfin]
 clear hfin hfa hfe hds hcs hR1
 go_enter Tryz.func196,Tryz.ntmps196
 go_wp2_with (simp only[hov])
 go_region_law_o (refine step_copy_runI rfl _ _ 280 280 rfl _ _ (by simp [Act.eval,Act.put]) (by simp [Act.eval,Act.put]) (hcp1 _ _ _) ?_)
 go_wp2_with (at_builtin;refine wpList_copy_runI _ rfl _ _ 280 280 rfl _ _ rfl rfl (hcp2 _ rfl _ _) ?_)
 go_ret
 exact⟨rfl,by first | (rw[hW1,setRow_setRow];done) | (rw[setRow_setRow];simp [hdl,Qg])⟩
set_option maxHeartbeats 4000000 in
set_option maxRecDepth 100000 in
theorem walk_grow (b n cap i vb m vc:Nat)(c d:Array Value)(ty dty:TypeId)(fz dfz:Nat×Nat)(w:World)
 (hb:w.heap[b]? =some (.cells c ty fz)) (hsz:c.size=cap * 3) (hnc:n≤cap)
 (hd:w.heap[vb]? =some (.cells d dty dfz)) (hdsz:m * 3≤d.size)
 (hi:i<n) (hm:0<m) (hroom:cap<n+m) (hbig:(n+m) * 24≤140737488355328) (h1c:∀v∈(c.toList.drop (i * 3)).take ((n - i) * 3),v.oneCell'=true) (h1d:∀v∈(d.toList.drop 0).take (m * 3),v.oneCell'=true) :
 Calls Tryz.prog 196 #[.slice (some ⟨b,0,none⟩) n cap,.int .i64 i,.slice (some ⟨vb,0,none⟩) m vc] w fun e w'=>∃S:List Value,S.length=(grownCap w (n+m) cap 209 - (n+m)) * 3∧
  e= .returned (.slice (some ⟨w.heap.size,0,none⟩) (n+m) (grownCap w (n+m) cap 209))∧SameBut w w'∧
  w'.heap=w.heap.push (.cells (c.toList.take (i * 3) ++ (d.toList.drop 0).take (m * 3) ++ (c.toList.drop (i * 3)).take ((n - i) * 3) ++ S).toArray 209 (0,0)):=by
 obtain⟨i0,z0,hi0,hz0,hs0,hzc0,hby0⟩:=info
 have u1:=Tryz.underlying280
 have u3:=Tryz.underlying3
 have mixed:Tryz.prog.follows .mixedOrders=true:=by kernel_rfl
 have hz1:¬((m:Int)=0):=by omega
 have hz2:¬((i:Int)=(n:Int)):=by omega
 have hz3:(cap:Int)< (n:Int)+(m:Int):=by omega
 have hsz':(Tryz.prog.info? 209).map (·.size)=some 3:=by rw[hi0];simp [hs0]
 have hbw:b<w.heap.size:=(Qo.1 hb).1
 have hvw:vb<w.heap.size:=(Qo.1 hd).1
 have hkk:(n:Int)+(m:Int) - (i:Int)=((n+m - i:Nat):Int):=by omega
 have hik:i+(n+m - i)=n+m:=by omega
 obtain⟨cs,hcs⟩:∃cs,cs=(c.toList.drop (i * 3)).take ((n - i) * 3):=⟨_,rfl⟩
 have hcl:cs.length=(n - i) * 3:=by rw[hcs,Qa,Qd,Qb,hsz];omega
 obtain⟨ds,hds⟩:∃ds,ds=(d.toList.drop 0).take (m * 3):=⟨_,rfl⟩
 have hdl:ds.length=m * 3:=by rw[hds,Qa,Qd,Qb];omega
 obtain⟨os,hos⟩:∃os,os=(c.toList.drop 0).take (i * 3):=⟨_,rfl⟩
 have hol:os.length=i * 3:=by rw[hos,Qa,Qd,Qb,hsz];omega
 have hold:(Builtin.firstCells i0.size i (.slice (some ⟨b,0,none⟩) i cap)).run Tryz.prog w.drew= .ok os.toArray w.drew:=by
  rw[hs0]
  exact run_firstCells_some w.drew 3 i ⟨b,0,none⟩ i cap os hol (by rw[hos];exact cell_of_drop (show w.drew.heap[b]? =_ from hb) 0 _)
 obtain⟨G,hG⟩:∃G,G=grownCap w (n+m) cap 209:=⟨_,rfl⟩
 obtain⟨Z1,hZ1⟩:∃Z1,Z1=Builtin.zeroCells z0.cells (n+m - i):=⟨_,rfl⟩
 obtain⟨Z2,hZ2⟩:∃Z2,Z2=Builtin.zeroCells z0.cells (G - (n+m)):=⟨_,rfl⟩
 have hZ1l:Z1.size=(n+m - i) * 3:=by rw[hZ1];simp [Builtin.zeroCells,hzc0]
 have hZ2l:Z2.size=(G - (n+m)) * 3:=by rw[hZ2];simp [Builtin.zeroCells,hzc0]
 obtain⟨ROW,hROW⟩:∃ROW:Array Value,ROW=os.toArray ++ Z1 ++ Z2:=⟨_,rfl⟩
 obtain⟨W1,hW1⟩:∃W1,W1=w.drew.alloc (.cells ROW 209):=⟨_,rfl⟩
 have hrz:∀ty',(Builtin.append_ #[280,3] ty' #[.slice (some ⟨b,0,none⟩) i cap,.int .i64 ((n:Int)+(m:Int) - (i:Int))]).run Tryz.prog w =
  .ok (.slice (some ⟨w.heap.size,0,none⟩) (n+m) G) W1:=fun ty'=>by
  have h:=Lib.run_append_grow_zeros w 280 3 ty' 209 i0 _ .i64 .i64 u1 u3 hi0 hz0 (some ⟨b,0,none⟩) i cap os hold (n+m - i) (by omega) (by omega) (by omega) (by omega) (by rw[hby0];omega) (by rw[hby0,hik];exact growslice_fits hroom hbig)
  rw[hik,←hG,←hZ1,←hZ2,←hROW,←hW1] at h
  rw[hkk]
  exact h
 have hGn:n+m≤G:=by rw[hG];exact grownCap_ge w _ _ _
 have hG63:G≤9223372036854775807:=by
  have:=grownCap_le_maxLen w (n+m) cap 209 (by unfold maxLen;omega)
  rw[←hG] at this
  unfold maxLen at this
  omega
 have hRl:ROW.size=G * 3:=by
  rw[hROW]
  simp only[Xa,Qm,hol,hZ1l,hZ2l]
  omega
 have hGi:¬(G=i):=by omega
 have hGim:¬(G=i+m):=by omega
 have hci:¬(cap=i):=by omega
 have hW1h:W1.heap=w.heap.push (.cells ROW 209 (0,0)):=by rw[hW1];exact(drew_same w (.cells ROW 209)).2
 have hnew:W1.heap[w.heap.size]? =some (.cells ROW 209 (0,0)):=by rw[hW1h];simp
 obtain⟨R2,hR2⟩:∃R2:List Value,R2=ROW.toList.take (i * 3) ++ ds ++ ROW.toList.drop (i * 3+ds.length):=⟨_,rfl⟩
 have hR2l:R2.length=G * 3:=by rw[hR2];simp only[Qe,Qa,Qd,Qb,hdl,hRl];omega
 have hcpA:∀(W:World),W.heap=W1.heap→∀ty' dc,(Builtin.copy_ #[280,280] ty' #[.slice (some ⟨w.heap.size,(i) * 3,none⟩) (n+m - i) dc,.slice (some ⟨vb,0,none⟩) m vc]).run Tryz.prog W= .ok (goInt (Q4 m (n+m - i))) (W.setRow w.heap.size R2.toArray):=fun W hW ty' dc=>by
  have h:=run_copyR W 280 280 ty' 209 3 w.heap.size (i * 3) (n+m - i) dc ROW 209 (0,0) (by rw[hW];exact hnew) (fun _ _ h=>by simp at h) ⟨vb,0,none⟩ m vc ds u1 hsz' (by rw[hdl];simp only[Qr];split <;> omega)
   (by rw[hds];exact cell_of_drop (by rw[hW,hW1h,Qs,if_neg (by omega)];exact hd) _ _) (by rw[hdl,hRl];omega) (by rw[hds];exact h1d)
  rw[←hR2] at h
  simpa using h
 obtain⟨R3,hR3⟩:∃R3:List Value,R3=R2.take ((i+m) * 3) ++ cs ++ R2.drop ((i+m) * 3+cs.length):=⟨_,rfl⟩
 have hcpB:∀(W:World),W.heap=(W1.setRow w.heap.size R2.toArray).heap→∀ty' dc sc,(Builtin.copy_ #[280,280] ty' #[.slice (some ⟨w.heap.size,(i+m) * 3,none⟩) (n+m - (i+m)) dc,.slice (some ⟨b,(i) * 3,none⟩) (n - i) sc]).run Tryz.prog W= .ok (goInt (Q4 (n - i) (n+m - (i+m)))) (W.setRow w.heap.size R3.toArray):=fun W hW ty' dc sc=>by
  have h:=run_copyR W 280 280 ty' 209 3 w.heap.size ((i+m) * 3) (n+m - (i+m)) dc R2.toArray 209 (0,0) (by rw[hW];exact setRow_heap W1 _ _ _ _ _ hnew) (fun _ _ h=>by simp at h) ⟨b,i * 3,none⟩ (n - i) sc cs u1 hsz' (by rw[hcl];simp only[Qr];split <;> omega)
   (by rw[hcs];exact cell_of_drop (by rw[hW,setRow_other _ _ _ _ (by omega),hW1h,Qs,if_neg (by omega)];exact hb) _ _) (by rw[hcl];simp only[Qm,hR2l];omega) (by rw[hcs];exact h1c)
  simp only[←hR3] at h
  simpa using h
 have hfin:R3=c.toList.take (i * 3) ++ ds ++ cs ++ Z2.toList:=by
  have hRT:ROW.toList=os ++ (Z1.toList ++ Z2.toList):=by rw[hROW];simp [Qg]
  have e0:os=c.toList.take (i * 3):=by rw[hos,Qt]
  have e1:R2=os ++ ds ++ ((Z1.toList ++ Z2.toList).drop (m * 3)):=by
   rw[hR2,hdl,hRT,Qf (by omega),Qi (by omega),Qn,Qj (by omega),Ql,show i * 3+m * 3 - os.length=m * 3 by omega]
  rw[hR3,hcl,e1,←e0]
  have hol2:(os ++ ds).length=(i+m) * 3:=by rw[Qe,hol,hdl];omega
  rw[Qf (by omega),Qi (by omega),Qn,Qj (by omega),Ql,show(i+m) * 3+(n - i) * 3 - (os ++ ds).length=(n - i) * 3 by omega,Q0,
   Qn,Qj (by rw[Qb,hZ1l];omega),Ql,Qb,hZ1l,show m * 3+(n - i) * 3 - (n+m - i) * 3=0 by omega,Qt]
 have hw1:IntKind.i64.wrap ((i:Int)+(m:Int))=(i:Int)+(m:Int):=by rw[IntKind.wrap_i64];omega
 have hw2:IntKind.i64.wrap ((n:Int)+(m:Int))=(n:Int)+(m:Int):=by rw[IntKind.wrap_i64];omega
 have hb1:(0:Int)≤(i:Int)+(m:Int):=by omega
 have hin:i≤n:=by omega
 have htn:((i:Int)+(m:Int)).toNat=i+m:=by omega
 have hb3:(i:Int)≤(n:Int):=by omega
 rw[←hds,←hcs,←hG]
 have hend:∀W:World,W.heap=(W1.setRow w.heap.size R2.toArray).heap→(W.setRow w.heap.size R3.toArray).heap=w.heap.push (.cells (c.toList.take (i * 3) ++ ds ++ cs ++ Z2.toList).toArray 209 (0,0)):=fun W hW=>by
  rw[heap_push_setRow W w.heap R2.toArray 209 (0,0) (by rw[hW,heap_push_setRow W1 w.heap ROW 209 (0,0) hW1h]),hfin]
 clear hfin hkk hik hold hROW hG hds hcs hos hR3 hR2
 have hS:Z2.toList.length=(G - (n+m)) * 3:=by rw[Qb];exact hZ2l
 clear hnew hW1h
 subst hW1
 have hE1:((w.alloc (.cells ROW 209)).drew).heap=(w.drew.alloc (.cells ROW 209)).heap:=rfl
 have hF1:(((w.alloc (.cells ROW 209)).drew.setRow w.heap.size R2.toArray).drew).heap=((w.drew.alloc (.cells ROW 209)).setRow w.heap.size R2.toArray).heap:=rfl
 have hsame:∀(R:Array Value) (W:World),SameBut w W→SameBut w (W.setRow w.heap.size R):=fun R W h=>⟨h.1,h.2,h.3⟩
 go_enter Tryz.func196,Tryz.ntmps196
 go_wp2_with (first
  | (at_builtin;refine Lib.wpList_append_run _ rfl _ _ _ _ rfl _ _ rfl rfl _ _ (hrz _) ?_)
  | (at_builtin;refine wpList_copy_runI _ rfl _ _ 280 280 rfl _ _ rfl rfl (hcpA _ hE1 _ _) ?_))
 go_region_law_o (refine step_copy_runI rfl _ _ 280 280 rfl (.slice (some ⟨w.heap.size,(i+m) * 3,none⟩) (n+m - (i+m)) (G - (i+m))) (.slice (some ⟨b,(i) * 3,none⟩) (n - i) (cap - i)) (by simp [Act.eval,Act.put]) (by simp [Act.eval,Act.put]) (hcpB _ hF1 3 (G - (i+m)) (cap - i)) ?_)
 go_wp2
 go_ret
 refine⟨Z2.toList,hS,rfl,?_,?_⟩
 ·exact⟨rfl,rfl,rfl⟩
 ·exact hend _ rfl
theorem calls_mid (vs ws:List AV)(i:Nat)(hi:i<vs.length)(hm:0<ws.length)(hbig:(vs.length+ws.length) * 24≤140737488355328)(hlv:vs.all AV.leafy=true)(hlw:ws.all AV.leafy=true) :
 CallsR Tryz.prog 196 [.own 0 3 vs.length,.int .i64 i,.own 1 3 ws.length] [.arr 209 3 vs,.arr 209 3 ws] (.own 2 3 (vs.length+ws.length)) [.dead,.arr 209 3 ws,.arr 209 3 (vs.take i ++ ws ++ vs.drop i)]:=
 insert_calls (by decide) walk_room walk_grow vs ws i hi hm hbig hlv hlw (by omega)
theorem own_any {H:AH}{E:Env}(hr:Rel H E){id sz:Nat}{e:TypeId}{vs:List AV}{v:Value}(ho:H[id]? =some (.arr e sz vs))(h:VR E (.own id sz vs.length) v) :
 ∃base cap,v= .slice base vs.length cap∧vs.length≤cap∧cap≤9223372036854775807∧(base=none→vs.length=0∧cap=0):=by
 cases h with
 | own _ _ _ a cap q1 q2 q3=>
  have h1:=(q3 vs.length (by rw[hr.hl];simp [hlOf,ho,AO.len])).2 rfl
  rcases h1 with⟨_,h2,h3⟩ | ⟨b,c,ty,fz,hm,rfl,hcap,hmax,hb,hsz⟩
  ·exact⟨a,cap,rfl,by omega,by omega,fun _=>⟨h2,h3⟩⟩
  ·exact⟨_,cap,rfl,hcap,hmax,(fun h=>by cases h)⟩
set_option maxHeartbeats 4000000 in
set_option maxRecDepth 100000 in
theorem walk_zero (base vbase:Option Addr)(n cap i vc:Nat)(w:World)(hi:i≤n)(hn:n≤cap)(hcm:cap≤9223372036854775807)(hnil:base=none→n=0∧cap=0) :
 Calls Tryz.prog 196 #[.slice base n cap,.int .i64 i,.slice vbase 0 vc] w fun e w'=>e= .returned (.slice base n cap)∧w'=w:=by
 have u1:=Tryz.underlying280
 have zE:=Tryz.sizeOf209
 have mixed:Tryz.prog.follows .mixedOrders=true:=by kernel_rfl
 cases base with
 | none=>
  obtain⟨rfl,rfl⟩:=hnil rfl
  have h0:i=0:=by omega
  subst h0
  go_enter Tryz.func196,Tryz.ntmps196
  go_wp2
  go_ret
  exact⟨rfl,rfl⟩
 | some a=>
  obtain⟨ab,ao,asp⟩:=a
  go_enter Tryz.func196,Tryz.ntmps196
  go_wp2
  all_goals (go_ret;exact⟨rfl,rfl⟩)
set_option maxHeartbeats 4000000 in
set_option maxRecDepth 100000 in
theorem walk_end (base vbase:Option Addr)(n cap m vc:Nat)(v':Value)(w w':World)(hn:n≤cap)(hcm:cap≤9223372036854775807)(hnil:base=none→n=0∧cap=0)(hm:0<m)
 (hrun:∀ty',(Builtin.append_ #[280,280] ty' #[.slice base n cap,.slice vbase m vc]).run Tryz.prog w= .ok v' w') :
 Calls Tryz.prog 196 #[.slice base n cap,.int .i64 n,.slice vbase m vc] w fun e W=>e= .returned v'∧W=w':=by
 have u1:=Tryz.underlying280
 have zE:=Tryz.sizeOf209
 have mixed:Tryz.prog.follows .mixedOrders=true:=by kernel_rfl
 have hz1:¬((m:Int)=0):=by omega
 cases base with
 | none=>
  obtain⟨rfl,rfl⟩:=hnil rfl
  go_enter Tryz.func196,Tryz.ntmps196
  go_wp2_with (at_builtin;refine Lib.wpList_append_run _ rfl _ _ _ _ rfl _ _ rfl rfl _ _ (hrun _) ?_)
  go_ret
  exact⟨rfl,rfl⟩
 | some a=>
  obtain⟨ab,ao,asp⟩:=a
  go_enter Tryz.func196,Tryz.ntmps196
  go_wp2_with (at_builtin;refine Lib.wpList_append_run _ rfl _ _ _ _ rfl _ _ rfl rfl _ _ (hrun _) ?_)
  all_goals (go_ret;exact⟨rfl,rfl⟩)
theorem calls_zero (vs:List AV)(i:Nat)(hi:i≤vs.length) :
 CallsR Tryz.prog 196 [.own 0 3 vs.length,.int .i64 i,.own 1 3 0] [.arr 209 3 vs,.arr 209 3 []] (.own 0 3 vs.length) [.arr 209 3 vs,.arr 209 3 []]:=by
 intro E vals hr hv
 obtain⟨u1,u2,u3,rfl,k1,k2,k3⟩:=hv.three
 obtain⟨base,cap,rfl,h1,h2,h3⟩:=own_any hr (id:=0) (vs:=vs) rfl k1
 obtain⟨vbase,vc,rfl,_⟩:=own_any hr (id:=1) (vs:=[]) rfl k3
 rw[k2.int_inv]
 refine(walk_zero base vbase vs.length cap i vc E.W hi h1 h2 h3).mono fun x W' ⟨he,hW⟩=>?_
 exact⟨_,E,he,hW.symm,k1,hr,Step.refl _ _⟩
theorem tkS:tk Tryz.prog 280= .slice 209 3:=by kernel_rfl
theorem calls_end (vs ws:List AV)(hm:0<ws.length)(hbig:(vs.length+ws.length) * 24≤140737488355328)(hlw:ws.all AV.leafy=true) :
 CallsR Tryz.prog 196 [.own 0 3 vs.length,.int .i64 vs.length,.own 1 3 ws.length] [.arr 209 3 vs,.arr 209 3 ws] (.own 0 3 (vs.length+ws.length)) [.arr 209 3 (vs ++ ws),.arr 209 3 ws]:=by
 intro E vals hr hv
 obtain⟨u1,u2,u3,rfl,k1,k2,k3⟩:=hv.three
 obtain⟨base,cap,rfl,h1,h2,h3⟩:=own_any hr (id:=0) (vs:=vs) rfl k1
 obtain⟨i0,z0,hi0,hz0,hs0,hzc0,hby0⟩:=info
 obtain⟨news,hs,hf⟩:=srcE_run (P:=Tryz.prog) (H:=[.arr 209 3 vs,.arr 209 3 ws]) hr (t':=280) (sz:=3) k3 (new:=ws) (fp:=[1]) (by simp [srcE,tkS,srcV,objAt]) (fun id _ o ho=>⟨o,ho,AOle.refl o⟩)
 obtain⟨vbase,vc,rfl,_⟩:=own_any hr (id:=1) (vs:=ws) rfl k3
 obtain⟨E',v',hrun,hv',hr',hst,_⟩:=app_own (P:=Tryz.prog) (t:=280) (t':=280) (ty:=280) Tryz.underlying280 hi0 hz0 (by rw[hzc0,hs0]) hs0 hby0 (by decide) hr k1 (id:=0) (vs:=vs) rfl rfl hs hf hlw hbig
 rw[k2.int_inv]
 refine(walk_end base vbase vs.length cap ws.length vc v' E.W E'.W h1 h2 h3 hm (fun ty'=>by simpa [Builtin.append_] using hrun)).mono fun x W' ⟨he,hW⟩=>?_
 exact⟨_,E',he,hW.symm,hv',hr',hst⟩
theorem calls_ins (vs ws:List AV)(i:Nat)(hi:i≤vs.length)(hbig:(vs.length+ws.length) * 24≤140737488355328)(hlv:vs.all AV.leafy=true)(hlw:ws.all AV.leafy=true) :
 CallsR Tryz.prog 196 [.own 0 3 vs.length,.int .i64 i,.own 1 3 ws.length] [.arr 209 3 vs,.arr 209 3 ws] (.own 2 3 (vs.length+ws.length)) [.dead,.arr 209 3 ws,.arr 209 3 (vs.take i ++ ws ++ vs.drop i)]:=by
 by_cases h0:ws=[]
 ·subst h0
  have h2:=(calls_zero vs i hi).adopt (id:=0) rfl rfl
  simpa using h2
 ·have hmp:0<ws.length:=Q7.2 h0
  by_cases hn:i=vs.length
  ·subst hn
   have h2:=(calls_end vs ws hmp hbig hlw).adopt (id:=0) rfl (by rw[Qe])
   simpa using h2
  ·exact calls_mid vs ws i (by omega) hmp hbig hlv hlw
end Go.Pg.Li3
namespace Go.Pg.Ld3
open Go Go.Pg Go.Proofs Go.RowKit Go.Lib Go.Sort
variable [Syms]
theorem info:∃i0 z,Tryz.prog.info? 209=some i0∧i0.zero=some z∧i0.size=3∧z.cells.size=3∧i0.bytes=24:=by
 have h:(match Tryz.prog.info? 209 with
  | some i=>match i.zero with
   | some z=>i.size == 3 && z.cells.size == 3 && i.bytes == 24
   | none=>false
  | none=>false)=true:=by kernel_rfl
 split at h
 ·next i hi=>
  split at h
  ·next z hz=>
   simp only[Qw,beq_iff_eq] at h
   exact⟨i,z,hi,hz,h.1.1,h.1.2,h.2⟩
  ·cases h
 ·cases h
set_option maxHeartbeats 4000000 in
set_option maxRecDepth 1000000 in
theorem walk (b n cap i j:Nat)(c:Array Value)(ty:TypeId)(fz:Nat×Nat)(w:World)
 (hb:w.heap[b]? =some (.cells c ty fz)) (hth:Thaw fz c.size) (hsz:c.size=cap * 3) (hnc:n≤cap) (hcm:cap≤9223372036854775807) (hij:i<j) (hj:j≤n)
 (h1c:∀v∈(c.toList.drop (j * 3)).take ((n - j) * 3),v.oneCell'=true) :
 Calls Tryz.prog 425 #[.slice (some ⟨b,0,none⟩) n cap,.int .i64 i,.int .i64 j] w fun e w'=>∃S:List Value,S.length=(cap - (i+(n - j))) * 3∧
  e= .returned (.slice (some ⟨b,0,none⟩) (i+(n - j)) cap)∧w'=w.drew.setRow b (c.toList.take (i * 3) ++ (c.toList.drop (j * 3)).take ((n - j) * 3) ++ S).toArray:=by
 obtain⟨i0,z,hi0,hz,hs1,hzc,hby⟩:=info
 have u1:=Tryz.underlying280
 have zv:=Tryz.zeroValue209
 have mixed:Tryz.prog.follows .mixedOrders=true:=by kernel_rfl
 have hltc:c.toList.length=c.size:=Qb
 obtain⟨cs,hcs⟩:∃cs,cs=(c.toList.drop (j * 3)).take ((n - j) * 3):=⟨_,rfl⟩
 have hcl:cs.length=(n - j) * 3:=by rw[hcs,Qa,Qd,hltc,hsz];omega
 have hcellS:∀k,k<c.size→(w.drew.cell? ⟨b,k,none⟩).isSome=true:=fun k hk=>by
  have hb':w.drew.heap[b]? =some (.cells c ty fz):=hb
  simp [World.cell?,hb',hk]
 have hfrz:∀k,k<c.size→w.drew.frozen? ⟨b,k,none⟩=false:=fun k hk=>by
  have:=hth k hk
  have hb':w.drew.heap[b]? =some (.cells c ty fz):=hb
  obtain⟨lo,hi⟩:=fz
  simp only[World.frozen?,hb']
  simp only at this
  simp
  omega
 obtain⟨A,hA,hsrc⟩:∃A:Addr,(if cap=j then(some ⟨b,0,none⟩:Option Addr) else some ⟨b,(j) * 3,none⟩)=some A∧Go.RowKit.Hid (∀t u,cs[t]? =some u→w.drew.cell? (A.add t)=some u):=by
  by_cases h:cap=j
  ·refine⟨⟨b,0,none⟩,by simp [h],fun t u hu=>?_⟩
   have h0:cs.length=0:=by rw[hcl];omega
   rw[Q3.1 h0] at hu
   simp at hu
  ·refine⟨⟨b,(j) * 3,none⟩,by simp [h],fun t u hu=>?_⟩
   have:=cell_of_drop (w:=w.drew) (show w.drew.heap[b]? =some (.cells c ty fz) from hb) (j * 3) ((n - j) * 3) t u (by rw[←hcs];exact hu)
   simpa using this
 have s1:Go.RowKit.Hid (cs.length=(n - j) * 3):=hcl
 have s2:Go.RowKit.Hid (∀u∈cs,u.oneCell'=true):=by rw[hcs];exact h1c
 have s3:Go.RowKit.Hid (∀t,t<cs.length→(w.drew.cell? ⟨b,0+i * 3+t,none⟩).isSome=true∧w.drew.frozen? ⟨b,0+i * 3+t,none⟩=false):=by
  intro t ht
  rw[hcl] at ht
  exact⟨hcellS _ (by rw[hsz];omega),hfrz _ (by rw[hsz];omega)⟩
 obtain⟨R1,hR1⟩:∃R1:List Value,R1=c.toList.take (i * 3) ++ cs ++ c.toList.drop (i * 3+cs.length):=⟨_,rfl⟩
 have hR1l:R1.length=c.size:=by rw[hR1];simp only[Qe,Qa,Qd,hltc,hcl];omega
 obtain⟨W1,hW1⟩:∃W1,W1=w.drew.setCells b (0+i * 3) cs:=⟨_,rfl⟩
 have hW1':W1=w.drew.setRow b R1.toArray:=by
  rw[hW1,Q6,setCells_row (P:=Tryz.prog) w.drew b (i * 3) c ty fz hb hth cs (by rw[hcl,hsz];omega) s2,hR1]
 have hb1:W1.heap[b]? =some (.cells R1.toArray ty fz):=by rw[hW1'];exact setRow_heap w.drew b c _ ty fz hb
 have hZl:(Builtin.zeroCells (Value.agg #[Value.bool false,Value.int .i64 0,Value.int .i64 0]).cells (n - (i+(n - j)))).toList.length=(n - (i+(n - j))) * 3:=by simp [Builtin.zeroCells,Value.cells]
 obtain⟨Z,hZ⟩:∃Z,Z=(Builtin.zeroCells (Value.agg #[Value.bool false,Value.int .i64 0,Value.int .i64 0]).cells (n - (i+(n - j)))).toList:=⟨_,rfl⟩
 rw[←hZ] at hZl
 have hZ1:∀v∈Z,v.oneCell'=true:=by
  intro v hv
  rw[hZ] at hv
  have:=zeroCells_mem _ _ v hv
  simp [Value.cells] at this
  first | (subst this;rfl) | (rcases this with rfl | rfl | rfl <;> rfl) | (rcases this with rfl | rfl <;> rfl)
 have hcl2:∀ty',(Builtin.clear_ #[280] ty' #[.slice (some ⟨b,(i+(n - j)) * 3,none⟩) (n - (i+(n - j))) (cap - (i+(n - j)))]).run Tryz.prog W1= .ok (.tuple #[]) (W1.setCells b ((i+(n - j)) * 3) Z):=fun ty'=>by
  have h:=run_clearK (P:=Tryz.prog) W1 280 209 ty' (Value.agg #[Value.bool false,Value.int .i64 0,Value.int .i64 0]) u1 zv (by simp [Value.cells,Value.oneCell']) b ((i+(n - j)) * 3) (n - (i+(n - j))) (cap - (i+(n - j))) (by omega)
   (fun k hk=>by
     have hk':(i+(n - j)) * 3+k<R1.toArray.size:=by simp only[Qm,hR1l,hsz];simp [Value.cells] at hk;omega
     simp [World.cell?,hb1];simpa using hk')
   (fun k hk=>by
     have hk':(i+(n - j)) * 3+k<c.size:=by simp only[hsz];simp [Value.cells] at hk;omega
     have:=hth _ hk'
     obtain⟨lo,hi⟩:=fz
     simp only[World.frozen?,hb1]
     simp only at this
     simp
     omega)
  rw[←hZ] at h
  simpa using h
 have hfin:W1.setCells b ((i+(n - j)) * 3) Z=w.drew.setRow b (c.toList.take (i * 3) ++ cs ++ (Z ++ c.toList.drop (n * 3))).toArray:=by
  rw[setCells_row (P:=Tryz.prog) W1 b ((i+(n - j)) * 3) R1.toArray ty fz hb1 (by simpa [hR1l] using hth) Z (by simp only[Qm,hR1l,hsz,hZl];omega) hZ1,hW1',setRow_setRow]
  congr 2
  have hl0:(c.toList.take (i * 3) ++ cs).length=(i+(n - j)) * 3:=by rw[Qe,Qa,hltc,hcl,hsz];omega
  have e1:R1.take ((i+(n - j)) * 3)=c.toList.take (i * 3) ++ cs:=by rw[hR1,Qf (by omega),Qi (by omega)]
  have e2:R1.drop ((i+(n - j)) * 3+Z.length)=c.toList.drop (n * 3):=by
   rw[hR1,hZl,Qn,Qj (by omega),Ql,Q0,hcl]
   congr 1;omega
  show R1.take _ ++ Z ++ R1.drop _=_
  rw[e1,e2,Qg]
 have hW:Go.RowKit.Hid (W1=w.drew.setCells b (0+i * 3) cs):=hW1
 have X:Go.Aside (W1.setCells b ((i+(n - j)) * 3) Z=w.drew.setRow b (c.toList.take (i * 3) ++ cs ++ (Z ++ c.toList.drop (n * 3))).toArray):=hfin
 have hS:(Z ++ c.toList.drop (n * 3)).length=(cap - (i+(n - j))) * 3:=by rw[Qe,hZl,Qd,hltc,hsz];omega
 rw[←hcs]
 clear hW1 hW1' hb1 hcs hR1 hfin hZ hcellS hfrz
 have hic:i≤cap:=by omega
 have hjc:j≤cap:=by omega
 have hne:¬((i:Int)=(j:Int)):=by omega
 have hci:¬(cap=i+(n - j)):=by omega
 go_enter Tryz.func425,Tryz.ntmps425
 go_wp2_with fail
 go_region_law_o (refine step_append_room rfl (.tmp 22) (.tmp 25) 280 rfl 209 i0 3 u1 hi0 hs1 b 0 i cap (by simp [Act.eval,Act.put]) A (n - j) (cap - j) cs (by simp [Act.eval,Act.put,hA]) s1.out hsrc.out s2.out (by omega) s3.out ?_;rw[←hW.out])
 go_wp2
 go_ret
 exact⟨Z ++ c.toList.drop (n * 3),hS,rfl,by first | exact X.out | (have h:=X.out;simp only[Xj] at h ⊢;exact h)⟩
theorem calls_del (vs:List AV)(i j:Nat)(hi:i<j)(hj:j≤vs.length)(hlv:vs.all AV.leafy=true) :
 CallsR Tryz.prog 425 [.own 0 3 vs.length,.int .i64 i,.int .i64 j] [.arr 209 3 vs] (.own 1 3 (i+(vs.length - j))) [.dead,.arr 209 3 (vs.take i ++ vs.drop j)]:=
 delete_calls walk vs i j hi hj hlv
end Go.Pg.Ld3
namespace Go.Pg
open Go Go.Proofs
variable [Syms]
set_option maxRecDepth 20000 in
set_option maxHeartbeats 4000000 in
theorem calls_has_pc (l:List Pc)(i:Int)(hl:l.length≤1099511627776) :
 CallsR Tryz.prog 424 [.ptr 0 1 1 0 0,.int .i64 i] [.arr 283 1 [.agg [.own 1 3 l.length]],.arr 209 3 (l.map aPc)] (.bool (decide (0≤i∧i<l.length))) [.arr 283 1 [.agg [.own 1 3 l.length]],.arr 209 3 (l.map aPc)]:=by
 refine callsR_of (mrg:=true) (dyn:=[]) (CtrOK.nil _) mixed Tryz.func424 rfl (by simp [Tryz.ntmps424,AV.cells]) (by kernel_rfl) ?_
 rw[show Tryz.f424.results.toList=[.tmp 4] from by kernel_rfl]
 by_cases h1:0≤i
 ·by_cases h2:i< (l.length:Int)
  ·have hc1:decide (0≤i)=true:=decide_eq_true h1
   have hc2:decide (i< (l.length:Int))=true:=decide_eq_true h2
   simp (maxSteps:=4000000) only[go_sem,seval,hc1,hc2,pureB_pcs,leafy_pcs]
   simp only[h1,h2,and_self,and_false,decide_true,decide_false]
   exact⟨by decide,⟨.inr ⟨⟨⟨rfl,rfl,rfl⟩,trivial⟩,trivial⟩,subX_eq rfl (pureB_pcs l)⟩,by first | rfl | simp [h1] | simp [h1,h2]⟩
  ·have hc1:decide (0≤i)=true:=decide_eq_true h1
   have hc2:decide (i< (l.length:Int))=false:=decide_eq_false h2
   simp (maxSteps:=4000000) only[go_sem,seval,hc1,hc2,pureB_pcs,leafy_pcs]
   simp only[h1,h2,and_self,and_false,decide_true,decide_false]
   exact⟨by decide,⟨.inr ⟨⟨⟨rfl,rfl,rfl⟩,trivial⟩,trivial⟩,subX_eq rfl (pureB_pcs l)⟩,by first | rfl | simp [h1] | simp [h1,h2]⟩
 ·have hc1:decide (0≤i)=false:=decide_eq_false h1
  simp (maxSteps:=4000000) only[go_sem,seval,hc1,pureB_pcs,leafy_pcs]
  simp only[h1,false_and,decide_false]
  exact⟨by decide,⟨.inr ⟨⟨⟨rfl,rfl,rfl⟩,trivial⟩,trivial⟩,subX_eq rfl (pureB_pcs l)⟩,by first | rfl | simp [h1] | simp [h1,h2]⟩
def kHasP:C1:=C1.mx none true false (hCons hVecP (hCons (hP .id (cInt .i64)) hNil)) (fun d=>d.1.1.length≤1099511627776) (fun d=> .bool (decide (0≤d.2.1∧d.2.1<d.1.1.length))) (fun d=>vP d.1.1)
theorem ok_HasP:C1OK Tryz.prog 424 kHasP:=C1OK.mx (by kernel_rfl) (fun d h _=>calls_has_pc d.1.1 d.2.1 h) (fun _=>rfl) (fun d _=>by simp [hVecP,hPtr,hCons,hOwn,hP,hNil,hBox,hAgg,vI])
set_option maxRecDepth 20000 in
set_option maxHeartbeats 4000000 in
theorem calls_At_pc (l:List Pc)(i:Int)(hl:l.length≤1099511627776) :
 CallsR Tryz.prog 393 [.ptr 0 1 1 0 0,.int .i64 i] (vP l) (.tuple [aPc (if 0≤i∧i<l.length then l.getD i.toNat (false,0,0) else(false,0,0)),.bool (decide (0≤i∧i<l.length))]) (vP l):=by
 refine callsR_of (mrg:=true) (dyn:=[]) (CtrOK.cons ok_HasP (CtrOK.nil _)) mixed Tryz.func393 rfl (by simp [Tryz.ntmps393,AV.cells]) (by kernel_rfl) ?_
 rw[show Tryz.f393.results.toList=[.cell 4 209,.tmp 5] from by kernel_rfl]
 by_cases h1:0≤i∧i< (l.length:Int)
 ·have hd:decide (0≤i∧i< (l.length:Int))=true:=decide_eq_true h1
  simp (maxSteps:=4000000) only[go_sem,seval,hd,h1,pureB_pcs,leafy_pcs,kHasP,decL_pcs,getD_pcs,aPc,renL_pcs,Qc]
  exact⟨hl,fun _=>⟨by omega,by decide,⟨.inr ⟨⟨⟨rfl,rfl,rfl⟩,trivial⟩,trivial⟩,subX_eq rfl (pureB_pcs l)⟩,by simp⟩⟩
 ·have hd:decide (0≤i∧i< (l.length:Int))=false:=decide_eq_false h1
  simp (maxSteps:=4000000) only[go_sem,seval,hd,h1,pureB_pcs,leafy_pcs,kHasP,decL_pcs,getD_pcs,aPc,renL_pcs,Qc]
  exact⟨hl,⟨by decide,⟨.inr ⟨⟨⟨rfl,rfl,rfl⟩,trivial⟩,trivial⟩,subX_eq rfl (pureB_pcs l)⟩,by simp⟩,fun h=>by simp at h⟩
theorem set_pcs (l:List Pc)(i:Nat)(a:Bool)(b c:Int):(l.map aPc).set i (.agg [.bool a,.int .i64 b,.int .i64 c])=(l.set i (a,b,c)).map aPc:=by rw[List.map_set];rfl
set_option maxRecDepth 20000 in
set_option maxHeartbeats 4000000 in
theorem calls_Set_pc (l:List Pc)(i:Int)(x:Pc)(hl:l.length≤1099511627776) :
 CallsR Tryz.prog 394 [.ptr 0 1 1 0 0,.int .i64 i,aPc x] (vP l) (.bool (decide (0≤i∧i<l.length))) (vP (if 0≤i∧i<l.length then l.set i.toNat x else l)):=by
 obtain⟨xa,xb,xc⟩:=x
 refine callsR_of (mrg:=true) (dyn:=[]) (CtrOK.cons ok_HasP (CtrOK.nil _)) mixed Tryz.func394 rfl (by simp [Tryz.ntmps394,AV.cells]) (by kernel_rfl) ?_
 rw[show Tryz.f394.results.toList=[.tmp 6] from by kernel_rfl]
 by_cases h1:0≤i∧i< (l.length:Int)
 ·have hd:decide (0≤i∧i< (l.length:Int))=true:=decide_eq_true h1
  rw[if_pos h1]
  simp (maxSteps:=4000000) only[go_sem,seval,hd,h1,pureB_pcs,leafy_pcs,kHasP,decL_pcs,getD_pcs,aPc,set_pcs,renL_pcs,Qc,Xc]
  exact⟨hl,fun _=>⟨by omega,by decide,⟨.inr ⟨⟨⟨rfl,rfl,rfl⟩,trivial⟩,trivial⟩,subX_eq rfl (pureB_pcs _)⟩,by simp⟩⟩
 ·have hd:decide (0≤i∧i< (l.length:Int))=false:=decide_eq_false h1
  rw[if_neg h1]
  simp (maxSteps:=4000000) only[go_sem,seval,hd,h1,pureB_pcs,leafy_pcs,kHasP,decL_pcs,getD_pcs,aPc,set_pcs,renL_pcs,Qc,Xc]
  exact⟨hl,⟨by decide,⟨.inr ⟨⟨⟨rfl,rfl,rfl⟩,trivial⟩,trivial⟩,subX_eq rfl (pureB_pcs _)⟩,by simp⟩,fun h=>by simp at h⟩
set_option maxRecDepth 20000 in
set_option maxHeartbeats 4000000 in
theorem calls_Len_pc (l:List Pc):CallsR Tryz.prog 423 [.ptr 0 1 1 0 0] (vP l) (.int .i64 l.length) (vP l):=by
 refine callsR_of (mrg:=true) (dyn:=[]) (CtrOK.nil _) mixed Tryz.func423 rfl (by simp [Tryz.ntmps423,AV.cells]) (by kernel_rfl) ?_
 rw[show Tryz.f423.results.toList=[.tmp 2] from by kernel_rfl]
 simp (maxSteps:=4000000) only[go_sem,seval,pureB_pcs,leafy_pcs,getD_pcs,renL_pcs,Qc]
 exact⟨by decide,.inr ⟨⟨⟨rfl,rfl,rfl⟩,trivial⟩,trivial⟩,subX_eq rfl (pureB_pcs _)⟩
def kLenP:C1:=C1.mx none true false (hCons hVecP hNil) (fun _=>True) (fun d=> .int .i64 d.1.1.length) (fun d=>vP d.1.1)
theorem ok_LenP:C1OK Tryz.prog 423 kLenP:=C1OK.mx (by kernel_rfl) (fun d _ _=>calls_Len_pc d.1.1) (fun _=>rfl) (fun d _=>by simp [hVecP,hPtr,hCons,hOwn,hP,hNil,hBox,hAgg,vI])
def kAtP:C1:=C1.mx none true false (hCons hVecP (hCons (hP .id (cInt .i64)) hNil)) (fun d=>d.1.1.length≤1099511627776) (fun d=> .tuple [aPc (if 0≤d.2.1∧d.2.1<d.1.1.length then d.1.1.getD d.2.1.toNat (false,0,0) else(false,0,0)),.bool (decide (0≤d.2.1∧d.2.1<d.1.1.length))]) (fun d=>vP d.1.1)
theorem ok_AtP:C1OK Tryz.prog 393 kAtP:=C1OK.mx (by kernel_rfl) (fun d h _=>calls_At_pc d.1.1 d.2.1 h) (fun _=>rfl) (fun d _=>by simp [hVecP,hPtr,hCons,hOwn,hP,hNil,hBox,hAgg,vI])
def kSetP:C1:=C1.mby (hCons hVecP (hCons (hP .id (cInt .i64)) (hCons (hP .id cPcs) hNil))) (fun d=>d.1.1.length≤1099511627776) (fun d=> .bool (decide (0≤d.2.1∧d.2.1<d.1.1.length))) (fun d=>vP (if 0≤d.2.1∧d.2.1<d.1.1.length then d.1.1.set d.2.1.toNat d.2.2.1 else d.1.1))
theorem ok_SetP:C1OK Tryz.prog 394 kSetP:=C1OK.mby (by kernel_rfl) (fun d h=>calls_Set_pc d.1.1 d.2.1 d.2.2.1 h) (fun d _=>by simp [hVecP,hPtr,hCons,hOwn,hP,hNil,hBox,hAgg,vI])
theorem calls_ClonePW (l:List Pc)(off len:Nat)(ho:off+len≤l.length)(hb:l.length≤1099511627):CallsR Tryz.prog 195 [.win 0 3 l.length off len] [.arr 209 3 (l.map aPc)] (.own 1 3 len) [.arr 209 3 (l.map aPc),.arr 209 3 (((l.drop off).take len).map aPc)]:=by
 have hlen:((l.drop off).take len).length=len:=by rw[Qa,Qd];omega
 have h:=calls_copyW (e:=209) (vs:=l.map aPc) (off:=off) (len:=len) (by
  have:=calls_CloneP0 ((l.drop off).take len) (by omega)
  rw[hlen] at this
  simpa [Qp,Qq] using this) (atom_pcs l) (by rw[Qc];exact ho)
 simpa [Qp,Qq] using h
def kClonePW:C1:=C1.mx none false true (hCons (hWin 209 3 cPcs bPc_pure) hNil) (fun d=>d.1.2.1+d.1.2.2≤d.1.1.length∧d.1.1.length≤1099511627) (fun d=> .own 1 3 d.1.2.2) (fun d=>[.arr 209 3 (d.1.1.map aPc),.arr 209 3 (((d.1.1.drop d.1.2.1).take d.1.2.2).map aPc)])
theorem ok_ClonePW:C1OK Tryz.prog 195 kClonePW:=C1OK.mx (by kernel_rfl) (fun d h _=>calls_ClonePW d.1.1 d.1.2.1 d.1.2.2 h.1 h.2) (fun _=>rfl) (fun d _=>by simp [hCons,hWin,hNil])
theorem calls_InsP (l more:List Pc)(i:Nat)(hi:i≤l.length)(hl:l.length≤1099511627)(hm:more.length≤1099511627) :
 CallsR Tryz.prog 196 [.own 0 3 l.length,.int .i64 i,.own 1 3 more.length] [.arr 209 3 (l.map aPc),.arr 209 3 (more.map aPc)]
  (.own 2 3 (l.length+more.length)) [.dead,.arr 209 3 (more.map aPc),.arr 209 3 ((l.take i ++ more ++ l.drop i).map aPc)]:=by
 have h:=Li3.calls_ins (l.map aPc) (more.map aPc) i (by rw[Qc];omega) (by simp only[Qc];omega) (leafy_pcs l) (leafy_pcs more)
 simpa [Qp,Qq] using h
def kInsP:C1:=C1.mby (hCons hOwnP (hCons (hP .id (cInt .i64)) (hCons hOwnP hNil))) (fun d=>0≤d.2.1∧d.2.1≤d.1.length∧d.1.length≤1099511627∧d.2.2.1.length≤1099511627)
 (fun d=> .own 2 3 (d.1.length+d.2.2.1.length)) (fun d=>[.dead,.arr 209 3 (d.2.2.1.map aPc),.arr 209 3 ((d.1.take d.2.1.toNat ++ d.2.2.1 ++ d.1.drop d.2.1.toNat).map aPc)])
theorem ok_InsP:C1OK Tryz.prog 196 kInsP:=C1OK.mby (by kernel_rfl) (fun d h=>by
 have:=calls_InsP d.1 d.2.2.1 d.2.1.toNat (by omega) h.2.2.1 h.2.2.2
 rw[show((d.2.1.toNat:Nat):Int)=d.2.1 by omega] at this
 exact this) (fun d _=>by simp [hCons,hOwn,hP,hNil])
theorem calls_DelP (l:List Pc)(i j:Nat)(hi:i<j)(hj:j≤l.length) :
 CallsR Tryz.prog 425 [.own 0 3 l.length,.int .i64 i,.int .i64 j] [.arr 209 3 (l.map aPc)] (.own 1 3 (i+(l.length - j))) [.dead,.arr 209 3 ((l.take i ++ l.drop j).map aPc)]:=by
 have h:=Ld3.calls_del (l.map aPc) i j hi (by rw[Qc];exact hj) (leafy_pcs l)
 simpa [Qp,Qq] using h
def kDelP:C1:=C1.mby (hCons hOwnP (hCons (hP .id (cInt .i64)) (hCons (hP .id (cInt .i64)) hNil))) (fun d=>0≤d.2.1∧d.2.1<d.2.2.1∧d.2.2.1≤d.1.length)
 (fun d=> .own 1 3 (d.2.1.toNat+(d.1.length - d.2.2.1.toNat))) (fun d=>[.dead,.arr 209 3 ((d.1.take d.2.1.toNat ++ d.1.drop d.2.2.1.toNat).map aPc)])
theorem ok_DelP:C1OK Tryz.prog 425 kDelP:=C1OK.mby (by kernel_rfl) (fun d h=>by
 have:=calls_DelP d.1 d.2.1.toNat d.2.2.1.toNat (by omega) (by omega)
 rw[show((d.2.1.toNat:Nat):Int)=d.2.1 by omega,show((d.2.2.1.toNat:Nat):Int)=d.2.2.1 by omega] at this
 exact this) (fun d _=>by simp [hCons,hOwn,hP,hNil])
set_option maxRecDepth 20000 in
set_option maxHeartbeats 4000000 in
theorem calls_VInsP (l more:List Pc)(i:Nat)(hi:i≤l.length)(hl:l.length≤1099511627)(hm:more.length≤1099511627) :
 CallsR Tryz.prog 138 [.ptr 0 1 1 0 0,.int .i64 i,.own 2 3 more.length] [.arr 283 1 [.agg [.own 1 3 l.length]],.arr 209 3 (l.map aPc),.arr 209 3 (more.map aPc)] (.bool true)
  [.arr 283 1 [.agg [.own 3 3 (l.length+more.length)]],.dead,.arr 209 3 (more.map aPc),.arr 209 3 ((l.take i ++ more ++ l.drop i).map aPc)]:=by
 refine callsR_of (mrg:=true) (dyn:=[]) (CtrOK.cons ok_InsP (CtrOK.nil _)) mixed Tryz.func138 rfl (by simp [Tryz.ntmps138,AV.cells]) (by kernel_rfl) ?_
 rw[show Tryz.f138.results.toList=[.tmp 6] from by kernel_rfl]
 have c1:decide ((i:Int)<0)=false:=decide_eq_false (by omega)
 have c2:decide ((i:Int) > (l.length:Int))=false:=decide_eq_false (by omega)
 simp (maxSteps:=4000000) only[go_sem,seval,c1,c2,pureB_pcs,leafy_pcs,kInsP,decL_pcs,renL_pcs,Qc,Qh]
 exact⟨by omega,by decide,.inr ⟨⟨⟨rfl,rfl,rfl⟩,trivial⟩,trivial⟩,subX_eq rfl (pureB_pcs _),subX_eq rfl (pureB_pcs _)⟩
set_option maxRecDepth 20000 in
set_option maxHeartbeats 4000000 in
theorem calls_VDelP (l:List Pc)(i n:Nat)(hi:i<l.length)(hn:0<n)(hin:i+n≤l.length)(hl:l.length≤1099511627) :
 CallsR Tryz.prog 391 [.ptr 0 1 1 0 0,.int .i64 i,.int .i64 n] (vP l) .top
  [.arr 283 1 [.agg [.own 2 3 (i+(l.length - (i+n)))]],.dead,.arr 209 3 ((l.take i ++ l.drop (i+n)).map aPc)]:=by
 refine callsR_of (mrg:=true) (dyn:=[]) (CtrOK.cons ok_HasP (CtrOK.cons ok_DelP (CtrOK.cons ok_ClonePW (CtrOK.nil _)))) mixed Tryz.func391 rfl (by simp [Tryz.ntmps391,AV.cells]) (by kernel_rfl) ?_
 rw[show Tryz.f391.results.toList=[.tmp 6] from by kernel_rfl]
 have hd:decide (0≤(i:Int)∧(i:Int)< (l.length:Int))=true:=decide_eq_true (by omega)
 have c1:decide ((n:Int)<1)=false:=decide_eq_false (by omega)
 have w1:IntKind.i64.wrap ((l.length:Int) - (i:Int))=((l.length - i:Nat):Int):=by rw[wrap64 (by omega) (by omega)];omega
 have w2:min (n:Int) ((l.length - i:Nat):Int)=(n:Int):=by omega
 have w3:IntKind.i64.wrap ((i:Int)+(n:Int))=((i+n:Nat):Int):=by rw[wrap64 (by omega) (by omega)];omega
 simp (maxSteps:=4000000) only[go_sem,seval,hd,c1,w1,w2,w3,pureB_pcs,leafy_pcs,kHasP,kDelP,kClonePW,decL_pcs,renL_pcs,Qc,Qh]
 exact⟨by omega,⟨by simp [hlOf,AO.len],by omega,by omega,by omega⟩,by omega,by omega,by decide,.inr ⟨⟨⟨rfl,rfl,rfl⟩,trivial⟩,trivial⟩,subX_eq rfl (pureB_pcs _)⟩
def kVInsP:C1:=C1.mby (hCons hVecP (hCons (hP .id (cInt .i64)) (hCons hOwnP hNil))) (fun d=>0≤d.2.1∧d.2.1≤d.1.1.length∧d.1.1.length≤1099511627∧d.2.2.1.length≤1099511627)
 (fun _=> .bool true) (fun d=>[.arr 283 1 [.agg [.own 3 3 (d.1.1.length+d.2.2.1.length)]],.dead,.arr 209 3 (d.2.2.1.map aPc),.arr 209 3 ((d.1.1.take d.2.1.toNat ++ d.2.2.1 ++ d.1.1.drop d.2.1.toNat).map aPc)])
theorem ok_VInsP:C1OK Tryz.prog 138 kVInsP:=C1OK.mby (by kernel_rfl) (fun d h=>by
 have:=calls_VInsP d.1.1 d.2.2.1 d.2.1.toNat (by omega) h.2.2.1 h.2.2.2
 rw[show((d.2.1.toNat:Nat):Int)=d.2.1 by omega] at this
 exact this) (fun d _=>by simp [hVecP,hPtr,hCons,hOwn,hP,hNil,hBox,hAgg])
end Go.Pg
