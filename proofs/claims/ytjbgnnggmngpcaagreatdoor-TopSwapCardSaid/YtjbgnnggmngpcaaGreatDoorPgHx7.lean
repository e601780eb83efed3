/- TopSwap: all runs. (Printed by mkfz.py.) The names of a map's keys, told in whatever order and sorted: the two calls of known(). Where words begin: the program's iterator; at the example's text. slices.Backward over one change, its cells as they are. slices.Backward over one change. -/
import Derived.Test.YtjbgnnggmngpcaaGreatDoorPgHx4
import Derived.Test.YtjbgnnggmngpcaaGreatDoorPgHx5
import Derived.Test.YtjbgnnggmngpcaaGreatDoorPgHx6
import Derived.Test.YtjbgnnggmngpcaaGreatDoorPgHx0
import Derived.Test.YtjbgnnggmngpcaaGreatDoorPgGf
import Derived.Test.YtjbgnnggmngpcaaGreatDoorPgYld4
import Derived.Test.YtjbgnnggmngpcaaGreatDoorPgNd
import Derived.Test.YtjbgnnggmngpcaaGreatDoorPgNd2
import Derived.Test.YtjbgnnggmngpcaaGreatDoorPgGt
set_option linter.unusedVariables false
set_option linter.unusedSimpArgs false
set_option linter.unusedSectionVars false
open List renaming all_eq_true → Qa,mem_range → Qb,length_append → Qc,getElem?_eq_some_iff → Qd,getElem?_append_right → Qf,length_cons → Qg,getElem?_map → Qh,length_eraseIdx_of_lt → Qj,getElem?_append_left → Ql,getElem?_eq_getElem → Qm,length_nil → Qn,append_assoc → Qo,not_mem_nil → Qp,range_succ → Qq,mem_cons → Qr,range → Qu
open Int renaming toNat_natCast → Qe
open Array renaming getD_eq_getD_getElem? → Qi,getElem?_eq_some_iff → Qk
open Nat renaming zero_add → Qs,zero_le → Qt
namespace Go.Pg
open Go Go.Proofs
variable (l:List UInt8) (at' len:Int) (F s:Tb.Bs) (size size2 fc fs:Int) (ls:List Tb.Bs) (c0 c2 c3:List Pc) (t0 t2:List Int) (A2 A3:Tb.Bs)
theorem runZ_all (n k:Nat)(h2:2≤n)(h12:n≤12)(hk:k+1<n):frZ (sZ l at' len F s size size2 fc fs ls c0 c2 c3 t0 t2 A2 A3 (tblZ n k)) n k:=by
 have h:n=2∨n=3∨n=4∨n=5∨n=6∨n=7∨n=8∨n=9∨n=10∨n=11∨n=12:=by omega
 rcases h with rfl | rfl | rfl | rfl | rfl | rfl | rfl | rfl | rfl | rfl | rfl
 ·exact Qa.1 (runZ2 l at' len F s size size2 fc fs ls c0 c2 c3 t0 t2 A2 A3) k (Qb.2 (by omega))
 ·exact Qa.1 (runZ3 l at' len F s size size2 fc fs ls c0 c2 c3 t0 t2 A2 A3) k (Qb.2 (by omega))
 ·exact Qa.1 (runZ4 l at' len F s size size2 fc fs ls c0 c2 c3 t0 t2 A2 A3) k (Qb.2 (by omega))
 ·exact Qa.1 (runZ5 l at' len F s size size2 fc fs ls c0 c2 c3 t0 t2 A2 A3) k (Qb.2 (by omega))
 ·exact Qa.1 (runZ6 l at' len F s size size2 fc fs ls c0 c2 c3 t0 t2 A2 A3) k (Qb.2 (by omega))
 ·exact Qa.1 (runZ7 l at' len F s size size2 fc fs ls c0 c2 c3 t0 t2 A2 A3) k (Qb.2 (by omega))
 ·exact Qa.1 (runZ8 l at' len F s size size2 fc fs ls c0 c2 c3 t0 t2 A2 A3) k (Qb.2 (by omega))
 ·exact Qa.1 (runZ9 l at' len F s size size2 fc fs ls c0 c2 c3 t0 t2 A2 A3) k (Qb.2 (by omega))
 ·exact Qa.1 (runZ10 l at' len F s size size2 fc fs ls c0 c2 c3 t0 t2 A2 A3) k (Qb.2 (by omega))
 ·exact Qa.1 (runZ11 l at' len F s size size2 fc fs ls c0 c2 c3 t0 t2 A2 A3) k (Qb.2 (by omega))
 ·exact Qa.1 (runZ12 l at' len F s size size2 fc fs ls c0 c2 c3 t0 t2 A2 A3) k (Qb.2 (by omega))
def tblA:List (OpK×List AV×AV):=[(.len 22,[.sym 0],.sym 9),(.bin .lss 3,[.sym 9,.int .i64 2],.bool true)]
def tblB:List (OpK×List AV×AV):=[(.len 22,[.sym 0],.sym 9),(.bin .lss 3,[.sym 9,.int .i64 2],.bool false),(.bin .gtr 3,[.sym 9,.int .i64 12],.bool true)]
set_option maxRecDepth 100000 in
theorem runA:chkZ (@evF (sZ l at' len F s size size2 fc fs ls c0 c2 c3 t0 t2 A2 A3 tblA) Tryz.prog (@Lf.rows [rowK] kZ) 60 3 [.sym 0,.sym 1] [])=true:=by kernel_rfl
set_option maxRecDepth 100000 in
theorem runB:chkZ (@evF (sZ l at' len F s size size2 fc fs ls c0 c2 c3 t0 t2 A2 A3 tblB) Tryz.prog (@Lf.rows [rowK] kZ) 60 3 [.sym 0,.sym 1] [])=true:=by kernel_rfl
end Go.Pg
namespace Go.Pg.Le
open Go Go.Pg Go.Proofs Go.RowKit
variable [Syms]
abbrev Ent:=List (UInt8×AV)
def kO (l:Ent):List UInt8:=l.map (·.1)
theorem decE_any (l:Ent):decE cByte cAny (encE cByte cAny l)=some l:=decE_enc cByte cAny cByte_dec (fun v=>rfl) l
theorem cByte_enc (b:UInt8):cByte.enc b= .int .u8 b.toNat:=rfl
theorem cAny_enc (v:AV):cAny.enc v=v:=rfl
def cFm {κ ν:Type}(ck:Cd κ)(cv:Cd ν):Cd (List (κ×ν)) where
 enc l:= .fm (encE ck cv l)
 dec
  | .fm es=>decE ck cv es
  | _=>none
 ok v a h:=by
  split at h
  ·rw[decE_ok _ _ _ _ h]
  ·cases h
theorem subX_nls' {H:AH}{F:List Nat}{pick:List (Option Nat)}{i sz:Nat}(h:pick[i]? =some none):subX H F pick [.nls] [.own i sz 0]:= .inr ⟨⟨⟨h,rfl⟩,trivial⟩,trivial⟩
theorem subX_own' {H:AH}{F:List Nat}{pick:List (Option Nat)}{i j sz n n':Nat}(h:pick[i]? =some (some j))(hn:n=n'):subX H F pick [.own j sz n] [.own i sz n']:= .inr ⟨⟨⟨h,rfl,hn⟩,trivial⟩,trivial⟩
def keysR (ks:List UInt8):List UInt8→List AV→List UInt8→Prop:=fun t x t'=>∃c left,x=[.int .u8 c.toNat]∧t'=t ++ [c]∧(t ++ c :: left).Perm ks
def keysD (ks:List UInt8):List UInt8→Prop:=fun t=>t.Perm ks
def keysT (ks:List UInt8):Tell:=⟨List UInt8,[],keysR ks,keysD ks⟩
theorem erase_perm {left:Ent}{j:Nat}{p:UInt8×AV}(hj:left[j]? =some p):(kO left).Perm (p.1 :: kO (left.eraseIdx j)):=by
 induction left generalizing j with
 | nil=>simp at hj
 | cons x r ih=>
  cases j with
  | zero=>simp only[List.getElem?_cons_zero,Option.some.injEq] at hj;subst hj;exact List.Perm.refl _
  | succ j=>
   have:=ih (j:=j) (by simpa using hj)
   exact(this.cons x.1).trans (List.Perm.swap _ _ _)
def lKeys:CdL Ent:=lOne (cRp (lOne (cFm cByte cAny)))
theorem lKeys_dec (l:Ent):lKeys.dec [.rp [.fm (encE cByte cAny l)]]=some l:=decE_any l
set_option maxHeartbeats 4000000 in
theorem pass_Collect (w:World)(g:Value)(R:Value→World→Prop)(h:Calls Tryz.prog 187 #[.slice none 0 0,g] w fun e w'=>∃v,e= .returned v∧R v w') :
 Calls Tryz.prog 124 #[g] w fun e w'=>∃v,e= .returned v∧R v w':=by
 go_enter Tryz.func124,Tryz.ntmps124
 go_wp2_with (go_at_call 187;refine h.mono ?_;rintro e w' ⟨v,rfl,hR⟩)
 go_ret
 exact⟨v,rfl,hR⟩
set_option maxHeartbeats 4000000 in
theorem pass_Sorted (w:World)(g:Value)(R:Value→World→Prop)(h:Calls Tryz.prog 124 #[g] w fun e w'=>∃v,e= .returned v∧Calls Tryz.prog 125 #[v] w' fun e w''=>(∃u,e= .returned u)∧R v w'') :
 Calls Tryz.prog 68 #[g] w fun e w'=>∃v,e= .returned v∧R v w':=by
 go_enter Tryz.func68,Tryz.ntmps68
 go_wp2_with (first
  | (go_at_call 124;refine h.mono ?_;rintro e w' ⟨v,rfl,h2⟩)
  | (go_at_call 125;refine h2.mono ?_;rintro e w' ⟨⟨u,rfl⟩,hR⟩))
 go_ret
 exact⟨v,rfl,hR⟩
set_option maxRecDepth 20000 in
set_option maxHeartbeats 4000000 in
theorem it_KeysR (l:Ent):ItR Tryz.prog 126 [.rp [.fm (encE cByte cAny l)]] ⟨List UInt8,[],keysR (kO l),keysD (kO l)⟩:=by
 refine itV_of (mrg:=true) (dyn:=[]) (CtrOK.nil _) mixed Tryz.func126 rfl (by simp [Tryz.ntmps126,AV.cells]) (by kernel_rfl) (by kernel_rfl) ?_
 intro y
 simp (maxSteps:=4000000) only[go_sem,seval,yieldU_some,cAny_enc,cByte_enc]
 refine loopYH_intro (ι:=List UInt8) (α:=Option (AV×AV)×List UInt8×Ent) (fun x=>(some x.2.1,[(5,.it 0),(0,.yld y)],[.it x.1 (encE cByte cAny x.2.2)]))
  (fun x=>(x.2.1 ++ kO x.2.2).Perm (kO l)) (fun x=>x.2.2.length) (none,[],l) (List.Perm.refl _) rfl ?_ ?_
 ·simp (maxSteps:=4000000) only[go_sem,seval]
 rintro⟨c,t,left⟩ hp
 simp (maxSteps:=4000000) only[go_sem,seval,yieldU_some,cAny_enc,cByte_enc]
 refine⟨fun he=>?_,fun j p hj=>⟨rfl,t ++ [p.1],⟨p.1,kO (left.eraseIdx j),rfl,rfl,((erase_perm hj).symm.append_left t).trans hp⟩,(some (cByte.enc p.1,cAny.enc p.2),t ++ [p.1],left.eraseIdx j),?_,?_,rfl,rfl,rfl⟩⟩
 ·subst he
  simpa [kO,keysD] using hp
 ·rw[Qo]
  exact((erase_perm hj).symm.append_left t).trans hp
 ·have:=(Qd.1 hj).1
  show(left.eraseIdx j).length<left.length
  rw[Qj this];omega
def kKeysR:C1:=C1.itU lKeys (fun _=>True) (fun d=>keysT (kO d))
theorem ok_KeysR:C1OK Tryz.prog 126 kKeysR:=C1OK.itU (by kernel_rfl) (fun d _=>it_KeysR d)
def aKeysR (l:Ent):AV:= .fn 126 [.rp [.fm (encE cByte cAny l)]]
set_option maxRecDepth 20000 in
set_option maxHeartbeats 4000000 in
theorem calls_AppendSeqR (l:Ent)(hl:l.length≤256):CallsE Tryz.prog 187 [.nls,aKeysR l] [] (fun t:List UInt8=>t.Perm (kO l)) (fun t=> .own 0 1 t.length) (fun t=>[.arr 5 1 (ofBytes t)]):=by
 refine callsE_of (mrg:=true) (dyn:=[]) (CtrOK.cons ok_KeysR (CtrOK.nil _)) mixed Tryz.func187 rfl (by simp [Tryz.ntmps187,AV.cells]) (by kernel_rfl) ?_
 rw[show Tryz.f187.results.toList=[.tmp 4] from by kernel_rfl]
 unfold aKeysR
 simp (maxSteps:=4000000) only[go_sem,seval,retE,kKeysR,lKeys_dec]
 rw[mark_eq]
 have hkl:(kO l).length≤256:=by simpa [kO] using hl
 refine rangU_intro (X:=⟨List UInt8,[],keysR (kO l),keysD (kO l)⟩) [(2,.ptr 0 1 1 0 0)] [.arr 22 1 [.nls]]
  (fun t=>([(2,.ptr 0 1 1 0 0)],[.arr 22 1 [.own 1 1 t.length],.arr 5 1 (ofBytes t)])) (fun t=>t.length≤256) ?_ ?_ (Qt _) ?_ ?_ ?_
 ·simp (maxSteps:=4000000) only[go_sem,seval,retE,kKeysR,lKeys_dec]
  exact subX_eq rfl rfl
 ·simp (maxSteps:=4000000) only[go_sem,seval,retE,kKeysR,lKeys_dec]
  exact⟨by decide,subX_nls' rfl,rfl⟩
 ·rintro t x t' ⟨c,left,rfl,rfl,hp⟩
  rfl
 ·rintro t x t' ⟨c,left,rfl,rfl,hp⟩ ht
  have h1:=hp.length_eq
  rw[Qc,Qg] at h1
  simp (maxSteps:=4000000) only[go_sem,seval,retE,kKeysR,lKeys_dec]
  exact⟨⟨by decide,by omega⟩,by omega,by decide,subX_own' rfl rfl,subX_eq rfl (pureB_bytes _)⟩
 ·intro t hD ht
  simp (maxSteps:=4000000) only[go_sem,seval,retE,kKeysR,lKeys_dec]
  exact⟨t,hD,subX_eq rfl (pureB_bytes _),rfl⟩
theorem calls_SortedR (l:Ent)(hl:l.length≤12)(s:List UInt8)(hsl:s.length=l.length)(hs:∀t,t.Perm (kO l)→CallsR Tryz.prog 125 [.own 0 1 t.length] [.arr 5 1 (ofBytes t)] (.tuple []) [.arr 5 1 (ofBytes s)]) :
 CallsR Tryz.prog 68 [aKeysR l] [] (.own 0 1 s.length) [.arr 5 1 (ofBytes s)]:=by
 intro E vals hr hv
 obtain⟨g,rfl,kg⟩:=vrs_one hv
 refine(pass_Sorted E.W g (fun v w''=>∃E',E'.W=w''∧VR E' (.own 0 1 s.length) v∧Rel [.arr 5 1 (ofBytes s)] E'∧Step [] E [.arr 5 1 (ofBytes s)] E') ?_).mono fun e W' ⟨v,he,E',h1,h2,h3,h4⟩=>⟨v,E',he,h1,h2,h3,h4⟩
 refine pass_Collect E.W g _ ?_
 refine(calls_AppendSeqR l (by omega) E #[.slice none 0 0,g] hr ⟨rfl,fun i c hc=>?_⟩).mono fun e W' ⟨t,v,E1,hx,he,hW,hvr,hr1,hst⟩=>⟨v,he,?_⟩
 ·match i,hc with
  | 0,hc=>cases hc;exact .nls
  | 1,hc=>cases hc;exact kg
  | i+2,hc=>simp at hc
 ·subst hW
  have htl:t.length=s.length:=by rw[hx.length_eq,hsl];simp [kO]
  refine(hs t hx E1 #[v] hr1 ⟨rfl,fun i c hc=>?_⟩).mono fun e W'' ⟨u,E2,he,hW,_,hr2,hst2⟩=>⟨⟨u,he⟩,E2,hW,?_,?_,?_⟩
  ·match i,hc with
   | 0,hc=>cases hc;exact hvr
   | i+1,hc=>simp at hc
  ·rw[←htl];exact hvr.mono (hst2.ext hr1)
  ·exact hr2
  ·exact hst.trans hst2
set_option maxRecDepth 20000 in
set_option maxHeartbeats 4000000 in
theorem it_KeysP (l:Ent):ItR Tryz.prog 128 [.rp [.fm (encE cByte cAny l)]] ⟨List UInt8,[],keysR (kO l),keysD (kO l)⟩:=by
 refine itV_of (mrg:=true) (dyn:=[]) (CtrOK.nil _) mixed Tryz.func128 rfl (by simp [Tryz.ntmps128,AV.cells]) (by kernel_rfl) (by kernel_rfl) ?_
 intro y
 simp (maxSteps:=4000000) only[go_sem,seval,yieldU_some,cAny_enc,cByte_enc]
 refine loopYH_intro (ι:=List UInt8) (α:=Option (AV×AV)×List UInt8×Ent) (fun x=>(some x.2.1,[(5,.it 0),(0,.yld y)],[.it x.1 (encE cByte cAny x.2.2)]))
  (fun x=>(x.2.1 ++ kO x.2.2).Perm (kO l)) (fun x=>x.2.2.length) (none,[],l) (List.Perm.refl _) rfl ?_ ?_
 ·simp (maxSteps:=4000000) only[go_sem,seval]
 rintro⟨c,t,left⟩ hp
 simp (maxSteps:=4000000) only[go_sem,seval,yieldU_some,cAny_enc,cByte_enc]
 refine⟨fun he=>?_,fun j p hj=>⟨rfl,t ++ [p.1],⟨p.1,kO (left.eraseIdx j),rfl,rfl,((erase_perm hj).symm.append_left t).trans hp⟩,(some (cByte.enc p.1,cAny.enc p.2),t ++ [p.1],left.eraseIdx j),?_,?_,rfl,rfl,rfl⟩⟩
 ·subst he
  simpa [kO,keysD] using hp
 ·rw[Qo]
  exact((erase_perm hj).symm.append_left t).trans hp
 ·have:=(Qd.1 hj).1
  show(left.eraseIdx j).length<left.length
  rw[Qj this];omega
def kKeysP:C1:=C1.itU lKeys (fun _=>True) (fun d=>keysT (kO d))
theorem ok_KeysP:C1OK Tryz.prog 128 kKeysP:=C1OK.itU (by kernel_rfl) (fun d _=>it_KeysP d)
def aKeysP (l:Ent):AV:= .fn 128 [.rp [.fm (encE cByte cAny l)]]
set_option maxRecDepth 20000 in
set_option maxHeartbeats 4000000 in
theorem calls_AppendSeqP (l:Ent)(hl:l.length≤256):CallsE Tryz.prog 187 [.nls,aKeysP l] [] (fun t:List UInt8=>t.Perm (kO l)) (fun t=> .own 0 1 t.length) (fun t=>[.arr 5 1 (ofBytes t)]):=by
 refine callsE_of (mrg:=true) (dyn:=[]) (CtrOK.cons ok_KeysP (CtrOK.nil _)) mixed Tryz.func187 rfl (by simp [Tryz.ntmps187,AV.cells]) (by kernel_rfl) ?_
 rw[show Tryz.f187.results.toList=[.tmp 4] from by kernel_rfl]
 unfold aKeysP
 simp (maxSteps:=4000000) only[go_sem,seval,retE,kKeysP,lKeys_dec]
 rw[mark_eq]
 have hkl:(kO l).length≤256:=by simpa [kO] using hl
 refine rangU_intro (X:=⟨List UInt8,[],keysR (kO l),keysD (kO l)⟩) [(2,.ptr 0 1 1 0 0)] [.arr 22 1 [.nls]]
  (fun t=>([(2,.ptr 0 1 1 0 0)],[.arr 22 1 [.own 1 1 t.length],.arr 5 1 (ofBytes t)])) (fun t=>t.length≤256) ?_ ?_ (Qt _) ?_ ?_ ?_
 ·simp (maxSteps:=4000000) only[go_sem,seval,retE,kKeysP,lKeys_dec]
  exact subX_eq rfl rfl
 ·simp (maxSteps:=4000000) only[go_sem,seval,retE,kKeysP,lKeys_dec]
  exact⟨by decide,subX_nls' rfl,rfl⟩
 ·rintro t x t' ⟨c,left,rfl,rfl,hp⟩
  rfl
 ·rintro t x t' ⟨c,left,rfl,rfl,hp⟩ ht
  have h1:=hp.length_eq
  rw[Qc,Qg] at h1
  simp (maxSteps:=4000000) only[go_sem,seval,retE,kKeysP,lKeys_dec]
  exact⟨⟨by decide,by omega⟩,by omega,by decide,subX_own' rfl rfl,subX_eq rfl (pureB_bytes _)⟩
 ·intro t hD ht
  simp (maxSteps:=4000000) only[go_sem,seval,retE,kKeysP,lKeys_dec]
  exact⟨t,hD,subX_eq rfl (pureB_bytes _),rfl⟩
theorem calls_SortedP (l:Ent)(hl:l.length≤12)(s:List UInt8)(hsl:s.length=l.length)(hs:∀t,t.Perm (kO l)→CallsR Tryz.prog 125 [.own 0 1 t.length] [.arr 5 1 (ofBytes t)] (.tuple []) [.arr 5 1 (ofBytes s)]) :
 CallsR Tryz.prog 68 [aKeysP l] [] (.own 0 1 s.length) [.arr 5 1 (ofBytes s)]:=by
 intro E vals hr hv
 obtain⟨g,rfl,kg⟩:=vrs_one hv
 refine(pass_Sorted E.W g (fun v w''=>∃E',E'.W=w''∧VR E' (.own 0 1 s.length) v∧Rel [.arr 5 1 (ofBytes s)] E'∧Step [] E [.arr 5 1 (ofBytes s)] E') ?_).mono fun e W' ⟨v,he,E',h1,h2,h3,h4⟩=>⟨v,E',he,h1,h2,h3,h4⟩
 refine pass_Collect E.W g _ ?_
 refine(calls_AppendSeqP l (by omega) E #[.slice none 0 0,g] hr ⟨rfl,fun i c hc=>?_⟩).mono fun e W' ⟨t,v,E1,hx,he,hW,hvr,hr1,hst⟩=>⟨v,he,?_⟩
 ·match i,hc with
  | 0,hc=>cases hc;exact .nls
  | 1,hc=>cases hc;exact kg
  | i+2,hc=>simp at hc
 ·subst hW
  have htl:t.length=s.length:=by rw[hx.length_eq,hsl];simp [kO]
  refine(hs t hx E1 #[v] hr1 ⟨rfl,fun i c hc=>?_⟩).mono fun e W'' ⟨u,E2,he,hW,_,hr2,hst2⟩=>⟨⟨u,he⟩,E2,hW,?_,?_,?_⟩
  ·match i,hc with
   | 0,hc=>cases hc;exact hvr
   | i+1,hc=>simp at hc
  ·rw[←htl];exact hvr.mono (hst2.ext hr1)
  ·exact hr2
  ·exact hst.trans hst2
theorem open_box {tB:TypeId}{f:FuncId}{l:Ent}(hp:(encE cByte cAny l).all (fun p=>p.1.pureB && p.2.pureB)=true)(E:Env)(vals:Array Value)(hr:Rel [.arr tB 1 [.mp 1],.mp (encE cByte cAny l)] E)(hvs:VRs E [.fn f [.ptr 0 1 1 0 0]] vals) :
 ∃st2:Nat→Prop,(∀b,st2 b→b<E.W.heap.size)∧VRs { W:=E.W,M:=fun _=>none,st:=st2,hl:=hlOf [] } [.fn f [.rp [.fm (encE cByte cAny l)]]] vals:=by
 obtain⟨u,rfl,k⟩:=vrs_one hvs
 obtain⟨us,rfl,hus,husv⟩:=k.fn_inv
 have k0:=husv 0 _ rfl
 generalize hu0:us.getD 0 Go.undef=u0 at k0
 cases k0 with
 | ptr _ _ _ _ _ a hm hl=>
  obtain⟨b,hb,ha⟩:=(hl 1 (by rw[hr.hl];rfl)).2 rfl
  subst ha
  rcases hr.orow 0 _ _ rfl hb with⟨h,_⟩ | ⟨b',c,fz,h1,h2,h3,h4,h5⟩
  ·cases h
  cases h1
  obtain⟨w,hw,hwv⟩:=(h5 0 _ rfl).2 0 (.mp 1) rfl
  cases hwv with
  | mp _ bm hm' hl'=>
   have hbm:=hl' (by rw[hr.hl];rfl)
   obtain⟨b2,a2,cl,g1,g2,g3,g4⟩:=hr.orow 1 _ _ rfl hbm
   cases g1
   refine⟨fun x=>E.st x∨x=b∨x=bm,?_,?_⟩
   ·rintro x (h | rfl | rfl)
    ·exact hr.stlt x h
    ·exact(Qk.1 h2).1
    ·exact(Qk.1 g2).1
   refine⟨rfl,fun i cc hc=>?_⟩
   match i,hc with
   | i+1,hc=>simp at hc
   | 0,hc=>
    cases hc
    refine .fn _ _ _ (by simpa using hus) fun i cc hc=>?_
    match i,hc with
    | i+1,hc=>simp at hc
    | 0,hc=>
     cases hc
     rw[hu0]
     refine .rp _ b 0 (fun _=> .map (some bm)) (fun _=> .inr (.inl rfl)) (fun j cc hj=>?_) (fun j cc hj=>?_)
     ·match j,hj with
      | j+1,hj=>simp at hj
      | 0,hj=>
       simp only[Nat.zero_mul,Qs,Nat.add_zero] at hw ⊢
       simp [World.cell?,h2,hw]
     ·match j,hj with
      | j+1,hj=>simp at hj
      | 0,hj=>
       cases hj
       exact .fm _ bm a2 cl (.inr (.inr rfl)) g2 g3.size g4 (fun i k x hi=>by
        obtain⟨e,q1,q2,q3⟩:=g3.ent i k x hi
        rw[Qi,q1]
        exact q2.mono (fun _ h=> .inl h) (fun _ _=>rfl)) (fun i k x hi=>by
        obtain⟨e,q1,q2,q3⟩:=g3.ent i k x hi
        rw[Qi,q1]
        exact q3.mono (fun _ h=> .inl h) (fun _ _=>rfl))
@[reducible] def sNil:Syms:=mkS [] [] [] [] rfl rfl
theorem nt_ofB (l:List UInt8):ntL (ofBytes l)=true:=ntL_map (fun b:UInt8=>AV.int .u8 (b.toNat:Int)) (fun _=>rfl) l
theorem sortE {n:Nat}{xs xs':List UInt8}(h: @evF sNil Tryz.prog Ln n 125 [.own 0 1 xs.length] [.arr 5 1 (ofBytes xs)]= .ok (.tuple [],[.arr 5 1 (ofBytes xs')])) :
 CallsR Tryz.prog 125 [.own 0 1 xs.length] [.arr 5 1 (ofBytes xs)] (.tuple []) [.arr 5 1 (ofBytes xs')]:=by
 have h1:= @evF_ok sNil _ _ (@Ln_ok sNil _ (@tblOK_of sNil _ (fun r hr=>by cases hr))) mixed _ _ _ _ _ _ h
 exact tr_calls sNil _ rfl (by simp [ntH,ntO,nt_ofB]) rfl (by simp [ntH,ntO,nt_ofB]) h1
theorem perm2 {a b:UInt8}(hab:a≠b){t:List UInt8}(h:t.Perm [a,b]):t=[a,b]∨t=[b,a]:=by
 match t,h with
 | [x,y],h=>
  have hx:x∈[a,b]:=h.subset (by simp)
  have hy:y∈[a,b]:=h.subset (by simp)
  simp only[Qr,Qp,or_false] at hx hy
  have h2:=h.symm.nodup (by simp [hab]:([a,b]:List UInt8).Nodup)
  rcases hx with rfl | rfl <;> rcases hy with rfl | rfl
  ·simp at h2
  ·exact .inl rfl
  ·exact .inr rfl
  ·simp at h2
 | [],h=>simp at h
 | [x],h=>simpa using h.length_eq
 | _ :: _ :: _ :: _,h=>simpa using h.length_eq
theorem sort49a:CallsR Tryz.prog 125 [.own 0 1 ([49,34]:List UInt8).length] [.arr 5 1 (ofBytes [49,34])] (.tuple []) [.arr 5 1 (ofBytes [34,49])]:=sortE (n:=20) (by kernel_rfl)
theorem sort49b:CallsR Tryz.prog 125 [.own 0 1 ([34,49]:List UInt8).length] [.arr 5 1 (ofBytes [34,49])] (.tuple []) [.arr 5 1 (ofBytes [34,49])]:=sortE (n:=20) (by kernel_rfl)
theorem sort0:CallsR Tryz.prog 125 [.own 0 1 ([]:List UInt8).length] [.arr 5 1 (ofBytes [])] (.tuple []) [.arr 5 1 (ofBytes [])]:=sortE (n:=20) (by kernel_rfl)
def regsT (s:List UInt8):Ent:=[(49,.agg [.int .i64 1,.sl 1 [.str s]]),(34,.agg [.int .i64 1,.sl 1 [.str s]])]
theorem leaf_SortedT (s:List UInt8):CallsR Tryz.prog 68 [.fn 126 [.ptr 0 1 1 0 0]] [.arr 123 1 [.mp 1],.mp (encE cByte cAny (regsT s))]
 (.own 2 1 2) [.arr 123 1 [.mp 1],.mp (encE cByte cAny (regsT s)),.arr 5 1 (ofBytes [34,49])]:=
 callsR_wrap (calls_SortedR (regsT s) (show 2≤12 by decide) [34,49] rfl fun t ht=>by
  rcases perm2 (by decide) (show t.Perm [49,34] from ht) with rfl | rfl
  ·exact sort49a
  ·exact sort49b) (by intro v hv;simp only[ofBytes,List.map_cons,List.map_nil,Qr,Qp,or_false] at hv;rcases hv with rfl | rfl <;> exact⟨_,_,rfl⟩)
  fun E vals hr hvs=>open_box (l:=regsT s) (by simp [regsT,encE,AV.pureB,AV.cells,AV.pureLeaf,cByte,cAny]) E vals hr hvs
theorem leaf_SortedP:CallsR Tryz.prog 68 [.fn 128 [.ptr 0 1 1 0 0]] [.arr 128 1 [.mp 1],.mp []]
 (.own 2 1 0) [.arr 128 1 [.mp 1],.mp [],.arr 5 1 []]:=
 callsR_wrap (l:=ofBytes []) (calls_SortedP [] (by decide) [] rfl fun t ht=>by
  have:t=[]:=by simpa [kO] using ht
  subst this
  exact sort0) (by intro v hv;simp [ofBytes] at hv)
  fun E vals hr hvs=>open_box (l:=[]) rfl E vals hr hvs
end Go.Pg.Le
namespace Go.Pg
open Go Go.Proofs Go.RowKit
variable [Syms]
def aPos (p:Int×Int):AV:= .agg [.int .i64 p.1,.int .i64 p.2]
def fits (n b:Nat)(ls:Ls):Prop:=ls.length≤n∧∀s∈ls,s.length≤b
theorem fits_getD {n b:Nat}{ls:Ls}(h:fits n b ls)(i:Nat):(ls.getD i []).length≤b:=by
 rw[List.getD_eq_getElem?_getD]
 cases e:ls[i]? with
 | none=>simp
 | some s=>exact h.2 s (List.mem_of_getElem? e)
def marksIn (g:List UInt8→Nat→Bool)(l:Nat)(s:List UInt8)(k:Nat):List (Int×Int):=((Qu k).filter (g s)).map fun i:Nat=>((l:Int),(i:Int))
def lineMarks (e:Bool)(g:List UInt8→Nat→Bool)(l:Nat)(s:List UInt8):List (Int×Int):=(if(e && s == [])=true then[((l:Int),0)] else[]) ++ marksIn g l s s.length
def marksTo (e:Bool)(g:List UInt8→Nat→Bool)(ls:Ls)(n:Nat):List (Int×Int):=(Qu n).flatMap fun l=>lineMarks e g l (ls.getD l [])
def startB (big:Bool)(s:List UInt8)(i:Nat):Bool:=(cls (s.getD i 0).toNat big !=0) && (((i:Int) == 0) || cls (s.getD (i - 1) 0).toNat big !=cls (s.getD i 0).toNat big)
theorem marksIn_succ (g:List UInt8→Nat→Bool)(l:Nat)(s:List UInt8)(k:Nat):marksIn g l s (k+1)=if g s k=true then marksIn g l s k ++ [((l:Int),(k:Int))] else marksIn g l s k:=by
 unfold marksIn
 rw[Qq,List.filter_append]
 split
 ·next h=>simp [h]
 ·next h=>simp [h]
theorem marksTo_succ (e:Bool)(g:List UInt8→Nat→Bool)(ls:Ls)(n:Nat):marksTo e g ls (n+1)=marksTo e g ls n ++ lineMarks e g n (ls.getD n []):=by
 unfold marksTo
 rw[Qq,List.flatMap_append]
 simp
def lineLead (e:Bool)(s:List UInt8):Nat:=if(e && s == [])=true then 1 else 0
theorem lineMarks_len (e:Bool)(g:List UInt8→Nat→Bool)(l:Nat)(s:List UInt8):(lineMarks e g l s).length=lineLead e s+(marksIn g l s s.length).length:=by
 unfold lineMarks lineLead
 split <;> simp [Nat.add_comm]
theorem marksTo_get (e:Bool)(g:List UInt8→Nat→Bool)(ls:Ls)(i:Nat):∀(n:Nat),i<n→∀(j:Nat)(p:Int×Int),(lineMarks e g i (ls.getD i []))[j]? =some p→(marksTo e g ls n)[(marksTo e g ls i).length+j]? =some p:=by
 intro n
 induction n with
 | zero=>intro h;omega
 | succ n ih=>
  intro h j p hp
  rw[marksTo_succ]
  by_cases he:i=n
  ·subst he
   rw[Qf (by omega),show(marksTo e g ls i).length+j - (marksTo e g ls i).length=j by omega]
   exact hp
  ·have h1:=ih (by omega) j p hp
   rw[Ql (Qd.1 h1).1]
   exact h1
theorem marksIn_get (g:List UInt8→Nat→Bool)(l:Nat)(s:List UInt8)(k:Nat)(hg:g s k=true):∀(n:Nat),k<n→(marksIn g l s n)[(marksIn g l s k).length]? =some ((l:Int),(k:Int)):=by
 intro n
 induction n with
 | zero=>intro h;omega
 | succ n ih=>
  intro h
  rw[marksIn_succ]
  by_cases he:k=n
  ·subst he
   rw[if_pos hg,Qf (by omega),Nat.sub_self]
   rfl
  ·have h1:=ih (by omega)
   split
   ·rw[Ql (Qd.1 h1).1];exact h1
   ·exact h1
theorem mark_lead (e:Bool)(g:List UInt8→Nat→Bool)(ls:Ls)(i:Nat)(hi:i<ls.length)(h:(e && ls.getD i [] == [])=true):(marksTo e g ls ls.length)[(marksTo e g ls i).length]? =some ((i:Int),0):=by
 refine marksTo_get e g ls i ls.length hi 0 _ ?_
 unfold lineMarks
 rw[if_pos h]
 rfl
theorem mark_in (e:Bool)(g:List UInt8→Nat→Bool)(ls:Ls)(i k:Nat)(hi:i<ls.length)(hk:k< (ls.getD i []).length)(h:g (ls.getD i []) k=true) :
 (marksTo e g ls ls.length)[(marksTo e g ls i).length+lineLead e (ls.getD i [])+(marksIn g i (ls.getD i []) k).length]? =some ((i:Int),(k:Int)):=by
 rw[Nat.add_assoc]
 refine marksTo_get e g ls i ls.length hi _ _ ?_
 have h1:=marksIn_get g i (ls.getD i []) k h (ls.getD i []).length hk
 unfold lineMarks lineLead
 split
 ·rw[Qf (by simp),show 1+(marksIn g i (ls.getD i []) k).length - [((i:Int),(0:Int))].length=(marksIn g i (ls.getD i []) k).length by simp]
  exact h1
 ·rw[List.nil_append,Qs]
  exact h1
abbrev lAsk:CdL (List UInt8×Int×Bool):=lCons cStr (lCons (cInt .i64) (lOne (cRp (lOne cBool))))
def kAsk (g:Bool→List UInt8→Nat→Bool):C1:=C1.by [.id,.id,.id] lAsk (fun d=>0≤d.2.1∧d.2.1<d.1.length∧d.1.length≤140737488355328) (fun d=> .bool (g d.2.2 d.1 d.2.1.toNat)) (fun _=>[])
set_option maxHeartbeats 4000000 in
theorem calls_askS (s:List UInt8)(i:Int)(big:Bool)(h0:0≤i)(h1:i<s.length)(h2:s.length≤140737488355328):CallsR Tryz.prog 434 [.str s,.int .i64 i,.rp [.bool big]] [] (.bool (startB big s i.toNat)) []:=by
 refine callsR_of (mrg:=true) (dyn:=[]) (CtrOK.cons ok_Of (CtrOK.nil _)) mixed Tryz.func434 rfl (by simp [Tryz.ntmps434,AV.cells]) (by kernel_rfl) ?_
 rw[show Tryz.f434.results.toList=[.tmp 5] from by kernel_rfl]
 obtain⟨k,rfl⟩:=Int.eq_ofNat_of_zero_le h0
 have hk1:(IntKind.i64.wrap ((k:Int) - 1))=(k:Int) - 1:=wrap64 (by omega) (by omega)
 have hk2:((k:Int) - 1).toNat=k - 1:=by omega
 simp (maxSteps:=4000000) only[go_sem,seval,kOf,hk1,hk2]
 refine⟨⟨by omega,by omega⟩,fun h=>⟨h,?_⟩,fun h=>⟨h,fun h2=>by rw[h,h2];rfl⟩,rfl⟩
 have h':=h
 simp only[Bool.and_eq_true,Bool.not_eq_true',beq_eq_false_iff_ne,ne_eq] at h'
 exact⟨by omega,by omega⟩
set_option maxRecDepth 20000 in
set_option maxHeartbeats 4000000 in
theorem it_at (ls:Ls)(e:Bool)(fid:Nat)(big:Bool)(g:Bool→List UInt8→Nat→Bool)(hf:fits 65536 65536 ls)(hk:C1OK Tryz.prog fid (kAsk g)) :
 ItR Tryz.prog 420 [.rp [.sl 1 (ls.map .str)],.rp [.bool e],.rp [.fn fid [.rp [.bool big]]]] (Tell.seq ((marksTo e (g big) ls ls.length).map fun p=>[aPos p])):=by
 refine itR_of (mrg:=true) (dyn:=[]) (CtrOK.cons hk (CtrOK.nil _)) mixed Tryz.func420 rfl (by simp [Tryz.ntmps420,AV.cells]) (by kernel_rfl) (by kernel_rfl) ?_ ?_
 ·intro x hx
  obtain⟨p,_,rfl⟩:=List.mem_map.1 hx
  rfl
 intro l
 have hll:=hf.1
 have hls:=fits_getD hf
 simp (maxSteps:=4000000) only[go_sem,seval,kAsk]
 refine loopYH_intro (α:=Nat) (fun i=>(some (marksTo e (g big) ls i).length,[(0,.yld l),(1,.rp [.sl 1 (ls.map .str)]),(2,.rp [.bool e]),(3,.rp [.fn fid [.rp [.bool big]]]),(8,.sl 1 (ls.map .str)),(9,.int .i64 ls.length),(10,.int .i64 i)],[]))
  (fun i=>i≤ls.length) (fun i=>ls.length - i) 0 (by omega) (by simp [marksTo]) ?_ ?_
 ·simp (maxSteps:=4000000) only[go_sem,seval,kAsk]
  all_goals rfl
 intro i hi
 by_cases hlt:i<ls.length
 ·have hct:decide ((i:Int)< (ls.length:Int))=true:=decide_eq_true (by omega)
  have hsl:=hls i
  have hts:=marksTo_succ e (g big) ls i
  have hln:=lineMarks_len e (g big) i (ls.getD i [])
  cases e with
  | false=>
   have hl:lineLead false (ls.getD i [])=0:=rfl
   simp (maxSteps:=4000000) only[go_sem,seval,kAsk,hct]
   refine⟨by omega,?_⟩
   refine loopYH_intro (α:=Nat) (fun k=>(some ((marksTo false (g big) ls i).length+lineLead false (ls.getD i [])+(marksIn (g big) i (ls.getD i []) k).length),[(0,.yld l),(1,.rp [.sl 1 (ls.map .str)]),(2,.rp [.bool false]),(3,.rp [.fn fid [.rp [.bool big]]]),(5,.int .i64 i),(6,.str (ls.getD i [])),(8,.sl 1 (ls.map .str)),(9,.int .i64 ls.length),(10,.int .i64 i),(28,.int .i64 (ls.getD i []).length),(29,.int .i64 k)],[]))
    (fun k=>k≤(ls.getD i []).length) (fun k=>(ls.getD i []).length - k) 0 (by omega) (by rw[hl];simp [marksIn]) ?_ ?_
   ·simp (maxSteps:=4000000) only[go_sem,seval,kAsk]
    all_goals rfl
   intro k hk1
   have hm1:=marksIn_succ (g big) i (ls.getD i []) k
   by_cases hk2:k< (ls.getD i []).length
   ·have hct2:decide ((k:Int)< ((ls.getD i []).length:Int))=true:=decide_eq_true (by omega)
    cases hg:g big (ls.getD i []) k with
    | true=>
     rw[if_pos hg] at hm1
     have hy:=mark_in false (g big) ls i k hlt hk2 hg
     simp (maxSteps:=4000000) only[go_sem,seval,kAsk,eq_self,hct2,hg,Qe,Qh,hy,hm1]
     exact⟨⟨by omega,by omega,by omega⟩,rfl,rfl,k+1,by omega,by omega,by rw[hm1,Qc];rfl,by rw[wrap64 (by omega) (by omega)];rfl⟩
    | false=>
     rw[if_neg (by rw[hg];simp)] at hm1
     simp (maxSteps:=4000000) only[go_sem,seval,kAsk,eq_self,hct2,hg,Qe,hm1]
     exact⟨⟨by omega,by omega,by omega⟩,k+1,by omega,by omega,by rw[hm1],by rw[wrap64 (by omega) (by omega)];rfl⟩
   ·have hcf2:decide ((k:Int)< ((ls.getD i []).length:Int))=false:=decide_eq_false (by omega)
    have hke:k=(ls.getD i []).length:=by omega
    subst hke
    simp (maxSteps:=4000000) only[go_sem,seval,kAsk,hcf2]
    exact⟨i+1,by omega,by omega,by rw[hts,Qc,hln];omega,by rw[wrap64 (by omega) (by omega)];rfl⟩
  | true=>
   cases hse:(ls.getD i [] == []) with
   | true=>
    have hl:lineLead true (ls.getD i [])=1:=by unfold lineLead;rw[if_pos (by rw[hse];rfl)]
    have hy0:=mark_lead true (g big) ls i hlt (by rw[hse];rfl)
    simp (maxSteps:=4000000) only[go_sem,seval,kAsk,hct,hse,Qh,hy0]
    refine⟨by omega,rfl,rfl,?_⟩
    refine loopYH_intro (α:=Nat) (fun k=>(some ((marksTo true (g big) ls i).length+lineLead true (ls.getD i [])+(marksIn (g big) i (ls.getD i []) k).length),[(0,.yld l),(1,.rp [.sl 1 (ls.map .str)]),(2,.rp [.bool true]),(3,.rp [.fn fid [.rp [.bool big]]]),(5,.int .i64 i),(6,.str (ls.getD i [])),(8,.sl 1 (ls.map .str)),(9,.int .i64 ls.length),(10,.int .i64 i),(28,.int .i64 (ls.getD i []).length),(29,.int .i64 k)],[]))
     (fun k=>k≤(ls.getD i []).length) (fun k=>(ls.getD i []).length - k) 0 (by omega) (by rw[hl];simp [marksIn]) ?_ ?_
    ·simp (maxSteps:=4000000) only[go_sem,seval,kAsk]
     all_goals rfl
    intro k hk1
    have hm1:=marksIn_succ (g big) i (ls.getD i []) k
    by_cases hk2:k< (ls.getD i []).length
    ·have hct2:decide ((k:Int)< ((ls.getD i []).length:Int))=true:=decide_eq_true (by omega)
     cases hg:g big (ls.getD i []) k with
     | true=>
      rw[if_pos hg] at hm1
      have hy:=mark_in true (g big) ls i k hlt hk2 hg
      simp (maxSteps:=4000000) only[go_sem,seval,kAsk,eq_self,hct2,hg,Qe,Qh,hy,hm1]
      exact⟨⟨by omega,by omega,by omega⟩,rfl,rfl,k+1,by omega,by omega,by rw[hm1,Qc];rfl,by rw[wrap64 (by omega) (by omega)];rfl⟩
     | false=>
      rw[if_neg (by rw[hg];simp)] at hm1
      simp (maxSteps:=4000000) only[go_sem,seval,kAsk,eq_self,hct2,hg,Qe,hm1]
      exact⟨⟨by omega,by omega,by omega⟩,k+1,by omega,by omega,by rw[hm1],by rw[wrap64 (by omega) (by omega)];rfl⟩
    ·have hcf2:decide ((k:Int)< ((ls.getD i []).length:Int))=false:=decide_eq_false (by omega)
     have hke:k=(ls.getD i []).length:=by omega
     subst hke
     simp (maxSteps:=4000000) only[go_sem,seval,kAsk,hcf2]
     exact⟨i+1,by omega,by omega,by rw[hts,Qc,hln];omega,by rw[wrap64 (by omega) (by omega)];rfl⟩
   | false=>
    have hl:lineLead true (ls.getD i [])=0:=by unfold lineLead;rw[if_neg (by rw[hse];decide)]
    simp (maxSteps:=4000000) only[go_sem,seval,kAsk,hct,hse]
    refine⟨by omega,?_⟩
    refine loopYH_intro (α:=Nat) (fun k=>(some ((marksTo true (g big) ls i).length+lineLead true (ls.getD i [])+(marksIn (g big) i (ls.getD i []) k).length),[(0,.yld l),(1,.rp [.sl 1 (ls.map .str)]),(2,.rp [.bool true]),(3,.rp [.fn fid [.rp [.bool big]]]),(5,.int .i64 i),(6,.str (ls.getD i [])),(8,.sl 1 (ls.map .str)),(9,.int .i64 ls.length),(10,.int .i64 i),(28,.int .i64 (ls.getD i []).length),(29,.int .i64 k)],[]))
     (fun k=>k≤(ls.getD i []).length) (fun k=>(ls.getD i []).length - k) 0 (by omega) (by rw[hl];simp [marksIn]) ?_ ?_
    ·simp (maxSteps:=4000000) only[go_sem,seval,kAsk]
     all_goals rfl
    intro k hk1
    have hm1:=marksIn_succ (g big) i (ls.getD i []) k
    by_cases hk2:k< (ls.getD i []).length
    ·have hct2:decide ((k:Int)< ((ls.getD i []).length:Int))=true:=decide_eq_true (by omega)
     cases hg:g big (ls.getD i []) k with
     | true=>
      rw[if_pos hg] at hm1
      have hy:=mark_in true (g big) ls i k hlt hk2 hg
      simp (maxSteps:=4000000) only[go_sem,seval,kAsk,eq_self,hct2,hg,Qe,Qh,hy,hm1]
      exact⟨⟨by omega,by omega,by omega⟩,rfl,rfl,k+1,by omega,by omega,by rw[hm1,Qc];rfl,by rw[wrap64 (by omega) (by omega)];rfl⟩
     | false=>
      rw[if_neg (by rw[hg];simp)] at hm1
      simp (maxSteps:=4000000) only[go_sem,seval,kAsk,eq_self,hct2,hg,Qe,hm1]
      exact⟨⟨by omega,by omega,by omega⟩,k+1,by omega,by omega,by rw[hm1],by rw[wrap64 (by omega) (by omega)];rfl⟩
    ·have hcf2:decide ((k:Int)< ((ls.getD i []).length:Int))=false:=decide_eq_false (by omega)
     have hke:k=(ls.getD i []).length:=by omega
     subst hke
     simp (maxSteps:=4000000) only[go_sem,seval,kAsk,hcf2]
     exact⟨i+1,by omega,by omega,by rw[hts,Qc,hln];omega,by rw[wrap64 (by omega) (by omega)];rfl⟩
 ·have hcf:decide ((i:Int)< (ls.length:Int))=false:=decide_eq_false (by omega)
  have hil:i=ls.length:=by omega
  simp (maxSteps:=4000000) only[go_sem,seval,kAsk,hcf]
  rw[hil]
theorem ok_askS:C1OK Tryz.prog 434 (kAsk startB):=C1OK.by (by kernel_rfl) (fun d h=>calls_askS d.1 d.2.1 d.2.2 h.1 h.2.1 h.2.2) (fun _=>rfl) (fun _=>rfl)
theorem it_known:ItR Tryz.prog 420 [.rp [.sl 1 [.str [111,110,101,32,116,119,111]]],.rp [.bool true],.rp [.fn 434 [.rp [.bool false]]]] (Tell.seq [[.agg [.int .i64 0,.int .i64 0]],[.agg [.int .i64 0,.int .i64 4]]]):=by
 have h:=it_at [[111,110,101,32,116,119,111]] true 434 false startB ⟨by decide,by decide⟩ ok_askS
 have e:(marksTo true (startB false) [[111,110,101,32,116,119,111]] 1).map (fun p=>[aPos p])=[[.agg [.int .i64 0,.int .i64 0]],[.agg [.int .i64 0,.int .i64 4]]]:=by rfl
 exact e ▸ h
end Go.Pg
namespace Go.Pg
open Go Go.Proofs
variable [Syms]
abbrev knCh (a b c:Value):AV:= .agg [.cst a,.cst b,.cst c]
set_option maxRecDepth 20000 in
set_option maxHeartbeats 4000000 in
theorem it_Back_chg (a b c:Value):ItR Tryz.prog 382 [.rp [.sl 3 [knCh a b c]]] (Tell.seq [[.int .i64 0,knCh a b c]]):=by
 refine itR_of (mrg:=true) (dyn:=[]) (CtrOK.nil _) mixed Tryz.func382 rfl (by simp [Tryz.ntmps382,AV.cells]) (by kernel_rfl) (by kernel_rfl) ?_ ?_
 ·intro x hx
  simp only[List.mem_singleton] at hx
  subst hx
  rfl
 intro y
 simp (maxSteps:=4000000) only[go_sem,Int.reduceBEq,Int.reduceBNe,Int.reduceLE,Int.reduceLT,Int.reduceToNat,Nat.reduceAdd,Nat.reduceBEq,Nat.reduceBNe,Nat.reduceEqDiff,Nat.reduceLT,Nat.reduceLeDiff,Nat.reduceMul,Nat.reducePow,Nat.reduceSub,UInt8.reduceOfNat,reduceCtorEq,reduceIte,Qg,Qn]
 have hw:IntKind.i64.wrap (0 - 1)= -1:=by decide
 have hw1:IntKind.i64.wrap (1 - 1)=0:=by decide
 refine loopYH_intro (α:=Bool) (fun x=>(some (cond x 0 1),[(0,.yld y),(1,.rp [.sl 3 [knCh a b c]]),(3,.int .i64 (cond x 0 (-1)))],[]))
  (fun _=>True) (fun x=>cond x 1 0) true trivial (by rfl) ?_ ?_
 ·simp (maxSteps:=4000000) only[go_sem,Int.reduceBEq,Int.reduceBNe,Int.reduceLE,Int.reduceLT,Int.reduceToNat,Nat.reduceAdd,Nat.reduceBEq,Nat.reduceBNe,Nat.reduceEqDiff,Nat.reduceLT,Nat.reduceLeDiff,Nat.reduceMul,Nat.reducePow,Nat.reduceSub,UInt8.reduceOfNat,reduceCtorEq,reduceIte,hw,hw1]
  all_goals rfl
 intro x _
 cases x with
 | true=>
  simp (maxSteps:=4000000) only[go_sem,Int.reduceBEq,Int.reduceBNe,Int.reduceLE,Int.reduceLT,Int.reduceToNat,Nat.reduceAdd,Nat.reduceBEq,Nat.reduceBNe,Nat.reduceEqDiff,Nat.reduceLT,Nat.reduceLeDiff,Nat.reduceMul,Nat.reducePow,Nat.reduceSub,UInt8.reduceOfNat,reduceCtorEq,reduceIte,hw,hw1,cond_true,cond_false,Qg,Qn]
  exact fun _=>⟨rfl,false,by decide,rfl,rfl⟩
 | false=>
  simp (maxSteps:=4000000) only[go_sem,Int.reduceBEq,Int.reduceBNe,Int.reduceLE,Int.reduceLT,Int.reduceToNat,Nat.reduceAdd,Nat.reduceBEq,Nat.reduceBNe,Nat.reduceEqDiff,Nat.reduceLT,Nat.reduceLeDiff,Nat.reduceMul,Nat.reducePow,Nat.reduceSub,UInt8.reduceOfNat,reduceCtorEq,reduceIte,hw,hw1,cond_true,cond_false,Qg,Qn]
  exact fun h=>absurd h (by decide)
end Go.Pg
namespace Go.Pg
open Go Go.Proofs
theorem IterW.weak [Syms] {P:Program}{g:FuncId}{lb:Array Value}{zs ys:List (List AV)}{st:Nat→Prop}{w:World}(hlen:zs.length=ys.length)
 (h:∀(i:Nat) z y v,zs[i]? =some z→ys[i]? =some y→TellsV w st z v→TellsV w st y v) (hz:IterW P g lb (Tell.seq zs) st w):IterW P g lb (Tell.seq ys) st w:=by
 intro l J Jx W hb h1 h2 h3 h4 hy hJ
 have key:∀(n:Nat) (i i':Nat) (x:List AV) S A v,seqR zs i x i'→TellsV w st x v→(∀b,S b→W.heap.size≤b∧b<A.heap.size)→J i S A→YieldAt Fence.wide n P l v A fun e B=>(A.heap.size≤B.heap.size∧∀b,S b→B.heap[b]? =A.heap[b]?)∧
  ((e= .returned (.bool true)∧J i' S B)∨(e= .returned (.bool false)∧Jx i' S B)):=by
  intro n i i' x S A v hR hT hS hA
  obtain⟨hx,rfl⟩:=hR
  have hi:i<ys.length:=by rw[←hlen];exact(Qd.1 hx).1
  exact hy n i (i+1) ys[i] S A v ⟨Qm hi,rfl⟩ (h i x ys[i] v hx (Qm hi) hT) hS hA
 refine(hz l J Jx W hb h1 h2 h3 h4 key hJ).mono fun e B ⟨he,hr⟩=>⟨he,?_⟩
 rcases hr with⟨i,S,hD,hj⟩ | h
 ·exact .inl ⟨i,S,Eq.trans hD hlen,hj⟩
 ·exact .inr h
abbrev chV (n:Int)(a b:List AV):AV:= .agg [.int .i64 n,.sl 1 a,.sl 1 b]
theorem it_Back_change [Syms] (n:Int)(a b:List AV):ItR Tryz.prog 382 [.rp [.sl 3 [chV n a b]]] (Tell.seq [[.int .i64 0,chV n a b]]):=by
 intro W st lb h1 h2 h3
 have h0:=h3 0 _ rfl
 generalize hu:lb.getD 0 Go.undef=u at h0
 cases h0 with
 | rp _ bb o f q1 q2 q3=>
  have hs:=q3 0 _ rfl
  generalize hw:f 0=w0 at hs
  cases hs with
  | sl _ vs ad cap g c1 c2 c3=>
   have e0:=c3 0 _ 0 (.int .i64 n) rfl rfl
   have e1:=c3 0 _ 1 (.sl 1 a) rfl rfl
   have e2:=c3 0 _ 2 (.sl 1 b) rfl rfl
   have hx:VP W st (.sl 3 [knCh (g 0 0) (g 0 1) (g 0 2)]) (.slice ad 1 cap):=by
    refine .sl 3 [knCh (g 0 0) (g 0 1) (g 0 2)] ad cap g c1 (fun i v hi=>?_) (fun i v j c hi hj=>?_)
    ·match i,hi with
     | 0,hi=>cases hi;exact⟨rfl,(c2 0 _ rfl).2⟩
     | i+1,hi=>simp at hi
    ·match i,hi with
     | i+1,hi=>simp at hi
     | 0,hi=>
      cases hi
      match j,hj with
      | 0,hj=>cases hj;exact .cst _
      | 1,hj=>cases hj;exact .cst _
      | 2,hj=>cases hj;exact .cst _
      | j+3,hj=>simp [AV.cells] at hj
   have hz:=it_Back_chg (g 0 0) (g 0 1) (g 0 2) W st lb h1 h2 (fun i c hi=>by
    match i,hi with
    | i+1,hi=>simp at hi
    | 0,hi=>
     cases hi
     rw[hu]
     refine .rp _ bb o f (fun _=>q1 (by simp)) (fun j c hj=>?_) (fun j c hj=>?_)
     ·match j,hj with
      | j+1,hj=>simp at hj
      | 0,hj=>exact q2 0 _ rfl
     ·match j,hj with
      | j+1,hj=>simp at hj
      | 0,hj=>cases hj;rw[hw];exact hx)
   refine IterW.weak (zs:=[[.int .i64 0,knCh (g 0 0) (g 0 1) (g 0 2)]]) rfl (fun i z y v hzi hyi hT=>?_) hz
   match i,hzi,hyi with
   | i+1,hzi,_=>simp at hzi
   | 0,hzi,hyi=>
    cases hzi;cases hyi
    obtain⟨t1,t2⟩:=hT
    refine⟨t1,fun j c hj=>?_⟩
    match j,hj with
    | j+2,hj=>simp at hj
    | 0,hj=>exact t2 0 c hj
    | 1,hj=>
     cases hj
     have:=t2 1 _ rfl
     generalize v.getD 1 Go.undef=u1 at this
     cases this with
     | agg _ us hs1 hs2=>
      refine .agg _ us hs1 fun k c hk=>?_
      match k,hk with
      | k+3,hk=>simp at hk
      | 0,hk=>cases hk;have:=hs2 0 _ rfl;generalize us.getD 0 Go.undef=x at this;cases this;exact e0
      | 1,hk=>cases hk;have:=hs2 1 _ rfl;generalize us.getD 1 Go.undef=x at this;cases this;exact e1
      | 2,hk=>cases hk;have:=hs2 2 _ rfl;generalize us.getD 2 Go.undef=x at this;cases this;exact e2
end Go.Pg
