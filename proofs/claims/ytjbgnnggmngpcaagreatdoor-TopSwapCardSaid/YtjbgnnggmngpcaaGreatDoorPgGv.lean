/- Pg: abstract values, what operations, regions, calls come to on them. -/
import Derived.Test.YtjbgnnggmngpcaaGreatDoorPgCpy
import Derived.Test.YtjbgnnggmngpcaaGreatDoorPgGw
import Derived.Test.YtjbgnnggmngpcaaGreatDoorPgGx
import Derived.Deep.RegionLaw
import Derived.Test.YtjbgnnggmngpcaaGreatDoorPgGf
set_option linter.unusedVariables false
set_option linter.unusedSimpArgs false
set_option linter.unusedSectionVars false
open List renaming getElem?_eq_some_iff → Qa,getElem?_append_left → Qb,length_append → Qc,mem_of_getElem? → Qe,length_take → Qg,length_drop → Qh,getElem?_append_right → Qj,getElem?_set → Ql,set_append_left → Qm,getElem?_take → Qn,getElem?_drop → Qo,length_replicate → Qq,take_length → Qr,mem_of_mem_drop → Qs,size_toArray → Qv,eq_of_mem_replicate → Qw,take_of_length_le → Qy,getElem?_map → Q1,all_eq_true → Q2,length_nil → Q6,replicate → Q7,all_cons → Q8
open Nat renaming le_refl → Qd,mul_le_mul_right → Qf,min_eq_left → Qk,add_mul → Qp,zero_le → Q5,add_zero → Q9,one_mul → Xa
open Array renaming getElem?_eq_some_iff → Qi,length_toList → Qt,getD_eq_getD_getElem? → Qu,getElem?_toList → Qz,getElem?_push → Q0
open Option renaming bind_some → Qx,getD_some → Q3
open Bool renaming and_eq_true → Q4
namespace Go.Pg
open Go
variable [Syms] {P:Program}
theorem run_copyR (w:World)(dT sT ty elem:TypeId)(k b o dLen dCap:Nat)(cur:Array Value)(t0:TypeId)(fz:Nat×Nat)(hb:w.heap[b]? =some (.cells cur t0 fz))(hth:Thaw fz cur.size)
 (a:Addr) (sLen sCap:Nat) (cs:List Value)
 (hu:P.underlying dT=some (.slice elem)) (hs:(P.info? elem).map (·.size)=some k) (hn:cs.length=Nat.min sLen dLen * k)
 (hsrc:∀j v,cs[j]? =some v→w.cell? (a.add j)=some v) (hle:o+cs.length≤cur.size) (h1:∀v∈cs,v.oneCell'=true) :
 (Builtin.copy_ #[dT,sT] ty #[.slice (some ⟨b,o,none⟩) dLen dCap,.slice (some a) sLen sCap]).run P w= .ok (goInt (Nat.min sLen dLen)) (w.setRow b (cur.toList.take o ++ cs ++ cur.toList.drop (o+cs.length)).toArray):=by
 have hl:=run_loadCells_list (P:=P) w a cs hsrc
 have hst:=run_storeCells_thaw (P:=P) b o t0 fz cs 0 cur w hb hth (by simpa using hle) h1
 simp only[Q9] at hst
 cases hq:P.info? elem with
 | none=>simp [hq] at hs
 | some i=>
  have hi:i.size=k:=by simpa [hq] using hs
  simp [Builtin.copy_,run_underlying hu,Builtin.lenOf,Builtin.firstCells,sizeOf,typeInfo,hq,hi,←hn,hl,hst]
theorem cell_of_drop {w:World}{b:Nat}{c:Array Value}{t:TypeId}{fz:Nat×Nat}(hb:w.heap[b]? =some (.cells c t fz))(o n:Nat):∀j v,((c.toList.drop o).take n)[j]? =some v→w.cell? ((⟨b,o,none⟩:Addr).add j)=some v:=by
 intro j v h
 rw[Qn] at h
 split at h
 ·rw[Qo] at h
  rw[Addr.add_lit]
  simp [World.cell?,hb]
  simpa using h
 ·cases h
def RowOf (E:Env)(sz:Nat)(vs:List AV)(l:List Value):Prop:=∀(i:Nat) v,vs[i]? =some v→v.cells.length=sz∧∀(j:Nat) cc,v.cells[j]? =some cc→∃u,l[i * sz+j]? =some u∧VR E cc u
theorem RowOf.mono {E E':Env}{sz:Nat}{vs:List AV}{l:List Value}(h:RowOf E sz vs l)(hx:EExt E E'):RowOf E' sz vs l:=fun i v hi=>⟨(h i v hi).1,fun j cc hj=>by
 obtain⟨u,h1,h2⟩:=(h i v hi).2 j cc hj
 exact⟨u,h1,h2.mono hx⟩⟩
theorem RowOf.take {E:Env}{sz n:Nat}{vs:List AV}{l:List Value}(h:RowOf E sz vs l):RowOf E sz (vs.take n) (l.take (n * sz)):=by
 intro i v hi
 rw[Qn] at hi
 split at hi
 ·next hlt=>
  refine⟨(h i v hi).1,fun j cc hj=>?_⟩
  obtain⟨u,h1,h2⟩:=(h i v hi).2 j cc hj
  refine⟨u,?_,h2⟩
  have hjl:j<sz:=by
   rw[←(h i v hi).1]
   exact(Qa.1 hj).1
  rw[Qn,if_pos,h1]
  calc i * sz+j<i * sz+sz:=by omega
   _=(i+1) * sz:=by rw[Qp,Xa]
   _≤n * sz:=Qf _ hlt
 ·cases hi
theorem RowOf.drop {E:Env}{sz n:Nat}{vs:List AV}{l:List Value}(h:RowOf E sz vs l):RowOf E sz (vs.drop n) (l.drop (n * sz)):=by
 intro i v hi
 rw[Qo] at hi
 refine⟨(h _ v hi).1,fun j cc hj=>?_⟩
 obtain⟨u,h1,h2⟩:=(h _ v hi).2 j cc hj
 refine⟨u,?_,h2⟩
 rw[Qo,←h1]
 congr 1
 rw[Qp];omega
theorem RowOf.app {E:Env}{sz:Nat}{vs ws:List AV}{l r:List Value}(h:RowOf E sz vs l)(hl:l.length=vs.length * sz)(h':RowOf E sz ws r):RowOf E sz (vs ++ ws) (l ++ r):=by
 intro i v hi
 by_cases hlt:i<vs.length
 ·rw[Qb hlt] at hi
  refine⟨(h i v hi).1,fun j cc hj=>?_⟩
  obtain⟨u,h1,h2⟩:=(h i v hi).2 j cc hj
  exact⟨u,by rw[Qb (Qa.1 h1).1,h1],h2⟩
 ·rw[Qj (by omega)] at hi
  refine⟨(h' _ v hi).1,fun j cc hj=>?_⟩
  obtain⟨u,h1,h2⟩:=(h' _ v hi).2 j cc hj
  have e:i * sz=vs.length * sz+(i - vs.length) * sz:=by rw[←Qp];congr 1;omega
  refine⟨u,?_,h2⟩
  rw[Qj (by omega),hl,e]
  rw[show vs.length * sz+(i - vs.length) * sz+j - vs.length * sz=(i - vs.length) * sz+j by omega,h1]
theorem RowOf.more {E:Env}{sz:Nat}{vs:List AV}{l:List Value}(h:RowOf E sz vs l)(r:List Value):RowOf E sz vs (l ++ r):=by
 intro i v hi
 refine⟨(h i v hi).1,fun j cc hj=>?_⟩
 obtain⟨u,h1,h2⟩:=(h i v hi).2 j cc hj
 exact⟨u,by rw[Qb (Qa.1 h1).1,h1],h2⟩
theorem own_block {H:AH}{E:Env}(hr:Rel H E){id sz:Nat}{e:TypeId}{vs:List AV}{v:Value}(ho:H[id]? =some (.arr e sz vs))(h:VR E (.own id sz vs.length) v)(hne:vs≠[]) :
 ∃b cap c fz,v= .slice (some ⟨b,0,none⟩) vs.length cap∧E.M id=some (some b)∧vs.length≤cap∧cap≤maxLen∧E.W.heap[b]? =some (.cells c e fz)∧c.size=cap * sz∧ThawS e sz fz c.size∧RowOf E sz vs c.toList:=by
 cases h with
 | own _ _ _ a cap q1 q2 q3=>
  have h1:=(q3 vs.length (by rw[hr.hl];simp [hlOf,ho,AO.len])).2 rfl
  have hl:0<vs.length:=List.length_pos_iff.2 hne
  rcases h1 with⟨_,h,_⟩ | ⟨b,c,ty,fz,hm,rfl,hcap,hmax,hb,hsz⟩
  ·omega
  rcases hr.orow id _ _ ho hm with⟨h,_⟩ | ⟨b',c',fz',a1,a2,a3,a4,a5⟩
  ·cases h
  ·cases a1
   rw[hb] at a2
   cases a2
   exact⟨b,cap,c,fz,rfl,hm,hcap,hmax,hb,hsz,a4,fun i v hi=>⟨(a5 i v hi).1,fun j cc hj=>by simpa using (a5 i v hi).2 j cc hj⟩⟩
end Go.Pg
namespace Go.Pg
open Go
variable [Syms]
theorem heap_push_setRow (W:World)(h0:Array Obj)(R:Array Value)(T:TypeId)(fz:Nat×Nat)(hW:W.heap=h0.push (.cells R T fz))(R':Array Value):(W.setRow h0.size R').heap=h0.push (.cells R' T fz):=by
 apply Array.ext_getElem?
 intro k
 by_cases hk:k=h0.size
 ·subst hk
  rw[setRow_heap W h0.size R R' T fz (by rw[hW];simp)]
  simp
 ·rw[setRow_other W h0.size k R' hk,hW,Q0,Q0,if_neg hk,if_neg hk]
end Go.Pg
namespace Go.Pg
open Go
variable [Syms]
theorem kill_rel {HD:AH}{E:Env}(hr:Rel HD E){id:Nat}{o:AO}(ho:HD[id]? =some o) :
 ∃E',E'.W=E.W∧Rel (HD.set id .dead) E'∧Step HD E (HD.set id .dead) E'∧E'.M=E.M:=by
 have hidl:id<HD.length:=(Qa.1 ho).1
 have hget:∀j:Nat,(HD.set id AO.dead)[j]? =if j=id then some AO.dead else HD[j]?:=by
  intro j
  rw[Ql]
  by_cases h:id=j
  ·subst h;simp [hidl]
  ·rw[if_neg h,if_neg (fun x=>h x.symm)]
 let E':Env:={ W:=E.W,M:=E.M,st:=E.st,hl:=hlOf (HD.set id .dead) }
 have hst:Step HD E (HD.set id .dead) E':=by
  refine⟨⟨rfl,rfl,rfl,Qd _,fun b _ _=>rfl,fun b c ty fz h=>⟨c,_,h,rfl⟩,fun b _ h=> .inl h,fun b hb=>hb⟩,⟨fun j hj=>hj,fun j L' hj hL=>?_⟩,?_⟩
  ·simp only[E',hlOf,hget] at hL
   rw[hr.hl]
   split at hL
   ·simp [AO.len] at hL
   ·exact⟨L',hL,Qd _,fun _=>rfl⟩
  ·rintro b ⟨j,o',h1,hl,h2⟩
   rw[hget] at h1
   split at h1
   ·cases h1;cases hl
   ·exact .inl ⟨j,o',h1,hl,h2⟩
 have hx:=hst.ext hr
 refine⟨E',rfl,⟨rfl,?_,?_,?_,?_,?_,hr.stlt⟩,hst,rfl⟩
 ·intro j hj;exact hr.dom j (by simpa using hj)
 ·intro j o' m' h hmj
  rw[hget] at h
  split at h
  ·cases h;trivial
  ·exact(hr.orow j o' m' h hmj).mono hx fun _ _=>rfl
 ·intro j o' b h hlv hmj
  rw[hget] at h
  split at h
  ·cases h;cases hlv
  ·exact hr.nst' j o' b h hlv hmj
 ·intro j o' b h hfx hmj
  rw[hget] at h
  split at h
  ·cases h;cases hfx
  ·exact hr.fst' j o' b h hfx hmj
 ·intro j j' o1 o2 b h1 h2 l1 l2 m1 m2
  rw[hget] at h1 h2
  split at h1
  ·cases h1;cases l1
  ·split at h2
   ·cases h2;cases l2
   ·exact hr.inj' j j' o1 o2 b h1 h2 l1 l2 m1 m2
theorem VRs.three {E:Env}{a b c:AV}{vals:Array Value}(h:VRs E [a,b,c] vals):∃u v x,vals= #[u,v,x]∧VR E a u∧VR E b v∧VR E c x:=by
 obtain⟨hs,hv⟩:=h
 match vals,hs with
 | ⟨[u,v,x]⟩,_=>exact⟨u,v,x,rfl,hv 0 _ rfl,hv 1 _ rfl,hv 2 _ rfl⟩
theorem RowOf.one {E:Env}{sz:Nat}{vs:List AV}{l:List Value}(h:RowOf E sz vs l)(hl:l.length=vs.length * sz)(ha:vs.all AV.leafy=true):∀u∈l,u.oneCell'=true:=
 news_one (E:=E) (sz:=sz) ⟨hl,h⟩ ha
theorem insert_calls {P:Program}{f:FuncId}{e:TypeId}{K by_:Nat}(hK:(e == 3)=true∨K≠1)
 (room:∀(b n cap i vb m vc:Nat) (c d:Array Value) (ty dty:TypeId) (fz dfz:Nat×Nat) (w:World),
   w.heap[b]? =some (.cells c ty fz)→Thaw fz c.size→c.size=cap * K→cap≤9223372036854775807→
   w.heap[vb]? =some (.cells d dty dfz)→Thaw dfz d.size→¬(dfz.1≤d.size∧d.size<dfz.2)→m * K≤d.size→
   vb≠b→i<n→0<m→n+m≤cap→(∀v∈(c.toList.drop (i * K)).take ((n - i) * K),v.oneCell'=true)→(∀v∈(d.toList.drop 0).take (m * K),v.oneCell'=true)→
   Calls P f #[.slice (some ⟨b,0,none⟩) n cap,.int .i64 i,.slice (some ⟨vb,0,none⟩) m vc] w fun x w'=>
    x= .returned (.slice (some ⟨b,0,none⟩) (n+m) cap)∧w'=w.drew.setRow b (c.toList.take (i * K) ++ (d.toList.drop 0).take (m * K) ++ (c.toList.drop (i * K)).take ((n - i) * K) ++ c.toList.drop ((n+m) * K)).toArray)
 (grow:∀(b n cap i vb m vc:Nat) (c d:Array Value) (ty dty:TypeId) (fz dfz:Nat×Nat) (w:World),
   w.heap[b]? =some (.cells c ty fz)→c.size=cap * K→n≤cap→
   w.heap[vb]? =some (.cells d dty dfz)→m * K≤d.size→
   i<n→0<m→cap<n+m→(n+m) * by_≤140737488355328→(∀v∈(c.toList.drop (i * K)).take ((n - i) * K),v.oneCell'=true)→(∀v∈(d.toList.drop 0).take (m * K),v.oneCell'=true)→
   Calls P f #[.slice (some ⟨b,0,none⟩) n cap,.int .i64 i,.slice (some ⟨vb,0,none⟩) m vc] w fun x w'=>∃S:List Value,S.length=(grownCap w (n+m) cap e - (n+m)) * K∧
    x= .returned (.slice (some ⟨w.heap.size,0,none⟩) (n+m) (grownCap w (n+m) cap e))∧SameBut w w'∧
    w'.heap=w.heap.push (.cells (c.toList.take (i * K) ++ (d.toList.drop 0).take (m * K) ++ (c.toList.drop (i * K)).take ((n - i) * K) ++ S).toArray e (0,0)))
 (vs ws:List AV) (i:Nat) (hi:i<vs.length) (hm:0<ws.length) (hbig:(vs.length+ws.length) * by_≤140737488355328) (hlv:vs.all AV.leafy=true) (hlw:ws.all AV.leafy=true)
 (hmax:vs.length+ws.length≤140737488355328) :
 CallsR P f [.own 0 K vs.length,.int .i64 i,.own 1 K ws.length] [.arr e K vs,.arr e K ws] (.own 2 K (vs.length+ws.length)) [.dead,.arr e K ws,.arr e K (vs.take i ++ ws ++ vs.drop i)]:=by
 intro E vals hr hv
 obtain⟨u1,u2,u3,rfl,k1,k2,k3⟩:=hv.three
 rw[k2.int_inv]
 obtain⟨b,cap,c,fz,rfl,hM,hcap,hcm,hb,hsz,hth,hrow⟩:=own_block hr (id:=0) rfl k1 (fun h=>by rw[h] at hi;simp at hi)
 obtain⟨vb,vc,d,dfz,rfl,hMd,hdcap,hdm,hd,hdsz,hdth,hdrow⟩:=own_block hr (id:=1) rfl k3 (fun h=>by rw[h] at hm;simp at hm)
 have hvb:vb≠b:=fun h=>by
  subst h
  have:=hr.inj' 0 1 _ _ vb rfl rfl rfl rfl hM hMd
  cases this
 have hdK:ws.length * K≤d.size:=by rw[hdsz];exact Qf _ hdcap
 have hcK:vs.length * K≤c.size:=by rw[hsz];exact Qf _ hcap
 have hltc:c.toList.length=c.size:=Qt
 have hltd:d.toList.length=d.size:=Qt
 have hmul:∀a b:Nat,a * K+b * K=(a+b) * K:=fun a b=>(Qp a b K).symm
 have hiK:i * K+(vs.length - i) * K=vs.length * K:=by rw[hmul];congr 1;omega
 have p1:RowOf E K (vs.take i) (c.toList.take (i * K)):=hrow.take
 have l1:(c.toList.take (i * K)).length=(vs.take i).length * K:=by
  rw[Qg,Qg,hltc,Qk (by omega),Qk (by omega)]
 have p2:RowOf E K ws ((d.toList.drop 0).take (ws.length * K)):=by
  have:=hdrow.take (n:=ws.length)
  rw[Qr] at this
  simpa using this
 have l2:((d.toList.drop 0).take (ws.length * K)).length=ws.length * K:=by
  rw[List.drop_zero,Qg,hltd,Qk hdK]
 have p3:RowOf E K (vs.drop i) ((c.toList.drop (i * K)).take ((vs.length - i) * K)):=by
  have h:=(hrow.drop (n:=i)).take (n:=vs.length - i)
  rwa [Qy (by rw[Qh];exact Qd _)] at h
 have l3:((c.toList.drop (i * K)).take ((vs.length - i) * K)).length=(vs.drop i).length * K:=by
  rw[Qg,Qh,hltc,Qh,Qk (by omega)]
 have o3:=p3.one l3 (by rw[Q2] at hlv ⊢;exact fun x hx=>hlv x (Qs hx))
 have o2:=p2.one l2 hlw
 have hall:∀S:List Value,RowOf E K (vs.take i ++ ws ++ vs.drop i) (c.toList.take (i * K) ++ (d.toList.drop 0).take (ws.length * K) ++ (c.toList.drop (i * K)).take ((vs.length - i) * K) ++ S):=fun S=>
  ((p1.app l1 p2).app (by rw[Qc,Qc,l1,l2,hmul]) p3).more S
 have hlen:(vs.take i ++ ws ++ vs.drop i).length=vs.length+ws.length:=by simp only[Qc,Qg,Qh];omega
 have hcells:(c.toList.take (i * K) ++ (d.toList.drop 0).take (ws.length * K) ++ (c.toList.drop (i * K)).take ((vs.length - i) * K)).length=(vs.length+ws.length) * K:=by
  rw[Qc,Qc,l1,l2,l3,hmul,hmul,←hlen]
  congr 1
  simp only[Qc]
 obtain⟨E1,hr1,hW1,hM1,hst1⟩:=hr.le (H':=[.arr e K vs,.arr e K ws,.arr e K (vs.take i ++ ws ++ vs.drop i)]) (fun id o ho=>by
  match id,ho with
  | 0,ho=>exact⟨o,ho,.refl o⟩
  | 1,ho=>exact⟨o,ho,.refl o⟩
  | n+2,ho=>simp at ho)
 have hn2:E.M 2=none:=hr.dom 2 (Qd _)
 by_cases hroom:vs.length+ws.length≤cap
 ·refine(room b vs.length cap i vb ws.length vc c d e e fz dfz E.W hb hth.1 hsz hcm hd hdth.1 (hdth.2.1 hK) hdK hvb hi hm hroom o3 o2).mono fun x W' ⟨he,hW⟩=>?_
  obtain⟨C,hC⟩:∃C,C=(c.toList.take (i * K) ++ (d.toList.drop 0).take (ws.length * K) ++ (c.toList.drop (i * K)).take ((vs.length - i) * K) ++ c.toList.drop ((vs.length+ws.length) * K)).toArray:=⟨_,rfl⟩
  have hCs:C.size=c.size:=by
   rw[hC,Qv,Qc,hcells,Qh,hltc]
   have:(vs.length+ws.length) * K≤c.size:=by rw[hsz];exact Qf _ hroom
   omega
  rw[←hC] at hW
  have hgrow:∀L',(AO.arr e K (vs.take i ++ ws ++ vs.drop i)).len=some L'→∃L,(AO.arr e K vs).len=some L∧L≤L':=fun L' h=>by
   refine⟨vs.length,rfl,?_⟩
   simp only[AO.len,Option.some.injEq] at h
   rw[hlen] at h
   omega
  have hdr:E.W.drew.heap[b]? =some (.cells c e fz):=hb
  have hwb:W'.heap[b]? =some (.cells C e fz):=by rw[hW];exact setRow_heap E.W.drew b c _ e fz hdr
  obtain⟨E2,hW2,hr2,hst2,hM2⟩:=write_gen hr1 (id:=0) (o:= .arr e K vs) (o':= .arr e K (vs.take i ++ ws ++ vs.drop i)) (b:=b) rfl rfl (by simp) (by rw[hM1];exact hM) (w':=W') (by rw[hW,hW1];exact⟨rfl,rfl,rfl⟩) (by rw[hW,hW1];simp)
   (fun k hk=>by rw[hW,hW1];exact setRow_other E.W.drew b k _ hk)
   (fun c0 ty0 fz0 hk=>by rw[hW1,hb] at hk;cases hk;exact⟨_,_,hwb,hCs⟩)
   hgrow
   (fun E' hx hE'=> .inr ⟨b,C,fz,rfl,by rw[hE'];exact hwb,by rw[hlen,hCs,hsz];exact Qf _ hroom,by rw[hCs];exact hth,fun j v hj=>by
     have h:=((hall (c.toList.drop ((vs.length+ws.length) * K))).mono (hst1.ext hr)).mono hx
     refine⟨(h j v hj).1,fun q cc hq=>?_⟩
     obtain⟨u,h1,h2⟩:=(h j v hj).2 q cc hq
     exact⟨u,by rw[hC];simpa using h1,h2⟩⟩)
  obtain⟨E3,hW3,hr3,hst3,_,hM3⟩:=adopt_rel hr2 (id:=0) (nid:=2) (n:=(vs.take i ++ ws ++ vs.drop i).length) (m:=some b) (e:=e) (sz:=K) (vs:=vs.take i ++ ws ++ vs.drop i) rfl (by rw[hM2,hM1];exact hM) (by rw[hM2,hM1];exact hn2) (o':= .arr e K (vs.take i ++ ws ++ vs.drop i)) rfl (by rw[Qr];exact AOle.refl _)
  refine⟨_,E3,he,by rw[hW3,hW2],.own 2 K _ _ cap (by rw[hM3];rfl) (fun h=>by cases h) (fun L hL=>?_),hr3,(hst1.trans hst2).trans hst3⟩
  rw[hr3.hl] at hL
  have hL':L=vs.length+ws.length:=by rw[←hlen];simpa [hlOf,AO.len] using hL.symm
  subst hL'
  exact⟨Qd _,fun _=> .inr ⟨b,C,e,fz,hM3,rfl,hroom,hcm,by rw[hW3,hW2];exact hwb,by rw[hCs];exact hsz⟩⟩
 ·refine(grow b vs.length cap i vb ws.length vc c d e e fz dfz E.W hb hsz hcap hd hdK hi hm (by omega) hbig o3 o2).mono fun x W' ⟨S,hS,he,hsb,hh⟩=>?_
  have hge:=grownCap_ge E.W (vs.length+ws.length) cap e
  obtain⟨C,hC⟩:∃C,C=(c.toList.take (i * K) ++ (d.toList.drop 0).take (ws.length * K) ++ (c.toList.drop (i * K)).take ((vs.length - i) * K) ++ S).toArray:=⟨_,rfl⟩
  have hCs:C.size=grownCap E.W (vs.length+ws.length) cap e * K:=by
   rw[hC,Qv,Qc,hcells,hS,hmul]
   congr 1;omega
  rw[←hC] at hh
  obtain⟨E2,hW2,hr2,hst2,_,hMid,hhl⟩:=alloc_rel hr1 (id:=2) (by rw[hM1];exact hn2) (e:=e) (sz:=K) (vs:=vs.take i ++ ws ++ vs.drop i) rfl (AOle.refl _) (w':=W') (c:=C) (fz:=(0,0)) (by rw[hW1];exact hsb) (by rw[hW1];exact hh)
   (by rw[hlen,hCs];exact Qf _ hge) (ThawS.zero _ _ _) (fun j v hj=>by
     have h:=(hall S).mono (hst1.ext hr)
     refine⟨(h j v hj).1,fun q cc hq=>?_⟩
     obtain⟨u,h1,h2⟩:=(h j v hj).2 q cc hq
     exact⟨u,by rw[hC];simpa using h1,h2⟩)
  obtain⟨E3,hW3,hr3,hst3,hM3⟩:=kill_rel hr2 (id:=0) rfl
  refine⟨_,E3,he,by rw[hW3,hW2],.own 2 K _ _ (grownCap E.W (vs.length+ws.length) cap e) (by rw[hM3,hMid];rfl) (fun h=>by cases h) (fun L hL=>?_),hr3,(hst1.trans hst2).trans hst3⟩
  rw[hr3.hl] at hL
  have hL':L=vs.length+ws.length:=by rw[←hlen];simpa [hlOf,AO.len] using hL.symm
  subst hL'
  exact⟨Qd _,fun _=> .inr ⟨E.W.heap.size,C,e,(0,0),by rw[hM3,hMid,hW1],rfl,hge,grownCap_le_maxLen E.W _ cap _ (by unfold maxLen;omega),by rw[hW3,hW2,hh];simp,hCs⟩⟩
end Go.Pg
namespace Go.Pg
open Go
variable [Syms]
theorem setCells_row {P:Program}(w:World)(b o:Nat)(cur:Array Value)(t0:TypeId)(fz:Nat×Nat)(hb:w.heap[b]? =some (.cells cur t0 fz))(hth:Thaw fz cur.size)(cs:List Value)
 (hle:o+cs.length≤cur.size) (h1:∀v∈cs,v.oneCell'=true):w.setCells b o cs=w.setRow b (cur.toList.take o ++ cs ++ cur.toList.drop (o+cs.length)).toArray:=by
 have h2:=run_storeCells_thaw (P:=P) b o t0 fz cs 0 cur w hb hth (by simpa using hle) h1
 have hcell:∀j,j<cs.length→(w.cell? ⟨b,o+j,none⟩).isSome=true:=fun j hj=>by
  have:o+j<cur.size:=by omega
  simp [World.cell?,hb,this]
 have hfr:∀j,j<cs.length→w.frozen? ⟨b,o+j,none⟩=false:=fun j hj=>by
  have:=hth (o+j) (by omega)
  obtain⟨lo,hi⟩:=fz
  simp only[World.frozen?,hb]
  simp only at this
  simp
  omega
 have h3:=run_storeCells_cells (P:=P) b o cs 0 w (by simpa using hcell) (by simpa using hfr) h1
 simp only[Q9] at h2 h3
 rw[h3] at h2
 injection h2
theorem delete_calls {P:Program}{f:FuncId}{e:TypeId}{K:Nat}
 (walk:∀(b n cap i j:Nat) (c:Array Value) (ty:TypeId) (fz:Nat×Nat) (w:World),
   w.heap[b]? =some (.cells c ty fz)→Thaw fz c.size→c.size=cap * K→n≤cap→cap≤9223372036854775807→i<j→j≤n→
   (∀v∈(c.toList.drop (j * K)).take ((n - j) * K),v.oneCell'=true)→
   Calls P f #[.slice (some ⟨b,0,none⟩) n cap,.int .i64 i,.int .i64 j] w fun x w'=>∃S:List Value,S.length=(cap - (i+(n - j))) * K∧
    x= .returned (.slice (some ⟨b,0,none⟩) (i+(n - j)) cap)∧w'=w.drew.setRow b (c.toList.take (i * K) ++ (c.toList.drop (j * K)).take ((n - j) * K) ++ S).toArray)
 (vs:List AV) (i j:Nat) (hi:i<j) (hj:j≤vs.length) (hlv:vs.all AV.leafy=true) :
 CallsR P f [.own 0 K vs.length,.int .i64 i,.int .i64 j] [.arr e K vs] (.own 1 K (i+(vs.length - j))) [.dead,.arr e K (vs.take i ++ vs.drop j)]:=by
 intro E vals hr hv
 obtain⟨u1,u2,u3,rfl,k1,k2,k3⟩:=hv.three
 rw[k2.int_inv,k3.int_inv]
 obtain⟨b,cap,c,fz,rfl,hM,hcap,hcm,hb,hsz,hth,hrow⟩:=own_block hr (id:=0) rfl k1 (fun h=>by rw[h] at hj;simp at hj;omega)
 have hcK:vs.length * K≤c.size:=by rw[hsz];exact Qf _ hcap
 have hltc:c.toList.length=c.size:=Qt
 have hmul:∀a b:Nat,a * K+b * K=(a+b) * K:=fun a b=>(Qp a b K).symm
 have hiK:i * K≤vs.length * K:=Qf _ (by omega)
 have hjK:j * K+(vs.length - j) * K=vs.length * K:=by rw[hmul];congr 1;omega
 have p1:RowOf E K (vs.take i) (c.toList.take (i * K)):=hrow.take
 have l1:(c.toList.take (i * K)).length=(vs.take i).length * K:=by
  rw[Qg,Qg,hltc,Qk (by omega),Qk (by omega)]
 have p3:RowOf E K (vs.drop j) ((c.toList.drop (j * K)).take ((vs.length - j) * K)):=by
  have h:=(hrow.drop (n:=j)).take (n:=vs.length - j)
  rwa [Qy (by rw[Qh];exact Qd _)] at h
 have l3:((c.toList.drop (j * K)).take ((vs.length - j) * K)).length=(vs.drop j).length * K:=by
  rw[Qg,Qh,hltc,Qh,Qk (by omega)]
 have o3:=p3.one l3 (by rw[Q2] at hlv ⊢;exact fun x hx=>hlv x (Qs hx))
 have hall:∀S:List Value,RowOf E K (vs.take i ++ vs.drop j) (c.toList.take (i * K) ++ (c.toList.drop (j * K)).take ((vs.length - j) * K) ++ S):=fun S=>(p1.app l1 p3).more S
 have hlen:(vs.take i ++ vs.drop j).length=i+(vs.length - j):=by simp only[Qc,Qg,Qh];omega
 have hcells:(c.toList.take (i * K) ++ (c.toList.drop (j * K)).take ((vs.length - j) * K)).length=(i+(vs.length - j)) * K:=by
  rw[Qc,l1,l3,hmul,←hlen,Qc]
 obtain⟨E1,hr1,hW1,hM1,hst1⟩:=hr.le (H':=[.arr e K vs,.arr e K (vs.take i ++ vs.drop j)]) (fun id o ho=>by
  match id,ho with
  | 0,ho=>exact⟨o,ho,.refl o⟩
  | n+1,ho=>simp at ho)
 have hn1:E.M 1=none:=hr.dom 1 (Qd _)
 refine(walk b vs.length cap i j c e fz E.W hb hth.1 hsz hcap hcm hi hj o3).mono fun x W' ⟨S,hS,he,hW⟩=>?_
 obtain⟨C,hC⟩:∃C,C=(c.toList.take (i * K) ++ (c.toList.drop (j * K)).take ((vs.length - j) * K) ++ S).toArray:=⟨_,rfl⟩
 have hCs:C.size=c.size:=by
  rw[hC,Qv,Qc,hcells,hS,hmul,hsz]
  congr 1;omega
 rw[←hC] at hW
 have hdr:E.W.drew.heap[b]? =some (.cells c e fz):=hb
 have hwb:W'.heap[b]? =some (.cells C e fz):=by rw[hW];exact setRow_heap E.W.drew b c _ e fz hdr
 let pad:List AV:=Q7 (vs.length - (i+(vs.length - j))) (.agg (Q7 K .top))
 have hpl:((vs.take i ++ vs.drop j) ++ pad).length=vs.length:=by rw[Qc,hlen,Qq];omega
 obtain⟨E2,hW2,hr2,hst2,hM2⟩:=write_gen hr1 (id:=0) (o:= .arr e K vs) (o':= .arr e K ((vs.take i ++ vs.drop j) ++ pad)) (b:=b) rfl rfl (by simp) (by rw[hM1];exact hM) (w':=W') (by rw[hW,hW1];exact⟨rfl,rfl,rfl⟩) (by rw[hW,hW1];simp)
  (fun k hk=>by rw[hW,hW1];exact setRow_other E.W.drew b k _ hk)
  (fun c0 ty0 fz0 hk=>by rw[hW1,hb] at hk;cases hk;exact⟨_,_,hwb,hCs⟩)
  (fun L' h=>⟨vs.length,rfl,by simp only[AO.len,Option.some.injEq] at h;rw[hpl] at h;omega⟩)
  (fun E' hx hE'=> .inr ⟨b,C,fz,rfl,by rw[hE'];exact hwb,by rw[hpl,hCs];exact hcK,by rw[hCs];exact hth,fun q v hq=>by
    by_cases hlt:q< (vs.take i ++ vs.drop j).length
    ·rw[Qb hlt] at hq
     have h:=((hall S).mono (hst1.ext hr)).mono hx
     refine⟨(h q v hq).1,fun r cc hrr=>?_⟩
     obtain⟨u,h1,h2⟩:=(h q v hq).2 r cc hrr
     exact⟨u,by rw[hC];simpa using h1,h2⟩
    ·rw[Qj (by omega)] at hq
     have hv':=Qw (Qe hq)
     have hql:=(Qa.1 hq).1
     rw[Qq] at hql
     subst hv'
     refine⟨by simp [AV.cells],fun r cc hrr=>?_⟩
     simp only[AV.cells] at hrr
     have hc':=Qw (Qe hrr)
     have hrl:=(Qa.1 hrr).1
     rw[Qq] at hrl
     subst hc'
     have hlt2:q * K+r<C.size:=by
      rw[hCs]
      have:(q+1) * K≤vs.length * K:=Qf _ (by omega)
      rw[Qp,Xa] at this
      omega
     exact⟨C[q * K+r],by rw[Array.getElem?_eq_getElem hlt2],.top _⟩⟩)
 obtain⟨E3,hW3,hr3,hst3,_,hM3⟩:=adopt_rel hr2 (id:=0) (nid:=1) (n:=(vs.take i ++ vs.drop j).length) (m:=some b) (e:=e) (sz:=K) (vs:=(vs.take i ++ vs.drop j) ++ pad) rfl (by rw[hM2,hM1];exact hM) (by rw[hM2,hM1];exact hn1) (o':= .arr e K (vs.take i ++ vs.drop j)) rfl (by rw[List.take_left];exact AOle.refl _)
 refine⟨_,E3,he,by rw[hW3,hW2],.own 1 K _ _ cap (by rw[hM3];rfl) (fun h=>by cases h) (fun L hL=>?_),hr3,(hst1.trans hst2).trans hst3⟩
 rw[hr3.hl] at hL
 have hL':L=i+(vs.length - j):=by rw[←hlen];simpa [hlOf,AO.len] using hL.symm
 subst hL'
 exact⟨Qd _,fun _=> .inr ⟨b,C,e,fz,hM3,rfl,by omega,hcm,by rw[hW3,hW2];exact hwb,by rw[hCs];exact hsz⟩⟩
end Go.Pg
namespace Go.Pg
open Go
variable [Syms]
theorem CallsR.adopt {P:Program}{f:FuncId}{args:List AV}{H H':AH}{id sz n:Nat}{e:TypeId}{vs:List AV}(h:CallsR P f args H (.own id sz n) H')(ho:H'[id]? =some (.arr e sz vs))(hn:n=vs.length) :
 CallsR P f args H (.own H'.length sz n) (H'.set id .dead ++ [.arr e sz vs]):=by
 intro E vals hr hv
 refine(h E vals hr hv).mono fun x W'=>?_
 rintro⟨v,E1,q1,q2,q3,q4,q5⟩
 have hidl:id<H'.length:=(Qa.1 ho).1
 obtain⟨E2,hr2,hW2,hM2,hst2⟩:=q4.le (H':=H' ++ [.arr e sz vs]) (fun j o hj=>by
  have:=(Qa.1 hj).1
  exact⟨o,by rw[Qb this];exact hj,.refl o⟩)
 have hnone:E2.M H'.length=none:=by rw[hM2];exact q4.dom _ (Qd _)
 cases q3 with
 | own _ _ _ a cap h1 h2 h3=>
  obtain⟨m,hm⟩:=Option.isSome_iff_exists.1 h1
  have hown:=(h3 n (by rw[q4.hl];simp [hlOf,ho,AO.len,hn])).2 rfl
  have e1:(H' ++ [AO.arr e sz vs])[id]? =some (.arr e sz vs):=by rw[Qb hidl];exact ho
  have e2:(H' ++ [AO.arr e sz vs])[H'.length]? =some (.arr e sz vs):=by simp
  obtain⟨E3,hW3,hr3,hst3,_,hM3⟩:=adopt_rel hr2 (id:=id) (nid:=H'.length) (n:=vs.length) (m:=m) e1 (by rw[hM2];exact hm) hnone e2 (by rw[Qr];exact AOle.refl _)
  have hset:(H' ++ [AO.arr e sz vs]).set id .dead=H'.set id .dead ++ [.arr e sz vs]:=by rw[Qm _ _ hidl]
  rw[hset] at hr3 hst3
  refine⟨_,E3,q1,by rw[hW3,hW2,q2],.own _ sz n a cap (by rw[hM3];rfl) h2 (fun L hL=>?_),hr3,(q5.trans hst2).trans hst3⟩
  rw[hr3.hl] at hL
  have hL':L=n:=by
   have e3:(H'.set id AO.dead ++ [AO.arr e sz vs])[H'.length]? =some (.arr e sz vs):=by
    rw[Qj (by simp)];simp
   simp only[hlOf,e3,AO.len,Qx,Option.some.injEq] at hL
   omega
  subst hL'
  refine⟨Qd _,fun _=>?_⟩
  rw[hM3,hW3,hW2]
  rw[hm] at hown
  exact hown
end Go.Pg
namespace Go.Pg
open Go
variable [Syms]
def AV.atom:AV→Bool
 | .int _ _=>true
 | .bool _=>true
 | .str _=>true
 | _=>false
theorem atom_any {E E':Env}{x:AV}{v:Value}(hx:x.atom=true)(h:VR E x v):VR E' x v:=by
 cases x <;> first | cases hx | skip
 ·cases h;exact .int _ _
 ·cases h;exact .bool _
 ·cases h with | str s=>exact .str s
theorem callsR_wrapK {P:Program}{f:FuncId}{args args':List AV}{H:AH}{n sz:Nat}{e:TypeId}{l:List AV}(h:CallsR P f args [] (.own 0 sz n) [.arr e sz l])
 (hl:∀v∈l,∀c∈v.cells,c.atom=true)
 (hv:∀(E:Env) (vals:Array Value),Rel H E→VRs E args' vals→∃st2:Nat→Prop,(∀b,st2 b→b<E.W.heap.size)∧VRs { W:=E.W,M:=fun _=>none,st:=st2,hl:=hlOf [] } args vals) :
 CallsR P f args' H (.own H.length sz n) (H ++ [.arr e sz l]):=by
 intro E vals hr hvs
 obtain⟨st2,hlt,hv2⟩:=hv E vals hr hvs
 obtain⟨E2,hE2⟩:∃E2:Env,E2={ W:=E.W,M:=fun _=>none,st:=st2,hl:=hlOf [] }:=⟨_,rfl⟩
 rw[←hE2] at hv2
 have hW2:E2.W=E.W:=by rw[hE2]
 have hr2:Rel [] E2:=by
  subst hE2
  exact⟨rfl,fun _ _=>rfl,fun id o m h=>by simp at h,fun id o b h=>by simp at h,fun id o b h=>by simp at h,fun id id' o o' b h=>by simp at h,hlt⟩
 rw[←hW2]
 refine(h E2 vals hr2 hv2).mono fun e' W' ⟨v,E',g1,g2,g3,g4,g5⟩=>?_
 have hH:∀j:Nat,(H ++ [AO.arr e sz l])[j]? =if j<H.length then H[j]? else if j=H.length then some (.arr e sz l) else none:=by
  intro j
  rw[List.getElem?_append]
  split
  ·rfl
  ·split
   ·next h1=>subst h1;simp
   ·rw[List.getElem?_singleton,if_neg (by omega)]
 obtain⟨E3,hE3⟩:∃E3:Env,E3={ W:=E'.W,M:=fun id=>if id<H.length then E.M id else if id=H.length then E'.M 0 else none,st:=E.st,hl:=hlOf (H ++ [.arr e sz l]) }:=⟨_,rfl⟩
 have nolive:∀b,¬Live [] E2.M b:=fun b ⟨id,o,h1,_⟩=>by simp at h1
 have keep:∀b,b<E.W.heap.size→E'.W.heap[b]? =E.W.heap[b]?:=fun b hb=>by
  rw[g5.mv.keep b (by rw[hW2];exact hb) (nolive b),hW2]
 have hnew:∀b,E'.M 0=some (some b)→E.W.heap.size≤b:=fun b hb=>by
  rcases g5.live b ⟨0,_,rfl,rfl,hb⟩ with h | h
  ·exact(nolive b h).elim
  ·rw[hW2] at h;exact h
 have hMlt:∀id,id<H.length→E3.M id=E.M id:=fun id hid=>by rw[hE3];simp only[if_pos hid]
 have hMn:E3.M H.length=E'.M 0:=by rw[hE3];simp
 have hhl:∀id,id<H.length→E3.hl id=E.hl id:=fun id hid=>by
  rw[hE3,hr.hl]
  show hlOf _ id=hlOf _ id
  unfold hlOf
  rw[hH,if_pos hid]
 have hsz:E.W.heap.size≤E'.W.heap.size:=by have:=g5.mv.size;rwa [hW2] at this
 have hsome:∀id,(E.M id).isSome=true→id<H.length:=fun id hi=>by
  rcases Nat.lt_or_ge id H.length with h | h
  ·exact h
  ·rw[hr.dom id h] at hi;cases hi
 have hstep:Step H E (H ++ [.arr e sz l]) E3:=by
  refine⟨⟨?_,?_,?_,?_,fun b hb _=>?_,fun b c ty fz hb=>?_,fun b _ hb=>?_,fun b hb=>?_⟩,⟨fun id hi=>?_,fun id L' hi hL=>?_⟩,?_⟩
  ·rw[hE3];have:=g5.mv.os;rwa [hW2] at this
  ·rw[hE3];have:=g5.mv.tape;rwa [hW2] at this
  ·rw[hE3];have:=g5.mv.output;rwa [hW2] at this
  ·rw[hE3];exact hsz
  ·rw[hE3];exact keep b hb
  ·refine⟨c,fz,?_,rfl⟩
   rw[hE3]
   show E'.W.heap[b]? =_
   rw[keep b (Qi.1 hb).1,hb]
  ·rw[hE3] at hb;exact .inl hb
  ·rw[hE3];exact hb
  ·rw[hMlt id (hsome id hi)];exact hi
  ·rw[hhl id (hsome id hi)] at hL
   exact⟨L',hL,Qd _,fun _=>hMlt id (hsome id hi)⟩
  ·rintro b ⟨id,o,h1,h2,h3⟩
   rw[hH] at h1
   split at h1
   ·next hid=>rw[hMlt id hid] at h3;exact .inl ⟨id,o,h1,h2,h3⟩
   ·split at h1
    ·next hid=>subst hid;rw[hMn] at h3;exact .inr (hnew b h3)
    ·cases h1
 have hx:=hstep.ext hr
 have hrel:Rel (H ++ [.arr e sz l]) E3:=by
  refine⟨by rw[hE3],fun id hid=>?_,fun id o m h1 h2=>?_,fun id o b h1 h2 h3=>?_,fun id o b h1 h2 h3=>?_,fun id id' o o' b h1 h2 l1 l2 m1 m2=>?_,fun b hb=>?_⟩
  ·rw[hE3]
   simp only[Qc,List.length_cons,Q6] at hid
   simp only
   rw[if_neg (by omega),if_neg (by omega)]
  ·rw[hH] at h1
   split at h1
   ·next hid=>
    rw[hMlt id hid] at h2
    by_cases hd:o= .dead
    ·subst hd;trivial
    refine(hr.orow id o m h1 h2).mono hx fun b hb=>?_
    subst hb
    have:E3.W=E'.W:=by rw[hE3]
    rw[this]
    exact keep b ((hr.orow id o _ h1 h2).block hd)
   ·split at h1
    ·next hid=>
     subst hid;cases h1
     rw[hMn] at h2
     have hrow:=g4.orow 0 _ m rfl h2
     have hW3:E3.W=E'.W:=by rw[hE3]
     rcases hrow with h0 | ⟨b,c,fz,a1,a2,a3,a4,a5⟩
     ·exact .inl h0
     ·refine .inr ⟨b,c,fz,a1,by rw[hW3];exact a2,a3,a4,fun i v hi=>⟨(a5 i v hi).1,fun j cc hj=>?_⟩⟩
      obtain⟨u,b1,b2⟩:=(a5 i v hi).2 j cc hj
      refine⟨u,b1,?_⟩
      exact atom_any (hl v (Qe hi) cc (Qe hj)) b2
    ·cases h1
  ·rw[hH] at h1
   split at h1
   ·next hid=>rw[hMlt id hid] at h3;rw[hE3];exact hr.nst' id o b h1 h2 h3
   ·split at h1
    ·next hid=>
     subst hid;rw[hMn] at h3;rw[hE3]
     intro hb
     have:=hr.stlt b hb
     have:=hnew b h3
     omega
    ·cases h1
  ·rw[hH] at h1
   split at h1
   ·next hid=>rw[hMlt id hid] at h3;rw[hE3];exact hr.fst' id o b h1 h2 h3
   ·split at h1
    ·cases h1;cases h2
    ·cases h1
  ·have old:∀id o,(H ++ [AO.arr e sz l])[id]? =some o→o.lives=true→E3.M id=some (some b)→id<H.length→b<E.W.heap.size:=fun id o h1 h2 h3 hid=>by
    rw[hH,if_pos hid] at h1
    rw[hMlt id hid] at h3
    exact hr.lt' h1 (AO.lives_dead h2) h3
   have atn:∀id o,(H ++ [AO.arr e sz l])[id]? =some o→¬id<H.length→id=H.length:=fun id o h1 hid=>by
    have:=(Qa.1 h1).1
    simp at this;omega
   by_cases c1:id<H.length <;> by_cases c2:id'<H.length
   ·rw[hH,if_pos c1] at h1
    rw[hH,if_pos c2] at h2
    rw[hMlt id c1] at m1
    rw[hMlt id' c2] at m2
    exact hr.inj' id id' o o' b h1 h2 l1 l2 m1 m2
   ·have:=old id o h1 l1 m1 c1
    have e2:=atn id' o' h2 c2
    subst e2
    rw[hMn] at m2
    have:=hnew b m2
    omega
   ·have:=old id' o' h2 l2 m2 c2
    have e2:=atn id o h1 c1
    subst e2
    rw[hMn] at m1
    have:=hnew b m1
    omega
   ·rw[atn id o h1 c1,atn id' o' h2 c2]
  ·rw[hE3] at hb ⊢
   have:=hr.stlt b hb
   show b<E'.W.heap.size
   omega
 refine⟨v,E3,g1,by rw[hE3];exact g2,?_,hrel,hstep⟩
 cases g3 with
 | own _ _ _ a cap k1 k2 k3=>
  refine .own _ _ _ a cap (by rw[hMn];exact k1) k2 fun L hL=>?_
  have:E'.hl 0=some L:=by
   rw[g4.hl]
   rw[hrel.hl] at hL
   have e1:hlOf (H ++ [.arr e sz l]) H.length=some l.length:=by
    unfold hlOf;rw[hH];simp [AO.len]
   rw[e1] at hL
   rw[←hL];rfl
  rw[hMn]
  have:=k3 L this
  rw[show E3.W=E'.W by rw[hE3]]
  exact this
theorem own_reads {H:AH}{E:Env}(hr:Rel H E){id sz:Nat}{e:TypeId}{vs:List AV}{v:Value}(ho:H[id]? =some (.arr e sz vs))(ha:∀x∈vs,∀c∈x.cells,c.atom=true)(h:VR E (.own id sz vs.length) v) :
 ∃st2:Nat→Prop,(∀b,st2 b→b<E.W.heap.size)∧VR { W:=E.W,M:=fun _=>none,st:=st2,hl:=hlOf [] } (.sl sz vs) v:=by
 by_cases hne:vs=[]
 ·subst hne
  refine⟨fun _=>False,fun _ h=>h.elim,?_⟩
  cases h with
  | own _ _ _ a cap h1 h2 h3=>exact .sl sz [] a cap (fun _ _=>Go.undef) (Q5 _) (fun i v hi=>by simp at hi) (fun i v j c hi=>by simp at hi)
 ·obtain⟨b,cap,c,fz,rfl,hM,hcap,hcm,hb,hsz,hth,hrow⟩:=own_block hr ho h hne
  refine⟨fun k=>k=b,fun k hk=>by subst hk;exact(Qi.1 hb).1,?_⟩
  refine .sl sz vs _ cap (fun i j=>c[i * sz+j]?.getD Go.undef) hcap (fun i x hi=>⟨(hrow i x hi).1,b,0,rfl,fun _=>rfl,fun j hj=>?_⟩) fun i x j cc hi hj=>?_
  ·obtain⟨u,h1,h2⟩:=(hrow i x hi).2 j (x.cells[j]'(by rw[(hrow i x hi).1];exact hj)) (by simp)
   simp only[Qz] at h1
   simp [World.cell?,hb,h1]
  ·obtain⟨u,h1,h2⟩:=(hrow i x hi).2 j cc hj
   simp only[Qz] at h1
   rw[h1]
   have hat:=ha x (Qe hi) cc (Qe hj)
   simp only[Q3]
   cases cc <;> first | cases hat | skip
   ·cases h2;exact .int _ _
   ·cases h2;exact .bool _
   ·cases h2 with | str s=>exact .str s
theorem calls_copy {P:Program}{f:FuncId}{e:TypeId}{sz:Nat}{vs:List AV}(h:CallsR P f [.sl sz vs] [] (.own 0 sz vs.length) [.arr e sz vs])(ha:∀x∈vs,∀c∈x.cells,c.atom=true) :
 CallsR P f [.own 0 sz vs.length] [.arr e sz vs] (.own 1 sz vs.length) [.arr e sz vs,.arr e sz vs]:=by
 refine callsR_wrapK (H:=[.arr e sz vs]) h ha fun E vals hr hv=>?_
 obtain⟨hs,hv⟩:=hv
 match vals,hs with
 | ⟨[u]⟩,_=>
  obtain⟨st2,h1,h2⟩:=own_reads hr (id:=0) rfl ha (hv 0 _ rfl)
  refine⟨st2,h1,rfl,fun i c hc=>?_⟩
  match i,hc with
  | 0,hc=>cases hc;exact h2
  | i+1,hc=>simp at hc
end Go.Pg
namespace Go.Pg
open Go
variable [Syms]
theorem win_reads {H:AH}{E:Env}(hr:Rel H E){id sz off len:Nat}{e:TypeId}{vs:List AV}{v:Value}(ho:H[id]? =some (.arr e sz vs))(ha:∀x∈vs,∀c∈x.cells,c.atom=true)(hol:off+len≤vs.length)(h:VR E (.win id sz vs.length off len) v) :
 ∃st2:Nat→Prop,(∀b,st2 b→b<E.W.heap.size)∧VR { W:=E.W,M:=fun _=>none,st:=st2,hl:=hlOf [] } (.sl sz ((vs.drop off).take len)) v:=by
 cases h with
 | win _ _ _ _ _ a cap h1 h2 h3=>
 have hlen:((vs.drop off).take len).length=len:=by rw[Qg,Qh];omega
 by_cases h0:len=0
 ·subst h0
  refine⟨fun _=>False,fun _ h=>h.elim,?_⟩
  exact .sl sz [] a cap (fun _ _=>Go.undef) (Q5 _) (fun i v hi=>by simp at hi) (fun i v j c hi=>by simp at hi)
 ·obtain⟨b,hb1,rfl⟩:=(h3 vs.length (by rw[hr.hl];simp [hlOf,ho,AO.len])).2 rfl (by omega)
  rcases hr.orow id _ _ ho hb1 with⟨h,_⟩ | ⟨b',c,fz,a1,hb,a3,a4,hrow⟩
  ·cases h
  ·cases a1
   have hlen':len=((vs.drop off).take len).length:=hlen.symm
   refine⟨fun k=>k=b,fun k hk=>by subst hk;exact(Qi.1 hb).1,?_⟩
   have hg:∀i x,((vs.drop off).take len)[i]? =some x→vs[off+i]? =some x:=fun i x hi=>by
    rw[Qn] at hi
    split at hi
    ·rwa [Qo] at hi
    ·cases hi
   have key:VR { W:=E.W,M:=fun _=>none,st:=fun k=>k=b,hl:=hlOf [] } (.sl sz ((vs.drop off).take len)) (.slice (some ⟨b,off * sz,none⟩) ((vs.drop off).take len).length cap):=by
    refine .sl sz _ _ cap (fun i j=>c[(off+i) * sz+j]?.getD Go.undef) (by rw[hlen];exact h1) (fun i x hi=>⟨(hrow _ x (hg i x hi)).1,b,off * sz,rfl,fun _=>rfl,fun j hj=>?_⟩) fun i x j cc hi hj=>?_
    ·obtain⟨u,h1,h2⟩:=(hrow _ x (hg i x hi)).2 j (x.cells[j]'(by rw[(hrow _ x (hg i x hi)).1];exact hj)) (by simp)
     have e2:off * sz+i * sz+j=(off+i) * sz+j:=by rw[Qp]
     simp [World.cell?,hb,e2,h1]
    ·obtain⟨u,h1,h2⟩:=(hrow _ x (hg i x hi)).2 j cc hj
     rw[h1]
     have hat:=ha x (Qe (hg i x hi)) cc (Qe hj)
     simp only[Q3]
     cases cc <;> first | cases hat | skip
     ·cases h2;exact .int _ _
     ·cases h2;exact .bool _
     ·cases h2 with | str s=>exact .str s
   rwa [hlen] at key
theorem calls_copyW {P:Program}{f:FuncId}{e:TypeId}{sz off len:Nat}{vs:List AV}(h:CallsR P f [.sl sz ((vs.drop off).take len)] [] (.own 0 sz len) [.arr e sz ((vs.drop off).take len)])(ha:∀x∈vs,∀c∈x.cells,c.atom=true)
 (hol:off+len≤vs.length) :
 CallsR P f [.win 0 sz vs.length off len] [.arr e sz vs] (.own 1 sz len) [.arr e sz vs,.arr e sz ((vs.drop off).take len)]:=by
 have hlen:((vs.drop off).take len).length=len:=by rw[Qg,Qh];omega
 have h':CallsR P f [.sl sz ((vs.drop off).take len)] [] (.own 0 sz ((vs.drop off).take len).length) [.arr e sz ((vs.drop off).take len)]:=by rw[hlen];exact h
 have hx:=callsR_wrapK (H:=[.arr e sz vs]) (args':=[.win 0 sz vs.length off len]) h' (fun v hv=>ha v (Qs (List.mem_of_mem_take hv))) fun E vals hr hv=>by
  obtain⟨hs,hv⟩:=hv
  match vals,hs with
  | ⟨[u]⟩,_=>
   obtain⟨st2,h1,h2⟩:=win_reads hr (id:=0) rfl ha hol (hv 0 _ rfl)
   refine⟨st2,h1,rfl,fun i c hc=>?_⟩
   match i,hc with
   | 0,hc=>cases hc;exact h2
   | i+1,hc=>simp at hc
 rw[hlen] at hx
 exact hx
end Go.Pg
namespace Go.Pg
open Go
variable [Syms]
theorem atom_vp {E:Env}{W:World}{st:Nat→Prop}{x:AV}{v:Value}(hx:x.atom=true)(h:VR E x v):VP W st x v:=by
 cases x <;> first | cases hx | skip
 ·cases h;exact .int _ _
 ·cases h;exact .bool _
 ·cases h with | str s=>exact .str s
theorem callsR_wrapS {P:Program}{f:FuncId}{args args':List AV}{H:AH}{n sz:Nat}{e:TypeId}{l:List AV}(h:CallsR P f args [] (.own 0 sz n) [.arr e sz l])(hn:n=l.length)
 (hl:∀v∈l,∀c∈v.cells,c.atom=true)
 (hv:∀(E:Env) (vals:Array Value),Rel H E→VRs E args' vals→∃st2:Nat→Prop,(∀b,st2 b→b<E.W.heap.size)∧VRs { W:=E.W,M:=fun _=>none,st:=st2,hl:=hlOf [] } args vals) :
 CallsR P f args' H (.sl sz l) H:=by
 intro E vals hr hvs
 obtain⟨st2,hlt,hv2⟩:=hv E vals hr hvs
 obtain⟨E2,hE2⟩:∃E2:Env,E2={ W:=E.W,M:=fun _=>none,st:=st2,hl:=hlOf [] }:=⟨_,rfl⟩
 rw[←hE2] at hv2
 have hW2:E2.W=E.W:=by rw[hE2]
 have hr2:Rel [] E2:=by
  subst hE2
  exact⟨rfl,fun _ _=>rfl,fun id o m h=>by simp at h,fun id o b h=>by simp at h,fun id o b h=>by simp at h,fun id id' o o' b h=>by simp at h,hlt⟩
 rw[←hW2]
 refine(h E2 vals hr2 hv2).mono fun e' W' ⟨v,E',g1,g2,g3,g4,g5⟩=>?_
 obtain⟨E3,hE3⟩:∃E3:Env,E3={ W:=E'.W,M:=E.M,st:=fun b=>E.st b∨E'.M 0=some (some b),hl:=E.hl }:=⟨_,rfl⟩
 have nolive:∀b,¬Live [] E2.M b:=fun b ⟨id,o,h1,_⟩=>by simp at h1
 have keep:∀b,b<E.W.heap.size→E'.W.heap[b]? =E.W.heap[b]?:=fun b hb=>by
  rw[g5.mv.keep b (by rw[hW2];exact hb) (nolive b),hW2]
 have hnew:∀b,E'.M 0=some (some b)→E.W.heap.size≤b:=fun b hb=>by
  rcases g5.live b ⟨0,_,rfl,rfl,hb⟩ with h | h
  ·exact(nolive b h).elim
  ·rw[hW2] at h;exact h
 have hM:E3.M=E.M:=by rw[hE3]
 have hW3:E3.W=E'.W:=by rw[hE3]
 have hsz:E.W.heap.size≤E'.W.heap.size:=by have:=g5.mv.size;rwa [hW2] at this
 have hblk:∀b,E'.M 0=some (some b)→b<E'.W.heap.size:=fun b hb=>by
  rcases g4.orow 0 _ _ rfl hb with⟨h0,_⟩ | ⟨b',c,fz,a1,a2,_⟩
  ·cases h0
  ·cases a1;exact(Qi.1 a2).1
 have hlive:∀b,Live H E.M b→b<E.W.heap.size:=fun b ⟨id,o,h1,h2,h3⟩=>hr.lt' h1 (AO.lives_dead h2) h3
 have hstep:Step H E H E3:=by
  refine⟨⟨?_,?_,?_,?_,fun b hb _=>?_,fun b c ty fz hb=>?_,fun b hlt hb=>?_,fun b hb=>?_⟩,⟨fun id hi=>?_,fun id L' hi hL=>?_⟩,?_⟩
  ·rw[hE3];have:=g5.mv.os;rwa [hW2] at this
  ·rw[hE3];have:=g5.mv.tape;rwa [hW2] at this
  ·rw[hE3];have:=g5.mv.output;rwa [hW2] at this
  ·rw[hE3];exact hsz
  ·rw[hE3];exact keep b hb
  ·refine⟨c,fz,?_,rfl⟩
   rw[hE3]
   show E'.W.heap[b]? =_
   rw[keep b (Qi.1 hb).1,hb]
  ·rw[hE3] at hb
   rcases hb with hb | hb
   ·exact .inl hb
   ·have:=hnew b hb;omega
  ·rw[hE3];exact .inl hb
  ·rw[hM];exact hi
  ·rw[hE3] at hL
   exact⟨L',hL,Qd _,fun _=>by rw[hM]⟩
  ·intro b hb
   rw[hM] at hb
   exact .inl hb
 have hx:=hstep.ext hr
 have hrel:Rel H E3:=by
  refine⟨by rw[hE3];exact hr.hl,fun id hid=>by rw[hM];exact hr.dom id hid,fun id o m h1 h2=>?_,fun id o b h1 h2 h3=>?_,fun id o b h1 h2 h3=>?_,fun id id' o o' b h1 h2 l1 l2 m1 m2=>by rw[hM] at m1 m2;exact hr.inj' id id' o o' b h1 h2 l1 l2 m1 m2,fun b hb=>?_⟩
  ·rw[hM] at h2
   by_cases hd:o= .dead
   ·subst hd;trivial
   refine(hr.orow id o m h1 h2).mono hx fun b hb=>?_
   subst hb
   rw[hW3]
   exact keep b ((hr.orow id o _ h1 h2).block hd)
  ·rw[hM] at h3
   rw[hE3]
   rintro(hb | hb)
   ·exact hr.nst' id o b h1 h2 h3 hb
   ·have:=hnew b hb
    have:=hlive b ⟨id,o,h1,h2,h3⟩
    omega
  ·rw[hM] at h3
   rw[hE3]
   exact .inl (hr.fst' id o b h1 h2 h3)
  ·rw[hE3] at hb ⊢
   rcases hb with hb | hb
   ·have:=hr.stlt b hb
    show b<E'.W.heap.size
    omega
   ·exact hblk b hb
 refine⟨v,E3,g1,by rw[hW3];exact g2,?_,hrel,hstep⟩
 cases g3 with
 | own _ _ _ a cap k1 k2 k3=>
  subst hn
  have hown:=(k3 l.length (by rw[g4.hl];rfl)).2 rfl
  rcases hown with⟨m1,m2,m3⟩ | ⟨b,c,ty,fz,m1,m2,m3,m4,m5,m6⟩
  ·have hl0:l=[]:=List.eq_nil_of_length_eq_zero m2
   subst hl0
   exact .sl sz [] a cap (fun _ _=>Go.undef) (Q5 _) (fun i v hi=>by simp at hi) (fun i v j c hi=>by simp at hi)
  ·rcases g4.orow 0 _ _ rfl m1 with⟨h0,_⟩ | ⟨b',c',fz',a1,a2,a3,a4,a5⟩
   ·cases h0
   cases a1
   refine .sl sz l a cap (fun i j=>c'.getD (i * sz+j) Go.undef) m3 (fun i x hi=>⟨(a5 i x hi).1,b,0,m2,fun _=>?_,fun j hj=>?_⟩) (fun i x j cc hi hj=>?_)
   ·rw[hE3];exact .inr m1
   ·have hcl:=(a5 i x hi).1
    obtain⟨u,u1,_⟩:=(a5 i x hi).2 j (x.cells[j]'(by omega)) (List.getElem?_eq_getElem _)
    rw[hW3,Nat.zero_add]
    simp [World.cell?,a2,u1,Qu]
   ·obtain⟨u,u1,u2⟩:=(a5 i x hi).2 j cc hj
    show VP E3.W E3.st cc (c'.getD (i * sz+j) Go.undef)
    rw[Qu,u1]
    exact atom_vp (hl x (Qe hi) cc (Qe hj)) u2
theorem fixO_fixO (o:AO):fixO (fixO o)=fixO o:=by cases o <;> rfl
theorem vrs_res {H:AH}{x y:AV}{ids:List Nat}(h8:res (H.map fixO) 8 x=some (y,ids)){y':AV}(hy:∀W st v,VP W st y v→VP W st y' v)(E:Env)(vals:Array Value)(hr:Rel H E)(hvs:VRs E [x] vals) :
 ∃st2:Nat→Prop,(∀b,st2 b→b<E.W.heap.size)∧VRs { W:=E.W,M:=fun _=>none,st:=st2,hl:=hlOf [] } [y'] vals:=by
 obtain⟨E1,hr1,hW1,hM1,hst1⟩:=hr.le (H':=H.map fixO) (fun j o hj=>⟨fixO o,by rw[Q1,hj];rfl,fixO_le o⟩)
 obtain⟨hsz,hv⟩:=hvs
 have hv0:=(hv 0 x rfl).mono (hst1.ext hr)
 have hvp:=res_sound hr1 8 x y ids _ h8 hv0 (fun id _ o ho=>by
  rw[Q1] at ho ⊢
  cases hh:H[id]? with
  | none=>rw[hh] at ho;cases ho
  | some o0=>rw[hh] at ho;cases ho;simp [fixO_fixO])
 refine⟨E1.st,fun b hb=>by rw[←hW1];exact hr1.stlt b hb,hsz,fun i c hc=>?_⟩
 match i,hc with
 | i+1,hc=>simp at hc
 | 0,hc=>
  cases hc
  rw[hW1] at hvp
  exact VP.vr (E:={ W:=E.W,M:=fun _=>none,st:=E1.st,hl:=hlOf [] }) (hy _ _ _ hvp)
theorem vp_nls1 {W:World}{st:Nat→Prop}{x z:AV}{v:Value}(h:VP W st (.sl 1 [x,.nls,z]) v):VP W st (.sl 1 [x,.sl 1 [],z]) v:=by
 generalize hy:AV.sl 1 [x,.nls,z]=y at h
 cases h with
 | sl _ vs a cap f c1 c2 c3=>
  obtain⟨rfl,rfl⟩:=AV.sl.inj hy
  refine .sl 1 [x,.sl 1 [],z] a cap f c1 (fun i v hi=>?_) (fun i v j c hi hj=>?_)
  ·match i,hi with
   | 0,hi=>cases hi;exact c2 0 x rfl
   | 1,hi=>cases hi;exact⟨rfl,(c2 1 .nls rfl).2⟩
   | 2,hi=>cases hi;exact c2 2 z rfl
   | i+3,hi=>simp at hi
  ·match i,hi with
   | 0,hi=>cases hi;exact c3 0 x j c rfl hj
   | 1,hi=>
    cases hi
    match j,hj with
    | j+1,hj=>simp [AV.cells] at hj
    | 0,hj=>
     cases hj
     have:=c3 1 .nls 0 .nls rfl rfl
     generalize f 1 0=u at this
     cases this
     exact .sl 1 [] none 0 (fun _ _=>Go.undef) (Qd _) (fun i v hi=>by simp at hi) (fun i v j c hi=>by simp at hi)
   | 2,hi=>cases hi;exact c3 2 z j c rfl hj
   | i+3,hi=>simp at hi
 | _=>cases hy
end Go.Pg
namespace Go.Pg
open Go
variable [Syms]
def slfB (pick:List (Option Nat)):AV→Bool
 | .int _ _=>true
 | .bool _=>true
 | .str _=>true
 | .nls=>true
 | .own i _ _=>(pick[i]?.getD none) == some i
 | .ptr i _ _ _ _=>(pick[i]?.getD none) == some i
 | _=>false
theorem getD_some {pick:List (Option Nat)}{i:Nat}(h:((pick[i]?.getD none) == some i)=true):pick[i]? =some (some i):=by
 cases hp:pick[i]? with
 | none=>rw[hp] at h;simp at h
 | some q=>rw[hp] at h;simp at h;rw[h]
theorem slfB_ok {H:AH}{F:List Nat}{pick:List (Option Nat)}{x:AV}(h:slfB pick x=true):subV H F pick 8 x x:=by
 cases x <;> first | cases h | skip
 all_goals first
  | exact⟨rfl,rfl⟩
  | rfl
  | trivial
  | exact⟨getD_some h,rfl,rfl,rfl,rfl⟩
  | exact⟨getD_some h,rfl,rfl⟩
theorem slfL_ok {H:AH}{F:List Nat}{pick:List (Option Nat)}:∀{xs:List AV},xs.all (slfB pick)=true→subL (subV H F pick 8) xs xs
 | [],_=>trivial
 | x :: r,h=>by
  simp only[Q8,Q4] at h
  exact⟨slfB_ok h.1,slfL_ok h.2⟩
theorem subX_self {H:AH}{F:List Nat}{pick:List (Option Nat)}:∀{xs:List AV},xs.all (fun v=>v.cells.all (slfB pick))=true→subX H F pick xs xs:=by
 intro xs h
 refine .inr ?_
 induction xs with
 | nil=>trivial
 | cons x r ih=>
  simp only[Q8,Q4] at h
  exact⟨slfL_ok h.1,ih h.2⟩
end Go.Pg
namespace Go.Pg
open Go
variable [Syms]
theorem rel_reread {HD:AH}{E:Env}(hr:Rel HD E){v:Nat}{e:TypeId}{sz:Nat}{vs vs':List AV}(ho:HD[v]? =some (.arr e sz vs))(hl:vs'.length=vs.length)(hrow:∀m,E.M v=some m→ARow E m e sz vs') :
 Rel (HD.set v (.arr e sz vs')) E∧Step HD E (HD.set v (.arr e sz vs')) E:=by
 have hvl:v<HD.length:=(Qa.1 ho).1
 have hget:∀j:Nat,(HD.set v (.arr e sz vs'))[j]? =if j=v then some (.arr e sz vs') else HD[j]?:=by
  intro j
  rw[Ql]
  by_cases h:v=j
  ·subst h;simp [hvl]
  ·rw[if_neg h,if_neg (fun x=>h x.symm)]
 have hhl:hlOf (HD.set v (.arr e sz vs'))=hlOf HD:=by
  funext j
  unfold hlOf
  rw[hget]
  by_cases h:j=v
  ·subst h;rw[if_pos rfl,ho];simp [AO.len,hl]
  ·rw[if_neg h]
 constructor
 ·refine⟨by rw[hhl];exact hr.hl,fun j hj=>hr.dom j (by simpa using hj),?_,?_,?_,?_,hr.stlt⟩
  ·intro j o m h hm
   rw[hget] at h
   split at h
   ·next hj=>cases h;subst hj;exact hrow m hm
   ·exact hr.orow j o m h hm
  ·intro j o b h hlv hm
   rw[hget] at h
   split at h
   ·next hj=>cases h;subst hj;exact hr.nst' _ _ b ho rfl hm
   ·exact hr.nst' j o b h hlv hm
  ·intro j o b h hfx hm
   rw[hget] at h
   split at h
   ·cases h;cases hfx
   ·exact hr.fst' j o b h hfx hm
  ·intro j j' o o' b h h' l1 l2 m1 m2
   have key:∀(j:Nat) (o:AO),(HD.set v (.arr e sz vs'))[j]? =some o→o.lives=true→∃o0:AO,HD[j]? =some o0∧o0.lives=true:=by
    intro j o h hlv
    rw[hget] at h
    split at h
    ·next hj=>subst hj;exact⟨_,ho,rfl⟩
    ·exact⟨o,h,hlv⟩
   obtain⟨a,a1,a2⟩:=key j o h l1
   obtain⟨c,c1,c2⟩:=key j' o' h' l2
   exact hr.inj' j j' a c b a1 c1 a2 c2 m1 m2
 ·refine⟨⟨rfl,rfl,rfl,Qd _,fun b _ _=>rfl,fun b c ty fz h=>⟨c,_,h,rfl⟩,fun b _ h=> .inl h,fun b hb=>hb⟩,⟨fun j hj=>hj,fun j L' hj hL=>⟨L',hL,Qd _,fun _=>rfl⟩⟩,?_⟩
  rintro b ⟨j,o',h1,hlv,h2⟩
  rw[hget] at h1
  split at h1
  ·next hj=>subst hj;exact .inl ⟨_,_,ho,rfl,h2⟩
  ·exact .inl ⟨j,o',h1,hlv,h2⟩
theorem CallsR.rehome {P:Program}{f:FuncId}{args:List AV}{H H':AH}{r:AV}{v j sz n:Nat}{ev e:TypeId}{vs:List AV}(h:CallsR P f args H r H')
 (hv:H'[v]? =some (.arr ev 1 [.agg [.own j sz n]])) (hj:H'[j]? =some (.arr e sz vs)) (hn:n=vs.length) (hvj:v≠j) :
 CallsR P f args H r (((H'.set v (.arr ev 1 [.agg [.own H'.length sz n]])).set j .dead) ++ [.arr e sz vs]):=by
 intro E vals hr hvs
 refine(h E vals hr hvs).mono fun x W'=>?_
 rintro⟨u,E1,q1,q2,q3,q4,q5⟩
 have hvl:v<H'.length:=(Qa.1 hv).1
 have hjl:j<H'.length:=(Qa.1 hj).1
 obtain⟨E2,hr2,hW2,hM2,hst2⟩:=q4.le (H':=H' ++ [.arr e sz vs]) (fun i o hi=>by
  have:=(Qa.1 hi).1
  exact⟨o,by rw[Qb this];exact hi,.refl o⟩)
 have hnone:E2.M H'.length=none:=by rw[hM2];exact q4.dom _ (Qd _)
 have a1:(H' ++ [AO.arr e sz vs])[j]? =some (.arr e sz vs):=by rw[Qb hjl];exact hj
 have a2:(H' ++ [AO.arr e sz vs])[H'.length]? =some (.arr e sz vs):=by simp
 have a3:(H' ++ [AO.arr e sz vs])[v]? =some (.arr ev 1 [.agg [.own j sz n]]):=by rw[Qb hvl];exact hv
 have hsetE:∀X:AO,(H' ++ [AO.arr e sz vs]).set j X=H'.set j X ++ [.arr e sz vs]:=fun X=>by rw[Qm _ _ hjl]
 have hfinal:(((H'.set v (.arr ev 1 [.agg [.own H'.length sz n]])).set j .dead) ++ [AO.arr e sz vs])=((H' ++ [AO.arr e sz vs]).set j .dead).set v (.arr ev 1 [.agg [.own H'.length sz n]]):=by
  rw[hsetE,Qm _ _ (by simpa using hvl),List.set_comm _ _ hvj]
 cases hmj:E2.M j with
 | none=>
  obtain⟨E3,hW3,hr3,hst3,hM3⟩:=kill_rel hr2 (id:=j) a1
  have b3:((H' ++ [AO.arr e sz vs]).set j .dead)[v]? =some (.arr ev 1 [.agg [.own j sz n]]):=by rw[Ql,if_neg (fun h=>hvj h.symm)];exact a3
  obtain⟨hr4,hst4⟩:=rel_reread hr3 (vs':=[.agg [.own H'.length sz n]]) b3 rfl (fun m hm=>by
   exfalso
   rcases hr3.orow v _ m b3 hm with⟨_,h0⟩ | ⟨b,c,fz,_,_,_,_,h5⟩
   ·cases h0
   ·obtain⟨u',_,h7⟩:=(h5 0 _ rfl).2 0 _ rfl
    cases h7 with
    | own _ _ _ a cap k1 k2 k3=>rw[hM3,hmj] at k1;cases k1)
  rw[hfinal]
  exact⟨u,E3,q1,by rw[hW3,hW2,q2],(q3.mono (hst2.ext q4)).mono (hst3.ext hr2),hr4,((q5.trans hst2).trans hst3).trans hst4⟩
 | some m=>
  obtain⟨E3,hW3,hr3,hst3,hMo,hM3⟩:=adopt_rel hr2 (id:=j) (nid:=H'.length) (n:=vs.length) (m:=m) a1 hmj hnone a2 (by rw[Qr];exact AOle.refl _)
  have b3:((H' ++ [AO.arr e sz vs]).set j .dead)[v]? =some (.arr ev 1 [.agg [.own j sz n]]):=by rw[Ql,if_neg (fun h=>hvj h.symm)];exact a3
  have hx:=hst3.ext hr2
  obtain⟨hr4,hst4⟩:=rel_reread hr3 (vs':=[.agg [.own H'.length sz n]]) b3 rfl (fun mv hmv=>by
   have hmv2:E2.M v=some mv:=by
    cases h2:E2.M v with
    | none=>
     have:=hMo v h2 (by rw[hmv];simp)
     omega
    | some m2=>
     have:E3.M v=E2.M v:=by
      have hL:E3.hl v=some 1:=by rw[hr3.hl];simp [hlOf,b3,AO.len]
      obtain⟨L,hL1,hL2,hL3⟩:=hx.hl v 1 (by rw[h2];rfl) hL
      have:E2.hl v=some 1:=by rw[hr2.hl];simp [hlOf,a3,AO.len]
      rw[this] at hL1
      cases hL1
      exact hL3 rfl
     rw[←h2,←this,hmv]
   rcases hr2.orow v _ mv a3 hmv2 with⟨_,h0⟩ | ⟨b,c,fz,g1,g2,g3,g4,g5⟩
   ·cases h0
   ·obtain⟨u',g6,g7⟩:=(g5 0 _ rfl).2 0 _ rfl
    refine .inr ⟨b,c,fz,g1,by rw[hW3];exact g2,g3,g4,fun i x hi=>?_⟩
    match i,hi with
    | i+1,hi=>simp at hi
    | 0,hi=>
     cases hi
     refine⟨rfl,fun q cc hq=>?_⟩
     match q,hq with
     | q+1,hq=>simp [AV.cells] at hq
     | 0,hq=>
      simp only[AV.cells,List.getElem?_cons_zero,Option.some.injEq] at hq
      subst hq
      refine⟨u',g6,?_⟩
      cases g7 with
      | own _ _ _ a cap k1 k2 k3=>
       have hown:=(k3 n (by rw[hr2.hl];simp [hlOf,a1,AO.len,hn])).2 rfl
       refine .own _ sz n a cap (by rw[hM3];rfl) k2 fun L hL=>?_
       have hL':L=n:=by
        rw[hr3.hl] at hL
        have e3:((H' ++ [AO.arr e sz vs]).set j .dead)[H'.length]? =some (.arr e sz vs):=by rw[Ql,if_neg (by omega)];exact a2
        simp only[hlOf,e3,AO.len,Qx,Option.some.injEq] at hL
        omega
       subst hL'
       refine⟨Qd _,fun _=>?_⟩
       rw[hM3,hW3,←hmj]
       exact hown)
  rw[hfinal]
  exact⟨u,E3,q1,by rw[hW3,hW2,q2],(q3.mono (hst2.ext q4)).mono hx,hr4,((q5.trans hst2).trans hst3).trans hst4⟩
end Go.Pg
namespace Go.Pg
open Go
variable [Syms]
theorem CallsR.ownNil {P:Program}{f:FuncId}{args:List AV}{H H':AH}{r:AV}{v z q:Nat}{ev:TypeId}{cs:List AV}(e:TypeId)(sz:Nat)(h:CallsR P f args H r H')
 (hv:H'[v]? =some (.arr ev z [.agg cs])) (hq:cs[q]? =some .nls) :
 CallsR P f args H r (H'.set v (.arr ev z [.agg (cs.set q (.own H'.length sz 0))]) ++ [.arr e sz []]):=by
 intro E vals hr hvs
 refine(h E vals hr hvs).mono fun x W'=>?_
 rintro⟨u,E1,q1,q2,q3,q4,q5⟩
 have hvl:v<H'.length:=(Qa.1 hv).1
 obtain⟨E2,hr2,hW2,hM2,hst2⟩:=q4.le (H':=H' ++ [.arr e sz []]) (fun i o hi=>by
  have:=(Qa.1 hi).1
  exact⟨o,by rw[Qb this];exact hi,.refl o⟩)
 have hnone:E2.M H'.length=none:=by rw[hM2];exact q4.dom _ (Qd _)
 have a2:(H' ++ [AO.arr e sz []])[H'.length]? =some (.arr e sz []):=by simp
 have a3:(H' ++ [AO.arr e sz []])[v]? =some (.arr ev z [.agg cs]):=by rw[Qb hvl];exact hv
 obtain⟨E3,hW3,hr3,hst3,hMo,hM3,hhl3⟩:=alloc_nil hr2 hnone a2 (AOle.refl _)
 have hx:=hst3.ext hr2
 have hfinal:(H'.set v (.arr ev z [.agg (cs.set q (.own H'.length sz 0))]) ++ [AO.arr e sz []])=(H' ++ [AO.arr e sz []]).set v (.arr ev z [.agg (cs.set q (.own H'.length sz 0))]):=by
  rw[Qm _ _ hvl]
 obtain⟨hr4,hst4⟩:=rel_reread hr3 (vs':=[.agg (cs.set q (.own H'.length sz 0))]) a3 rfl (fun mv hmv=>by
  rcases hr3.orow v _ mv a3 hmv with⟨_,h0⟩ | ⟨b,c,fz,g1,g2,g3,g4,g5⟩
  ·cases h0
  ·have hzl:=(g5 0 _ rfl).1
   refine .inr ⟨b,c,fz,g1,g2,by simpa using g3,g4,fun i x hi=>?_⟩
   match i,hi with
   | i+1,hi=>simp at hi
   | 0,hi=>
    cases hi
    refine⟨by simpa [AV.cells] using hzl,fun k cc hk=>?_⟩
    simp only[AV.cells] at hk
    rw[Ql] at hk
    split at hk
    ·next hqk=>
     subst hqk
     split at hk
     ·cases hk
      obtain⟨u',g6,g7⟩:=(g5 0 _ rfl).2 q .nls (by simpa [AV.cells] using hq)
      refine⟨u',g6,?_⟩
      cases g7
      refine .own _ sz 0 none 0 (by rw[hM3];rfl) (fun _=>rfl) fun L hL=>?_
      have hL':L=0:=by
       rw[hr3.hl] at hL
       simp only[hlOf,a2,AO.len,Qx,Option.some.injEq,Q6] at hL
       omega
      subst hL'
      exact⟨Qd _,fun _=> .inl ⟨hM3,rfl,rfl⟩⟩
     ·cases hk
    ·exact(g5 0 _ rfl).2 k cc (by simpa [AV.cells] using hk))
 rw[hfinal]
 exact⟨u,E3,q1,by rw[hW3,hW2,q2],(q3.mono (hst2.ext q4)).mono hx,hr4,((q5.trans hst2).trans hst3).trans hst4⟩
end Go.Pg
