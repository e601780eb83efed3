/- Pg, part 11a: a callee's heap is put back into the caller's: its objects stand under other names there. -/
import Derived.Test.YtjbgnnggmngpcaaGreatDoorPgGb
set_option linter.unusedVariables false
set_option linter.unusedSimpArgs false
set_option linter.unusedSectionVars false
open Option renaming isSome_iff_exists → Qa,map_eq_some_iff → Qb
open List renaming getElem?_eq_some_iff → Qc,getElem?_map → Qd,all_cons → Qg
open Nat renaming lt_or_ge → Qe
open Bool renaming and_eq_true → Qf
namespace Go.Pg
open Go
variable [Syms]
mutual
def ren (g:Nat→Nat):AV→AV
 | .agg cs=> .agg (renL g cs)
 | .tuple cs=> .tuple (renL g cs)
 | .fn f cs=> .fn f (renL g cs)
 | .mth f cs=> .mth f (renL g cs)
 | .own i sz n=> .own (g i) sz n
 | .ptr i sz n x o=> .ptr (g i) sz n x o
 | .win i sz t x n=> .win (g i) sz t x n
 | .mp i=> .mp (g i)
 | .it i=> .it (g i)
 | .cond b v=> .cond b (ren g v)
 | .top=> .top
 | .undef=> .undef
 | .nls=> .nls
 | .int k n=> .int k n
 | .bool b=> .bool b
 | .str s=> .str s
 | .sl sz vs=> .sl sz vs
 | .slc sz vs=> .slc sz vs
 | .nfn=> .nfn
 | .npt=> .npt
 | .yld l=> .yld l
 | .cst v=> .cst v
 | .rp cs=> .rp cs
 | .fm es=> .fm es
 | .sym i=> .sym i
 | .ows i sz j=> .ows (g i) sz j
def renL (g:Nat→Nat):List AV→List AV
 | []=>[]
 | x :: r=>ren g x :: renL g r
end
theorem renL_eq (g:Nat→Nat):∀(l:List AV),renL g l=l.map (ren g)
 | []=>by simp [renL]
 | x :: r=>by simp [renL,renL_eq g r]
theorem ren_cells (g:Nat→Nat)(x:AV):(ren g x).cells=x.cells.map (ren g):=by
 cases x <;> simp [ren,AV.cells,renL_eq]
theorem ren_tame (g:Nat→Nat){x:AV}(h:x.tame=true):ren g x=x:=by
 cases x <;> first | (simp [AV.tame] at h;done) | simp [ren]
theorem renL_tame1 (g:Nat→Nat):∀(l:List AV),l.all AV.tame=true→renL g l=l
 | [],_=>by simp [renL]
 | x :: r,h=>by
  simp only[Qg,Qf] at h
  simp [renL,ren_tame g h.1,renL_tame1 g r h.2]
theorem renL_tame (g:Nat→Nat):∀(l:List AV),l.all (fun v=>v.cells.all AV.tame)=true→renL g l=l
 | [],_=>by simp [renL]
 | x :: r,h=>by
  simp only[Qg,Qf] at h
  have hx:ren g x=x:=by
   have h1:=h.1
   cases x <;> first
    | (simp only[AV.cells] at h1;simp [ren,renL_tame1 g _ h1];done)
    | (refine ren_tame g ?_;simpa [AV.cells] using h1)
  simp [renL,hx,renL_tame g r h.2]
def renO (g:Nat→Nat):AO→AO
 | .arr e sz vs=> .arr e sz (renL g vs)
 | .frz e sz vs=> .frz e sz (renL g vs)
 | o=>o
theorem renO_len (g:Nat→Nat)(o:AO):(renO g o).len=o.len:=by cases o <;> simp [renO,AO.len,renL_eq]
theorem renO_lives (g:Nat→Nat)(o:AO):(renO g o).lives=o.lives:=by cases o <;> rfl
theorem renO_fixed (g:Nat→Nat)(o:AO):(renO g o).fixed=o.fixed:=by cases o <;> rfl
def gid (ids:List Nat)(k:Nat):Nat:=ids.getD k 0
structure Emb (ids:List Nat) (K:AH) (Ec0:Env) (Ko:AH) (HD:AH) (E:Env) (HD':AH):Prop where
 olen:ids.length=Ko.length
 nodup:∀(i j:Nat) a,ids[i]? =some a→ids[j]? =some a→i=j
 lt:∀(k:Nat) a,ids[k]? =some a→a<HD.length
 W:Ec0.W=E.W
 st:∀b,Ec0.st b↔E.st b
 old:∀(k:Nat) a,k<K.length→ids[k]? =some a→(E.M a=Ec0.M k∧Ec0.hl k=E.hl a∧(∀o,K[k]? =some o→o.lives=true→∃o',HD[a]? =some o'∧o'.lives=true))∨(E.M a=none∧Ec0.M k=some none)
 new:∀(k:Nat) a,K.length≤k→ids[k]? =some a→E.M a=none∧Ec0.M k=none
 len:HD'.length=HD.length
 out:∀(j:Nat),(∀k:Nat,ids[k]?≠some j)→HD'[j]? =HD[j]?
 at_:∀(k:Nat) a o,ids[k]? =some a→Ko[k]? =some o→HD'[a]? =some (renO (gid ids) o)
theorem gid_of {ids:List Nat}{k a:Nat}(h:ids[k]? =some a):gid ids k=a:=by
 simp [gid,List.getD_eq_getElem?_getD,h]
open Classical in
theorem merge_gen {ids:List Nat}{K Ko HD HD':AH}{Ec0 Ec E:Env}(hr:Rel HD E)(hr0:Rel K Ec0)(hrc:Rel Ko Ec)(hst:Step K Ec0 Ko Ec)(h:Emb ids K Ec0 Ko HD E HD') :
 ∃E',E'.W=Ec.W∧E'.st=Ec.st∧Rel HD' E'∧Step HD E HD' E'∧(∀j,E.M j=none→E'.M j≠none→∃k:Nat,ids[k]? =some j)∧(∀(k:Nat) a,ids[k]? =some a→E'.M a=Ec.M k)∧
  E'.hl=hlOf HD'∧(∀x v,VR Ec x v→VR E' (ren (gid ids) x) v):=by
 let E':Env:={ W:=Ec.W,M:=fun j=>if hj:∃k:Nat,ids[k]? =some j then Ec.M (Classical.choose hj) else E.M j,st:=Ec.st,hl:=hlOf HD' }
 have hMin:∀(k:Nat) a,ids[k]? =some a→E'.M a=Ec.M k:=by
  intro k a hk
  have hj:∃k:Nat,ids[k]? =some a:=⟨k,hk⟩
  show(if hj:∃k:Nat,ids[k]? =some a then Ec.M (Classical.choose hj) else E.M a)=_
  rw[dif_pos hj,h.nodup _ _ _ (Classical.choose_spec hj) hk]
 have hMout:∀j,(∀k:Nat,ids[k]?≠some j)→E'.M j=E.M j:=by
  intro j hj
  show(if hj:∃k:Nat,ids[k]? =some j then Ec.M (Classical.choose hj) else E.M j)=_
  rw[dif_neg (fun⟨k,hk⟩=>hj k hk)]
 have dich:∀j:Nat,(∃k:Nat,ids[k]? =some j)∨∀k:Nat,ids[k]?≠some j:=by
  intro j
  by_cases hj:∃k:Nat,ids[k]? =some j
  ·exact .inl hj
  ·exact .inr fun k hk=>hj ⟨k,hk⟩
 have hKo:∀(k:Nat) a,ids[k]? =some a→∃o,Ko[k]? =some o:=by
  intro k a hk
  have:k<Ko.length:=by rw[←h.olen];exact(Qc.1 hk).1
  exact⟨Ko[k],by simp [this]⟩
 have live0:∀b,Live K Ec0.M b→Live HD E.M b:=by
  rintro b ⟨k,o,h1,h2,h3⟩
  have hkl:k<K.length:=(Qc.1 h1).1
  have hkl':k<ids.length:=by
   rcases Qe k ids.length with hh | hh
   ·exact hh
   ·exfalso
    have:=hst.mm.1 k (by rw[h3];rfl)
    obtain⟨m,hm⟩:=Qa.1 this
    have:=hrc.some_lt hm
    rw[←h.olen] at this;omega
  obtain⟨a,ha⟩:∃a,ids[k]? =some a:=⟨ids[k],by simp [hkl']⟩
  rcases h.old k a hkl ha with⟨h4,_,h5⟩ | ⟨_,h4⟩
  ·obtain⟨o',h6,h7⟩:=h5 o h1 h2
   exact⟨a,o',h6,h7,by rw[h4];exact h3⟩
  ·rw[h3] at h4;cases h4
 have hhl:∀(k:Nat) a,ids[k]? =some a→E'.hl a=Ec.hl k:=by
  intro k a hk
  obtain⟨o,ho⟩:=hKo k a hk
  show hlOf HD' a=Ec.hl k
  rw[hrc.hl]
  simp only[hlOf,h.at_ k a o hk ho,ho,Option.bind_some,renO_len]
 have hlive:∀b,Live HD' E'.M b→Live HD E.M b∨E.W.heap.size≤b:=by
  rintro b ⟨j,o,h1,h2,h3⟩
  rcases dich j with⟨k,hk⟩ | hj
  ·obtain⟨o',ho'⟩:=hKo k j hk
   rw[h.at_ k j o' hk ho'] at h1;cases h1
   rw[renO_lives] at h2
   rw[hMin k j hk] at h3
   rcases hst.live b ⟨k,o',ho',h2,h3⟩ with h4 | h4
   ·exact .inl (live0 b h4)
   ·rw[h.W] at h4;exact .inr h4
  ·rw[hMout j hj] at h3
   rw[h.out j hj] at h1
   exact .inl ⟨j,o,h1,h2,h3⟩
 have hstep:Step HD E HD' E':=by
  refine⟨⟨by rw[←h.W];exact hst.mv.os,by rw[←h.W];exact hst.mv.tape,by rw[←h.W];exact hst.mv.output,by rw[←h.W];exact hst.mv.size,fun b hb hL=>?_,by rw[←h.W];exact hst.mv.shape,fun b hb hs=>?_,fun b hb=>hst.mv.grow b ((h.st b).2 hb)⟩,⟨fun j hj=>?_,fun j L' hj hL=>?_⟩,hlive⟩
  ·rw[←h.W];rw[←h.W] at hb
   exact hst.mv.keep b hb fun hl=>hL (live0 b hl)
  ·rw[←h.W] at hb
   rcases hst.mv.old b hb hs with h1 | h1
   ·exact .inl ((h.st b).1 h1)
   ·exact .inr (live0 b h1)
  ·rcases dich j with⟨k,hk⟩ | hj'
   ·rw[hMin k j hk]
    refine hst.mm.1 k ?_
    obtain⟨m,hm⟩:=Qa.1 hj
    rcases Qe k K.length with hkl | hkl
    ·rcases h.old k j hkl hk with⟨h1,_⟩ | ⟨h1,_⟩
     ·rw[←h1];exact hj
     ·rw[hm] at h1;cases h1
    ·rw[(h.new k j hkl hk).1] at hm;cases hm
   ·rw[hMout j hj'];exact hj
  ·rcases dich j with⟨k,hk⟩ | hj'
   ·rw[hhl k j hk] at hL
    rw[hMin k j hk]
    obtain⟨m,hm⟩:=Qa.1 hj
    rcases Qe k K.length with hkl | hkl
    ·rcases h.old k j hkl hk with⟨h1,h2,_⟩ | ⟨h1,_⟩
     ·obtain⟨L,a1,a2,a3⟩:=hst.mm.2 k L' (by rw[←h1];exact hj) hL
      exact⟨L,by rw[←h2];exact a1,a2,fun he=>by rw[h1];exact a3 he⟩
     ·rw[hm] at h1;cases h1
    ·rw[(h.new k j hkl hk).1] at hm;cases hm
   ·refine⟨L',?_,Nat.le_refl _,fun _=>hMout j hj'⟩
    rw[hr.hl]
    show hlOf HD j=some L'
    have:hlOf HD' j=some L':=hL
    simp only[hlOf,h.out j hj'] at this ⊢
    exact this
 have hx:=hstep.ext hr
 have hvr:∀x v,VR Ec x v→VR E' (ren (gid ids) x) v:=by
  have hid:∀id,(Ec.M id).isSome=true→∃a,ids[id]? =some a:=by
   intro id hm
   obtain⟨m,hm⟩:=Qa.1 hm
   have:id<ids.length:=by rw[h.olen];exact hrc.some_lt hm
   exact⟨ids[id],by simp [this]⟩
  have hvp:∀{c u},VP Ec.W Ec.st c u→VR E' c u:=fun h=>VP.vr (E:=E') h
  intro x v hv
  induction hv with
  | top v=>simp only[ren];exact .top v
  | undef=>simp only[ren];exact .undef
  | nls=>simp only[ren];exact .nls
  | nfn=>simp only[ren];exact .nfn
  | npt=>simp only[ren];exact .npt
  | mp id b hm hl=>
   obtain⟨a,ha⟩:=hid id hm
   simp only[ren,gid_of ha]
   exact .mp a b (by rw[hMin id a ha];exact hm) fun hL=>by rw[hMin id a ha];exact hl (by rw[←hhl id a ha];exact hL)
  | it id b hm hl=>
   obtain⟨a,ha⟩:=hid id hm
   simp only[ren,gid_of ha]
   exact .it a b (by rw[hMin id a ha];exact hm) fun hL=>by rw[hMin id a ha];exact hl (by rw[←hhl id a ha];exact hL)
  | yld l=>simp only[ren];exact .yld l
  | cst v=>simp only[ren];exact .cst v
  | int k n=>simp only[ren];exact .int k n
  | bool b=>simp only[ren];exact .bool b
  | str s=>simp only[ren];exact .str s
  | agg cs us hs _ ih=>
   simp only[ren,renL_eq]
   refine .agg _ us (by simpa using hs) fun i c hc=>?_
   simp only[Qd,Qb] at hc
   obtain⟨c0,h1,rfl⟩:=hc
   exact ih i c0 h1
  | tuple cs us hs _ ih=>
   simp only[ren,renL_eq]
   refine .tuple _ us (by simpa using hs) fun i c hc=>?_
   simp only[Qd,Qb] at hc
   obtain⟨c0,h1,rfl⟩:=hc
   exact ih i c0 h1
  | sl sz vs a cap f hc hs hv=>simp only[ren];exact hvp (.sl sz vs a cap f hc hs hv)
  | slc sz vs a f hs hv=>simp only[ren];exact hvp (.slc sz vs a f hs hv)
  | rp cs b o f h1 h2 h3=>simp only[ren];exact hvp (.rp cs b o f h1 h2 h3)
  | fm es b a cl g1 g2 g3 g4 g5 g6=>simp only[ren];exact hvp (.fm es b a cl g1 g2 g3 g4 g5 g6)
  | sym i v hv=>simp only[ren];exact hvp (.sym i v hv)
  | ows i sz j v _ ih=>simp only[ren] at ih ⊢;exact .ows _ _ _ _ ih
  | own id sz len ad cap hm hz hl=>
   obtain⟨a,ha⟩:=hid id hm
   simp only[ren,gid_of ha]
   refine .own a sz len ad cap (by rw[hMin id a ha];exact hm) hz fun L hL=>?_
   obtain⟨h1,h2⟩:=hl L (by rw[←hhl id a ha];exact hL)
   exact⟨h1,fun he=>by rw[hMin id a ha];exact h2 he⟩
  | win id sz tot off len ad cap hc hm hl=>
   obtain⟨a,ha⟩:=hid id hm
   simp only[ren,gid_of ha]
   refine .win a sz tot off len ad cap hc (by rw[hMin id a ha];exact hm) fun L hL=>?_
   obtain⟨h1,h2⟩:=hl L (by rw[←hhl id a ha];exact hL)
   exact⟨h1,fun he=>by rw[hMin id a ha];exact h2 he⟩
  | ptr id sz len idx off ad hm hl=>
   obtain⟨a,ha⟩:=hid id hm
   simp only[ren,gid_of ha]
   refine .ptr a sz len idx off ad (by rw[hMin id a ha];exact hm) fun L hL=>?_
   obtain⟨h1,h2⟩:=hl L (by rw[←hhl id a ha];exact hL)
   exact⟨h1,fun he=>by rw[hMin id a ha];exact h2 he⟩
  | fn f cap us hs _ ih=>
   simp only[ren,renL_eq]
   refine .fn f _ us (by simpa using hs) fun i c hc=>?_
   simp only[Qd,Qb] at hc
   obtain⟨c0,h1,rfl⟩:=hc
   exact ih i c0 h1
  | mth f cap us hs _ ih=>
   simp only[ren,renL_eq]
   refine .mth f _ us (by simpa using hs) fun i c hc=>?_
   simp only[Qd,Qb] at hc
   obtain⟨c0,h1,rfl⟩:=hc
   exact ih i c0 h1
  | condT a v _ ih=>simp only[ren];exact .condT _ _ ih
  | condF a=>simp only[ren];exact .condF _
 have horow:∀m o,ORow Ec m o→ORow E' m (renO (gid ids) o):=by
  intro m o ho
  have ents:∀{es a},EntsAt Ec es a→EntsAt E' es a:=fun he=>⟨he.size,fun i k x hi=>he.ent i k x hi⟩
  have arow:∀{e sz vs},ARow Ec m e sz vs→ARow E' m e sz (renL (gid ids) vs):=by
   rintro e sz vs (⟨h0,h0'⟩ | ⟨b,c,fz,h1,h2,h3,h4,h5⟩)
   ·subst h0';exact .inl ⟨h0,by simp [renL]⟩
   ·refine .inr ⟨b,c,fz,h1,h2,by simpa [renL_eq] using h3,h4,fun i v hi=>?_⟩
    simp only[renL_eq,Qd,Qb] at hi
    obtain⟨v0,h6,rfl⟩:=hi
    obtain⟨h7,h8⟩:=h5 i v0 h6
    rw[ren_cells]
    refine⟨by simpa using h7,fun j cc hj=>?_⟩
    simp only[Qd,Qb] at hj
    obtain⟨c0,h9,rfl⟩:=hj
    obtain⟨u,k1,k2⟩:=h8 j c0 h9
    exact⟨u,k1,hvr c0 u k2⟩
  have mrow:∀{es},MRow Ec m es→MRow E' m es:=by
   rintro es ⟨b,a,cl,h1,h2,h3,h4⟩
   exact⟨b,a,cl,h1,h2,ents h3,h4⟩
  cases o with
  | dead=>trivial
  | arr e sz vs=>exact arow ho
  | frz e sz vs=>exact arow ho
  | tok i=>
   have:=arow ho
   rwa [renL_tame _ _ (Syms.tames i)] at this
  | mp es=>exact mrow ho
  | fmp es=>exact mrow ho
  | it cur es=>
   obtain⟨b,bm,seen,a,cl,h1,h2,h3,h4,h5,h6,h7⟩:=ho
   exact⟨b,bm,seen,a,cl,h1,h2,h3,h4,ents h5,h6,h7⟩
 have apart:∀(k j:Nat) a (o o':AO) b,ids[k]? =some a→Ko[k]? =some o→o.lives=true→Ec.M k=some (some b)→(∀i:Nat,ids[i]?≠some j)→HD[j]? =some o'→o'.lives=true→E.M j=some (some b)→False:=by
  intro k j a o o' b hk hko hol hm hj hjo hol' hmj
  rcases hst.live b ⟨k,o,hko,hol,hm⟩ with⟨k0,o0,h1,h2,h3⟩ | h1
  ·have hkl:k0<K.length:=(Qc.1 h1).1
   have hkl':k0<ids.length:=by
    have:=hst.mm.1 k0 (by rw[h3];rfl)
    obtain⟨m,hm'⟩:=Qa.1 this
    have:=hrc.some_lt hm'
    rw[h.olen];exact this
   obtain⟨a0,ha0⟩:∃a,ids[k0]? =some a:=⟨ids[k0],by simp [hkl']⟩
   rcases h.old k0 a0 hkl ha0 with⟨h4,_,h5⟩ | ⟨_,h4⟩
   ·obtain⟨o1,h6,h7⟩:=h5 o0 h1 h2
    have:=hr.inj' a0 j o1 o' b h6 hjo h7 hol' (by rw[h4];exact h3) hmj
    subst this
    exact hj k0 ha0
   ·rw[h3] at h4;cases h4
  ·have:=hr.lt' hjo (AO.lives_dead hol') hmj
   rw[h.W] at h1;omega
 refine⟨E',rfl,rfl,⟨rfl,?_,?_,?_,?_,?_,?_⟩,hstep,?_,hMin,rfl,hvr⟩
 ·intro j hj
  rw[hMout j (fun k hk=>by have:=h.lt k j hk;rw[h.len] at hj;omega)]
  exact hr.dom j (by rw[←h.len];exact hj)
 ·intro j o m hj hm
  rcases dich j with⟨k,hk⟩ | hj'
  ·obtain⟨o',ho'⟩:=hKo k j hk
   rw[h.at_ k j o' hk ho'] at hj;cases hj
   rw[hMin k j hk] at hm
   exact horow m o' (hrc.orow k o' m ho' hm)
  ·rw[hMout j hj'] at hm
   rw[h.out j hj'] at hj
   have h0:=hr.orow j o m hj hm
   by_cases hd:o= .dead
   ·subst hd;trivial
   ·refine h0.mono hx fun b hb=>?_
    subst hb
    have hbl:=h0.block hd
    show Ec.W.heap[b]? =E.W.heap[b]?
    rw[←h.W] at hbl ⊢
    refine hst.mv.keep b hbl fun hl=>?_
    obtain⟨k0,o0,h1,h2,h3⟩:=hl
    have hkl:k0<K.length:=(Qc.1 h1).1
    have hkl':k0<ids.length:=by
     have:=hst.mm.1 k0 (by rw[h3];rfl)
     obtain⟨m,hm'⟩:=Qa.1 this
     have:=hrc.some_lt hm'
     rw[h.olen];exact this
    obtain⟨a0,ha0⟩:∃a,ids[k0]? =some a:=⟨ids[k0],by simp [hkl']⟩
    rcases h.old k0 a0 hkl ha0 with⟨h4,_,h5⟩ | ⟨_,h4⟩
    ·obtain⟨o1,h6,h7⟩:=h5 o0 h1 h2
     by_cases hl1:o.lives=true
     ·have:=hr.inj' a0 j o1 o b h6 hj h7 hl1 (by rw[h4];exact h3) hm
      subst this
      exact hj' k0 ha0
     ·have hf1:o.fixed=true:=by cases o <;> first | rfl | exact absurd rfl hl1 | exact absurd rfl hd
      exact hr.nst' a0 o1 b h6 h7 (by rw[h4];exact h3) (hr.fst' j o b hj hf1 hm)
    ·rw[h3] at h4;cases h4
 ·intro j o b hj hl hm
  rcases dich j with⟨k,hk⟩ | hj'
  ·obtain⟨o',ho'⟩:=hKo k j hk
   rw[h.at_ k j o' hk ho'] at hj;cases hj
   rw[renO_lives] at hl
   rw[hMin k j hk] at hm
   exact hrc.nst' k o' b ho' hl hm
  ·rw[hMout j hj'] at hm
   rw[h.out j hj'] at hj
   intro hs
   have hbl:=hr.lt' hj (AO.lives_dead hl) hm
   rw[←h.W] at hbl
   rcases hst.mv.old b hbl hs with h1 | h1
   ·exact hr.nst' j o b hj hl hm ((h.st b).1 h1)
   ·obtain⟨k0,o0,h1,h2,h3⟩:=h1
    have hkl:k0<K.length:=(Qc.1 h1).1
    have hkl':k0<ids.length:=by
     have:=hst.mm.1 k0 (by rw[h3];rfl)
     obtain⟨m,hm'⟩:=Qa.1 this
     have:=hrc.some_lt hm'
     rw[h.olen];exact this
    obtain⟨a0,ha0⟩:∃a,ids[k0]? =some a:=⟨ids[k0],by simp [hkl']⟩
    rcases h.old k0 a0 hkl ha0 with⟨h4,_,h5⟩ | ⟨_,h4⟩
    ·obtain⟨o1,h6,h7⟩:=h5 o0 h1 h2
     have:=hr.inj' a0 j o1 o b h6 hj h7 hl (by rw[h4];exact h3) hm
     subst this
     exact hj' k0 ha0
    ·rw[h3] at h4;cases h4
 ·intro j o b hj hf hm
  rcases dich j with⟨k,hk⟩ | hj'
  ·obtain⟨o',ho'⟩:=hKo k j hk
   rw[h.at_ k j o' hk ho'] at hj;cases hj
   rw[renO_fixed] at hf
   rw[hMin k j hk] at hm
   exact hrc.fst' k o' b ho' hf hm
  ·rw[hMout j hj'] at hm
   rw[h.out j hj'] at hj
   exact hst.mv.grow b ((h.st b).2 (hr.fst' j o b hj hf hm))
 ·intro j j' o1 o2 b h1 h2 l1 l2 m1 m2
  rcases dich j with⟨k,hk⟩ | hj <;> rcases dich j' with⟨k',hk'⟩ | hj'
  ·obtain⟨o3,ho3⟩:=hKo k j hk
   obtain⟨o4,ho4⟩:=hKo k' j' hk'
   rw[h.at_ k j o3 hk ho3] at h1;cases h1
   rw[h.at_ k' j' o4 hk' ho4] at h2;cases h2
   rw[renO_lives] at l1 l2
   rw[hMin k j hk] at m1
   rw[hMin k' j' hk'] at m2
   have:=hrc.inj' k k' o3 o4 b ho3 ho4 l1 l2 m1 m2
   subst this
   rw[hk] at hk';cases hk';rfl
  ·obtain⟨o3,ho3⟩:=hKo k j hk
   rw[h.at_ k j o3 hk ho3] at h1;cases h1
   rw[renO_lives] at l1
   rw[hMin k j hk] at m1
   rw[hMout j' hj'] at m2
   rw[h.out j' hj'] at h2
   exact(apart k j' j o3 o2 b hk ho3 l1 m1 hj' h2 l2 m2).elim
  ·obtain⟨o4,ho4⟩:=hKo k' j' hk'
   rw[h.at_ k' j' o4 hk' ho4] at h2;cases h2
   rw[renO_lives] at l2
   rw[hMin k' j' hk'] at m2
   rw[hMout j hj] at m1
   rw[h.out j hj] at h1
   exact(apart k' j j' o4 o1 b hk' ho4 l2 m2 hj h1 l1 m1).elim
  ·rw[hMout j hj] at m1
   rw[hMout j' hj'] at m2
   rw[h.out j hj] at h1
   rw[h.out j' hj'] at h2
   exact hr.inj' j j' o1 o2 b h1 h2 l1 l2 m1 m2
 ·intro b hb;exact hrc.stlt b hb
 ·intro j h1 h2
  rcases dich j with⟨k,hk⟩ | hj
  ·exact⟨k,hk⟩
  ·rw[hMout j hj] at h2;exact absurd h1 h2
end Go.Pg
