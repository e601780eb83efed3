/- The piece that a place is in is parted. The piece that a place is in is parted: told in one form. Bytes are taken out of a table, by a run on tokens. Bytes are taken out of an index of lines, by runs on tokens. Lines of a text are replaced: a line goes; by a run on tokens. (Printed by mkfb4.py.) A text is put into a table: where no piece is grown. Lines of a text are replaced: a line comes; by runs on tokens. (Printed by mkfb5.py.) A new text buffer: broken, size, strings.Join. A new text buffer, by a run on tokens. Rows of lists; what is asked of a buffer, told by its lines; view.Scroll. -/
import Derived.Test.YtjbgnnggmngpcaaGreatDoorPgHx0
import Derived.Test.YtjbgnnggmngpcaaGreatDoorPgHx1
import Derived.Test.YtjbgnnggmngpcaaGreatDoorPgGv
import Derived.Test.YtjbgnnggmngpcaaGreatDoorPgGu
import Derived.Test.YtjbgnnggmngpcaaGreatDoorPgShfj
import Derived.Test.YtjbgnnggmngpcaaGreatDoorPgGx
set_option linter.unusedVariables false
set_option linter.unusedSimpArgs false
set_option linter.unusedSectionVars false
open List renaming length_map → Qa,length_append → Qb,length_take → Qc,getD_eq_getElem?_getD → Qd,not_mem_nil → Qe,mem_cons → Qf,length_drop → Qg,getElem?_eq_getElem → Qh,take_append_drop → Qj,length_cons → Qk,drop_eq_getElem_cons → Ql,length_pos_iff → Qm,drop_of_length_le → Qn,all_cons → Qo,mem_of_mem_take → Qq,mem_of_mem_drop → Qr,drop_append_of_le_length → Qs,all_nil → Qt,getElem?_map → Qu,map_drop → Qv,getElem_mem → Qw,getElem?_eq_none → Qy,mem_of_getElem? → Qz,append_assoc → Q0,length_range → Q3,mem_map → Q6,mem_append → Q9,length_nil → Xa,map_cons → Xb,map_take → Xc,length → Xd,range → Xe
open Int renaming toNat_natCast → Qi
open Bool renaming and_self → Qp,and_eq_true → Qx
open Nat renaming sub_zero → Q4,lt_or_ge → Q5,sub_self → Q7,le_refl → Q8
namespace Go.Pg
open Go Go.Proofs
variable [Syms]
def cutI (off:Int):Int→List Pc→List Pc×Nat×Bool
 | _,[]=>([],0,false)
 | at_,p :: r=>if at_=off then(p :: r,0,false)
  else if off<at_+p.2.2 then((p.1,p.2.1,off - at_) :: (p.1,p.2.1+(off - at_),p.2.2 - (off - at_)) :: r,1,true)
  else(p :: (cutI off (at_+p.2.2) r).1,(cutI off (at_+p.2.2) r).2.1+1,(cutI off (at_+p.2.2) r).2.2)
theorem aPc_mk (a:Bool)(b c:Int):aPc (a,b,c)= .agg [.bool a,.int .i64 b,.int .i64 c]:=rfl
theorem cutI_step (off:Int)(l:List Pc)(k:Nat)(h:k<l.length)(h1:atP l k≠off)(h2:¬off<atP l k+(l.getD k (false,0,0)).2.2) :
 cutI off (atP l k) (l.drop k)=(l.getD k (false,0,0) :: (cutI off (atP l (k+1)) (l.drop (k+1))).1,(cutI off (atP l (k+1)) (l.drop (k+1))).2.1+1,(cutI off (atP l (k+1)) (l.drop (k+1))).2.2):=by
 have e:l.drop k=l.getD k (false,0,0) :: l.drop (k+1):=by
  rw[Ql h,Qd,Qh h];rfl
 rw[e,cutI,if_neg h1,if_neg h2,←atP_succ l k h]
def cutPre (off:Int)(l:List Pc)(k:Nat):Prop:=
 cutI off 0 l=(l.take k ++ (cutI off (atP l k) (l.drop k)).1,k+(cutI off (atP l k) (l.drop k)).2.1,(cutI off (atP l k) (l.drop k)).2.2)
theorem cutPre_zero (off:Int)(l:List Pc):cutPre off l 0:=by
 unfold cutPre
 have:atP l 0=0:=rfl
 rw[this];simp
theorem cutPre_succ (off:Int)(l:List Pc)(k:Nat)(h:k<l.length)(h1:atP l k≠off)(h2:¬off<atP l k+(l.getD k (false,0,0)).2.2)(hp:cutPre off l k):cutPre off l (k+1):=by
 unfold cutPre at hp ⊢
 rw[hp,cutI_step off l k h h1 h2,take_snocP l k h]
 simp only[Q0,List.singleton_append]
 rw[show k+((cutI off (atP l (k+1)) (l.drop (k+1))).2.1+1)=k+1+(cutI off (atP l (k+1)) (l.drop (k+1))).2.1 by omega]
theorem cutPre_at (off:Int)(l:List Pc)(k:Nat)(h:k<l.length)(h1:atP l k=off)(hp:cutPre off l k):cutI off 0 l=(l,k,false):=by
 have e:l.drop k=l.getD k (false,0,0) :: l.drop (k+1):=by
  rw[Ql h,Qd,Qh h];rfl
 have hc:cutI off (atP l k) (l.drop k)=(l.drop k,0,false):=by rw[e,cutI,if_pos h1]
 unfold cutPre at hp
 rw[hp,hc]
 simp
theorem cutPre_end (off:Int)(l:List Pc)(hp:cutPre off l l.length):cutI off 0 l=(l,l.length,false):=by
 unfold cutPre at hp
 rw[hp]
 simp [cutI]
theorem cutPre_in (off:Int)(l:List Pc)(k:Nat)(h:k<l.length)(a:Bool)(b c:Int)(hg:l.getD k (false,0,0)=(a,b,c))(h1:atP l k≠off)(h2:off<atP l k+c)(hp:cutPre off l k) :
 cutI off 0 l=(l.take k ++ (a,b,off - atP l k) :: (a,b+(off - atP l k),c - (off - atP l k)) :: l.drop (k+1),k+1,true):=by
 have e:l.drop k=l.getD k (false,0,0) :: l.drop (k+1):=by
  rw[Ql h,Qd,Qh h];rfl
 have hc:cutI off (atP l k) (l.drop k)=((a,b,off - atP l k) :: (a,b+(off - atP l k),c - (off - atP l k)) :: l.drop (k+1),1,true):=by
  rw[e,hg,cutI,if_neg h1,if_pos h2]
 unfold cutPre at hp
 rw[hp,hc]
def cutH (F A:List UInt8)(l:List Pc)(size most edits:Int)(x:List Pc×Nat×Bool):AH:=
 if x.2.2=true then
  [.arr 211 6 [.agg [.str F,.own 1 1 A.length,.ptr 2 1 1 0 0,.int .i64 size,.int .i64 most,.int .i64 edits]],.arr 5 1 (ofBytes A),
   .arr 283 1 [.agg [.own 4 3 x.1.length]],.dead,.arr 209 3 (x.1.map aPc)]
 else tH F A l size most edits
theorem cutH_t (F A:List UInt8)(l:List Pc)(size most edits:Int)(q:List Pc)(i:Nat):cutH F A l size most edits (q,i,true) =
 [.arr 211 6 [.agg [.str F,.own 1 1 A.length,.ptr 2 1 1 0 0,.int .i64 size,.int .i64 most,.int .i64 edits]],.arr 5 1 (ofBytes A),
  .arr 283 1 [.agg [.own 4 3 q.length]],.dead,.arr 209 3 (q.map aPc)]:=rfl
theorem cutH_f (F A:List UInt8)(l:List Pc)(size most edits:Int)(q:List Pc)(i:Nat):cutH F A l size most edits (q,i,false)=tH F A l size most edits:=rfl
set_option maxRecDepth 20000 in
set_option maxHeartbeats 8000000 in
theorem calls_cut (F A:List UInt8)(l:List Pc)(size most edits off:Int)(hl:l.length≤65530)(hp:∀p∈l,inPc F A p)(hsum:sumP l=size)(hsz:size≤1099511627)(hF:F.length≤1099511627)(hA:A.length≤1099511627)(ho:0≤off∧off≤size) :
 CallsR Tryz.prog 390 [.ptr 0 6 1 0 0,.int .i64 off] (tH F A l size most edits) (.int .i64 (cutI off 0 l).2.1) (cutH F A l size most edits (cutI off 0 l)):=by
 refine callsR_of (mrg:=true) (dyn:=[9,10]) (CtrOK.cons ok_VAllP (CtrOK.cons ok_SetP (CtrOK.cons ok_VInsP (CtrOK.cons ok_LenP (CtrOK.cons ok_TellP (CtrOK.nil _)))))) mixed Tryz.func390 rfl (by simp [Tryz.ntmps390,AV.cells]) (by kernel_rfl) ?_
 rw[show Tryz.f390.results.toList=[.cell 4 3] from by kernel_rfl]
 simp (maxSteps:=4000000) only[go_sem,seval,pureB_pcs,leafy_pcs,kVAllP,kSetP,kVInsP,kLenP,kTellP,decL_pcs,renL_pcs,renL_ofB,Qa]
 refine⟨by omega,by omega,?_⟩
 rw[mark_eq,tell_mapP]
 refine rangG_intro (Xe l.length) (fun(i:Nat)=>[.int .i64 (i:Int),aPc (l.getD i (false,0,0))]) 0 [(5,.ptr 7 1 1 0 0),(4,.ptr 6 1 1 0 0),(3,.ptr 5 1 1 0 0),(2,.ptr 4 1 1 0 0)] (tH F A l size most edits ++ [.arr 140 1 [.ptr 0 6 1 0 0],.arr 3 1 [.int .i64 off],.arr 3 1 [.int .i64 0],.arr 3 1 [.int .i64 0]])
  (fun k=>([(5,.ptr 7 1 1 0 0),(4,.ptr 6 1 1 0 0),(3,.ptr 5 1 1 0 0),(2,.ptr 4 1 1 0 0)],tH F A l size most edits ++ [.arr 140 1 [.ptr 0 6 1 0 0],.arr 3 1 [.int .i64 off],.arr 3 1 [.int .i64 0],.arr 3 1 [.int .i64 (atP l k)]])) (fun k=>cutPre off l k∧atP l k≤off) rfl ?_ ?_ ⟨cutPre_zero off l,ho.1⟩ (fun _=>rfl) ?_ ?_
 ·simp (maxSteps:=4000000) only[go_sem,seval,pureB_pcs,leafy_pcs,renL_ofB,Qa]
  (repeat' first | exact subX_eq rfl (pureB_pcs _) | exact subX_eq rfl (pureB_bytes _) | exact subX_self rfl | exact .inr ⟨⟨⟨rfl,rfl,rfl⟩,trivial⟩,trivial⟩ | assumption | omega | decide | rfl | trivial | apply And.intro)
 ·have e1:atP l 0=0:=rfl
  rw[e1]
  simp (maxSteps:=4000000) only[go_sem,seval,pureB_pcs,leafy_pcs,renL_ofB,Qa]
  (repeat' first | exact subX_eq rfl (pureB_pcs _) | exact subX_eq rfl (pureB_bytes _) | exact subX_self rfl | exact .inr ⟨⟨⟨rfl,rfl,rfl⟩,trivial⟩,trivial⟩ | assumption | omega | decide | rfl | trivial | apply And.intro)
 ·intro k hk hpre
  rw[Q3] at hk
  obtain⟨hpre,hao⟩:cutPre off l k∧atP l k≤off:=hpre
  have hkd:(Xe l.length).getD k 0=k:=by simp [hk]
  rw[hkd]
  have hat:=atP_succ l k hk
  have hin:=hp (l.getD k (false,0,0)) (by rw[Qd,Qh hk];exact Qw hk)
  have ha0:0≤atP l k:=sumP_nn _ fun q hq=>hp q (Qq hq)
  have ha1:atP l (k+1)≤size:=by
   have:=sumP_app (l.take (k+1)) (l.drop (k+1))
   rw[Qj,hsum] at this
   have h2:=sumP_nn (l.drop (k+1)) fun q hq=>hp q (Qr hq)
   unfold atP
   omega
  obtain⟨a,b,c,hg⟩:∃a b c,l.getD k (false,0,0)=(a,b,c):=⟨_,_,_,rfl⟩
  rw[hg] at hin hat ⊢
  have hbc:0≤c:=hin.2.1
  dsimp only at hat
  have hb0:0≤b:=hin.1
  have hbl:b+c≤1099511627:=by
   have h3:=hin.2.2
   dsimp only at h3
   split at h3 <;> omega
  by_cases h1:atP l k=off
  ·have hcut:=cutPre_at off l k hk h1 hpre
   have ce:(atP l k == off)=true:=by rw[h1];exact beq_self_eq_true off
   rw[hcut,cutH_f]
   simp (maxSteps:=4000000) only[go_sem,seval,ce,cPcs_dec,aPc_mk,pureB_pcs,leafy_pcs,kVAllP,kSetP,kVInsP,kLenP,kTellP,decL_pcs,renL_pcs,renL_ofB,Qa]
   (repeat' first | exact subX_eq rfl (pureB_pcs _) | exact subX_eq rfl (pureB_bytes _) | exact subX_self rfl | exact .inr ⟨⟨⟨rfl,rfl,rfl⟩,trivial⟩,trivial⟩ | assumption | omega | decide | rfl | trivial | apply And.intro)
  ·have ce:(atP l k == off)=false:=beq_eq_false_iff_ne.2 h1
   have w1:IntKind.i64.wrap (atP l k+c)=atP l k+c:=wrap64 (by omega) (by omega)
   by_cases h2:off<atP l k+c
   ·have hcut:=cutPre_in off l k hk a b c hg h1 h2 hpre
    have ct:decide (off<atP l k+c)=true:=decide_eq_true h2
    have hlo:atP l k<off:=by omega
    have w2:IntKind.i64.wrap (off - atP l k)=off - atP l k:=wrap64 (by omega) (by omega)
    have w3:IntKind.i64.wrap (b+(off - atP l k))=b+(off - atP l k):=wrap64 (by omega) (by omega)
    have w4:IntKind.i64.wrap (c - (off - atP l k))=c - (off - atP l k):=wrap64 (by omega) (by omega)
    have w5:IntKind.i64.wrap ((k:Int)+1)=((k+1:Nat):Int):=by rw[wrap64 (by omega) (by omega)];omega
    have hkin:(0≤(k:Int)∧(k:Int)< (l.length:Int))=True:=eq_true ⟨by omega,by omega⟩
    have hq:(l.set k (a,b,off - atP l k)).take (k+1) ++ ((a,b+(off - atP l k),c - (off - atP l k)) :: (l.set k (a,b,off - atP l k)).drop (k+1))=l.take k ++ (a,b,off - atP l k) :: (a,b+(off - atP l k),c - (off - atP l k)) :: l.drop (k+1):=by
     rw[List.set_eq_take_append_cons_drop,if_pos hk]
     have hlk:(l.take k).length=k:=by rw[Qc];omega
     have e1:∀(x:Pc) (r:List Pc),(l.take k ++ x :: r).take (k+1)=l.take k ++ [x]:=fun x r=>by rw[List.take_append,hlk,List.take_of_length_le (by rw[hlk];omega),show k+1 - k=1 by omega];rfl
     have e2:∀(x:Pc) (r:List Pc),(l.take k ++ x :: r).drop (k+1)=r:=fun x r=>by rw[List.drop_append,hlk,Qn (by rw[hlk];omega),show k+1 - k=1 by omega];rfl
     rw[e1,e2,Q0]
     rfl
    have hql:(l.take k ++ (a,b,off - atP l k) :: (a,b+(off - atP l k),c - (off - atP l k)) :: l.drop (k+1)).length=l.length+1:=by
     simp only[Qb,Qc,Qk,Qg];omega
    rw[hcut,cutH_t]
    simp (maxSteps:=4000000) only[go_sem,seval,ce,ct,w1,w2,w3,w4,w5,hkin,hq,hql,cPcs_dec,aPc_mk,set_pcs,pureB_pcs,leafy_pcs,kVAllP,kSetP,kVInsP,kLenP,kTellP,decL_pcs,renL_pcs,renL_ofB,Qa,List.length_set,Qi]
    (repeat' first | exact subX_eq rfl (pureB_pcs _) | exact subX_eq rfl (pureB_bytes _) | exact subX_self rfl | exact .inr ⟨⟨⟨rfl,rfl,rfl⟩,trivial⟩,trivial⟩ | assumption | omega | decide | rfl | trivial | apply And.intro)
   ·have ct:decide (off<atP l k+c)=false:=decide_eq_false h2
    have hpre2:=cutPre_succ off l k hk h1 (by rw[hg];exact h2) hpre
    simp (maxSteps:=4000000) only[go_sem,seval,ce,ct,w1,hat,cPcs_dec,aPc_mk,pureB_pcs,leafy_pcs,kVAllP,kSetP,kVInsP,kLenP,kTellP,decL_pcs,renL_pcs,renL_ofB,Qa]
    (repeat' first | exact subX_eq rfl (pureB_pcs _) | exact subX_eq rfl (pureB_bytes _) | exact subX_self rfl | exact .inr ⟨⟨⟨rfl,rfl,rfl⟩,trivial⟩,trivial⟩ | assumption | omega | decide | rfl | trivial | apply And.intro)
 ·intro hpre
  rw[Q3] at hpre ⊢
  have hcut:=cutPre_end off l hpre.1
  rw[hcut,cutH_f]
  simp (maxSteps:=4000000) only[go_sem,seval,pureB_pcs,leafy_pcs,kVAllP,kSetP,kVInsP,kLenP,kTellP,decL_pcs,renL_pcs,renL_ofB,Qa]
  (repeat' first | exact subX_eq rfl (pureB_pcs _) | exact subX_eq rfl (pureB_bytes _) | exact subX_self rfl | exact .inr ⟨⟨⟨rfl,rfl,rfl⟩,trivial⟩,trivial⟩ | assumption | omega | decide | rfl | trivial | apply And.intro)
end Go.Pg
namespace Go.Pg
open Go Go.Proofs
variable [Syms]
abbrev cutU (F A:List UInt8)(q:List Pc)(size most edits:Int):AH:=
 [.arr 211 6 [.agg [.str F,.own 1 1 A.length,.ptr 2 1 1 0 0,.int .i64 size,.int .i64 most,.int .i64 edits]],.arr 5 1 (ofBytes A),
  .arr 283 1 [.agg [.own 4 3 q.length]],.dead,.arr 209 3 (q.map aPc)]
theorem cutI_same:∀(l:List Pc)(off at_:Int),(cutI off at_ l).2.2=false→(cutI off at_ l).1=l
 | [],_,_,_=>rfl
 | p :: r,off,at_,h=>by
  unfold cutI at h ⊢
  split
  ·rfl
  ·next h1=>
   rw[if_neg h1] at h
   split at h
   ·cases h
   ·next h2=>
    rw[if_neg h2]
    simp only
    rw[cutI_same r off _ h]
theorem calls_cutU (F A:List UInt8)(l:List Pc)(size most edits off:Int)(hl:l.length≤65530)(hp:∀p∈l,inPc F A p)(hsum:sumP l=size)(hsz:size≤1099511627)(hF:F.length≤1099511627)(hA:A.length≤1099511627)(ho:0≤off∧off≤size) :
 CallsR Tryz.prog 390 [.ptr 0 6 1 0 0,.int .i64 off] (tH F A l size most edits) (.int .i64 (cutI off 0 l).2.1) (cutU F A (cutI off 0 l).1 size most edits):=by
 have h:=calls_cut F A l size most edits off hl hp hsum hsz hF hA ho
 unfold cutH at h
 split at h
 ·exact h
 ·next hf=>
  have hs:=cutI_same l off 0 (by simpa using hf)
  rw[hs]
  have:=h.rehome (v:=2) (j:=3) (n:=l.length) (vs:=l.map aPc) rfl rfl (by rw[Qa]) (by decide)
  exact this
end Go.Pg
namespace Go.Pg
open Go Go.Proofs
theorem cutI_pcs [Syms] (off:Nat):∀(L:List Tb.Pc)(at_:Nat),at_≤off→(cutI off at_ (pcs L)).1=pcs (Tb.cutP off at_ L).1∧(cutI off at_ (pcs L)).2.1=(Tb.cutP off at_ L).2
 | [],_,_=>⟨rfl,rfl⟩
 | p :: r,at_,ha=>by
  have ih:=cutI_pcs off r (at_+p.n)
  rw[show((at_+p.n:Nat):Int)=(at_:Int)+(p.n:Int) by omega] at ih
  simp only[pcs,Xb,cutI,Tb.cutP]
  by_cases h1:at_=off
  ·rw[if_pos (by omega),if_pos h1]
   exact⟨by simp,rfl⟩
  ·rw[if_neg (by omega),if_neg h1]
   by_cases h2:off<at_+p.n
   ·rw[if_pos (by omega),if_pos h2]
    refine⟨?_,rfl⟩
    simp only[Xb]
    rw[show((off - at_:Nat):Int)=(off:Int) - (at_:Int) by omega,show((p.off+(off - at_):Nat):Int)=(p.off:Int)+((off:Int) - (at_:Int)) by omega,show((p.n - (off - at_):Nat):Int)=(p.n:Int) - ((off:Int) - (at_:Int)) by omega]
   ·rw[if_neg (by omega),if_neg h2]
    replace ih:=ih (by omega)
    simp only[pcs] at ih
    exact⟨by simp [ih.1],by simp [ih.2]⟩
theorem cutP_len (off:Nat):∀(L:List Tb.Pc)(at_:Nat),(Tb.cutP off at_ L).1.length≤L.length+1
 | [],_=>by simp [Tb.cutP]
 | p :: r,at_=>by
  have:=cutP_len off r (at_+p.n)
  unfold Tb.cutP
  split
  ·simp
  ·split <;> simp <;> omega
theorem whole_take_le (F A:Tb.Bs)(L:List Tb.Pc){i j:Nat}(h:i≤j):(Tb.whole F A (L.take i)).length≤(Tb.whole F A (L.take j)).length:=by
 have:L.take j=L.take i ++ (L.take j).drop i:=by
  conv=>lhs;rw[←Qj i (L.take j)]
  rw[List.take_take,Nat.min_eq_left h]
 rw[this,Tb.whole_app,Qb]
 omega
abbrev tHt (ed:AV)(sz:AV)(arr ln:Nat):AH:=
 [.arr 211 6 [.agg [.sym 0,.ows 1 1 0,.ptr 2 1 1 0 0,sz,.int .i64 4095,ed]],.tok 0,.arr 283 1 [.agg [.ows 3 3 ln]],.tok arr]
abbrev tHd (ed:AV)(sz:AV)(arr ln:Nat):AH:=
 [.arr 211 6 [.agg [.sym 0,.ows 1 1 0,.ptr 2 1 1 0 0,sz,.int .i64 4095,ed]],.tok 0,.arr 283 1 [.agg [.ows 4 3 ln]],.dead,.tok arr]
theorem nt_tH (F A:Tb.Bs)(l:List Pc)(size most edits:Int):ntH (tH F A l size most edits)=true:=by simp [ntH,ntO,ntL,nt,nt_bytes,nt_pcs]
theorem nt_cutU (F A:Tb.Bs)(l:List Pc)(size most edits:Int):ntH (cutU F A l size most edits)=true:=by simp [ntH,ntO,ntL,nt,nt_bytes,nt_pcs]
def tDelTbl:List (OpK×List AV×AV):=
 [(.bin .eql 3,[.sym 4,.int .i64 0],.bool false),(.bin .add 3,[.sym 3,.sym 4],.sym 5),(.bin .sub 3,[.sym 7,.sym 6],.sym 8),(.bin .sub 3,[.sym 1,.sym 4],.sym 9),(.bin .add 3,[.sym 2,.int .i64 1],.sym 10)]
theorem tame5 (A:Tb.Bs)(l1 l2 l3 l4:List Pc):tameAs [⟨5,1,ofBytes A⟩,⟨209,3,l1.map aPc⟩,⟨209,3,l2.map aPc⟩,⟨209,3,l3.map aPc⟩,⟨209,3,l4.map aPc⟩]=true:=by
 simp only[tameAs,Qo,Qt,tame_bytes,tame_pcs,Qp]
@[reducible] def sDel (F A:Tb.Bs) (size edits off n i j:Int) (l1 l2 l3 l4:List Pc):Syms:=
 mkS [.str F,.int .i64 size,.int .i64 edits,.int .i64 off,.int .i64 n,.int .i64 (off+n),.int .i64 i,.int .i64 j,.int .i64 (j - i),.int .i64 (size - n),.int .i64 (edits+1)]
  [⟨5,1,ofBytes A⟩,⟨209,3,l1.map aPc⟩,⟨209,3,l2.map aPc⟩,⟨209,3,l3.map aPc⟩,⟨209,3,l4.map aPc⟩] [A.length,l1.length,l2.length,l3.length,l4.length] tDelTbl rfl (tame5 A l1 l2 l3 l4)
theorem row_add [Syms] {P:Program}{t:TypeId}(a b c:Int)(h:a+b=c)(h1: -9223372036854775808≤c)(h2:c≤9223372036854775807):opkV P (.bin .add t) [.int .i64 a,.int .i64 b]=some (.int .i64 c):=by
 show intO .add .i64 a b=_
 simp only[intO,h,wrap64 h1 h2]
theorem row_sub [Syms] {P:Program}{t:TypeId}(a b c:Int)(h:a - b=c)(h1: -9223372036854775808≤c)(h2:c≤9223372036854775807):opkV P (.bin .sub t) [.int .i64 a,.int .i64 b]=some (.int .i64 c):=by
 show intO .sub .i64 a b=_
 simp only[intO,h,wrap64 h1 h2]
theorem row_eql [Syms] {P:Program}{t:TypeId}(a b:Int)(r:Bool)(h:(a == b)=r):opkV P (.bin .eql t) [.int .i64 a,.int .i64 b]=some (.bool r):=by
 show intO .eql .i64 a b=_
 simp only[intO,h]
theorem row_lss [Syms] {P:Program}{t:TypeId}(a b:Int)(r:Bool)(h:decide (a<b)=r):opkV P (.bin .lss t) [.int .i64 a,.int .i64 b]=some (.bool r):=by
 show intO .lss .i64 a b=_
 simp only[intO,h]
theorem row_leq [Syms] {P:Program}{t:TypeId}(a b:Int)(r:Bool)(h:decide (a≤b)=r):opkV P (.bin .leq t) [.int .i64 a,.int .i64 b]=some (.bool r):=by
 show intO .leq .i64 a b=_
 simp only[intO,h]
theorem row_gtr [Syms] {P:Program}{t:TypeId}(a b:Int)(r:Bool)(h:decide (a > b)=r):opkV P (.bin .gtr t) [.int .i64 a,.int .i64 b]=some (.bool r):=by
 show intO .gtr .i64 a b=_
 simp only[intO,h]
theorem row_geq [Syms] {P:Program}{t:TypeId}(a b:Int)(r:Bool)(h:decide (a≥b)=r):opkV P (.bin .geq t) [.int .i64 a,.int .i64 b]=some (.bool r):=by
 show intO .geq .i64 a b=_
 simp only[intO,h]
theorem sDel_tbl (F A:Tb.Bs)(size edits off n i j:Int)(l1 l2 l3 l4:List Pc)(hn:0<n)(h1:0≤off∧off+n≤1099511627)(h2:0≤size∧size≤1099511627)(h3:0≤edits∧edits≤1099511627)(h4:0≤i∧i≤1099511627)(h5:0≤j∧j≤1099511627) :
 @TblOK (sDel F A size edits off n i j l1 l2 l3 l4) Tryz.prog:=by
 letI:=sDel F A size edits off n i j l1 l2 l3 l4
 refine tblOK_of fun r hr=>?_
 change r∈tDelTbl at hr
 simp only[tDelTbl,Qf,Qe,or_false] at hr
 rcases hr with rfl | rfl | rfl | rfl | rfl
 ·exact row_eql (P:=Tryz.prog) n 0 false (beq_eq_false_iff_ne.2 (by omega))
 ·exact row_add (P:=Tryz.prog) off n _ rfl (by omega) (by omega)
 ·exact row_sub (P:=Tryz.prog) j i _ rfl (by omega) (by omega)
 ·exact row_sub (P:=Tryz.prog) size n _ rfl (by omega) (by omega)
 ·exact row_add (P:=Tryz.prog) edits 1 _ rfl (by omega) (by omega)
theorem calls_TDel [S:Syms] (F A:Tb.Bs)(L:List Tb.Pc)(edits:Int)(off n:Nat)(h:∀p∈L,Tb.fits F A p)(hF:F.length≤60000)(hA:A.length≤60000)(hL:L.length≤60000)(hT:(Tb.whole F A L).length≤60000)(hn:0<n)(hon:off+n≤(Tb.whole F A L).length)(he:0≤edits∧edits≤60000) :
 CallsR Tryz.prog 350 [.ptr 0 6 1 0 0,.int .i64 off,.int .i64 n] (tH F A (pcs L) ((Tb.whole F A L).length:Nat) 4095 edits) (.int .i64 0)
  (cutU F A (pcs (Tb.delP off n L)) ((Tb.whole F A L).length - n) 4095 (edits+1)):=by
 have c1:=Tb.cutP_ok off L 0 h (by omega) (by omega)
 rw[Q4] at c1
 have hw:Tb.whole F A (Tb.cutP off 0 L).1=Tb.whole F A L:=by
  rw[←Qj (Tb.cutP off 0 L).2 (Tb.cutP off 0 L).1,Tb.whole_app,c1.lo,c1.hi,Qj]
 have c2:=Tb.cutP_ok (off+n) (Tb.cutP off 0 L).1 0 c1.ok (by omega) (by rw[hw];omega)
 rw[Q4] at c2
 have ht:=Tb.cutP_take (off+n) (Tb.cutP off 0 L).1 0 (Tb.cutP off 0 L).2 c1.ok c1.le (by rw[c1.lo,Qc];omega)
 have hdel:Tb.delP off n L=(Tb.cutP (off+n) 0 (Tb.cutP off 0 L).1).1.take (Tb.cutP off 0 L).2 ++ (Tb.cutP (off+n) 0 (Tb.cutP off 0 L).1).1.drop (Tb.cutP (off+n) 0 (Tb.cutP off 0 L).1).2:=rfl
 have hlen1:(Tb.cutP off 0 L).1.length≤L.length+1:=cutP_len off L 0
 have hlen2:(Tb.cutP (off+n) 0 (Tb.cutP off 0 L).1).1.length≤(Tb.cutP off 0 L).1.length+1:=cutP_len (off+n) _ 0
 obtain⟨Q1,i,hQ1⟩:∃Q1 i,Tb.cutP off 0 L=(Q1,i):=⟨_,_,rfl⟩
 rw[hQ1] at c1 hw c2 ht hdel hlen1 hlen2
 dsimp only at c1 hw c2 ht hdel hlen1 hlen2
 obtain⟨Q2,j,hQ2⟩:∃Q2 j,Tb.cutP (off+n) 0 Q1=(Q2,j):=⟨_,_,rfl⟩
 rw[hQ2] at c2 ht hdel hlen2
 dsimp only at c2 ht hdel hlen2
 have hw2:Tb.whole F A Q2=Tb.whole F A L:=by
  rw[←hw,←Qj j Q2,Tb.whole_app,c2.lo,c2.hi,Qj]
 have hij:i<j:=by
  rcases Q5 i j with hlt | hge
  ·exact hlt
  ·exfalso
   have:=whole_take_le F A Q2 hge
   rw[c2.lo,ht,c1.lo,Qc,Qc,hw] at this
   omega
 have hj:=c2.le
 obtain⟨N,hN⟩:∃N,N=(Tb.whole F A L).length:=⟨_,rfl⟩
 rw[←hN] at hT hon ⊢
 let S1:=sDel F A N edits off n i j (pcs L) (pcs Q1) (pcs Q2) (pcs (Tb.delP off n L))
 have hreach:= @calls_reaches S1 F A (pcs L) N 4095 edits off n (by omega) (by omega)
 have hcr:(decide ((0:Int)≤off) && (decide ((0:Int)≤n) && (decide ((off:Int)≤N) && decide ((n:Int)≤(N:Int) - off))))=true:=by
  simp only[Qx,decide_eq_true_eq]
  omega
 rw[hcr] at hreach
 have hcut1:= @calls_cutU S1 F A (pcs L) N 4095 edits off (by rw[Qa];omega) (@inPc_fits F A L S1 h) (by rw[hN];exact @sumP_whole F A S1 L h) (by omega) (by omega) (by omega) (by omega)
 have e1:= @cutI_pcs S1 off L 0 (by omega)
 rw[hQ1] at e1
 rw[show((0:Nat):Int)=0 from rfl] at e1
 rw[e1.1,e1.2] at hcut1
 have hcut2:= @calls_cutU S1 F A (pcs Q1) N 4095 edits ((off:Int)+n) (by rw[Qa];omega) (@inPc_fits F A Q1 S1 c1.ok) (by rw[hN,←hw];exact @sumP_whole F A S1 Q1 c1.ok) (by omega) (by omega) (by omega) (by omega)
 have e2:= @cutI_pcs S1 (off+n) Q1 0 (by omega)
 rw[hQ2,show((0:Nat):Int)=0 from rfl,show((off+n:Nat):Int)=(off:Int)+n by omega] at e2
 rw[e2.1,e2.2] at hcut2
 have hdl:= @calls_VDelP S1 (pcs Q2) i (j - i) (by rw[Qa];omega) (by omega) (by rw[Qa];omega) (by rw[Qa];omega)
 rw[show i+(j - i)=j by omega,show(((j - i:Nat)):Int)=(j:Int) - i by omega] at hdl
 have hfin:(pcs Q2).take i ++ (pcs Q2).drop j=pcs (Tb.delP off n L):=by rw[hdel];simp [pcs]
 have hfl:i+((pcs Q2).length - j)=(pcs (Tb.delP off n L)).length:=by rw[←hfin,Qb,Qc,Qg];rw[Qa];omega
 rw[hfin,hfl] at hdl
 have hrun: @evF S1 Tryz.prog (@Lf.rows [⟨184,[.ptr 0 6 1 0 0,.sym 3,.sym 4],tHt (.sym 2) (.sym 1) 1 1,.bool true,tHt (.sym 2) (.sym 1) 1 1⟩,
  ⟨390,[.ptr 0 6 1 0 0,.sym 3],tHt (.sym 2) (.sym 1) 1 1,.sym 6,tHd (.sym 2) (.sym 1) 2 2⟩,
  ⟨390,[.ptr 0 6 1 0 0,.sym 5],tHt (.sym 2) (.sym 1) 2 2,.sym 7,tHd (.sym 2) (.sym 1) 3 3⟩,
  ⟨391,[.ptr 0 1 1 0 0,.sym 6,.sym 8],[.arr 283 1 [.agg [.ows 1 3 3]],.tok 3],.top,[.arr 283 1 [.agg [.ows 2 3 4]],.dead,.tok 4]⟩] Ln)
  20 350 [.ptr 0 6 1 0 0,.sym 3,.sym 4] (tHt (.sym 2) (.sym 1) 1 1)= .ok (.int .i64 0,tHd (.sym 10) (.sym 9) 4 4):=by kernel_rfl
 have h2:= @run_rows S1 _ _ _ (@Ln_ok S1 _ (sDel_tbl F A N edits off n i j _ _ _ _ (by omega) (by omega) (by omega) (by omega) (by omega) (by omega))) (fun c hc=>by
  simp only[Qf,Qe,or_false] at hc
  rcases hc with rfl | rfl | rfl | rfl
  ·exact hreach
  ·exact hcut1
  ·exact hcut2
  ·exact hdl) mixed _ _ _ _ _ _ hrun
 exact tr_calls S1 S (by simp [ntL,nt]) (nt_tH _ _ _ _ _ _) (by simp [nt]) (nt_cutU _ _ _ _ _ _) h2
end Go.Pg
namespace Go.Pg
open Go Go.Proofs
theorem mv_sub [Syms] (a b:List Nat)(k n:Nat)(ha:a.length=k+1)(hb:∀x∈b,n≤x):mvK (cN (a ++ b)) k (-(n:Int)) (cN (a ++ b)).length=cN (Tb.moveF (a ++ b) k (· - n)):=by
 rw[mvK_done]
 simp only[cN,Tb.moveF,List.map_append,Xc,Qv,List.map_map]
 rw[←ha]
 congr 1
 rw[Qs (by simp),Qs (by simp)]
 congr 1
 ·rw[Qn (by simp),Qn (by simp)]
 ·refine List.map_congr_left fun x hx=>?_
  have:=hb x hx
  simp only[Function.comp]
  show(x:Int)+ -(n:Int)=((x - n:Nat):Int)
  omega
theorem row_neg [Syms] {P:Program}(a c:Int)(h:0 - a=c)(h1: -9223372036854775808≤c)(h2:c≤9223372036854775807):opkV P (.un .neg) [.int .i64 a]=some (.int .i64 c):=by
 simp only[opkV,h,wrap64 h1 h2]
abbrev xHt (sz:AV)(arr ln:Nat):AH:=[.arr 216 2 [.agg [.ptr 1 1 1 0 0,sz]],.arr 288 1 [.agg [.ows 2 1 ln]],.tok arr]
abbrev xHd (sz:AV)(arr ln:Nat):AH:=[.arr 216 2 [.agg [.ptr 1 1 1 0 0,sz]],.arr 288 1 [.agg [.ows 3 1 ln]],.dead,.tok arr]
abbrev xHU (n:Int)(l:List Int):AH:=[.arr 216 2 [.agg [.ptr 1 1 1 0 0,.int .i64 n]],.arr 288 1 [.agg [.own 3 1 l.length]],.dead,.arr 3 1 (l.map bInt)]
theorem nt_xHI [Syms] (n:Int)(l:List Int):ntH (xHI n l)=true:=by simp [ntH,ntO,ntL,nt,nt_bints]
theorem nt_xHU [Syms] (n:Int)(l:List Int):ntH (xHU n l)=true:=by simp [ntH,ntO,ntL,nt,nt_bints]
def iDelTbl:List (OpK×List AV×AV):=
 [(.bin .lss 3,[.sym 1,.int .i64 0],.bool false),(.bin .lss 3,[.sym 2,.int .i64 0],.bool false),(.bin .gtr 3,[.sym 1,.sym 0],.bool false),(.bin .sub 3,[.sym 0,.sym 1],.sym 10),(.bin .gtr 3,[.sym 2,.sym 10],.bool false),
  (.bin .add 3,[.sym 1,.sym 2],.sym 5),(.bin .add 3,[.sym 3,.int .i64 1],.sym 6),(.bin .sub 3,[.sym 4,.sym 3],.sym 7),(.un .neg,[.sym 2],.sym 8),(.bin .sub 3,[.sym 0,.sym 2],.sym 9)]
theorem tameI3 (a b c:List Int):tameAs [⟨3,1,a.map bInt⟩,⟨3,1,b.map bInt⟩,⟨3,1,c.map bInt⟩]=true:=by
 simp only[tameAs,Qo,Qt,tame_bints,Qp]
@[reducible] def sIDel (size off n k k2:Int) (l0 l1 l2:List Int):Syms:=
 mkS [.int .i64 size,.int .i64 off,.int .i64 n,.int .i64 k,.int .i64 k2,.int .i64 (off+n),.int .i64 (k+1),.int .i64 (k2 - k),.int .i64 (-n),.int .i64 (size - n),.int .i64 (size - off)]
  [⟨3,1,l0.map bInt⟩,⟨3,1,l1.map bInt⟩,⟨3,1,l2.map bInt⟩] [l0.length,l1.length] iDelTbl rfl (tameI3 l0 l1 l2)
theorem sIDel_tbl (size off n k k2:Int)(l0 l1 l2:List Int)(h1:0≤off∧0≤n∧off+n≤size∧size≤60000)(h2:0≤k∧k≤70000∧0≤k2∧k2≤70000): @TblOK (sIDel size off n k k2 l0 l1 l2) Tryz.prog:=by
 letI:=sIDel size off n k k2 l0 l1 l2
 refine tblOK_of fun r hr=>?_
 change r∈iDelTbl at hr
 simp only[iDelTbl,Qf,Qe,or_false] at hr
 rcases hr with rfl | rfl | rfl | rfl | rfl | rfl | rfl | rfl | rfl | rfl
 ·exact row_lss (P:=Tryz.prog) off 0 false (decide_eq_false (by omega))
 ·exact row_lss (P:=Tryz.prog) n 0 false (decide_eq_false (by omega))
 ·exact row_gtr (P:=Tryz.prog) off size false (decide_eq_false (by omega))
 ·exact row_sub (P:=Tryz.prog) size off _ rfl (by omega) (by omega)
 ·exact row_gtr (P:=Tryz.prog) n (size - off) false (decide_eq_false (by omega))
 ·exact row_add (P:=Tryz.prog) off n _ rfl (by omega) (by omega)
 ·exact row_add (P:=Tryz.prog) k 1 _ rfl (by omega) (by omega)
 ·exact row_sub (P:=Tryz.prog) k2 k _ rfl (by omega) (by omega)
 ·exact row_neg (P:=Tryz.prog) n _ (by omega) (by omega) (by omega)
 ·exact row_sub (P:=Tryz.prog) size n _ rfl (by omega) (by omega)
theorem calls_IDel [S:Syms] (T:Tb.Bs)(off n:Nat)(h:off+n≤T.length)(hT:T.length≤60000)(hc:Tb.line (Tb.starts T) off<Tb.line (Tb.starts T) (off+n)) :
 CallsR Tryz.prog 351 [.ptr 0 2 1 0 0,.int .i64 off,.int .i64 n] (xHI T.length (cN (Tb.starts T))) (.bool true)
  (xHU ((T.length:Int) - n) (cN (Tb.starts (T.take off ++ T.drop (off+n))))):=by
 obtain⟨T',hT'⟩:∃T',T'=T.take off ++ T.drop (off+n):=⟨_,rfl⟩
 have hdx:=Tb.delX_ok T h
 rw[←hT'] at hdx ⊢
 obtain⟨k,hk⟩:∃k,k=Tb.line (Tb.starts T) off:=⟨_,rfl⟩
 obtain⟨k2,hk2⟩:∃k2,k2=Tb.line (Tb.starts T) (off+n):=⟨_,rfl⟩
 have hkl:k+1≤(Tb.starts T).length:=by rw[hk,Tb.line_ok T (by omega),Tb.starts,Tb.nls_cut T (show off≤T.length by omega)];simp
 have hk2l:k2+1≤(Tb.starts T).length:=by rw[hk2,Tb.line_ok T h,Tb.starts,Tb.nls_cut T h];simp
 have hsl:=starts_le T
 rw[←hk,←hk2] at hc
 have hk1:k+1+(k2 - k)=k2+1:=by omega
 have hbig:∀x∈(Tb.starts T).drop (k2+1),n≤x:=by
  intro x hx
  rw[hk2,Tb.line_ok T h,(Tb.starts_cut T h).2] at hx
  have:=Tb.nls_gt _ _ x hx
  omega
 have hal:((Tb.starts T).take (k+1)).length=k+1:=by rw[Qc];omega
 obtain⟨M,hM⟩:∃M,M=(Tb.starts T).take (k+1) ++ (Tb.starts T).drop (k2+1):=⟨_,rfl⟩
 have hfin:Tb.moveF M k (· - n)=Tb.starts T':=by
  rw[←hdx,hM]
  unfold Tb.delX
  simp only[←hk,←hk2,hk1]
 let S1:=sIDel T.length off n k k2 (cN (Tb.starts T)) (cN M) (cN (Tb.starts T'))
 have hmv:= @mv_sub S1 ((Tb.starts T).take (k+1)) ((Tb.starts T).drop (k2+1)) k n hal hbig
 rw[←hM,hfin] at hmv
 have hMl:M.length=(Tb.starts T').length:=by
  have:=congrArg Xd hfin
  rw[hM] at this ⊢
  simp only[Tb.moveF,Qb,Qc,Qg,Qa] at this ⊢
  omega
 have hl1:= @calls_line S1 T T.length off (by omega) (by omega) (by omega)
 rw[←Tb.line_ok T (show off≤T.length by omega),←hk] at hl1
 have hl2:= @calls_line S1 T T.length (off+n) h (by omega) (by omega)
 rw[←Tb.line_ok T h,←hk2,show((off+n:Nat):Int)=(off:Int)+n by omega] at hl2
 have hd:= @calls_VDelI S1 (cN (Tb.starts T)) (k+1) (k2 - k) (by rw[cN_len];omega) (by omega) (by rw[cN_len];omega) (by rw[cN_len];omega)
 have hMc:(cN (Tb.starts T)).take (k+1) ++ (cN (Tb.starts T)).drop (k2+1)=cN M:=by rw[hM];simp [cN]
 have hMcl:k+1+((cN (Tb.starts T)).length - (k2+1))=(cN M).length:=by rw[←hMc,Qb,Qc,Qg,cN_len];omega
 rw[hk1,hMc,hMcl,show((k+1:Nat):Int)=(k:Int)+1 by omega,show((k2 - k:Nat):Int)=(k2:Int) - k by omega] at hd
 have hmo:= @calls_move S1 T.length (cN M) k (-(n:Int)) (by rw[cN_len,hMl];have:=starts_le T';have:T'.length≤T.length:=(by rw[hT'];simp only[Qb,Qc,Qg];omega);omega) (fun x hx=>by
  obtain⟨m,hm,rfl⟩:=Q6.1 hx
  have hm':m∈Tb.starts T:=by
   rw[hM,Q9] at hm
   rcases hm with hm | hm
   ·exact Qq hm
   ·exact Qr hm
  have:=starts_bound T m hm'
  have e:(Int.ofNat m)=(m:Int):=rfl
  rw[e]
  omega) (by omega)
 rw[hmv] at hmo
 have hrun: @evF S1 Tryz.prog (@Lf.rows [⟨198,[.ptr 0 2 1 0 0,.sym 1],xHt (.sym 0) 0 0,.sym 3,xHt (.sym 0) 0 0⟩,
  ⟨198,[.ptr 0 2 1 0 0,.sym 5],xHt (.sym 0) 0 0,.sym 4,xHt (.sym 0) 0 0⟩,
  ⟨392,[.ptr 0 1 1 0 0,.sym 6,.sym 7],[.arr 288 1 [.agg [.ows 1 1 0]],.tok 0],.top,[.arr 288 1 [.agg [.ows 2 1 1]],.dead,.tok 1]⟩,
  ⟨199,[.ptr 0 2 1 0 0,.sym 3,.sym 8],xHt (.sym 0) 1 1,.tuple [],xHt (.sym 0) 2 1⟩] Ln)
  20 351 [.ptr 0 2 1 0 0,.sym 1,.sym 2] (xHt (.sym 0) 0 0)= .ok (.bool true,xHd (.sym 9) 2 1):=by kernel_rfl
 have hlM:(cN M).length=(cN (Tb.starts T')).length:=by rw[cN_len,cN_len,hMl]
 have hmo': @CallsR S1 Tryz.prog 199 [.ptr 0 2 1 0 0,.int .i64 k,.int .i64 (-(n:Int))] (xHI T.length (cN M)) (.tuple []) [.arr 216 2 [.agg [.ptr 1 1 1 0 0,.int .i64 T.length]],.arr 288 1 [.agg [.own 2 1 (cN M).length]],.arr 3 1 ((cN (Tb.starts T')).map bInt)]:=by
  simpa only[xHI,hlM] using hmo
 have h2:= @run_rows S1 _ _ _ (@Ln_ok S1 _ (sIDel_tbl T.length off n k k2 _ _ _ (by omega) (by omega))) (fun c hc=>by
  simp only[Qf,Qe,or_false] at hc
  rcases hc with rfl | rfl | rfl | rfl
  ·exact hl1
  ·exact hl2
  ·exact hd
  ·exact hmo') mixed _ _ _ _ _ _ hrun
 have h3: @CallsR S1 Tryz.prog 351 [.ptr 0 2 1 0 0,.int .i64 off,.int .i64 n] (xHI T.length (cN (Tb.starts T))) (.bool true)
  [.arr 216 2 [.agg [.ptr 1 1 1 0 0,.int .i64 ((T.length:Int) - n)]],.arr 288 1 [.agg [.own 3 1 (cN M).length]],.dead,.arr 3 1 ((cN (Tb.starts T')).map bInt)]:=h2
 rw[hlM] at h3
 exact tr_calls S1 S (by simp [ntL,nt]) (@nt_xHI S1 _ _) (by simp [nt]) (@nt_xHU S1 _ _) h3
def iDel0Tbl:List (OpK×List AV×AV):=
 [(.bin .lss 3,[.sym 1,.int .i64 0],.bool false),(.bin .gtr 3,[.sym 1,.sym 0],.bool false),(.bin .sub 3,[.sym 0,.sym 1],.sym 10),(.bin .gtr 3,[.int .i64 0,.sym 10],.bool false),
  (.bin .add 3,[.sym 1,.int .i64 0],.sym 1),(.bin .add 3,[.sym 3,.int .i64 1],.sym 6),(.bin .sub 3,[.sym 3,.sym 3],.int .i64 0),(.bin .sub 3,[.sym 0,.int .i64 0],.sym 0)]
@[reducible] def sIDel0 (size off k:Int) (l0:List Int):Syms:=
 mkS [.int .i64 size,.int .i64 off,.int .i64 0,.int .i64 k,.int .i64 0,.int .i64 0,.int .i64 (k+1),.int .i64 0,.int .i64 0,.int .i64 0,.int .i64 (size - off)]
  [⟨3,1,l0.map bInt⟩,⟨3,1,l0.map bInt⟩,⟨3,1,l0.map bInt⟩] [l0.length] iDel0Tbl rfl (tameI3 l0 l0 l0)
theorem sIDel0_tbl (size off k:Int)(l0:List Int)(h1:0≤off∧off≤size∧size≤60000)(h2:0≤k∧k≤70000): @TblOK (sIDel0 size off k l0) Tryz.prog:=by
 letI:=sIDel0 size off k l0
 refine tblOK_of fun r hr=>?_
 change r∈iDel0Tbl at hr
 simp only[iDel0Tbl,Qf,Qe,or_false] at hr
 rcases hr with rfl | rfl | rfl | rfl | rfl | rfl | rfl | rfl
 ·exact row_lss (P:=Tryz.prog) off 0 false (decide_eq_false (by omega))
 ·exact row_gtr (P:=Tryz.prog) off size false (decide_eq_false (by omega))
 ·exact row_sub (P:=Tryz.prog) size off _ rfl (by omega) (by omega)
 ·exact row_gtr (P:=Tryz.prog) 0 (size - off) false (decide_eq_false (by omega))
 ·exact row_add (P:=Tryz.prog) off 0 off (by omega) (by omega) (by omega)
 ·exact row_add (P:=Tryz.prog) k 1 _ rfl (by omega) (by omega)
 ·exact row_sub (P:=Tryz.prog) k k 0 (by omega) (by omega) (by omega)
 ·exact row_sub (P:=Tryz.prog) size 0 size (by omega) (by omega) (by omega)
theorem mv_zero [Syms] (l:List Int)(k:Int)(j:Nat):mvK l k 0 j=l:=by
 apply List.ext_getElem?
 intro i
 by_cases h:i<l.length
 ·rw[mvK_get _ _ _ _ _ h];simp [h]
 ·rw[Qy (by rw[mvK_len];omega),Qy (by omega)]
theorem calls_IDel0 [S:Syms] (T:Tb.Bs)(off:Nat)(h:off≤T.length)(hT:T.length≤60000) :
 CallsR Tryz.prog 351 [.ptr 0 2 1 0 0,.int .i64 off,.int .i64 0] (xHI T.length (cN (Tb.starts T))) (.bool true) (xHI T.length (cN (Tb.starts T))):=by
 obtain⟨k,hk⟩:∃k,k=Tb.line (Tb.starts T) off:=⟨_,rfl⟩
 have hkl:k+1≤(Tb.starts T).length:=by rw[hk,Tb.line_ok T h,Tb.starts,Tb.nls_cut T h];simp
 have hsl:=starts_le T
 let S1:=sIDel0 T.length off k (cN (Tb.starts T))
 have hl1:= @calls_line S1 T T.length off (by omega) (by omega) (by omega)
 rw[←Tb.line_ok T h,←hk] at hl1
 have hd:= @calls_VDelI0 S1 (cN (Tb.starts T)) ((k:Int)+1) (by rw[cN_len];omega)
 have hmo:= @calls_move S1 T.length (cN (Tb.starts T)) k 0 (by rw[cN_len];omega) (fun x hx=>(@okMv_starts S1 T 0 hT (by omega)).2.1 x hx) (by omega)
 rw[@mv_zero S1] at hmo
 have hrun: @evF S1 Tryz.prog (@Lf.rows [⟨198,[.ptr 0 2 1 0 0,.sym 1],xHt (.sym 0) 0 0,.sym 3,xHt (.sym 0) 0 0⟩,
  ⟨392,[.ptr 0 1 1 0 0,.sym 6,.int .i64 0],[.arr 288 1 [.agg [.ows 1 1 0]],.tok 0],.top,[.arr 288 1 [.agg [.ows 1 1 0]],.tok 0]⟩,
  ⟨199,[.ptr 0 2 1 0 0,.sym 3,.int .i64 0],xHt (.sym 0) 0 0,.tuple [],xHt (.sym 0) 0 0⟩] Ln)
  20 351 [.ptr 0 2 1 0 0,.sym 1,.int .i64 0] (xHt (.sym 0) 0 0)= .ok (.bool true,xHt (.sym 0) 0 0):=by kernel_rfl
 have h2:= @run_rows S1 _ _ _ (@Ln_ok S1 _ (sIDel0_tbl T.length off k _ (by omega) (by omega))) (fun c hc=>by
  simp only[Qf,Qe,or_false] at hc
  rcases hc with rfl | rfl | rfl
  ·exact hl1
  ·exact hd
  ·exact hmo) mixed _ _ _ _ _ _ hrun
 exact tr_calls S1 S (by simp [ntL,nt]) (@nt_xHI S1 _ _) (by simp [nt]) (@nt_xHI S1 _ _) h2
end Go.Pg
namespace Go.Pg
open Go Go.Proofs
theorem tkT9:tk Tryz.prog 9= .str:=by kernel_rfl
theorem tkT24:tk Tryz.prog 24= .slice 9 1:=by kernel_rfl
theorem row_lenS [Syms] {P:Program}{t:TypeId}(ht:tk P t= .str)(s:List UInt8)(c:Int)(h:(s.length:Int)=c):opkV P (.len t) [.str s]=some (.int .i64 c):=by
 simp only[opkV,ht,h]
theorem row_sl3 [Syms] {P:Program}{t e:TypeId}{z:Nat}(ht:tk P t= .slice e z)(l r:List AV)(a b:Int)(h:0≤a∧a≤b∧b≤l.length)(hr:(l.drop a.toNat).take (b.toNat - a.toNat)=r):opkV P (.sub t 3) [.sl z l,.int .i64 a,.int .i64 b]=some (.sl z r):=by
 have hc:cutL l a.toNat b.toNat=r:=hr
 simp only[opkV,ht,sliceLO,hc]
 simp [h.1,h.2.1,h.2.2]
abbrev bHU (F A:Tb.Bs)(l:List Pc)(size edits:Int)(ts:List Int):AH:=
 [.arr 146 2 [.agg [.ptr 1 6 1 0 0,.ptr 5 2 1 0 0]],
  .arr 211 6 [.agg [.str F,.own 2 1 A.length,.ptr 3 1 1 0 0,.int .i64 size,.int .i64 4095,.int .i64 edits]],.arr 5 1 (ofBytes A),
  .arr 283 1 [.agg [.own 8 3 l.length]],.dead,
  .arr 216 2 [.agg [.ptr 6 1 1 0 0,.int .i64 size]],.arr 288 1 [.agg [.own 9 1 ts.length]],.dead,.arr 209 3 (l.map aPc),.arr 3 1 (ts.map bInt)]
theorem nt_bHU [Syms] (F A:Tb.Bs)(l:List Pc)(size edits:Int)(ts:List Int):ntH (bHU F A l size edits ts)=true:=by
 simp [ntH,ntO,ntL,nt,nt_bytes,nt_pcs,nt_bints]
structure BufOK (F A:Tb.Bs) (L:List Tb.Pc) (ls:List Tb.Bs):Prop where
 fit:∀p∈L,Tb.fits F A p
 whole:Tb.whole F A L=Tb.joinL ls
 clean:Tb.clean ls
 ne:ls≠[]
 hF:F.length≤5000
 hA:A.length≤10000
 hL:L.length≤1000
 hT:(Tb.joinL ls).length≤4095
def delTbl:List (OpK×List AV×AV):=
 [(.bin .lss 3,[.sym 30,.int .i64 (0)],.bool false),
  (.bin .gtr 3,[.sym 30,.sym 31],.bool false),
  (.bin .sub 3,[.sym 31,.sym 30],.sym 32),
  (.bin .gtr 3,[.int .i64 (1),.sym 32],.bool false),
  (.bin .eql 3,[.int .i64 (1),.sym 31],.bool false),
  (.bin .add 3,[.sym 33,.int .i64 (1)],.sym 34),
  (.bin .add 3,[.sym 30,.int .i64 (1)],.sym 35),
  (.sub 24 3,[.sym 20,.sym 30,.sym 35],.sl 1 [.sym 1]),
  (.len 9,[.sym 1],.sym 36),
  (.bin .add 3,[.sym 36,.int .i64 (1)],.sym 37),
  (.bin .add 3,[.int .i64 (0),.sym 37],.sym 37),
  (.bin .sub 3,[.sym 34,.sym 37],.sym 38),
  (.bin .add 3,[.sym 38,.int .i64 (0)],.sym 38),
  (.bin .gtr 3,[.sym 38,.int .i64 (4096)],.bool false),
  (.bin .eql 3,[.sym 35,.sym 31],.bool false),
  (.bin .sub 3,[.sym 39,.sym 40],.sym 37),
  (.bin .lss 3,[.sym 40,.int .i64 (0)],.bool false),
  (.bin .gtr 3,[.sym 40,.sym 41],.bool false),
  (.bin .sub 3,[.int .i64 (4095),.sym 41],.sym 42),
  (.bin .gtr 3,[.int .i64 (0),.sym 42],.bool false)]
theorem tameDel (A:Tb.Bs)(l0 l1:List Pc)(t0 t1:List Int):tameAs [⟨5,1,ofBytes A⟩,⟨209,3,l0.map aPc⟩,⟨3,1,t0.map bInt⟩,⟨209,3,l1.map aPc⟩,⟨3,1,[]⟩,⟨3,1,[]⟩,⟨3,1,t1.map bInt⟩,⟨3,1,t1.map bInt⟩]=true:=by
 simp only[tameAs,Qo,Qt,tame_bytes,tame_pcs,tame_bints,Qp]
@[reducible] def sRdel (F A s:Tb.Bs) (ls:List Tb.Bs) (l0 l1:List Pc) (t0 t1:List Int) (k n sl size off ed:Int):Syms:=
 mkS [.nls,.str s,.nls,.nls,.nls,.nls,.nls,.nls,.nls,.nls,.str F,.nls,.nls,.nls,.nls,.nls,.nls,.nls,.nls,.nls,.sl 1 (ls.map .str),.nls,.nls,.nls,.nls,.nls,.nls,.nls,.nls,.nls,.int .i64 (k),.int .i64 (n),.int .i64 (-k+n),.int .i64 (size),.int .i64 (size+1),.int .i64 (k+1),.int .i64 (sl),.int .i64 (sl+1),.int .i64 (-sl+size),.int .i64 (sl+off+1),.int .i64 (off),.int .i64 (-sl+size - 1),.int .i64 (sl - size+4096),.int .i64 (ed),.int .i64 (ed+1)]
  [⟨5,1,ofBytes A⟩,⟨209,3,l0.map aPc⟩,⟨3,1,t0.map bInt⟩,⟨209,3,l1.map aPc⟩,⟨3,1,[]⟩,⟨3,1,[]⟩,⟨3,1,t1.map bInt⟩,⟨3,1,t1.map bInt⟩] [A.length,l0.length,t0.length,l1.length,0,0,t1.length,t1.length] delTbl rfl (tameDel A l0 l1 t0 t1)
set_option maxRecDepth 100000 in
theorem sRdel_tbl (F A s:Tb.Bs)(ls:List Tb.Bs)(l0 l1:List Pc)(t0 t1:List Int)(k n sl size off ed:Int)(h1:0≤k∧k+1<n∧n≤60000)(hs1:(s.length:Int)=sl)(h3:0≤off∧off+sl+1≤size∧size≤4095)(h4:0≤ed∧ed≤60000)
 (hsub:opkV Tryz.prog (.sub 24 3) [.sl 1 (ls.map .str),.int .i64 k,.int .i64 (k+1)]=some (.sl 1 [.str s])): @TblOK (sRdel F A s ls l0 l1 t0 t1 k n sl size off ed) Tryz.prog:=by
 letI:=sRdel F A s ls l0 l1 t0 t1 k n sl size off ed
 have hs0:0≤sl:=by omega
 refine tblOK_of fun r hr=>?_
 change r∈delTbl at hr
 simp only[delTbl,Qf,Qe,or_false] at hr
 rcases hr with rfl | rfl | rfl | rfl | rfl | rfl | rfl | rfl | rfl | rfl | rfl | rfl | rfl | rfl | rfl | rfl | rfl | rfl | rfl | rfl
 ·exact row_lss (P:=Tryz.prog) (k) (0) false (decide_eq_false (by omega))
 ·exact row_gtr (P:=Tryz.prog) (k) (n) false (decide_eq_false (by omega))
 ·exact row_sub (P:=Tryz.prog) (n) (k) (-k+n) (by omega) (by omega) (by omega)
 ·exact row_gtr (P:=Tryz.prog) (1) (-k+n) false (decide_eq_false (by omega))
 ·exact row_eql (P:=Tryz.prog) (1) (n) false (beq_eq_false_iff_ne.2 (by omega))
 ·exact row_add (P:=Tryz.prog) (size) (1) (size+1) (by omega) (by omega) (by omega)
 ·exact row_add (P:=Tryz.prog) (k) (1) (k+1) (by omega) (by omega) (by omega)
 ·exact hsub
 ·exact row_lenS (P:=Tryz.prog) tkT9 s _ hs1
 ·exact row_add (P:=Tryz.prog) (sl) (1) (sl+1) (by omega) (by omega) (by omega)
 ·exact row_add (P:=Tryz.prog) (0) (sl+1) (sl+1) (by omega) (by omega) (by omega)
 ·exact row_sub (P:=Tryz.prog) (size+1) (sl+1) (-sl+size) (by omega) (by omega) (by omega)
 ·exact row_add (P:=Tryz.prog) (-sl+size) (0) (-sl+size) (by omega) (by omega) (by omega)
 ·exact row_gtr (P:=Tryz.prog) (-sl+size) (4096) false (decide_eq_false (by omega))
 ·exact row_eql (P:=Tryz.prog) (k+1) (n) false (beq_eq_false_iff_ne.2 (by omega))
 ·exact row_sub (P:=Tryz.prog) (sl+off+1) (off) (sl+1) (by omega) (by omega) (by omega)
 ·exact row_lss (P:=Tryz.prog) (off) (0) false (decide_eq_false (by omega))
 ·exact row_gtr (P:=Tryz.prog) (off) (-sl+size - 1) false (decide_eq_false (by omega))
 ·exact row_sub (P:=Tryz.prog) (4095) (-sl+size - 1) (sl - size+4096) (by omega) (by omega) (by omega)
 ·exact row_gtr (P:=Tryz.prog) (0) (sl - size+4096) false (decide_eq_false (by omega))
theorem BufOK.del {F A:Tb.Bs}{L:List Tb.Pc}{ls:List Tb.Bs}(h:BufOK F A L ls){k:Nat}(hk:k+1<ls.length) :
 BufOK F A (Tb.delP (Tb.term (ls.take k)).length ((ls.getD k []).length+1) L) (ls.take k ++ ls.drop (k+1))∨1000< (Tb.delP (Tb.term (ls.take k)).length ((ls.getD k []).length+1) L).length:=by
 obtain⟨e1,e2,e3,_,e5⟩:=Tb.del_line h.clean hk
 have hd:=Tb.delP_ok (F:=F) (A:=A) (ps:=L) (off:=(Tb.term (ls.take k)).length) (n:=(ls.getD k []).length+1) h.fit (by rw[h.whole];exact e5)
 by_cases hl:(Tb.delP (Tb.term (ls.take k)).length ((ls.getD k []).length+1) L).length≤1000
 ·refine .inl ⟨hd.1,?_,Tb.clean_del h.clean k,?_,h.hF,h.hA,hl,?_⟩
  ·rw[hd.2,h.whole,e1,e2,e3]
  ·intro e
   have:=congrArg Xd e
   simp only[Qb,Qc,Qg,Xa] at this
   omega
  ·rw[e3,Qb,←e1,←e2,Qc,Qg]
   have:=h.hT
   omega
 ·exact .inr (by omega)
set_option maxRecDepth 100000 in
theorem calls_Rdel [S:Syms] (F A:Tb.Bs)(L:List Tb.Pc)(ls:List Tb.Bs)(edits:Int)(k:Nat)(h:BufOK F A L ls)(hk:k+1<ls.length)(he:0≤edits∧edits≤60000) :
 CallsR Tryz.prog 208 [.ptr 0 2 1 0 0,.int .i64 k,.int .i64 1,.nls] (bH F A (pcs L) ((Tb.joinL ls).length:Nat) edits (cN (Tb.starts (Tb.joinL ls)))) (.int .i64 0)
  (bHU F A (pcs (Tb.delP (Tb.term (ls.take k)).length ((ls.getD k []).length+1) L)) ((Tb.joinL (ls.take k ++ ls.drop (k+1))).length:Nat) (edits+1) (cN (Tb.starts (Tb.joinL (ls.take k ++ ls.drop (k+1)))))):=by
 obtain⟨e1,e2,e3,e4,e5⟩:=Tb.del_line h.clean hk
 have hlen:=Tb.starts_len h.clean h.ne
 have hg0:=Tb.starts_getD h.clean h.ne (show k<ls.length by omega)
 have hg1:=Tb.starts_getD h.clean h.ne hk
 rw[Tb.term_succ (show k<ls.length by omega)] at hg1
 have hsp:splitL (Tb.joinL ls)=ls:=split_join ls h.clean h.ne
 obtain⟨T,hT⟩:∃T,T=Tb.joinL ls:=⟨_,rfl⟩
 obtain⟨X,hX⟩:∃X,X=Tb.term (ls.take k):=⟨_,rfl⟩
 obtain⟨s,hs⟩:∃s,s=ls.getD k []:=⟨_,rfl⟩
 obtain⟨T1,hT1⟩:∃T1,T1=Tb.joinL (ls.take k ++ ls.drop (k+1)):=⟨_,rfl⟩
 have hw:=h.whole
 have hTl:=h.hT
 have hT1e:T1=T.take X.length ++ T.drop (X.length+(s.length+1)):=by rw[hT1,e3,hT,hX,hs,e1,e2]
 rw[←hT] at hw hTl hlen hg0 hg1 hsp e4 e5 ⊢
 rw[←hX] at hg0 hg1 e4 e5 ⊢
 rw[←hs] at hg1 e4 e5 ⊢
 rw[←hT1]
 have hT1l:T1.length=T.length - (s.length+1):=by rw[hT1e];simp only[Qb,Qc,Qg];omega
 have hjl:=join_len ls h.ne
 rw[←hT] at hjl
 let S1:=sRdel F A s ls (pcs L) (pcs (Tb.delP X.length (s.length+1) L)) (cN (Tb.starts T)) (cN (Tb.starts T1)) k ls.length s.length T.length X.length edits
 have hcl:(cN (Tb.starts T)).length=ls.length:=by rw[cN_len,hlen]
 have q265:= @calls_Len_int S1 (cN (Tb.starts T))
 rw[hcl] at q265
 have q67:= @calls_Lines S1 F A L edits (cN (Tb.starts T)) h.fit (by have:=h.hF;omega) (by have:=h.hA;omega) (by have:=h.hL;omega) (by rw[hw];omega)
 rw[hw,hsp] at q67
 have fX:(((X ++ (s ++ [10])).length:Nat):Int)=(s.length:Int)+X.length+1:=by simp only[Qb,Qk,Xa];omega
 have q266:= @calls_At_int S1 (cN (Tb.starts T)) k (by rw[hcl];omega)
 have q266':= @calls_At_int S1 (cN (Tb.starts T)) ((k:Int)+1) (by rw[hcl];omega)
 rw[if_pos ⟨by omega,by rw[hcl];omega⟩,decide_eq_true (show(0:Int)≤k∧(k:Int)< ((cN (Tb.starts T)).length:Int) from⟨by omega,by rw[hcl];omega⟩),Qi,cN_getD,hg0] at q266
 rw[if_pos ⟨by omega,by rw[hcl];omega⟩,decide_eq_true (show(0:Int)≤(k:Int)+1∧(k:Int)+1< ((cN (Tb.starts T)).length:Int) from⟨by omega,by rw[hcl];omega⟩),show((k:Int)+1).toNat=k+1 by omega,cN_getD,hg1,
  fX] at q266'
 have q350:= @calls_TDel S1 F A L edits X.length (s.length+1) h.fit (by have:=h.hF;omega) (by have:=h.hA;omega) (by have:=h.hL;omega) (by rw[hw];omega) (by omega) (by rw[hw];exact e5) he
 rw[hw,show(((s.length+1:Nat)):Int)=(s.length:Int)+1 by omega] at q350
 have q351:= @calls_IDel S1 T X.length (s.length+1) e5 (by omega) e4
 rw[←hT1e,show(((s.length+1:Nat)):Int)=(s.length:Int)+1 by omega] at q351
 have q140:= @calls_IIns S1 T1 [] X.length (by omega) (by omega) (by simp) (by simp;omega)
 rw[List.append_nil,Qj] at q140
 have f1:(T.length:Int) - ((s.length:Int)+1)= -(s.length:Int)+T.length - 1:=by omega
 have f2:(T1.length:Int)= -(s.length:Int)+T.length - 1:=by omega
 rw[f1] at q350 q351
 rw[f2] at q140
 have hrun: @evF S1 Tryz.prog (@Lf.rows [⟨265,[.ptr 0 1 1 0 0],[.arr 288 1 [.agg [.ows 1 1 2]],.tok 2],.sym 31,[.arr 288 1 [.agg [.ows 1 1 2]],.tok 2]⟩,
  ⟨67,[.ptr 0 2 1 0 0],[.arr 146 2 [.agg [.ptr 1 6 1 0 0,.ptr 5 2 1 0 0]],.arr 211 6 [.agg [.sym 10,.ows 2 1 0,.ptr 3 1 1 0 0,.sym 33,.int .i64 (4095),.sym 43]],.tok 0,.arr 283 1 [.agg [.ows 4 3 1]],.tok 1,.arr 216 2 [.agg [.ptr 6 1 1 0 0,.sym 33]],.arr 288 1 [.agg [.ows 7 1 2]],.tok 2],.sym 20,[.arr 146 2 [.agg [.ptr 1 6 1 0 0,.ptr 5 2 1 0 0]],.arr 211 6 [.agg [.sym 10,.ows 2 1 0,.ptr 3 1 1 0 0,.sym 33,.int .i64 (4095),.sym 43]],.tok 0,.arr 283 1 [.agg [.ows 4 3 1]],.tok 1,.arr 216 2 [.agg [.ptr 6 1 1 0 0,.sym 33]],.arr 288 1 [.agg [.ows 7 1 2]],.tok 2]⟩,
  ⟨266,[.ptr 0 1 1 0 0,.sym 30],[.arr 288 1 [.agg [.ows 1 1 2]],.tok 2],.tuple [.sym 40,.bool true],[.arr 288 1 [.agg [.ows 1 1 2]],.tok 2]⟩,
  ⟨266,[.ptr 0 1 1 0 0,.sym 35],[.arr 288 1 [.agg [.ows 1 1 2]],.tok 2],.tuple [.sym 39,.bool true],[.arr 288 1 [.agg [.ows 1 1 2]],.tok 2]⟩,
  ⟨350,[.ptr 0 6 1 0 0,.sym 40,.sym 37],[.arr 211 6 [.agg [.sym 10,.ows 1 1 0,.ptr 2 1 1 0 0,.sym 33,.int .i64 (4095),.sym 43]],.tok 0,.arr 283 1 [.agg [.ows 3 3 1]],.tok 1],.int .i64 (0),[.arr 211 6 [.agg [.sym 10,.ows 1 1 0,.ptr 2 1 1 0 0,.sym 41,.int .i64 (4095),.sym 44]],.tok 0,.arr 283 1 [.agg [.ows 4 3 3]],.dead,.tok 3]⟩,
  ⟨351,[.ptr 0 2 1 0 0,.sym 40,.sym 37],[.arr 216 2 [.agg [.ptr 1 1 1 0 0,.sym 33]],.arr 288 1 [.agg [.ows 2 1 2]],.tok 2],.bool true,[.arr 216 2 [.agg [.ptr 1 1 1 0 0,.sym 41]],.arr 288 1 [.agg [.ows 3 1 6]],.dead,.tok 6]⟩,
  ⟨140,[.ptr 0 2 1 0 0,.sym 40,.str []],[.arr 216 2 [.agg [.ptr 1 1 1 0 0,.sym 41]],.arr 288 1 [.agg [.ows 2 1 6]],.tok 6],.bool true,[.arr 216 2 [.agg [.ptr 1 1 1 0 0,.sym 41]],.arr 288 1 [.agg [.ows 3 1 7]],.dead,.tok 7]⟩] Ln) 40 208 [.ptr 0 2 1 0 0,.sym 30,.int .i64 (1),.nls] ([.arr 146 2 [.agg [.ptr 1 6 1 0 0,.ptr 5 2 1 0 0]],.arr 211 6 [.agg [.sym 10,.ows 2 1 0,.ptr 3 1 1 0 0,.sym 33,.int .i64 (4095),.sym 43]],.tok 0,.arr 283 1 [.agg [.ows 4 3 1]],.tok 1,.arr 216 2 [.agg [.ptr 6 1 1 0 0,.sym 33]],.arr 288 1 [.agg [.ows 7 1 2]],.tok 2])= .ok (.int .i64 (0),[.arr 146 2 [.agg [.ptr 1 6 1 0 0,.ptr 5 2 1 0 0]],.arr 211 6 [.agg [.sym 10,.ows 2 1 0,.ptr 3 1 1 0 0,.sym 41,.int .i64 (4095),.sym 44]],.tok 0,.arr 283 1 [.agg [.ows 8 3 3]],.dead,.arr 216 2 [.agg [.ptr 6 1 1 0 0,.sym 41]],.arr 288 1 [.agg [.ows 9 1 7]],.dead,.tok 3,.tok 7]):=by kernel_rfl
 have hsub:opkV Tryz.prog (.sub 24 3) [.sl 1 (ls.map .str),.int .i64 k,.int .i64 ((k:Int)+1)]=some (.sl 1 [.str s]):= @row_sl3 S1 Tryz.prog 24 9 1 tkT24 (ls.map .str) [.str s] k ((k:Int)+1) ⟨by omega,by omega,by rw[Qa];omega⟩ (by
  rw[Qi,show((k:Int)+1).toNat - k=1 by omega,←Qv,Tb.drop_line (show k<ls.length by omega),←hs];rfl)
 have h2:= @run_rows S1 _ _ _ (@Ln_ok S1 _ (sRdel_tbl F A s ls _ _ _ _ k ls.length s.length T.length X.length edits (by omega) rfl (by omega) he hsub)) (fun c hc=>by
  simp only[Qf,Qe,or_false] at hc
  rcases hc with rfl | rfl | rfl | rfl | rfl | rfl | rfl
  ·exact q265
  ·exact q67
  ·exact q266
  ·exact q266'
  ·exact q350
  ·exact q351
  ·exact q140) mixed _ _ _ _ _ _ hrun
 rw[f2]
 exact tr_calls S1 S (by simp [ntL,nt]) (nt_bH _ _ _ _ _ _) (by simp [nt]) (@nt_bHU S1 _ _ _ _ _ _) h2
end Go.Pg
namespace Go.Pg
open Go Go.Proofs
variable [Syms]
def okCut (F A:List UInt8)(l:List Pc)(size off:Int):Prop:=l.length≤65530∧(∀p∈l,inPc F A p)∧sumP l=size∧size≤1099511627∧F.length≤1099511627∧A.length≤1099511627∧0≤off∧off≤size
def kCut:C1:=C1.mby (hCons hTab (hCons (hP .id (cInt .i64)) hNil)) (fun d=>okCut d.1.1 d.1.2.1 d.1.2.2.1.1 d.1.2.2.2.1 d.2.1) (fun d=> .int .i64 (cutI d.2.1 0 d.1.2.2.1.1).2.1)
 (fun d=>cutU d.1.1 d.1.2.1 (cutI d.2.1 0 d.1.2.2.1.1).1 d.1.2.2.2.1 d.1.2.2.2.2.1 d.1.2.2.2.2.2.1)
theorem ok_Cut:C1OK Tryz.prog 390 kCut:=C1OK.mby (by kernel_rfl) (fun d h=>calls_cutU d.1.1 d.1.2.1 d.1.2.2.1.1 d.1.2.2.2.1 d.1.2.2.2.2.1 d.1.2.2.2.2.2.1 d.2.1 h.1 h.2.1 h.2.2.1 h.2.2.2.1 h.2.2.2.2.1 h.2.2.2.2.2.1 h.2.2.2.2.2.2)
 (fun d _=>by simp [hTab,hVecP,hPtr,hCons,hOwn,hP,hNil,hBox,hAgg])
set_option maxRecDepth 20000 in
set_option maxHeartbeats 8000000 in
theorem calls_TIns (F A s:List UInt8)(l q:List Pc)(i:Nat)(size edits off:Int)(h:okCut F A l size off)(hs:s≠[])(hsl:s.length≤60000)(hsz:0≤size)(hfit:size+s.length≤4095)(he:0≤edits∧edits≤60000)(hA:A.length≤60000)
 (hq:cutI off 0 l=(q,i,(cutI off 0 l).2.2)) (hi:i≤q.length) (hql:q.length≤65532)
 (hb:∀b c,0<i→q.getD (i - 1) (false,0,0)=(true,b,c)→b+c≠A.length) (hin:∀p∈q,0≤p.2.1∧0≤p.2.2∧p.2.1+p.2.2≤1099511627) :
 CallsR Tryz.prog 352 [.ptr 0 6 1 0 0,.int .i64 off,.str s] (tH F A l size 4095 edits) (.int .i64 0)
  (cutU F (A ++ s) (q.take i ++ (true,(A.length:Int),(s.length:Int)) :: q.drop i) (size+s.length) 4095 (edits+1)):=by
 refine callsR_of (mrg:=true) (dyn:=[14]) (CtrOK.cons ok_Cut (CtrOK.cons ok_AtP (CtrOK.cons ok_VInsP (CtrOK.cons ok_SetP (CtrOK.nil _))))) mixed Tryz.func352 rfl (by simp [Tryz.ntmps352,AV.cells]) (by kernel_rfl) ?_
 rw[show Tryz.f352.results.toList=[.tmp 6] from by kernel_rfl]
 have hq1:(cutI off 0 l).1=q:=by rw[hq]
 have hq2:(cutI off 0 l).2.1=i:=by rw[hq]
 have hoff:=h.2.2.2.2.2.2
 have hsp:0<s.length:=Qm.2 hs
 have c1:decide (off<0)=false:=decide_eq_false (by omega)
 have c2:decide (off > size)=false:=decide_eq_false (by omega)
 have w1:IntKind.i64.wrap (4095 - size)=4095 - size:=wrap64 (by omega) (by omega)
 have c3:decide ((s.length:Int) > 4095 - size)=false:=decide_eq_false (by omega)
 have c4:(s == [])=false:=beq_eq_false_iff_ne.2 hs
 have w2:IntKind.i64.wrap (size+s.length)=size+s.length:=wrap64 (by omega) (by omega)
 have w3:IntKind.i64.wrap (edits+1)=edits+1:=wrap64 (by omega) (by omega)
 have w4:IntKind.i64.wrap ((i:Int) - 1)=(i:Int) - 1:=wrap64 (by omega) (by omega)
 have hii:(0≤(i:Int)∧(i:Int)≤(q.length:Int))=True:=eq_true ⟨by omega,by omega⟩
 have hapl:(A ++ s).length=A.length+s.length:=Qb
 have hnl:(q.take i ++ (true,(A.length:Int),(s.length:Int)) :: q.drop i).length=q.length+1:=by simp only[Qb,Qc,Qk,Qg];omega
 by_cases hi0:i=0
 ·have ci:decide (0≤(i:Int) - 1∧(i:Int) - 1< (q.length:Int))=false:=decide_eq_false (by omega)
  have cp:(0≤(i:Int) - 1∧(i:Int) - 1< (q.length:Int))=False:=eq_false (by omega)
  simp (maxSteps:=4000000) only[go_sem,seval,c1,c2,c3,c4,w1,w2,w3,w4,hq1,hq2,ci,cp,hii,hnl,aPc_mk,cPcs_dec,ofBytes_app,ofBytes_len,map_ofB,pureB_pcs,leafy_pcs,kCut,kAtP,kVInsP,kSetP,decL_pcs,renL_pcs,renL_ofB,Qb,Qa,Qi]
  (repeat' first | assumption | exact subX_eq rfl (pureB_pcs _) | exact subX_eq rfl (pureB_bytes _) | exact subX_self rfl | exact .inr ⟨⟨⟨rfl,rfl,rfl⟩,trivial⟩,trivial⟩ | omega | decide | rfl | trivial | apply And.intro)
 ·have ci:decide (0≤(i:Int) - 1∧(i:Int) - 1< (q.length:Int))=true:=decide_eq_true (by omega)
  have cp:(0≤(i:Int) - 1∧(i:Int) - 1< (q.length:Int))=True:=eq_true (by omega)
  have ct:((i:Int) - 1).toNat=i - 1:=by omega
  obtain⟨a,b,c,hg⟩:∃a b c,q.getD (i - 1) (false,0,0)=(a,b,c):=⟨_,_,_,rfl⟩
  have hgi:=hin (a,b,c) (by rw[←hg,Qd,Qh (by omega)];exact Qw _)
  dsimp only at hgi
  have w5:IntKind.i64.wrap (b+c)=b+c:=wrap64 (by omega) (by omega)
  cases a with
  | true=>
   have ce:(b+c == (A.length:Int))=false:=beq_eq_false_iff_ne.2 (hb b c (by omega) hg)
   simp (maxSteps:=4000000) only[go_sem,seval,c1,c2,c3,c4,w1,w2,w3,w4,w5,hq1,hq2,ci,cp,ct,ce,hg,hii,hnl,aPc_mk,cPcs_dec,ofBytes_app,ofBytes_len,map_ofB,pureB_pcs,leafy_pcs,kCut,kAtP,kVInsP,kSetP,decL_pcs,renL_pcs,renL_ofB,Qb,Qa,Qi]
   (repeat' first | assumption | exact subX_eq rfl (pureB_pcs _) | exact subX_eq rfl (pureB_bytes _) | exact subX_self rfl | exact .inr ⟨⟨⟨rfl,rfl,rfl⟩,trivial⟩,trivial⟩ | omega | decide | rfl | trivial | apply And.intro)
  | false=>
   simp (maxSteps:=4000000) only[go_sem,seval,c1,c2,c3,c4,w1,w2,w3,w4,w5,hq1,hq2,ci,cp,ct,hg,hii,hnl,aPc_mk,cPcs_dec,ofBytes_app,ofBytes_len,map_ofB,pureB_pcs,leafy_pcs,kCut,kAtP,kVInsP,kSetP,decL_pcs,renL_pcs,renL_ofB,Qb,Qa,Qi]
   (repeat' first | assumption | exact subX_eq rfl (pureB_pcs _) | exact subX_eq rfl (pureB_bytes _) | exact subX_self rfl | exact .inr ⟨⟨⟨rfl,rfl,rfl⟩,trivial⟩,trivial⟩ | omega | decide | rfl | trivial | apply And.intro)
end Go.Pg
namespace Go.Pg
open Go Go.Proofs
theorem idx_none:∀(s:List UInt8),(10:UInt8)∉s→Lib.indexByte s 10= -1
 | [],_=>rfl
 | x :: q,h=>by
  simp only[Qf,not_or] at h
  have hx:(x == 10)=false:=beq_eq_false_iff_ne.2 (fun e=>h.1 e.symm)
  simp only[Lib.indexByte,hx,idx_none q h.2]
  rfl
@[reducible] def sCon (s:List UInt8):Syms:=mkS [.str s] [] [] [] rfl rfl
theorem calls_Contains [S:Syms] (s:List UInt8)(h:(10:UInt8)∉s):CallsR Tryz.prog 133 [.str s,.str [10]] [] (.bool false) []:=by
 let S1:=sCon s
 have q:= @calls_Index S1 s
 rw[idx_none s h] at q
 have hrun: @evF S1 Tryz.prog (@Lf.rows [⟨192,[.sym 0,.str [10]],[],.int .i64 (-1),[]⟩] Ln) 10 133 [.sym 0,.str [10]] []= .ok (.bool false,[]):=by kernel_rfl
 have h2:= @run_rows S1 _ _ _ (@Ln_ok S1 _ (@tblOK_of S1 _ (fun r hr=>by cases hr))) (fun c hc=>by
  simp only[Qf,Qe,or_false] at hc
  subst hc
  exact q) mixed _ _ _ _ _ _ hrun
 exact tr_calls S1 S (by simp [ntL,nt]) (by simp [ntH]) (by simp [nt]) (by simp [ntH]) h2
theorem row_cat [Syms] {P:Program}{t:TypeId}(a b c:List UInt8)(h:a ++ b=c)(hl:a.length+b.length≤60000):opkV P (.bin .add t) [.str a,.str b]=some (.str c):=by
 show strO .add a b=_
 simp only[strO,h]
 rw[if_pos (by omega)]
theorem cutP_old (off:Nat):∀(L:List Tb.Pc)(at_:Nat),(∀p∈L,p.added=false)→∀p∈(Tb.cutP off at_ L).1,p.added=false
 | [],_,_,p,hp=>by simp [Tb.cutP] at hp
 | q :: r,at_,h,p,hp=>by
  unfold Tb.cutP at hp
  split at hp
  ·exact h p hp
  ·split at hp
   ·simp only[Qf] at hp
    rcases hp with rfl | rfl | hp
    ·exact h q (by simp)
    ·exact h q (by simp)
    ·exact h p (by simp [hp])
   ·simp only[Qf] at hp
    rcases hp with rfl | hp
    ·exact h p (by simp)
    ·exact cutP_old off r _ (fun x hx=>h x (by simp [hx])) p hp
theorem delP_old (off n:Nat)(L:List Tb.Pc)(h:∀p∈L,p.added=false):∀p∈Tb.delP off n L,p.added=false:=by
 intro p hp
 have h1:=cutP_old off L 0 h
 have h2:=cutP_old (off+n) (Tb.cutP off 0 L).1 0 h1
 have hd:Tb.delP off n L=(Tb.cutP (off+n) 0 (Tb.cutP off 0 L).1).1.take (Tb.cutP off 0 L).2 ++ (Tb.cutP (off+n) 0 (Tb.cutP off 0 L).1).1.drop (Tb.cutP (off+n) 0 (Tb.cutP off 0 L).1).2:=rfl
 rw[hd,Q9] at hp
 rcases hp with hp | hp
 ·exact h2 p (Qq hp)
 ·exact h2 p (Qr hp)
theorem delP_len (off n:Nat)(L:List Tb.Pc):(Tb.delP off n L).length≤L.length+2+L.length+2:=by
 have h1:=cutP_len off L 0
 have h2:=cutP_len (off+n) (Tb.cutP off 0 L).1 0
 have hd:Tb.delP off n L=(Tb.cutP (off+n) 0 (Tb.cutP off 0 L).1).1.take (Tb.cutP off 0 L).2 ++ (Tb.cutP (off+n) 0 (Tb.cutP off 0 L).1).1.drop (Tb.cutP (off+n) 0 (Tb.cutP off 0 L).1).2:=rfl
 rw[hd,Qb,Qc,Qg]
 omega
def insQ (len off m:Nat)(L:List Tb.Pc):List Tb.Pc:=(Tb.cutP off 0 L).1.take (Tb.cutP off 0 L).2 ++ ⟨true,len,m⟩ :: (Tb.cutP off 0 L).1.drop (Tb.cutP off 0 L).2
theorem insQ_ok {F A S:Tb.Bs}{L:List Tb.Pc}{off:Nat}(hp:∀p∈L,Tb.fits F A p)(hold:∀p∈L,p.added=false)(h:off≤(Tb.whole F A L).length)(hs:0<S.length) :
 (∀p∈insQ A.length off S.length L,Tb.fits F (A ++ S) p)∧Tb.whole F (A ++ S) (insQ A.length off S.length L)=(Tb.whole F A L).take off ++ S ++ (Tb.whole F A L).drop off:=by
 have e:insQ A.length off S.length L=Tb.insP A.length off S.length L:=by
  unfold insQ Tb.insP
  have hq:=cutP_old off L 0 hold
  generalize Tb.cutP off 0 L=x at hq ⊢
  obtain⟨q,i⟩:=x
  simp only at hq ⊢
  cases i with
  | zero=>simp
  | succ k=>
   simp only
   cases hk:q[k]? with
   | none=>rfl
   | some p=>
    simp only
    rw[if_neg]
    rw[hq p (Qz hk)]
    simp
 rw[e]
 exact Tb.insP_ok hp h hs
theorem insQ_len (len off m:Nat)(L:List Tb.Pc):(insQ len off m L).length≤L.length+2:=by
 have h1:=cutP_len off L 0
 unfold insQ
 rw[Qb,Qk,Qc,Qg]
 omega
theorem calls_TInsQ [S:Syms] (F A s:Tb.Bs)(L:List Tb.Pc)(edits:Int)(off:Nat)(h:∀p∈L,Tb.fits F A p)(hold:∀p∈L,p.added=false)(hF:F.length≤5000)(hA:A.length≤10000)(hL:L.length≤1000)(hs:s≠[])(hT:(Tb.whole F A L).length+s.length≤4095)
 (ho:off≤(Tb.whole F A L).length) (he:0≤edits∧edits≤60000) :
 CallsR Tryz.prog 352 [.ptr 0 6 1 0 0,.int .i64 off,.str s] (tH F A (pcs L) ((Tb.whole F A L).length:Nat) 4095 edits) (.int .i64 0)
  (cutU F (A ++ s) (pcs (insQ A.length off s.length L)) (((Tb.whole F A L).length:Nat)+s.length) 4095 (edits+1)):=by
 have c1:=Tb.cutP_ok off L 0 h (by omega) (by omega)
 rw[Q4] at c1
 have e1:=cutI_pcs off L 0 (by omega)
 rw[show((0:Nat):Int)=0 from rfl] at e1
 have hl:=cutP_len off L 0
 have hin:∀p∈pcs (Tb.cutP off 0 L).1,p.1=false∧0≤p.2.1∧0≤p.2.2∧p.2.1+p.2.2≤1099511627:=by
  intro p hp
  obtain⟨q,hq,rfl⟩:=Q6.1 hp
  have ha:=cutP_old off L 0 hold q hq
  have hf:=(c1.ok q hq).2
  rw[ha] at hf
  simp only[Bool.false_eq_true,if_false] at hf
  exact⟨ha,by simp,by simp,by simp only;omega⟩
 have hx:=calls_TIns F A s (pcs L) (pcs (Tb.cutP off 0 L).1) (Tb.cutP off 0 L).2 ((Tb.whole F A L).length:Nat) edits off
  ⟨by rw[Qa];omega,inPc_fits h,sumP_whole F A L h,by omega,by omega,by omega,by omega,by omega⟩ hs (by omega) (by omega) (by omega) he (by omega)
  (by rw[←e1.1,←e1.2]) (by rw[Qa];exact c1.le) (by rw[Qa];omega)
  (fun b c h0 hg=>by
    exfalso
    have:=hin (true,b,c) (by
     rw[←hg,Qd,Qh (by rw[Qa];have:=c1.le;omega)]
     exact Qw _)
    exact absurd this.1 (by simp))
  (fun p hp=>(hin p hp).2)
 have e2:(pcs (Tb.cutP off 0 L).1).take (Tb.cutP off 0 L).2 ++ (true,(A.length:Int),(s.length:Int)) :: (pcs (Tb.cutP off 0 L).1).drop (Tb.cutP off 0 L).2=pcs (insQ A.length off s.length L):=by simp [insQ,pcs]
 rw[e2] at hx
 exact hx
abbrev bHV (F A:Tb.Bs)(l:List Pc)(size edits:Int)(ts:List Int)(s:Tb.Bs):AH:=
 [.arr 146 2 [.agg [.ptr 1 6 1 0 0,.ptr 5 2 1 0 0]],
  .arr 211 6 [.agg [.str F,.own 2 1 A.length,.ptr 3 1 1 0 0,.int .i64 size,.int .i64 4095,.int .i64 edits]],.arr 5 1 (ofBytes A),
  .arr 283 1 [.agg [.own 9 3 l.length]],.dead,
  .arr 216 2 [.agg [.ptr 6 1 1 0 0,.int .i64 size]],.arr 288 1 [.agg [.own 10 1 ts.length]],.dead,.arr 9 1 [.str s],.arr 209 3 (l.map aPc),.arr 3 1 (ts.map bInt)]
theorem nt_bHV [Syms] (F A:Tb.Bs)(l:List Pc)(size edits:Int)(ts:List Int)(s:Tb.Bs):ntH (bHV F A l size edits ts s)=true:=by
 simp [ntH,ntO,ntL,nt,nt_bytes,nt_pcs,nt_bints]
theorem nt_bH1 [Syms] (F A:Tb.Bs)(l:List Pc)(size edits:Int)(ts:List Int)(s:Tb.Bs):ntH (bH F A l size edits ts ++ [.arr 9 1 [.str s]])=true:=by
 simp [ntH,ntO,ntL,nt,nt_bytes,nt_pcs,nt_bints]
theorem tameIns (A A1:Tb.Bs)(l0 l1:List Pc)(t0 t1:List Int):tameAs [⟨5,1,ofBytes A⟩,⟨209,3,l0.map aPc⟩,⟨3,1,t0.map bInt⟩,⟨3,1,[]⟩,⟨5,1,ofBytes A1⟩,⟨209,3,l1.map aPc⟩,⟨3,1,[]⟩,⟨3,1,[]⟩,⟨3,1,t1.map bInt⟩]=true:=by
 simp only[tameAs,Qo,Qt,tame_bytes,tame_pcs,tame_bints,Qp]
theorem BufOK.ins {F A:Tb.Bs}{L:List Tb.Pc}{ls:List Tb.Bs}(h:BufOK F A L ls)(hold:∀p∈L,p.added=false){s txt:Tb.Bs}{off a:Nat}(ho:off≤(Tb.joinL ls).length)(hs:(10:UInt8)∉s)(ht:txt.length=s.length+1)
 (hj:Tb.joinL (ls.take a ++ s :: ls.drop a)=(Tb.joinL ls).take off ++ txt ++ (Tb.joinL ls).drop off) (hA:A.length+txt.length≤10000) (hL:L.length+2≤1000) (hT:(Tb.joinL ls).length+txt.length≤4095) :
 BufOK F (A ++ txt) (insQ A.length off txt.length L) (ls.take a ++ s :: ls.drop a):=by
 have hi:=insQ_ok (F:=F) (A:=A) (S:=txt) (L:=L) (off:=off) h.fit hold (by rw[h.whole];exact ho) (by omega)
 refine⟨hi.1,by rw[hi.2,h.whole,hj],Tb.clean_ins h.clean hs a,by simp,h.hF,by rw[Qb];exact hA,by have:=insQ_len A.length off txt.length L;omega,?_⟩
 rw[hj]
 simp only[Qb,Qc,Qg]
 omega
def insTbl:List (OpK×List AV×AV):=
 [(.bin .lss 3,[.sym 30,.int .i64 (0)],.bool false),
  (.bin .gtr 3,[.sym 30,.sym 31],.bool false),
  (.bin .sub 3,[.sym 31,.sym 30],.sym 32),
  (.bin .gtr 3,[.int .i64 (0),.sym 32],.bool false),
  (.bin .eql 3,[.int .i64 (0),.sym 31],.bool false),
  (.bin .add 3,[.sym 33,.int .i64 (1)],.sym 34),
  (.bin .add 3,[.sym 30,.int .i64 (0)],.sym 30),
  (.sub 24 3,[.sym 20,.sym 30,.sym 30],.sl 1 []),
  (.bin .sub 3,[.sym 34,.int .i64 (0)],.sym 34),
  (.len 9,[.sym 1],.sym 35),
  (.bin .add 3,[.sym 35,.int .i64 (1)],.sym 36),
  (.bin .add 3,[.int .i64 (0),.sym 36],.sym 36),
  (.bin .add 3,[.sym 34,.sym 36],.sym 37),
  (.bin .gtr 3,[.sym 37,.int .i64 (4096)],.bool false),
  (.bin .eql 3,[.sym 30,.sym 31],.bool false),
  (.bin .add 9,[.sym 1,.str [10]],.sym 3),
  (.bin .sub 3,[.sym 38,.sym 38],.int .i64 (0))]
@[reducible] def sRins (F A A1 s txt:Tb.Bs) (ls:List Tb.Bs) (l0 l1:List Pc) (t0 t1:List Int) (k n sl size off ed:Int):Syms:=
 mkS [.nls,.str s,.nls,.str txt,.str txt,.nls,.nls,.nls,.nls,.nls,.str F,.nls,.nls,.nls,.nls,.nls,.nls,.nls,.nls,.nls,.sl 1 (ls.map .str),.nls,.nls,.nls,.nls,.nls,.nls,.nls,.nls,.nls,.int .i64 (k),.int .i64 (n),.int .i64 (-k+n),.int .i64 (size),.int .i64 (size+1),.int .i64 (sl),.int .i64 (sl+1),.int .i64 (sl+size+2),.int .i64 (off),.int .i64 (ed),.int .i64 (sl+size+1),.int .i64 (ed+1)]
  [⟨5,1,ofBytes A⟩,⟨209,3,l0.map aPc⟩,⟨3,1,t0.map bInt⟩,⟨3,1,[]⟩,⟨5,1,ofBytes A1⟩,⟨209,3,l1.map aPc⟩,⟨3,1,[]⟩,⟨3,1,[]⟩,⟨3,1,t1.map bInt⟩] [A.length,l0.length,t0.length,0,A1.length,l1.length,0,0,t1.length] insTbl rfl (tameIns A A1 l0 l1 t0 t1)
set_option maxRecDepth 100000 in
theorem sRins_tbl (F A A1 s txt:Tb.Bs)(ls:List Tb.Bs)(l0 l1:List Pc)(t0 t1:List Int)(k n sl size off ed:Int)(h1:0≤k∧k<n∧n≤60000)(hs1:(s.length:Int)=sl)(h3:0≤off∧off≤size∧size+sl≤4094)(h4:0≤ed∧ed≤60000)
 (hsub:opkV Tryz.prog (.sub 24 3) [.sl 1 (ls.map .str),.int .i64 k,.int .i64 k]=some (.sl 1 [])) (hcat:opkV Tryz.prog (.bin .add 9) [.str s,.str [10]]=some (.str txt)): @TblOK (sRins F A A1 s txt ls l0 l1 t0 t1 k n sl size off ed) Tryz.prog:=by
 letI:=sRins F A A1 s txt ls l0 l1 t0 t1 k n sl size off ed
 have hs0:0≤sl:=by omega
 refine tblOK_of fun r hr=>?_
 change r∈insTbl at hr
 simp only[insTbl,Qf,Qe,or_false] at hr
 rcases hr with rfl | rfl | rfl | rfl | rfl | rfl | rfl | rfl | rfl | rfl | rfl | rfl | rfl | rfl | rfl | rfl | rfl
 ·exact row_lss (P:=Tryz.prog) (k) (0) false (decide_eq_false (by omega))
 ·exact row_gtr (P:=Tryz.prog) (k) (n) false (decide_eq_false (by omega))
 ·exact row_sub (P:=Tryz.prog) (n) (k) (-k+n) (by omega) (by omega) (by omega)
 ·exact row_gtr (P:=Tryz.prog) (0) (-k+n) false (decide_eq_false (by omega))
 ·exact row_eql (P:=Tryz.prog) (0) (n) false (beq_eq_false_iff_ne.2 (by omega))
 ·exact row_add (P:=Tryz.prog) (size) (1) (size+1) (by omega) (by omega) (by omega)
 ·exact row_add (P:=Tryz.prog) (k) (0) (k) (by omega) (by omega) (by omega)
 ·exact hsub
 ·exact row_sub (P:=Tryz.prog) (size+1) (0) (size+1) (by omega) (by omega) (by omega)
 ·exact row_lenS (P:=Tryz.prog) tkT9 s _ hs1
 ·exact row_add (P:=Tryz.prog) (sl) (1) (sl+1) (by omega) (by omega) (by omega)
 ·exact row_add (P:=Tryz.prog) (0) (sl+1) (sl+1) (by omega) (by omega) (by omega)
 ·exact row_add (P:=Tryz.prog) (size+1) (sl+1) (sl+size+2) (by omega) (by omega) (by omega)
 ·exact row_gtr (P:=Tryz.prog) (sl+size+2) (4096) false (decide_eq_false (by omega))
 ·exact row_eql (P:=Tryz.prog) (k) (n) false (beq_eq_false_iff_ne.2 (by omega))
 ·exact hcat
 ·exact row_sub (P:=Tryz.prog) (off) (off) (0) (by omega) (by omega) (by omega)
set_option maxRecDepth 100000 in
theorem calls_Rins [S:Syms] (F A s:Tb.Bs)(L:List Tb.Pc)(ls:List Tb.Bs)(edits:Int)(a:Nat)(h:BufOK F A L ls)(hold:∀p∈L,p.added=false)(ha:a<ls.length)(he:0≤edits∧edits≤60000)(hsn:(10:UInt8)∉s)(hfit:(Tb.joinL ls).length+s.length≤4094) :
 CallsR Tryz.prog 208 [.ptr 0 2 1 0 0,.int .i64 a,.int .i64 0,.own 8 1 1] (bH F A (pcs L) ((Tb.joinL ls).length:Nat) edits (cN (Tb.starts (Tb.joinL ls))) ++ [.arr 9 1 [.str s]]) (.int .i64 0)
  (bHV F (A ++ (s ++ [10])) (pcs (insQ A.length (Tb.term (ls.take a)).length (s.length+1) L)) ((Tb.joinL (ls.take a ++ s :: ls.drop a)).length:Nat) (edits+1) (cN (Tb.starts (Tb.joinL (ls.take a ++ s :: ls.drop a)))) s):=by
 have hlen:=Tb.starts_len h.clean h.ne
 have hsp:splitL (Tb.joinL ls)=ls:=split_join ls h.clean h.ne
 have hjn:Tb.joinL (ls.take a ++ s :: ls.drop a)=(Tb.joinL ls).take (Tb.term (ls.take a)).length ++ ((s ++ [10])) ++ (Tb.joinL ls).drop (Tb.term (ls.take a)).length:=Tb.ins_line s ha
 have hole:(Tb.term (ls.take a)).length≤(Tb.joinL ls).length:=by rw[Tb.join_cut ha,Qb];omega
 have hg0:=Tb.starts_getD h.clean h.ne ha
 obtain⟨T,hT⟩:∃T,T=Tb.joinL ls:=⟨_,rfl⟩
 obtain⟨off,hoff⟩:∃off,off=(Tb.term (ls.take a)).length:=⟨_,rfl⟩
 obtain⟨T1,hT1⟩:∃T1,T1=Tb.joinL (ls.take a ++ s :: ls.drop a):=⟨_,rfl⟩
 have hw:=h.whole
 have hTl:=h.hT
 have hjl:=join_len ls h.ne
 rw[←hoff,←hT1] at hjn
 rw[←hoff] at hole
 rw[←hoff,←hT1]
 rw[←hT,←hoff] at hg0
 rw[←hT] at hw hTl hlen hsp hjn hole hfit hjl ⊢
 obtain⟨txt,htxt⟩:∃txt,txt=(s ++ [10]):=⟨_,rfl⟩
 have htl:txt.length=s.length+1:=by rw[htxt];simp
 rw[←htxt] at hjn ⊢
 have hT1l:T1.length=T.length+(s.length+1):=by rw[hjn];simp only[Qb,Qc,Qg,htl];omega
 have hpos:0<ls.length:=Qm.2 h.ne
 have hcl:(cN (Tb.starts T)).length=ls.length:=by rw[cN_len,hlen]
 let S1:=sRins F A (A ++ txt) s txt ls (pcs L) (pcs (insQ A.length off (s.length+1) L)) (cN (Tb.starts T)) (cN (Tb.starts T1)) a ls.length s.length T.length off edits
 have q265:= @calls_Len_int S1 (cN (Tb.starts T))
 rw[hcl] at q265
 have q133:= @calls_Contains S1 s hsn
 have q67:= @calls_Lines S1 F A L edits (cN (Tb.starts T)) h.fit (by have:=h.hF;omega) (by have:=h.hA;omega) (by have:=h.hL;omega) (by rw[hw];omega)
 rw[hw,hsp] at q67
 have q266:= @calls_At_int S1 (cN (Tb.starts T)) a (by rw[hcl];omega)
 rw[if_pos ⟨by omega,by rw[hcl];omega⟩,decide_eq_true (show(0:Int)≤a∧(a:Int)< ((cN (Tb.starts T)).length:Int) from⟨by omega,by rw[hcl];omega⟩),Qi,cN_getD,hg0] at q266
 have q184:= @calls_reaches S1 F A (pcs L) T.length 4095 edits off 0 (by omega) (by omega)
 rw[show(decide ((0:Int)≤off) && (decide ((0:Int)≤0) && (decide ((off:Int)≤T.length) && decide ((0:Int)≤(T.length:Int) - off))))=true by simp only[Qx,decide_eq_true_eq];omega] at q184
 have q351:= @calls_IDel0 S1 T off hole (by omega)
 have q352:= @calls_TInsQ S1 F A txt L edits off h.fit hold h.hF h.hA h.hL (by intro e;rw[e] at htl;simp at htl) (by rw[hw,htl];omega) (by rw[hw];exact hole) he
 rw[hw,htl] at q352
 have q140:= @calls_IIns S1 T txt off hole (by omega) (by omega) (by omega)
 rw[←hjn] at q140
 have f2:(T1.length:Int)=(s.length:Int)+T.length+1:=by omega
 have f3:(T.length:Int)+((s.length+1:Nat):Int)=(s.length:Int)+T.length+1:=by omega
 rw[f2] at q140
 rw[f3] at q352
 have f4:(T.length:Int)=(T.length:Int):=by omega
 have hrun: @evF S1 Tryz.prog (@Lf.rows [⟨265,[.ptr 0 1 1 0 0],[.arr 288 1 [.agg [.ows 1 1 2]],.tok 2],.sym 31,[.arr 288 1 [.agg [.ows 1 1 2]],.tok 2]⟩,
  ⟨133,[.sym 1,.str [10]],[],.bool false,[]⟩,
  ⟨67,[.ptr 0 2 1 0 0],[.arr 146 2 [.agg [.ptr 1 6 1 0 0,.ptr 5 2 1 0 0]],.arr 211 6 [.agg [.sym 10,.ows 2 1 0,.ptr 3 1 1 0 0,.sym 33,.int .i64 (4095),.sym 39]],.tok 0,.arr 283 1 [.agg [.ows 4 3 1]],.tok 1,.arr 216 2 [.agg [.ptr 6 1 1 0 0,.sym 33]],.arr 288 1 [.agg [.ows 7 1 2]],.tok 2],.sym 20,[.arr 146 2 [.agg [.ptr 1 6 1 0 0,.ptr 5 2 1 0 0]],.arr 211 6 [.agg [.sym 10,.ows 2 1 0,.ptr 3 1 1 0 0,.sym 33,.int .i64 (4095),.sym 39]],.tok 0,.arr 283 1 [.agg [.ows 4 3 1]],.tok 1,.arr 216 2 [.agg [.ptr 6 1 1 0 0,.sym 33]],.arr 288 1 [.agg [.ows 7 1 2]],.tok 2]⟩,
  ⟨266,[.ptr 0 1 1 0 0,.sym 30],[.arr 288 1 [.agg [.ows 1 1 2]],.tok 2],.tuple [.sym 38,.bool true],[.arr 288 1 [.agg [.ows 1 1 2]],.tok 2]⟩,
  ⟨184,[.ptr 0 6 1 0 0,.sym 38,.int .i64 (0)],[.arr 211 6 [.agg [.sym 10,.ows 1 1 0,.ptr 2 1 1 0 0,.sym 33,.int .i64 (4095),.sym 39]],.tok 0,.arr 283 1 [.agg [.ows 3 3 1]],.tok 1],.bool true,[.arr 211 6 [.agg [.sym 10,.ows 1 1 0,.ptr 2 1 1 0 0,.sym 33,.int .i64 (4095),.sym 39]],.tok 0,.arr 283 1 [.agg [.ows 3 3 1]],.tok 1]⟩,
  ⟨351,[.ptr 0 2 1 0 0,.sym 38,.int .i64 (0)],[.arr 216 2 [.agg [.ptr 1 1 1 0 0,.sym 33]],.arr 288 1 [.agg [.ows 2 1 2]],.tok 2],.bool true,[.arr 216 2 [.agg [.ptr 1 1 1 0 0,.sym 33]],.arr 288 1 [.agg [.ows 2 1 2]],.tok 2]⟩,
  ⟨352,[.ptr 0 6 1 0 0,.sym 38,.sym 3],[.arr 211 6 [.agg [.sym 10,.ows 1 1 0,.ptr 2 1 1 0 0,.sym 33,.int .i64 (4095),.sym 39]],.tok 0,.arr 283 1 [.agg [.ows 3 3 1]],.tok 1],.int .i64 (0),[.arr 211 6 [.agg [.sym 10,.ows 1 1 4,.ptr 2 1 1 0 0,.sym 40,.int .i64 (4095),.sym 41]],.tok 4,.arr 283 1 [.agg [.ows 4 3 5]],.dead,.tok 5]⟩,
  ⟨140,[.ptr 0 2 1 0 0,.sym 38,.sym 3],[.arr 216 2 [.agg [.ptr 1 1 1 0 0,.sym 33]],.arr 288 1 [.agg [.ows 2 1 2]],.tok 2],.bool true,[.arr 216 2 [.agg [.ptr 1 1 1 0 0,.sym 40]],.arr 288 1 [.agg [.ows 3 1 8]],.dead,.tok 8]⟩] Ln) 40 208 [.ptr 0 2 1 0 0,.sym 30,.int .i64 (0),.own 8 1 1] ([.arr 146 2 [.agg [.ptr 1 6 1 0 0,.ptr 5 2 1 0 0]],.arr 211 6 [.agg [.sym 10,.ows 2 1 0,.ptr 3 1 1 0 0,.sym 33,.int .i64 (4095),.sym 39]],.tok 0,.arr 283 1 [.agg [.ows 4 3 1]],.tok 1,.arr 216 2 [.agg [.ptr 6 1 1 0 0,.sym 33]],.arr 288 1 [.agg [.ows 7 1 2]],.tok 2,.arr 9 1 [.sym 1]])= .ok (.int .i64 (0),[.arr 146 2 [.agg [.ptr 1 6 1 0 0,.ptr 5 2 1 0 0]],.arr 211 6 [.agg [.sym 10,.ows 2 1 4,.ptr 3 1 1 0 0,.sym 40,.int .i64 (4095),.sym 41]],.tok 4,.arr 283 1 [.agg [.ows 9 3 5]],.dead,.arr 216 2 [.agg [.ptr 6 1 1 0 0,.sym 40]],.arr 288 1 [.agg [.ows 10 1 8]],.dead,.arr 9 1 [.sym 1],.tok 5,.tok 8]):=by kernel_rfl
 have hsub:opkV Tryz.prog (.sub 24 3) [.sl 1 (ls.map .str),.int .i64 (a:Int),.int .i64 (a:Int)]=some (.sl 1 []):= @row_sl3 S1 Tryz.prog 24 9 1 tkT24 (ls.map .str) [] (a:Int) (a:Int) ⟨by omega,by omega,by rw[Qa];omega⟩ (by rw[Q7];rfl)
 have hcat:opkV Tryz.prog (.bin .add 9) [.str s,.str [10]]=some (.str txt):= @row_cat S1 Tryz.prog 9 s [10] txt (by first | (rw[htxt];done) | (rw[htxt];rfl)) (by simp;omega)
 have h2:= @run_rows S1 _ _ _ (@Ln_ok S1 _ (sRins_tbl F A (A ++ txt) s txt ls _ _ _ _ a ls.length s.length T.length off edits (by omega) rfl (by omega) he hsub hcat)) (fun c hc=>by
  simp only[Qf,Qe,or_false] at hc
  rcases hc with rfl | rfl | rfl | rfl | rfl | rfl | rfl | rfl
  ·exact q265
  ·exact q133
  ·exact q67
  ·exact q266
  ·exact q184
  ·exact q351
  ·exact q352
  ·exact q140) mixed _ _ _ _ _ _ hrun
 rw[f2]
 exact tr_calls S1 S (by simp [ntL,nt]) (nt_bH1 _ _ _ _ _ _ _) (by simp [nt]) (@nt_bHV S1 _ _ _ _ _ _ _) h2
def appTbl:List (OpK×List AV×AV):=
 [(.bin .lss 3,[.sym 30,.int .i64 (0)],.bool false),
  (.bin .gtr 3,[.sym 30,.sym 30],.bool false),
  (.bin .sub 3,[.sym 30,.sym 30],.int .i64 (0)),
  (.bin .eql 3,[.int .i64 (0),.sym 30],.bool false),
  (.bin .add 3,[.sym 31,.int .i64 (1)],.sym 32),
  (.bin .add 3,[.sym 30,.int .i64 (0)],.sym 30),
  (.sub 24 3,[.sym 20,.sym 30,.sym 30],.sl 1 []),
  (.bin .sub 3,[.sym 32,.int .i64 (0)],.sym 32),
  (.len 9,[.sym 1],.sym 33),
  (.bin .add 3,[.sym 33,.int .i64 (1)],.sym 34),
  (.bin .add 3,[.int .i64 (0),.sym 34],.sym 34),
  (.bin .add 3,[.sym 32,.sym 34],.sym 35),
  (.bin .gtr 3,[.sym 35,.int .i64 (4096)],.bool false),
  (.bin .eql 3,[.sym 30,.sym 30],.bool true),
  (.bin .sub 3,[.sym 32,.int .i64 (1)],.sym 31),
  (.bin .sub 3,[.sym 31,.sym 31],.int .i64 (0)),
  (.bin .add 9,[.str [10],.sym 1],.sym 4)]
@[reducible] def sRapp (F A A1 s txt:Tb.Bs) (ls:List Tb.Bs) (l0 l1:List Pc) (t0 t1:List Int) (k n sl size off ed:Int):Syms:=
 mkS [.nls,.str s,.nls,.str txt,.str txt,.nls,.nls,.nls,.nls,.nls,.str F,.nls,.nls,.nls,.nls,.nls,.nls,.nls,.nls,.nls,.sl 1 (ls.map .str),.nls,.nls,.nls,.nls,.nls,.nls,.nls,.nls,.nls,.int .i64 (n),.int .i64 (size),.int .i64 (size+1),.int .i64 (sl),.int .i64 (sl+1),.int .i64 (sl+size+2),.int .i64 (ed),.int .i64 (sl+size+1),.int .i64 (ed+1)]
  [⟨5,1,ofBytes A⟩,⟨209,3,l0.map aPc⟩,⟨3,1,t0.map bInt⟩,⟨3,1,[]⟩,⟨5,1,ofBytes A1⟩,⟨209,3,l1.map aPc⟩,⟨3,1,[]⟩,⟨3,1,[]⟩,⟨3,1,t1.map bInt⟩] [A.length,l0.length,t0.length,0,A1.length,l1.length,0,0,t1.length] appTbl rfl (tameIns A A1 l0 l1 t0 t1)
set_option maxRecDepth 100000 in
theorem sRapp_tbl (F A A1 s txt:Tb.Bs)(ls:List Tb.Bs)(l0 l1:List Pc)(t0 t1:List Int)(k n sl size off ed:Int)(h1:0<n∧n≤60000)(hs1:(s.length:Int)=sl)(h3:0≤off∧off≤size∧size+sl≤4094)(h4:0≤ed∧ed≤60000)
 (hsub:opkV Tryz.prog (.sub 24 3) [.sl 1 (ls.map .str),.int .i64 n,.int .i64 n]=some (.sl 1 [])) (hcat:opkV Tryz.prog (.bin .add 9) [.str [10],.str s]=some (.str txt)): @TblOK (sRapp F A A1 s txt ls l0 l1 t0 t1 k n sl size off ed) Tryz.prog:=by
 letI:=sRapp F A A1 s txt ls l0 l1 t0 t1 k n sl size off ed
 have hs0:0≤sl:=by omega
 refine tblOK_of fun r hr=>?_
 change r∈appTbl at hr
 simp only[appTbl,Qf,Qe,or_false] at hr
 rcases hr with rfl | rfl | rfl | rfl | rfl | rfl | rfl | rfl | rfl | rfl | rfl | rfl | rfl | rfl | rfl | rfl | rfl
 ·exact row_lss (P:=Tryz.prog) (n) (0) false (decide_eq_false (by omega))
 ·exact row_gtr (P:=Tryz.prog) (n) (n) false (decide_eq_false (by omega))
 ·exact row_sub (P:=Tryz.prog) (n) (n) (0) (by omega) (by omega) (by omega)
 ·exact row_eql (P:=Tryz.prog) (0) (n) false (beq_eq_false_iff_ne.2 (by omega))
 ·exact row_add (P:=Tryz.prog) (size) (1) (size+1) (by omega) (by omega) (by omega)
 ·exact row_add (P:=Tryz.prog) (n) (0) (n) (by omega) (by omega) (by omega)
 ·exact hsub
 ·exact row_sub (P:=Tryz.prog) (size+1) (0) (size+1) (by omega) (by omega) (by omega)
 ·exact row_lenS (P:=Tryz.prog) tkT9 s _ hs1
 ·exact row_add (P:=Tryz.prog) (sl) (1) (sl+1) (by omega) (by omega) (by omega)
 ·exact row_add (P:=Tryz.prog) (0) (sl+1) (sl+1) (by omega) (by omega) (by omega)
 ·exact row_add (P:=Tryz.prog) (size+1) (sl+1) (sl+size+2) (by omega) (by omega) (by omega)
 ·exact row_gtr (P:=Tryz.prog) (sl+size+2) (4096) false (decide_eq_false (by omega))
 ·exact row_eql (P:=Tryz.prog) (n) (n) true (beq_iff_eq.2 (by omega))
 ·exact row_sub (P:=Tryz.prog) (size+1) (1) (size) (by omega) (by omega) (by omega)
 ·exact row_sub (P:=Tryz.prog) (size) (size) (0) (by omega) (by omega) (by omega)
 ·exact hcat
set_option maxRecDepth 100000 in
theorem calls_Rapp [S:Syms] (F A s:Tb.Bs)(L:List Tb.Pc)(ls:List Tb.Bs)(edits:Int)(h:BufOK F A L ls)(hold:∀p∈L,p.added=false)(he:0≤edits∧edits≤60000)(hsn:(10:UInt8)∉s)(hfit:(Tb.joinL ls).length+s.length≤4094) :
 CallsR Tryz.prog 208 [.ptr 0 2 1 0 0,.int .i64 ls.length,.int .i64 0,.own 8 1 1] (bH F A (pcs L) ((Tb.joinL ls).length:Nat) edits (cN (Tb.starts (Tb.joinL ls))) ++ [.arr 9 1 [.str s]]) (.int .i64 0)
  (bHV F (A ++ (10 :: s)) (pcs (insQ A.length (Tb.joinL ls).length (s.length+1) L)) ((Tb.joinL (ls ++ [s])).length:Nat) (edits+1) (cN (Tb.starts (Tb.joinL (ls ++ [s])))) s):=by
 have hlen:=Tb.starts_len h.clean h.ne
 have hsp:splitL (Tb.joinL ls)=ls:=split_join ls h.clean h.ne
 have hjn:Tb.joinL (ls ++ [s])=(Tb.joinL ls).take (Tb.joinL ls).length ++ ((10 :: s)) ++ (Tb.joinL ls).drop (Tb.joinL ls).length:=Tb.ins_last s h.ne
 have hole:(Tb.joinL ls).length≤(Tb.joinL ls).length:=Q8 _
 obtain⟨T,hT⟩:∃T,T=Tb.joinL ls:=⟨_,rfl⟩
 obtain⟨T1,hT1⟩:∃T1,T1=Tb.joinL (ls ++ [s]):=⟨_,rfl⟩
 have hw:=h.whole
 have hTl:=h.hT
 have hjl:=join_len ls h.ne
 rw[←hT1] at hjn
 rw[←hT1]
 rw[←hT] at hw hTl hlen hsp hjn hole hfit hjl ⊢
 obtain⟨txt,htxt⟩:∃txt,txt=(10 :: s):=⟨_,rfl⟩
 have htl:txt.length=s.length+1:=by rw[htxt];simp
 rw[←htxt] at hjn ⊢
 have hT1l:T1.length=T.length+(s.length+1):=by rw[hjn];simp only[Qb,Qc,Qg,htl];omega
 have hpos:0<ls.length:=Qm.2 h.ne
 have hcl:(cN (Tb.starts T)).length=ls.length:=by rw[cN_len,hlen]
 let S1:=sRapp F A (A ++ txt) s txt ls (pcs L) (pcs (insQ A.length T.length (s.length+1) L)) (cN (Tb.starts T)) (cN (Tb.starts T1)) 0 ls.length s.length T.length T.length edits
 have q265:= @calls_Len_int S1 (cN (Tb.starts T))
 rw[hcl] at q265
 have q133:= @calls_Contains S1 s hsn
 have q67:= @calls_Lines S1 F A L edits (cN (Tb.starts T)) h.fit (by have:=h.hF;omega) (by have:=h.hA;omega) (by have:=h.hL;omega) (by rw[hw];omega)
 rw[hw,hsp] at q67
 have q266:= @calls_At_int S1 (cN (Tb.starts T)) ls.length (by rw[hcl];omega)
 rw[if_neg (fun hh=>by rw[hcl] at hh;omega),decide_eq_false (show ¬((0:Int)≤ls.length∧(ls.length:Int)< ((cN (Tb.starts T)).length:Int)) from fun hh=>by rw[hcl] at hh;omega)] at q266
 have q184:= @calls_reaches S1 F A (pcs L) T.length 4095 edits T.length 0 (by omega) (by omega)
 rw[show(decide ((0:Int)≤T.length) && (decide ((0:Int)≤0) && (decide ((T.length:Int)≤T.length) && decide ((0:Int)≤(T.length:Int) - T.length))))=true by simp only[Qx,decide_eq_true_eq];omega] at q184
 have q351:= @calls_IDel0 S1 T T.length hole (by omega)
 have q352:= @calls_TInsQ S1 F A txt L edits T.length h.fit hold h.hF h.hA h.hL (by intro e;rw[e] at htl;simp at htl) (by rw[hw,htl];omega) (by rw[hw];exact hole) he
 rw[hw,htl] at q352
 have q140:= @calls_IIns S1 T txt T.length hole (by omega) (by omega) (by omega)
 rw[←hjn] at q140
 have f2:(T1.length:Int)=(s.length:Int)+T.length+1:=by omega
 have f3:(T.length:Int)+((s.length+1:Nat):Int)=(s.length:Int)+T.length+1:=by omega
 rw[f2] at q140
 rw[f3] at q352
 have f4:(T.length:Int)=(T.length:Int):=by omega
 have hrun: @evF S1 Tryz.prog (@Lf.rows [⟨265,[.ptr 0 1 1 0 0],[.arr 288 1 [.agg [.ows 1 1 2]],.tok 2],.sym 30,[.arr 288 1 [.agg [.ows 1 1 2]],.tok 2]⟩,
  ⟨133,[.sym 1,.str [10]],[],.bool false,[]⟩,
  ⟨67,[.ptr 0 2 1 0 0],[.arr 146 2 [.agg [.ptr 1 6 1 0 0,.ptr 5 2 1 0 0]],.arr 211 6 [.agg [.sym 10,.ows 2 1 0,.ptr 3 1 1 0 0,.sym 31,.int .i64 (4095),.sym 36]],.tok 0,.arr 283 1 [.agg [.ows 4 3 1]],.tok 1,.arr 216 2 [.agg [.ptr 6 1 1 0 0,.sym 31]],.arr 288 1 [.agg [.ows 7 1 2]],.tok 2],.sym 20,[.arr 146 2 [.agg [.ptr 1 6 1 0 0,.ptr 5 2 1 0 0]],.arr 211 6 [.agg [.sym 10,.ows 2 1 0,.ptr 3 1 1 0 0,.sym 31,.int .i64 (4095),.sym 36]],.tok 0,.arr 283 1 [.agg [.ows 4 3 1]],.tok 1,.arr 216 2 [.agg [.ptr 6 1 1 0 0,.sym 31]],.arr 288 1 [.agg [.ows 7 1 2]],.tok 2]⟩,
  ⟨266,[.ptr 0 1 1 0 0,.sym 30],[.arr 288 1 [.agg [.ows 1 1 2]],.tok 2],.tuple [.int .i64 (0),.bool false],[.arr 288 1 [.agg [.ows 1 1 2]],.tok 2]⟩,
  ⟨184,[.ptr 0 6 1 0 0,.sym 31,.int .i64 (0)],[.arr 211 6 [.agg [.sym 10,.ows 1 1 0,.ptr 2 1 1 0 0,.sym 31,.int .i64 (4095),.sym 36]],.tok 0,.arr 283 1 [.agg [.ows 3 3 1]],.tok 1],.bool true,[.arr 211 6 [.agg [.sym 10,.ows 1 1 0,.ptr 2 1 1 0 0,.sym 31,.int .i64 (4095),.sym 36]],.tok 0,.arr 283 1 [.agg [.ows 3 3 1]],.tok 1]⟩,
  ⟨351,[.ptr 0 2 1 0 0,.sym 31,.int .i64 (0)],[.arr 216 2 [.agg [.ptr 1 1 1 0 0,.sym 31]],.arr 288 1 [.agg [.ows 2 1 2]],.tok 2],.bool true,[.arr 216 2 [.agg [.ptr 1 1 1 0 0,.sym 31]],.arr 288 1 [.agg [.ows 2 1 2]],.tok 2]⟩,
  ⟨352,[.ptr 0 6 1 0 0,.sym 31,.sym 4],[.arr 211 6 [.agg [.sym 10,.ows 1 1 0,.ptr 2 1 1 0 0,.sym 31,.int .i64 (4095),.sym 36]],.tok 0,.arr 283 1 [.agg [.ows 3 3 1]],.tok 1],.int .i64 (0),[.arr 211 6 [.agg [.sym 10,.ows 1 1 4,.ptr 2 1 1 0 0,.sym 37,.int .i64 (4095),.sym 38]],.tok 4,.arr 283 1 [.agg [.ows 4 3 5]],.dead,.tok 5]⟩,
  ⟨140,[.ptr 0 2 1 0 0,.sym 31,.sym 4],[.arr 216 2 [.agg [.ptr 1 1 1 0 0,.sym 31]],.arr 288 1 [.agg [.ows 2 1 2]],.tok 2],.bool true,[.arr 216 2 [.agg [.ptr 1 1 1 0 0,.sym 37]],.arr 288 1 [.agg [.ows 3 1 8]],.dead,.tok 8]⟩] Ln) 40 208 [.ptr 0 2 1 0 0,.sym 30,.int .i64 (0),.own 8 1 1] ([.arr 146 2 [.agg [.ptr 1 6 1 0 0,.ptr 5 2 1 0 0]],.arr 211 6 [.agg [.sym 10,.ows 2 1 0,.ptr 3 1 1 0 0,.sym 31,.int .i64 (4095),.sym 36]],.tok 0,.arr 283 1 [.agg [.ows 4 3 1]],.tok 1,.arr 216 2 [.agg [.ptr 6 1 1 0 0,.sym 31]],.arr 288 1 [.agg [.ows 7 1 2]],.tok 2,.arr 9 1 [.sym 1]])= .ok (.int .i64 (0),[.arr 146 2 [.agg [.ptr 1 6 1 0 0,.ptr 5 2 1 0 0]],.arr 211 6 [.agg [.sym 10,.ows 2 1 4,.ptr 3 1 1 0 0,.sym 37,.int .i64 (4095),.sym 38]],.tok 4,.arr 283 1 [.agg [.ows 9 3 5]],.dead,.arr 216 2 [.agg [.ptr 6 1 1 0 0,.sym 37]],.arr 288 1 [.agg [.ows 10 1 8]],.dead,.arr 9 1 [.sym 1],.tok 5,.tok 8]):=by kernel_rfl
 have hsub:opkV Tryz.prog (.sub 24 3) [.sl 1 (ls.map .str),.int .i64 (ls.length:Int),.int .i64 (ls.length:Int)]=some (.sl 1 []):= @row_sl3 S1 Tryz.prog 24 9 1 tkT24 (ls.map .str) [] (ls.length:Int) (ls.length:Int) ⟨by omega,by omega,by rw[Qa];omega⟩ (by rw[Q7];rfl)
 have hcat:opkV Tryz.prog (.bin .add 9) [.str [10],.str s]=some (.str txt):= @row_cat S1 Tryz.prog 9 [10] s txt (by first | (rw[htxt];done) | (rw[htxt];rfl)) (by simp;omega)
 have h2:= @run_rows S1 _ _ _ (@Ln_ok S1 _ (sRapp_tbl F A (A ++ txt) s txt ls _ _ _ _ 0 ls.length s.length T.length T.length edits (by omega) rfl (by omega) he hsub hcat)) (fun c hc=>by
  simp only[Qf,Qe,or_false] at hc
  rcases hc with rfl | rfl | rfl | rfl | rfl | rfl | rfl | rfl
  ·exact q265
  ·exact q133
  ·exact q67
  ·exact q266
  ·exact q184
  ·exact q351
  ·exact q352
  ·exact q140) mixed _ _ _ _ _ _ hrun
 rw[f2]
 exact tr_calls S1 S (by simp [ntL,nt]) (nt_bH1 _ _ _ _ _ _ _) (by simp [nt]) (@nt_bHV S1 _ _ _ _ _ _ _) h2
end Go.Pg
namespace Go.Pg
open Go Go.Proofs Go.RowKit
variable [Syms]
theorem calls_Join (l:Ls)(sep:List UInt8)(h1:l.length≤140737488355328)(h2:(Lib.join l sep).length≤140737488355328) :
 CallsR Tryz.prog 75 [.sl 1 (l.map .str),.str sep] [] (.str (Lib.join l sep)) []:=by
 refine callsR_below fun E vals hv=>?_
 obtain⟨u,v,rfl,k1,k2⟩:=hv.two
 obtain⟨S,rfl,hS⟩:∃S:ByteArray,v= .string S∧S.data.toList=sep:=by
  generalize hx:AV.str sep=x at k2
  cases k2 with
  | str S=>exact⟨S,rfl,(AV.str.inj hx).symm⟩
  | _=>cases hx
 generalize hx:AV.sl 1 (l.map .str)=x at k1
 cases k1 with
 | sl _ vs a cap f c1 c2 c3=>
  obtain⟨rfl,rfl⟩:=AV.sl.inj hx
  have hlen:(l.map AV.str).length=l.length:=Qa ..
  rw[hlen] at c1 ⊢
  cases l with
  | nil=>
   refine(Tryz.strings_Join_none a cap S E.W).mono fun e W' ⟨g1,g2⟩=>?_
   subst g2
   exact⟨⟨_,g1,fun E'=> .str ⟨#[]⟩⟩,Below.refl _ _⟩
  | cons s r=>
   obtain⟨_,b,o,rfl,hst,_⟩:=c2 0 (.str s) rfl
   have hcell:∀(j:Nat) x,((s :: r).map fun t:List UInt8=>(⟨t.toArray⟩:ByteArray))[j]? =some x→E.W.cell? ⟨b,o+j,none⟩=some (.string x):=by
    intro j x hj
    rw[Qu] at hj
    cases ht:(s :: r)[j]? with
    | none=>rw[ht] at hj;cases hj
    | some t=>
     rw[ht] at hj
     cases hj
     have hm:((s :: r).map AV.str)[j]? =some (.str t):=by rw[Qu,ht];rfl
     obtain⟨_,b2,o2,e2,_,hc⟩:=c2 j _ hm
     cases e2
     have hcc:=hc 0 (by omega)
     have hvp:=c3 j _ 0 (.str t) hm rfl
     generalize hf:f j 0=fv at hvp hcc
     generalize hy:AV.str t=y at hvp
     cases hvp with
     | str T=>
      have:t=T.data.toList:=AV.str.inj hy
      subst this
      simpa using hcc
     | _=>cases hy
   have hbk:b<E.W.heap.size:=by
    have:=hcell 0 ⟨s.toArray⟩ rfl
    unfold World.cell? at this
    rcases Q5 b E.W.heap.size with h | h
    ·exact h
    ·rw[Array.getElem?_eq_none (by simpa using h)] at this
     simp at this
   have hmm:((s :: r).map fun t:List UInt8=>(⟨t.toArray⟩:ByteArray)).map (fun x=>x.data.toList)=s :: r:=by simp [Function.comp_def]
   have hxl:((s :: r).map fun t:List UInt8=>(⟨t.toArray⟩:ByteArray)).length=(s :: r).length:=Qa ..
   have hj:=Tryz.strings_Join b o cap ((s :: r).map fun t:List UInt8=>(⟨t.toArray⟩:ByteArray)) S E.W hcell hbk (by rw[hxl];exact h1) (by rw[hxl];exact c1) (by rw[hmm,hS];exact h2)
   rw[hxl,hmm,hS] at hj
   refine hj.mono fun e W' ⟨g1,g2⟩=>⟨⟨_,g1,fun E'=>?_⟩,g2⟩
   have:=VR.str (E:=E') ⟨(Lib.join (s :: r) sep).toArray⟩
   simpa using this
 | _=>cases hx
def kContClean:C1:=C1.by [.id,.id] (lCons cStr (lOne cStr)) (fun d=>(10:UInt8)∉d.1∧d.2=[10]) (fun _=> .bool false) (fun _=>[])
theorem ok_ContClean:C1OK Tryz.prog 133 kContClean:=C1OK.by (by kernel_rfl) (fun d h=>by
 obtain⟨s,t⟩:=d
 obtain⟨h1,h2⟩:=h
 simp only at h1 h2
 subst h2
 exact calls_Contains s h1) (fun _=>rfl) (fun _=>rfl)
theorem calls_broken1 (s:List UInt8)(h:(10:UInt8)∉s):CallsR Tryz.prog 132 [.str s] [] (.bool false) []:=by
 refine callsR_of (mrg:=true) (dyn:=[]) (CtrOK.cons ok_ContClean (CtrOK.nil _)) mixed Tryz.func132 rfl (by simp [Tryz.ntmps132,AV.cells]) (by kernel_rfl) ?_
 rw[show Tryz.f132.results.toList=[.tmp 2] from by kernel_rfl]
 simp (maxSteps:=4000000) only[go_sem,seval,kContClean]
 exact h
def kBroken1:C1:=C1.by [.id] (lOne cStr) (fun s=>(10:UInt8)∉s) (fun _=> .bool false) (fun _=>[])
theorem ok_broken1:C1OK Tryz.prog 132 kBroken1:=C1OK.by (by kernel_rfl) (fun d h=>calls_broken1 d h) (fun _=>rfl) (fun _=>rfl)
theorem clean_getD {ls:Ls}(h:Tb.clean ls)(i:Nat):(10:UInt8)∉ls.getD i []:=by
 rw[Qd]
 cases hh:ls[i]? with
 | none=>simp
 | some s=>exact h s (Qz hh)
set_option maxRecDepth 20000 in
set_option maxHeartbeats 4000000 in
theorem calls_IndexBroken (ls:Ls)(hl:ls.length≤140737488355328)(hc:Tb.clean ls):CallsR Tryz.prog 191 [.sl 1 (ls.map .str),.fn 132 []] [] (.int .i64 (-1)) []:=by
 refine callsR_of (mrg:=true) (dyn:=[]) (CtrOK.cons ok_broken1 (CtrOK.nil _)) mixed Tryz.func191 rfl (by simp [Tryz.ntmps191,AV.cells]) (by kernel_rfl) ?_
 rw[show Tryz.f191.results.toList=[.tmp 4] from by kernel_rfl]
 simp (maxSteps:=4000000) only[go_sem,seval,kBroken1]
 refine loopH_intro (α:=Nat) (fun i=>([(0,.sl 1 (ls.map .str)),(1,.fn 132 []),(7,.int .i64 ls.length),(8,.int .i64 i)],[])) (fun i=>i≤ls.length) (fun i=>ls.length - i) 0 (by simp) ?_ ?_
 ·simp (maxSteps:=4000000) only[go_sem,seval,kBroken1]
 intro i hi
 by_cases hlt:i<ls.length
 ·have hct:decide ((i:Int)< (ls.length:Int))=true:=decide_eq_true (by omega)
  have hb:=clean_getD hc i
  simp (maxSteps:=4000000) only[go_sem,seval,kBroken1,hct]
  exact⟨⟨by omega,hlt⟩,hb,i+1,by omega,by omega,by rw[wrap64 (by omega) (by omega)];rfl⟩
 ·have hcf:decide ((i:Int)< (ls.length:Int))=false:=decide_eq_false (by omega)
  simp (maxSteps:=4000000) only[go_sem,seval,kBroken1,hcf]
def kIndexBroken:C1:=C1.by [.sl 1 [],.id] (lCons cStrs (lOne (cFn 132 lNil))) (fun d=>d.1.length≤140737488355328∧Tb.clean d.1) (fun d=> .int .i64 (-1)) (fun _=>[])
theorem ok_IndexBroken:C1OK Tryz.prog 191 kIndexBroken:=C1OK.by (by kernel_rfl) (fun d h=>calls_IndexBroken d.1 h.1 h.2) (fun _=>rfl) (fun _=>rfl)
theorem calls_ContainsBroken (ls:Ls)(hl:ls.length≤140737488355328)(hc:Tb.clean ls):CallsR Tryz.prog 131 [.sl 1 (ls.map .str),.fn 132 []] [] (.bool false) []:=by
 refine callsR_of (mrg:=true) (dyn:=[]) (CtrOK.cons ok_IndexBroken (CtrOK.nil _)) mixed Tryz.func131 rfl (by simp [Tryz.ntmps131,AV.cells]) (by kernel_rfl) ?_
 rw[show Tryz.f131.results.toList=[.tmp 4] from by kernel_rfl]
 simp (maxSteps:=4000000) only[go_sem,seval,kIndexBroken]
 exact⟨hl,hc⟩
def kContainsBroken:C1:=C1.by [.sl 1 [],.id] (lCons cStrs (lOne (cFn 132 lNil))) (fun d=>d.1.length≤140737488355328∧Tb.clean d.1) (fun d=> .bool false) (fun _=>[])
theorem ok_ContainsBroken:C1OK Tryz.prog 131 kContainsBroken:=C1OK.by (by kernel_rfl) (fun d h=>calls_ContainsBroken d.1 h.1 h.2) (fun _=>rfl) (fun _=>rfl)
theorem calls_broken (ls:Ls)(hl:ls.length≤140737488355328)(hc:Tb.clean ls):CallsR Tryz.prog 73 [.sl 1 (ls.map .str)] [] (.bool false) []:=by
 refine callsR_of (mrg:=true) (dyn:=[]) (CtrOK.cons ok_ContainsBroken (CtrOK.nil _)) mixed Tryz.func73 rfl (by simp [Tryz.ntmps73,AV.cells]) (by kernel_rfl) ?_
 rw[show Tryz.f73.results.toList=[.tmp 2] from by kernel_rfl]
 simp (maxSteps:=4000000) only[go_sem,seval,kContainsBroken]
 exact⟨hl,hc⟩
theorem calls_TSize (ls:Ls)(hs:few ls):CallsR Tryz.prog 74 [.sl 1 (ls.map .str)] [] (.int .i64 (size ls)) []:=by
 refine callsR_of (mrg:=true) (dyn:=[]) (CtrOK.nil _) mixed Tryz.func74 rfl (by simp [Tryz.ntmps74,AV.cells]) (by kernel_rfl) ?_
 rw[show Tryz.f74.results.toList=[.tmp 2] from by kernel_rfl]
 simp (maxSteps:=4000000) only[go_sem,seval]
 have hl:=hs.1
 have hz:∀i:Nat,i≤ls.length→0≤size (ls.take i)∧size (ls.take i)≤1099512676352:=fun i hi=>by
  have:=size_le ls 1048576 hs.2 i hi
  have h2:(i:Int) * (((1048576:Nat):Int)+1)≤1048576 * 1048577:=by
   refine Int.mul_le_mul (by omega) (by omega) (by omega) (by omega)
  omega
 refine loopH_intro (α:=Nat) (fun i=>([(2,.int .i64 0),(3,.int .i64 (size (ls.take i))),(6,.sl 1 (ls.map .str)),(7,.int .i64 ls.length),(8,.int .i64 i)],[])) (fun i=>i≤ls.length) (fun i=>ls.length - i) 0 ?_ ?_ ?_
 ·simp
 ·simp (maxSteps:=4000000) only[go_sem,seval]
  all_goals simp [size]
 ·intro i hi
  simp (maxSteps:=4000000) only[go_sem,seval]
  have h1:=hz i hi
  refine⟨fun h=>⟨⟨by omega,by omega⟩,i+1,by omega,by omega,?_⟩,fun h=>?_⟩
  ·have h2:=hs.2 i
   rw[size_take ls i (by omega),wrap64 (n:=((ls.getD i []).length:Int)+1) (by omega) (by omega),wrap64 (by omega) (by omega),wrap64 (by omega) (by omega)]
   simp
  ·have:i=ls.length:=by omega
   subst this
   rw[List.take_length]
end Go.Pg
namespace Go.Pg
open Go Go.Proofs
theorem CallsR.nlsArg [Syms] {P:Program}{f:FuncId}{z:Nat}{H H':AH}{r:AV}(h:CallsR P f [.sl z []] H r H'):CallsR P f [.nls] H r H':=by
 intro E vals hr hv
 obtain⟨h1,h2⟩:=hv
 refine h E vals hr ⟨h1,fun i c hc=>?_⟩
 match i,hc with
 | i+1,hc=>simp at hc
 | 0,hc=>
  cases hc
  have:=h2 0 _ rfl
  generalize vals.getD 0 Go.undef=u at this
  cases this
  exact .sl z [] none 0 (fun _ _=>Go.undef) (Q8 _) (fun i v hi=>by simp at hi) (fun i v j c hi=>by simp at hi)
theorem join_joinL:∀(ls:List Tb.Bs),ls≠[]→Lib.join ls [10]=Tb.joinL ls
 | [],h=>absurd rfl h
 | [s],_=>by rw[Lib.join_cons];simp [Lib.joinTail,Tb.joinL]
 | s :: t :: r,_=>by
  have ih:=join_joinL (t :: r) (by simp)
  rw[Lib.join_cons] at ih ⊢
  rw[show Tb.joinL (s :: t :: r)=s ++ 10 :: Tb.joinL (t :: r) from rfl,←ih]
  simp [Lib.joinTail]
theorem size_joinL:∀(ls:List Tb.Bs),ls≠[]→size ls=((Tb.joinL ls).length:Int)+1
 | [],h=>absurd rfl h
 | [s],_=>by simp [size,Tb.joinL]
 | s :: t :: r,_=>by
  have ih:=size_joinL (t :: r) (by simp)
  have e:size (s :: t :: r)=(s.length:Int)+1+size (t :: r):=by simp [size]
  rw[e,ih,show Tb.joinL (s :: t :: r)=s ++ 10 :: Tb.joinL (t :: r) from rfl]
  simp only[Qb,Qk]
  omega
theorem few_join:∀(ls:List Tb.Bs),ls≠[]→∀i,(ls.getD i []).length≤(Tb.joinL ls).length
 | [],h,_=>absurd rfl h
 | [s],_,0=>by simp [Tb.joinL]
 | [s],_,i+1=>by simp
 | s :: t :: r,_,0=>by rw[show Tb.joinL (s :: t :: r)=s ++ 10 :: Tb.joinL (t :: r) from rfl];simp
 | s :: t :: r,_,i+1=>by
  have ih:=few_join (t :: r) (by simp) i
  rw[show Tb.joinL (s :: t :: r)=s ++ 10 :: Tb.joinL (t :: r) from rfl]
  simp only[Qb,Qk,List.getD_cons_succ] at ih ⊢
  omega
abbrev bHN0 (F:Tb.Bs)(l:List Pc)(size:Int)(ts:List Int):AH:=
 [.arr 146 2 [.agg [.ptr 1 6 1 0 0,.ptr 4 2 1 0 0]],
  .arr 211 6 [.agg [.str F,.nls,.ptr 2 1 1 0 0,.int .i64 size,.int .i64 4095,.int .i64 0]],
  .arr 283 1 [.agg [.own 3 3 l.length]],.arr 209 3 (l.map aPc),
  .arr 216 2 [.agg [.ptr 5 1 1 0 0,.int .i64 size]],.arr 288 1 [.agg [.own 6 1 ts.length]],.arr 3 1 (ts.map bInt)]
abbrev bHN (F:Tb.Bs)(l:List Pc)(size:Int)(ts:List Int):AH:=
 [.arr 146 2 [.agg [.ptr 1 6 1 0 0,.ptr 4 2 1 0 0]],
  .arr 211 6 [.agg [.str F,.own 7 1 0,.ptr 2 1 1 0 0,.int .i64 size,.int .i64 4095,.int .i64 0]],
  .arr 283 1 [.agg [.own 3 3 l.length]],.arr 209 3 (l.map aPc),
  .arr 216 2 [.agg [.ptr 5 1 1 0 0,.int .i64 size]],.arr 288 1 [.agg [.own 6 1 ts.length]],.arr 3 1 (ts.map bInt),.arr 5 1 []]
theorem nt_bHN0 [Syms] (F:Tb.Bs)(l:List Pc)(size:Int)(ts:List Int):ntH (bHN0 F l size ts)=true:=by
 simp [ntH,ntO,ntL,nt,nt_bytes,nt_pcs,nt_bints]
def newTbl:List (OpK×List AV×AV):=
 [(.len 24,[.sym 0],.sym 1),(.bin .eql 3,[.sym 1,.int .i64 0],.bool false),(.bin .gtr 3,[.sym 2,.int .i64 4096],.bool false),(.len 9,[.sym 3],.sym 4),(.bin .gtr 3,[.sym 4,.int .i64 4095],.bool false),(.bin .neq 9,[.sym 3,.str []],.bool true)]
theorem tameNew (t0:List Int):tameAs [⟨3,1,t0.map bInt⟩]=true:=by
 simp only[tameAs,Qo,Qt,tame_bints,Qp]
@[reducible] def sNew (F:Tb.Bs) (ls:List Tb.Bs) (n m size:Int) (t0:List Int):Syms:=
 mkS [.sl 1 (ls.map .str),.int .i64 n,.int .i64 m,.str F,.int .i64 size] [⟨3,1,t0.map bInt⟩] [t0.length] newTbl rfl (tameNew t0)
theorem row_len24 [Syms] (ls:List Tb.Bs)(c:Int)(h:(ls.length:Int)=c):opkV Tryz.prog (.len 24) [.sl 1 (ls.map .str)]=some (.int .i64 c):=by
 simp only[opkV,tkT24,slen,Qa,Option.map_some,h]
theorem row_neqS [Syms] {P:Program}{t:TypeId}(a b:List UInt8)(c:Bool)(h:(a !=b)=c):opkV P (.bin .neq t) [.str a,.str b]=some (.bool c):=by
 show strO .neq a b=_
 simp only[strO]
 rw[show(!a == b)=(a !=b) from rfl,h]
theorem sNew_tbl (F:Tb.Bs)(ls:List Tb.Bs)(n m size:Int)(t0:List Int)(h1:(ls.length:Int)=n)(h2:0<n)(h3:m≤4096)(h4:(F.length:Int)=size)(h5:size≤4095)(h6:F≠[]): @TblOK (sNew F ls n m size t0) Tryz.prog:=by
 letI:=sNew F ls n m size t0
 refine tblOK_of fun r hr=>?_
 change r∈newTbl at hr
 simp only[newTbl,Qf,Qe,or_false] at hr
 rcases hr with rfl | rfl | rfl | rfl | rfl | rfl
 ·exact row_len24 ls n h1
 ·exact row_eql (P:=Tryz.prog) n 0 false (beq_eq_false_iff_ne.2 (by omega))
 ·exact row_gtr (P:=Tryz.prog) m 4096 false (decide_eq_false (by omega))
 ·exact row_lenS (P:=Tryz.prog) tkT9 F size h4
 ·exact row_gtr (P:=Tryz.prog) size 4095 false (decide_eq_false (by omega))
 ·exact row_neqS (P:=Tryz.prog) F [] true (bne_iff_ne.2 h6)
theorem calls_BNew [S:Syms] (ls:List Tb.Bs)(hn:ls≠[])(hc:Tb.clean ls)(hj:Tb.joinL ls≠[])(hl:(Tb.joinL ls).length≤4095) :
 CallsR Tryz.prog 45 [.sl 1 (ls.map .str)] [] (.tuple [.ptr 0 2 1 0 0,.int .i64 0]) (bHN (Tb.joinL ls) [(false,0,((Tb.joinL ls).length:Int))] (Tb.joinL ls).length (cN (Tb.starts (Tb.joinL ls)))):=by
 have hjl:=join_len ls hn
 have hpos:0<ls.length:=Qm.2 hn
 obtain⟨T,hT⟩:∃T,T=Tb.joinL ls:=⟨_,rfl⟩
 rw[←hT] at hj hl hjl ⊢
 let S1:=sNew T ls ls.length ((T.length:Int)+1) T.length (cN (Tb.starts T))
 have q73:= @calls_broken S1 ls (by omega) hc
 have hfw:few ls:=⟨by omega,fun i=>by have:=few_join ls hn i;rw[←hT] at this;omega⟩
 have q74:= @calls_TSize S1 ls hfw
 rw[size_joinL ls hn,←hT] at q74
 have q75:= @calls_Join S1 ls [10] (by omega) (by rw[join_joinL ls hn,←hT];omega)
 rw[join_joinL ls hn,←hT] at q75
 have q195:= @CallsR.nlsArg S1 _ _ _ _ _ _ (@calls_CloneP0 S1 [] (by decide))
 have q138:= @calls_VInsP S1 [] [(false,0,(T.length:Int))] 0 (by simp) (by simp) (by simp)
 have q197:= @calls_CloneI S1 [0] (by decide)
 have q140:= @calls_IIns S1 [] T 0 (by decide) (by decide) (by omega) (by simp;omega)
 rw[show([]:Tb.Bs).take 0 ++ T ++ ([]:Tb.Bs).drop 0=T by simp] at q140
 have hrun: @evF S1 Tryz.prog (@Lf.rows [⟨73,[.sym 0],[],.bool false,[]⟩,⟨74,[.sym 0],[],.sym 2,[]⟩,⟨75,[.sym 0,.str [10]],[],.sym 3,[]⟩,⟨195,[.nls],[],.own 0 3 0,[.arr 209 3 []]⟩,
  ⟨138,[.ptr 0 1 1 0 0,.int .i64 0,.own 2 3 1],[.arr 283 1 [.agg [.own 1 3 0]],.arr 209 3 [],.arr 209 3 [.agg [.bool false,.int .i64 0,.sym 4]]],.bool true,[.arr 283 1 [.agg [.own 3 3 1]],.dead,.arr 209 3 [.agg [.bool false,.int .i64 0,.sym 4]],.arr 209 3 [.agg [.bool false,.int .i64 0,.sym 4]]]⟩,
  ⟨197,[.own 0 1 1],[.arr 3 1 [.int .i64 0]],.own 1 1 1,[.arr 3 1 [.int .i64 0],.arr 3 1 [.int .i64 0]]⟩,
  ⟨140,[.ptr 0 2 1 0 0,.int .i64 0,.sym 3],[.arr 216 2 [.agg [.ptr 1 1 1 0 0,.int .i64 0]],.arr 288 1 [.agg [.own 2 1 1]],.arr 3 1 [.int .i64 0]],.bool true,[.arr 216 2 [.agg [.ptr 1 1 1 0 0,.sym 4]],.arr 288 1 [.agg [.ows 3 1 0]],.dead,.tok 0]⟩] Ln) 40 45 [.sym 0] []
  = .ok (.tuple [.ptr 0 2 1 0 0,.int .i64 0],[.arr 146 2 [.agg [.ptr 1 6 1 0 0,.ptr 4 2 1 0 0]],.arr 211 6 [.agg [.sym 3,.nls,.ptr 2 1 1 0 0,.sym 4,.int .i64 4095,.int .i64 0]],.arr 283 1 [.agg [.own 3 3 1]],.arr 209 3 [.agg [.bool false,.int .i64 0,.sym 4]],.arr 216 2 [.agg [.ptr 5 1 1 0 0,.sym 4]],.arr 288 1 [.agg [.ows 6 1 0]],.tok 0]):=by kernel_rfl
 have h2:= @run_rows S1 _ _ _ (@Ln_ok S1 _ (sNew_tbl T ls _ _ _ _ rfl (by omega) (by omega) rfl (by omega) hj)) (fun c hc=>by
  simp only[Qf,Qe,or_false] at hc
  rcases hc with rfl | rfl | rfl | rfl | rfl | rfl | rfl
  ·exact q73
  ·exact q74
  ·exact q75
  ·exact q195
  ·exact q138
  ·exact q197
  ·exact q140) mixed _ _ _ _ _ _ hrun
 have h3: @CallsR S Tryz.prog 45 [.sl 1 (ls.map .str)] [] (.tuple [.ptr 0 2 1 0 0,.int .i64 0]) (bHN0 T [(false,0,(T.length:Int))] T.length (cN (Tb.starts T))):=by
  refine tr_calls S1 S ?_ ?_ ?_ ?_ h2
  ·simp only[ntL,nt,Bool.and_true];exact ntL_map _ (fun _=>rfl) _
  ·rfl
  ·rfl
  ·exact @nt_bHN0 S1 _ _ _ _
 exact @CallsR.ownNil S _ _ _ _ _ _ 1 _ 1 _ _ 5 1 h3 rfl rfl
end Go.Pg
namespace Go.Pg
open Go Go.Proofs
theorem row_idx [Syms] (ls:List Tb.Bs)(i:Int)(s:Tb.Bs)(h:0≤i∧i.toNat<ls.length)(hs:ls.getD i.toNat []=s):opkV Tryz.prog (.idx 24) [.sl 1 (ls.map .str),.int .i64 i]=some (.rp [.str s]):=by
 simp only[opkV,tkT24,Qa]
 rw[if_pos ⟨h.1,h.2,trivial⟩]
 have e:(ls.map AV.str).getD i.toNat (dz Tryz.prog 9)= .str s:=by
  rw[Qd,Qu]
  rw[Qd,Qh h.2] at hs
  rw[Qh h.2]
  exact congrArg AV.str hs
 rw[e];rfl
theorem row_sl1 [Syms] (ls r:List Tb.Bs)(i:Int)(h:0≤i∧i≤ls.length)(hr:ls.drop i.toNat=r):opkV Tryz.prog (.sub 24 1) [.sl 1 (ls.map .str),.int .i64 i]=some (.sl 1 (r.map .str)):=by
 simp only[opkV,tkT24,sliceLO,Qa]
 rw[if_pos ⟨trivial,h.1,h.2⟩,←Qv,hr]
theorem row_sl2 [Syms] (ls r:List Tb.Bs)(i:Int)(h:0≤i∧i≤ls.length)(hr:ls.take i.toNat=r):opkV Tryz.prog (.sub 24 2) [.sl 1 (ls.map .str),.int .i64 i]=some (.sl 1 (r.map .str)):=by
 simp only[opkV,tkT24,sliceLO,Qa]
 rw[if_pos ⟨trivial,h.1,h.2⟩,←Xc,hr]
theorem row_s3 [Syms] (s:Tb.Bs)(n:Int)(h:(s.length:Int)=n):opkV Tryz.prog (.sub 9 3) [.str s,.int .i64 0,.int .i64 n]=some (.str s):=by
 subst h
 simp only[opkV,tkT9,sliceSO]
 rw[if_pos ⟨by omega,by omega,by omega⟩]
 simp [cutL]
theorem row_mn [Syms] {P:Program}(a b c:Int)(h:min a b=c):opkV P .mn [.int .i64 a,.int .i64 b]=some (.int .i64 c):=by
 subst h;rfl
theorem row_mx [Syms] {P:Program}(a b c:Int)(h:max a b=c):opkV P .mx [.int .i64 a,.int .i64 b]=some (.int .i64 c):=by
 subst h;rfl
theorem row_idxN [Syms] (ls:List Tb.Bs)(k:Nat)(s:Tb.Bs)(h:k<ls.length)(hs:ls.getD k []=s):opkV Tryz.prog (.idx 24) [.sl 1 (ls.map .str),.int .i64 k]=some (.rp [.str s]):=
 row_idx ls k s ⟨by omega,by omega⟩ (by rw[Qi];exact hs)
theorem row_idxS [Syms] (ls:List Tb.Bs)(k:Nat)(s:Tb.Bs)(h:k+1<ls.length)(hs:ls.getD (k+1) []=s):opkV Tryz.prog (.idx 24) [.sl 1 (ls.map .str),.int .i64 ((k:Int)+1)]=some (.rp [.str s]):=
 row_idx ls ((k:Int)+1) s ⟨by omega,by omega⟩ (by rw[show((k:Int)+1).toNat=k+1 by omega];exact hs)
theorem row_sl1N [Syms] (ls:List Tb.Bs)(k:Nat)(h:k≤ls.length):opkV Tryz.prog (.sub 24 1) [.sl 1 (ls.map .str),.int .i64 k]=some (.sl 1 ((ls.drop k).map .str)):=
 row_sl1 ls _ k ⟨by omega,by omega⟩ (by rw[Qi])
theorem row_sl1S [Syms] (ls:List Tb.Bs)(k:Nat)(h:k+1≤ls.length):opkV Tryz.prog (.sub 24 1) [.sl 1 (ls.map .str),.int .i64 ((k:Int)+1)]=some (.sl 1 ((ls.drop (k+1)).map .str)):=
 row_sl1 ls _ ((k:Int)+1) ⟨by omega,by omega⟩ (by rw[show((k:Int)+1).toNat=k+1 by omega])
theorem row_sl2N [Syms] (ls:List Tb.Bs)(k:Nat)(h:k≤ls.length):opkV Tryz.prog (.sub 24 2) [.sl 1 (ls.map .str),.int .i64 k]=some (.sl 1 ((ls.take k).map .str)):=
 row_sl2 ls _ k ⟨by omega,by omega⟩ (by rw[Qi])
theorem row_sl2S [Syms] (ls:List Tb.Bs)(k:Nat)(h:k+1≤ls.length):opkV Tryz.prog (.sub 24 2) [.sl 1 (ls.map .str),.int .i64 ((k:Int)+1)]=some (.sl 1 ((ls.take (k+1)).map .str)):=
 row_sl2 ls _ ((k:Int)+1) ⟨by omega,by omega⟩ (by rw[show((k:Int)+1).toNat=k+1 by omega])
theorem row_sl3L [Syms] (ls:List Tb.Bs)(k:Nat)(s:Tb.Bs)(h:k<ls.length)(hs:ls.getD k []=s):opkV Tryz.prog (.sub 24 3) [.sl 1 (ls.map .str),.int .i64 k,.int .i64 ((k:Int)+1)]=some (.sl 1 [.str s]):=
 row_sl3 tkT24 (ls.map .str) [.str s] k ((k:Int)+1) ⟨by omega,by omega,by rw[Qa];omega⟩ (by
  rw[Qi,show((k:Int)+1).toNat - k=1 by omega,←Qv,Tb.drop_line h,hs];rfl)
theorem row_sl3E [Syms] (ls:List Tb.Bs)(k:Int)(h:0≤k∧k≤ls.length):opkV Tryz.prog (.sub 24 3) [.sl 1 (ls.map .str),.int .i64 k,.int .i64 k]=some (.sl 1 []):=
 row_sl3 tkT24 (ls.map .str) [] k k ⟨by omega,by omega,by rw[Qa];omega⟩ (by rw[Q7];rfl)
abbrev bHL (F A:Tb.Bs)(L:List Tb.Pc)(ls:List Tb.Bs)(edits:Int):AH:=bH F A (pcs L) ((Tb.joinL ls).length:Nat) edits (cN (Tb.starts (Tb.joinL ls)))
theorem calls_LinesB [S:Syms] {F A:Tb.Bs}{L:List Tb.Pc}{ls:List Tb.Bs}(h:BufOK F A L ls)(edits:Int) :
 CallsR Tryz.prog 67 [.ptr 0 2 1 0 0] (bHL F A L ls edits) (.sl 1 (ls.map .str)) (bHL F A L ls edits):=by
 have q:=calls_Lines F A L edits (cN (Tb.starts (Tb.joinL ls))) h.fit (by have:=h.hF;omega) (by have:=h.hA;omega) (by have:=h.hL;omega) (by rw[h.whole];have:=h.hT;omega)
 rw[h.whole,split_join ls h.clean h.ne] at q
 exact q
theorem delP_small {L:List Tb.Pc}(h:L.length≤400)(off n:Nat):(Tb.delP off n L).length≤804:=by
 have:=delP_len off n L;omega
theorem calls_RdelB [S:Syms] {F A:Tb.Bs}{L:List Tb.Pc}{ls:List Tb.Bs}(h:BufOK F A L ls)(hL:L.length≤400)(hold:∀p∈L,p.added=false)(edits:Int)(he:0≤edits∧edits≤60000){k:Nat}(hk:k+1<ls.length) :
 ∃L1:List Tb.Pc,BufOK F A L1 (ls.take k ++ ls.drop (k+1))∧L1.length≤804∧(∀p∈L1,p.added=false)∧
  CallsR Tryz.prog 208 [.ptr 0 2 1 0 0,.int .i64 k,.int .i64 1,.nls] (bHL F A L ls edits) (.int .i64 0)
   (bHU F A (pcs L1) ((Tb.joinL (ls.take k ++ ls.drop (k+1))).length:Nat) (edits+1) (cN (Tb.starts (Tb.joinL (ls.take k ++ ls.drop (k+1)))))):=by
 have hs:=delP_small hL (Tb.term (ls.take k)).length ((ls.getD k []).length+1)
 refine⟨_,(h.del hk).resolve_right (by omega),hs,delP_old _ _ _ hold,calls_Rdel F A L ls edits k h hk he⟩
theorem calls_RputB [S:Syms] {F A:Tb.Bs}{L:List Tb.Pc}{ls:List Tb.Bs}(h:BufOK F A L ls)(hA:A.length≤100)(hL:L.length≤804)(hold:∀p∈L,p.added=false)(edits:Int)(he:0≤edits∧edits≤60000){a:Nat}(ha:a≤ls.length){s:Tb.Bs}(hs:(10:UInt8)∉s)
 (hfit:(Tb.joinL ls).length+s.length≤4094) :
 ∃(A1:Tb.Bs) (L1:List Tb.Pc),BufOK F A1 L1 (ls.take a ++ s :: ls.drop a)∧
  CallsR Tryz.prog 208 [.ptr 0 2 1 0 0,.int .i64 a,.int .i64 0,.own 8 1 1] (bHL F A L ls edits ++ [.arr 9 1 [.str s]]) (.int .i64 0)
   (bHV F A1 (pcs L1) ((Tb.joinL (ls.take a ++ s :: ls.drop a)).length:Nat) (edits+1) (cN (Tb.starts (Tb.joinL (ls.take a ++ s :: ls.drop a)))) s):=by
 rcases Q5 a ls.length with hlt | hge
 ·have hj:=Tb.ins_line s hlt
  refine⟨_,_,?_,calls_Rins F A s L ls edits a h hold hlt he hs hfit⟩
  have:=h.ins hold (s:=s) (txt:=s ++ [10]) (off:=(Tb.term (ls.take a)).length) (a:=a) (by rw[Tb.join_cut hlt,Qb];omega) hs (by simp) hj (by simp;omega) (by omega) (by simp;omega)
  have e1:(s ++ [(10:UInt8)]).length=s.length+1:=by simp
  rw[e1] at this
  exact this
 ·have hae:a=ls.length:=by omega
  subst hae
  have e:ls.take ls.length ++ s :: ls.drop ls.length=ls ++ [s]:=by simp
  rw[e]
  have hj:=Tb.ins_last s h.ne
  refine⟨_,_,?_,calls_Rapp F A s L ls edits h hold he hs hfit⟩
  have:=h.ins hold (s:=s) (txt:=10 :: s) (off:=(Tb.joinL ls).length) (a:=ls.length) (Q8 _) hs (by simp) (by rw[e];exact hj) (by simp;omega) (by omega) (by simp;omega)
  have e1:((10:UInt8) :: s).length=s.length+1:=by simp
  rw[e,e1] at this
  exact this
theorem atom_strs (ls:List Tb.Bs):∀v∈ls.map AV.str,∀c∈v.cells,c.atom=true:=by
 intro v hv c hc
 obtain⟨s,_,rfl⟩:=Q6.1 hv
 simp only[AV.cells,List.mem_singleton] at hc
 subst hc;rfl
theorem calls_CloneS [S:Syms] (ls:List Tb.Bs)(h:ls.length≤60000):CallsR Tryz.prog 127 [.sl 1 (ls.map .str)] [] (.sl 1 (ls.map .str)) []:=
 callsR_wrapS (calls_SClone ls (by omega)) (by simp) (atom_strs ls) (vrs_res (ids:=[]) rfl fun W st v hv=>hv)
end Go.Pg
