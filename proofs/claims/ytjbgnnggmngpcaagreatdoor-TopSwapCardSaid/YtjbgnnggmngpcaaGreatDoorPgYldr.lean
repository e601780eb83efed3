/- Pg, part 28b: a region that draws its order and calls a yield: its text's order says all, where each operation is either the only one that may come, or one that may come first. -/
import Derived.Test.YtjbgnnggmngpcaaGreatDoorPgYld2
import Derived.OrdersIn
set_option linter.unusedVariables false
set_option linter.unusedSimpArgs false
set_option linter.unusedSectionVars false
open List renaming all_eq_true → Qa,range → Qc
open Bool renaming and_eq_true → Qb
namespace Go.Pg
open Go Go.RowKit
variable [Syms]
def takeB (o:Oper):Bool:=
 match o.op with
 | .move _=>true
 | .assign _=>true
 | .slice _ _ _ _ _=>true
 | _=>false
def doneTo (n i:Nat):Array Bool:=((Qc n).map fun j=>decide (j<i)).toArray
def seqOK (ops:Array Oper):Bool:=
 Region.noSelect ops && (Qc ops.size).all fun i=>match ops[i]? with
  | some o=>if takeB o then(Region.ready .any ops (doneTo ops.size i)).contains i && Region.free .any ops (doneTo ops.size i) i else Region.ready .any ops (doneTo ops.size i) == [i]
  | none=>true
def tkC (P:Program)(C:Ctr)(ev:AEnv)(H:AH)(o:Oper):Prop:=
 match o.op with
 | .slice _ _ _ _ _=>(o.op.operands.toList.all fun x=>(opnd ev x).okS 0)=true∧pureK P ev o fun V=>V.okS 0=true∧V=valV P C ev H (plainO o)
 | _=>True
def runYD {ι:Type}(P:Program)(C:Ctr)(l:Nat)(R:ι→List AV→ι→Prop)(ops:Array Oper):List Oper→Option ι→AEnv→AH→YK ι→Prop
 | [],T,ev,H,K=>K T ev H
 | o :: r,T,ev,H,K=>gsel (mkG (gw ops ev o)) (tkC P C ev H o∧oneY P C l R o T ev H fun T' ev' H'=>runYD P C l R ops r T' ev' H' K)
  fun w=>(w=true→tkC P C ev H o∧oneY P C l R o T ev H fun T' ev' H'=>runYD P C l R ops r T' ev' H' K)∧(w=false→runYD P C l R ops r T (mark (stepEv o .undef ev)) H K)
theorem okS0_VR {E E':Env}{x:AV}{v:Value}(h:VR E x v)(hx:x.okS 0=true):VR E' x v:=by
 have:=conc_eq 0 x v h hx
 rw[this]
 exact(conc_VP (W:=E'.W) (st:=E'.st) 0 x hx).vr
theorem doneTo_set {n i:Nat}(_hi:i<n):(doneTo n i).setIfInBounds i true=doneTo n (i+1):=by
 unfold doneTo
 rw[List.setIfInBounds_toArray]
 congr 1
 refine List.ext_getElem (by simp) fun j h1 h2=>?_
 rw[List.getElem_set]
 simp only[List.getElem_map,List.getElem_range]
 by_cases e:i=j
 ·rw[if_pos e];symm;exact decide_eq_true (by omega)
 ·rw[if_neg e,Bool.eq_iff_iff,decide_eq_true_eq,decide_eq_true_eq];omega
theorem doneTo_zero (n:Nat):doneTo n 0=Array.replicate n false:=by
 refine Array.ext (by simp [doneTo]) fun j h1 h2=>?_
 simp [doneTo]
theorem ready_all {ops:Array Oper}:Region.ready .any ops (doneTo ops.size ops.size)=[]:=by
 unfold Region.ready
 rw[List.filter_eq_nil_iff]
 intro i hi
 have hi:i<ops.size:=by simpa using hi
 have:(doneTo ops.size ops.size).getD i true=true:=by
  simp [doneTo,hi]
 rw[this]
 simp
section
variable {ι:Type} {P:Program} {N l:Nat} {st0:Nat→Prop} {W0:World} {J Jx:JJ ι} {R:ι→List AV→ι→Prop}
theorem take_value {C:Ctr}{ev:AEnv}{H:AH}{o:Oper}(ht:takeB o=true)(hk:tkC P C ev H o){S:Nat→Prop}{E:Env}{a:Act}(ha:AtI N st0 W0.heap.size S ev H E a) :
 ∃v,VR E (valV P C ev H (plainO o)) v∧(∀w,(execOp a.eval o).run P w= .ok (.value v) w)∧(∀w,o.about P w a.eval=none):=by
 unfold takeB at ht
 unfold tkC at hk
 split at ht
 ·next x hx=>
  refine⟨a.eval x,?_,fun w=>?_,fun w=>?_⟩
  ·have:valV P C ev H (plainO o)=opnd ev x:=by simp only[valV,plainO,hx]
   rw[this]
   exact opnd_VR ha.env x
  ·unfold execOp;rw[hx];rfl
  ·unfold Oper.about;rw[hx]
 ·next x hx=>
  refine⟨a.eval x,?_,fun w=>?_,fun w=>?_⟩
  ·have:valV P C ev H (plainO o)=opnd ev x:=by simp only[valV,plainO,hx]
   rw[this]
   exact opnd_VR ha.env x
  ·unfold execOp;rw[hx];rfl
  ·unfold Oper.about;rw[hx]
 ·next t x lo hi mx hx=>
  rw[hx] at hk
  simp only at hk
  obtain⟨h1,h2⟩:=hk
  obtain⟨V,hp,hok,rfl⟩:=pureK_sound h2
  refine⟨(valV P C ev H (plainO o)).conc 0,(conc_VP (W:=E.W) (st:=E.st) 0 _ hok).vr,fun w=>?_,fun w=>?_⟩
  ·obtain⟨v,hv,hrun⟩:=hp { E with W:=w } a (fun y hy=>okS0_VR (opnd_VR ha.env y) (by
    rw[hx] at hy
    exact Qa.1 h1 y (by simpa using hy)))
   rw[conc_eq 0 _ v hv hok] at hrun
   exact hrun
  ·unfold Oper.about;rw[hx]
 ·cases ht
theorem runYD_sound (hL:Lets P l R st0 W0 J Jx){C:Ctr}(hC:CtrOK P C){ops:Array Oper}(hok:dstsOK ops N=true)(hnd:∀(i:Nat)(o:Oper),ops[i]? =some o→noDefer o=true)(hsq:seqOK ops=true){Q:Exit→Act→World→Prop}{K:YK ι}{n:Nat}
 (hK:∀T' ev' H' S' E' a',K T' ev' H'→AtI N st0 W0.heap.size S' ev' H' E' a'→JT J Jx T' S' E'.W→Q .normal a' E'.W) (hpn:∀c a w,¬Q (.panic c) a w) :
 ∀(m i:Nat),i+m=ops.size→∀(T:Option ι) (ev:AEnv) (H:AH) (S:Nat→Prop) (E:Env) (a:Act),runYD P C l R ops (ops.toList.drop i) T ev H K→AtI N st0 W0.heap.size S ev H E a→JT J Jx T S E.W→
  wpAnyIn Fence.wide n P .any ops Q m (doneTo ops.size i) a E.W:=by
 simp only[seqOK,Qb] at hsq
 obtain⟨hns,hsq⟩:=hsq
 intro m
 induction m with
 | zero=>
  intro i hi T ev H S E a h ha hj
  rw[List.drop_of_length_le (by simp;omega)] at h
  have:i=ops.size:=by omega
  subst this
  exact wpAnyIn_done ready_all (hK T ev H S E a h ha hj) 0
 | succ m ih=>
  intro i hi T ev H S E a h ha hj
  have hil:i<ops.size:=by omega
  have ho:ops[i]? =some ops[i]:=by simp [hil]
  rw[List.drop_eq_getElem_cons (by simpa using hil)] at h
  have e1:ops.toList[i]'(by simpa using hil)=ops[i]:=by simp
  rw[e1] at h
  have hdst:dstsOK #[plainO ops[i]] N=true:=by
   unfold dstsOK at hok ⊢
   have:=Qa.1 hok ops[i] (by simp)
   simpa [plainO] using this
  have hn1:=hnd i _ ho
  have hs1:=Qa.1 hsq i (by simpa using hil)
  rw[ho] at hs1
  simp only at hs1
  generalize ops[i]=o at ho h hdst hn1 hs1
  simp only[runYD,mkG_eq] at h
  cases htk:takeB o with
  | true=>
   rw[htk,if_pos rfl,Qb] at hs1
   have hyk:yarg ev o=none:=by
    unfold takeB at htk
    unfold yarg
    split at htk <;> first | (next hx=>rw[hx]) | cases htk
   have go:∀w,Region.wanted o (yielded ops a.tmps)=w→(w=true→tkC P C ev H o∧oneY P C l R o T ev H fun T' ev' H'=>runYD P C l R ops (ops.toList.drop (i+1)) T' ev' H' K)→
    (w=false→runYD P C l R ops (ops.toList.drop (i+1)) T (mark (stepEv o .undef ev)) H K)→wpAnyIn Fence.wide n P .any ops Q (m+1) (doneTo ops.size i) a E.W:=by
    intro w hw h1 h2
    cases w with
    | true=>
     obtain⟨hk,hone⟩:=h1 rfl
     obtain⟨v,hv,hrun,hab⟩:=take_value htk hk ha
     refine wpAnyIn_take (v:=v) rfl ho hns hs1.2 hs1.1 (fun c a w h=>(hpn c _ w h).elim) ⟨.inl ⟨hw,hrun⟩,hab⟩ ?_
     rw[doneTo_set hil]
     unfold oneY at hone
     rw[mkG_eq,hyk] at hone
     simp only[ysel] at hone
     have hH:heapV P C ev H (plainO o)=H:=by
      unfold takeB at htk
      split at htk
      ·next hx=>simp only[heapV,plainO,hx]
      ·next hx=>simp only[heapV,plainO,hx]
      ·next t x lo hi mx hx=>
       have hk':=hk
       unfold tkC at hk'
       rw[hx] at hk'
       have hall:=hk'.1
       have hx0:(opnd ev x).okS 0=true:=by
        have:=Qa.1 hall x (by simp [Op.operands])
        exact this
       simp only[heapV,plainO,hx]
       cases hxo:opnd ev x <;> rw[hxo] at hx0 <;> first | rfl | (simp [AV.okS] at hx0)
      ·cases htk
     rw[hH] at hone
     exact ih (i+1) (by omega) T _ H S E _ hone.2 (by rw[mark_eq];exact ha.undef hdst hv) hj
    | false=>
     refine wpAnyIn_take (v:=Go.undef) rfl ho hns hs1.2 hs1.1 (fun c a w h=>(hpn c _ w h).elim) ⟨.inr ⟨hw,rfl⟩,fun w=>?_⟩ ?_
     ·unfold takeB at htk
      unfold Oper.about
      split at htk <;> first | (next hx=>rw[hx]) | cases htk
     ·rw[doneTo_set hil]
      exact ih (i+1) (by omega) T _ H S E _ (h2 rfl) (by rw[mark_eq];exact ha.undef hdst .undef) hj
   cases hg:gw ops ev o with
   | none=>rw[hg] at h;exact h.elim
   | some g=>
    cases g with
    | none=>
     rw[hg] at h
     exact go true (wanted_now (gw_none hg) ha.env) (fun _=>h) (fun e=>by cases e)
    | some w=>
     rw[hg] at h
     exact go w (wanted_now (gw_some hg) ha.env) h.1 h.2
  | false=>
   rw[htk,if_neg (by simp)] at hs1
   refine wpAnyIn_all (rs:=[i]) (by simpa using hs1) (by simp) fun j hj'=>?_
   obtain rfl:j=i:=by simpa using hj'
   rw[doneTo_set hil]
   unfold wpOpIn
   rw[ho]
   simp only
   have yes:oneY P C l R o T ev H (fun T' ev' H'=>runYD P C l R ops (ops.toList.drop (j+1)) T' ev' H' K)→o.wpIn Fence.wide n P a E.W (wpAnyIn Fence.wide n P .any ops Q m (doneTo ops.size (j+1))) Q:=fun h1=>
    oneY_sound hL hC hn1 hdst h1 ha hj fun T' ev' H' S' E' a' g1 g2 g3=>ih (j+1) (by omega) T' ev' H' S' E' a' g1 g2 g3
   cases hg:gw ops ev o with
   | none=>rw[hg] at h;exact h.elim
   | some g=>
    cases g with
    | none=>
     rw[hg] at h
     have hw:=wanted_now (gw_none hg) ha.env
     simp only[hw,if_true]
     exact yes h.2
    | some w=>
     rw[hg] at h
     have hw:=wanted_now (gw_some hg) ha.env
     simp only[hw]
     cases w with
     | true=>rw[if_pos rfl];exact yes (h.1 rfl).2
     | false=>
      rw[if_neg (by simp)]
      exact⟨fun f _=>trivial,ih (j+1) (by omega) T _ H S E _ (h.2 rfl) (by rw[mark_eq];exact ha.undef hdst .undef) hj⟩
theorem regionYD {C:Ctr}(hL:Lets P l R st0 W0 J Jx)(hC:CtrOK P C)(hmix:P.follows .mixedOrders=true){ops:Array Oper}{id:Nat}(hok:dstsOK ops N=true)(hnd:∀(i:Nat)(o:Oper),ops[i]? =some o→noDefer o=true)(hsq:seqOK ops=true)
 {Q:YPost ι} {T:Option ι} {ev:AEnv} {H:AH} (h:runYD P C l R ops ops.toList T ev H (Q .normal)):YWp P N st0 W0.heap.size J Jx (.region id ops true) Q T ev H:=by
 intro n S E a ha hj
 have hst:Step H E H { E with W:={ E.W with drawn:=E.W.drawn+1 } }:=
  (At.drew (N:=N) (H0:=H) (E0:=E) (ev:=ev) (H:=H) (E:=E) (a:=a) ⟨ha.size,by rw[ha.defers];trivial,ha.env,ha.rel,Step.refl _ _⟩ (E.W.drawn+1)).step
 obtain⟨h1,h2⟩:=ha.step hL hj (E':={ E with W:={ E.W with drawn:=E.W.drawn+1 } }) ha.size ha.defers (fun t=>(ha.env t).mono (hst.ext ha.rel)) (At.drew (N:=N) (H0:=H) (E0:=E) (ev:=ev) (H:=H) (E:=E) (a:=a) ⟨ha.size,by rw[ha.defers];trivial,ha.env,ha.rel,Step.refl _ _⟩ (E.W.drawn+1)).rel hst
 refine wpIn_mono (Q:=fun e a' w'=>e= .normal∧YRes N st0 W0.heap.size J Jx Q e a' w') (wpIn_region_any hmix ?_) fun e a' w' h=>h.2
 have h3:=runYD_sound hL hC hok hnd hsq (Q:=fun e a' w'=>e= .normal∧YRes N st0 W0.heap.size J Jx Q e a' w') (K:=Q .normal) (n:=n) (fun T' ev' H' S' E' a' g1 g2 g3=>⟨rfl,T',ev',H',E',S',g1,rfl,g2,g3⟩) (fun c a w h=>by cases h.1) ops.size 0 (by omega) T ev H _ _ a h h1 h2
 rw[doneTo_zero] at h3
 exact h3
end
end Go.Pg
