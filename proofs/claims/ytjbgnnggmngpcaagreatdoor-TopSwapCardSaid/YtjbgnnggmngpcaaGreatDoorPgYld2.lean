/- Pg, part 28: code that calls a yield: its evaluation, and an iterator's contract. -/
import Derived.Test.YtjbgnnggmngpcaaGreatDoorPgYld
set_option linter.unusedVariables false
set_option linter.unusedSimpArgs false
set_option linter.unusedSectionVars false
open Array renaming getD_eq_getD_getElem? → Qa
open List renaming all_eq_true → Qb,range' → Qc
namespace Go.Pg
open Go Go.RowKit
variable [Syms]
abbrev YK (ι:Type):=Option ι→AEnv→AH→Prop
def yarg (ev:AEnv)(o:Oper):Option (Nat×List AV):=
 match o.op with
 | .call { callee:= .value f,args,argTypes:=_ }=>match opnd ev f with
  | .yld l=>some (l,args.toList.map (opnd ev))
  | _=>none
 | _=>none
def yieldK {ι:Type}(l:Nat)(R:ι→List AV→ι→Prop)(T:Option ι)(y:Nat×List AV)(K:Option ι→Bool→Prop):Prop:=
 match T with
 | some k=>y.1=l∧y.2.all (AV.okS 4)=true∧∃k',R k y.2 k'∧K (some k') true∧K none false
 | none=>False
def ysel (x:Option (Nat×List AV))(a:Prop)(b:Nat×List AV→Prop):Prop:=
 match x with
 | none=>a
 | some y=>b y
def oneY {ι:Type}(P:Program)(C:Ctr)(l:Nat)(R:ι→List AV→ι→Prop)(o:Oper)(T:Option ι)(ev:AEnv)(H:AH)(K:YK ι):Prop:=
 ysel (mkG (yarg ev o))
  (chk P C false ev H (plainO o)∧K T (mark (stepEv o (valV P C ev H (plainO o)) ev)) (heapV P C ev H (plainO o)))
  fun y=>yieldK l R T y fun T' b=>K T' (mark (stepEv o (.bool b) ev)) H
def runY {ι:Type}(P:Program)(C:Ctr)(l:Nat)(R:ι→List AV→ι→Prop)(ops:Array Oper):List Oper→Option ι→AEnv→AH→YK ι→Prop
 | [],T,ev,H,K=>K T ev H
 | o :: r,T,ev,H,K=>gsel (mkG (gw ops ev o)) (oneY P C l R o T ev H fun T' ev' H'=>runY P C l R ops r T' ev' H' K)
  fun w=>(w=true→oneY P C l R o T ev H fun T' ev' H'=>runY P C l R ops r T' ev' H' K)∧(w=false→runY P C l R ops r T (mark (stepEv o .undef ev)) H K)
theorem wanted_now {ops:Array Oper}{ev:AEnv}{o:Oper}{w:Bool}{E:Env}{a:Act}(h:GuardOK ops ev o w)(he:∀t,VR E (look t ev) (a.tmps.getD t Go.undef)):Region.wanted o (yielded ops a.tmps)=w:=by
 unfold GuardOK at h
 unfold Region.wanted
 cases hg:o.guard with
 | none=>rw[hg] at h;simp only at h ⊢;exact h.symm
 | some g=>
  obtain⟨j,wt⟩:=g
  rw[hg] at h
  obtain⟨t,ht,hw⟩:=h
  have hv:=he t
  have hy:yielded ops a.tmps j=match a.tmps.getD t Go.undef with | .bool b=>some b | _=>none:=by
   unfold yielded
   unfold dstOf at ht
   rw[ht]
   simp only[Option.bind_some,Qa]
   cases hx:a.tmps[t]? with
   | none=>rfl
   | some x=>cases x <;> rfl
  rcases hw with⟨b,hb,hw⟩ | ⟨hb,hw⟩ | ⟨g,b,hb,hw⟩
  ·rw[hb] at hv
   generalize a.tmps.getD t Go.undef=x at hv hy
   cases hv
   simp only[hy,hw]
   cases b <;> cases wt <;> rfl
  ·rw[hb] at hv
   generalize a.tmps.getD t Go.undef=x at hv hy
   cases hv
   simp only[hy,hw]
   rfl
  ·rw[hb] at hv
   generalize a.tmps.getD t Go.undef=x at hv hy
   cases hv with
   | condT _ _ hv=>
    cases hv
    simp only[hy,hw]
    cases b <;> cases wt <;> rfl
   | condF=>
    simp only[hy,hw]
    rfl
section
variable {ι:Type} {P:Program} {N l:Nat} {st0:Nat→Prop} {W0:World} {J Jx:JJ ι} {R:ι→List AV→ι→Prop}
theorem AtI.undef {S:Nat→Prop}{n0:Nat}{ev:AEnv}{H:AH}{E:Env}{a:Act}{o:Oper}(ha:AtI N st0 n0 S ev H E a)(hd:dstsOK #[plainO o] N=true){x:AV}{v:Value}(hv:VR E x v):AtI N st0 n0 S (stepEv o x ev) H E (a.put o.dst v):=by
 cases hdst:o.dst with
 | none=>
  have e1:stepEv o x ev=ev:=by simp [stepEv,hdst]
  rw[e1]
  exact ha
 | some t=>
  have ht:t<N:=by simpa [dstsOK,plainO,hdst] using hd
  refine⟨by simp [Act.put,ha.size],ha.defers,fun s=>?_,ha.rel,ha.own,ha.st,ha.lo,ha.ge⟩
  simp only[stepEv,hdst,look,Act.put,Qa]
  by_cases e:s=t
  ·subst e
   rw[if_pos rfl]
   simp [ha.size,ht]
   exact hv
  ·rw[if_neg e,Array.getElem?_setIfInBounds_ne (Ne.symm e)]
   simpa [Qa] using ha.env s
theorem oneY_sound (hL:Lets P l R st0 W0 J Jx){C:Ctr}(hC:CtrOK P C){o:Oper}(hnd:noDefer o=true)(hd:dstsOK #[plainO o] N=true){T:Option ι}{ev:AEnv}{H:AH}{K:YK ι}(h:oneY P C l R o T ev H K)
 {n:Nat} {S:Nat→Prop} {E:Env} {a:Act} (ha:AtI N st0 W0.heap.size S ev H E a) (hj:JT J Jx T S E.W) {K':Act→World→Prop} {Q:Exit→Act→World→Prop}
 (hK:∀T' ev' H' S' E' a',K T' ev' H'→AtI N st0 W0.heap.size S' ev' H' E' a'→JT J Jx T' S' E'.W→K' a' E'.W):o.wpIn Fence.wide n P a E.W K' Q:=by
 unfold oneY at h
 rw[mkG_eq] at h
 cases hy:yarg ev o with
 | none=>
  rw[hy] at h
  obtain⟨h1,h2⟩:=h
  refine oper_FW (rd:=none) hnd (oper_at hC hd h1 ha.size ha.rel ha.env fun a' E' g1 g2 g3 g4 g5=>?_)
  obtain⟨k1,k2⟩:=ha.step hL hj g1 (by rw[g2];exact ha.defers) g3 g4 g5
  exact hK _ _ _ _ _ _ h2 k1 k2
 | some y=>
  rw[hy] at h
  simp only[ysel] at h
  unfold yarg at hy
  split at hy
  case h_2=>cases hy
  next f args ats hop=>
  split at hy
  case h_2=>cases hy
  next l' hf=>
  cases hy
  unfold yieldK at h
  cases T with
  | none=>exact h.elim
  | some k=>
   obtain⟨rfl,hok,k',hx,ht,hff⟩:=h
   have hfv:=opnd_VR ha.env f
   rw[hf] at hfv
   have hfe:a.eval f= .func (.yield l') #[] #[]:=by
    generalize a.eval f=v at hfv
    cases hfv;rfl
   have hargs:args.map a.eval=((args.toList.map (opnd ev)).map (AV.conc 4)).toArray:=by
    refine Array.ext (by simp) fun i h1 h2=>?_
    have hi:i<args.size:=by simpa using h1
    have:=conc_eq 4 (opnd ev args[i]) (a.eval args[i]) (opnd_VR ha.env _) (Qb.1 hok _ (List.mem_map.2 ⟨args[i],by simp,rfl⟩))
    simp [this]
   have hexec:execOp a.eval o=Instr.yield l' (args.map a.eval):=by
    simp [execOp,hop,resolve,hfe,Deferred.ofValue,invoke]
   refine⟨fun f _=>trivial,?_⟩
   rw[show Fence.wide.round=none from rfl,Oper.semAt_none,hexec,hargs]
   obtain⟨fn,tmps,assign,body,hrun,hround⟩:=hL.yield (n - 1) k k' S E.W _ hx hok ha.lo hj
   rw[hrun,Oper.uponIn_round]
   refine⟨fun e=>(by cases e),RoundIn.mono hround fun e B he=>?_⟩
   obtain⟨⟨hsz,hS⟩,he⟩:=he
   have fin:∀(T':Option ι),JT J Jx T' S B→K T' (mark (stepEv o (.bool T'.isSome) ev)) H→K' (a.put o.dst (.bool T'.isSome)) B:=by
    intro T' hj' hk
    have htouch:∀b,Touch H E b→B.heap[b]? =E.W.heap[b]?:=by
     intro b hb
     rcases ha.own b hb with h1 | h1
     ·rw[hj'.still hL b h1,hj.still hL b h1]
     ·exact hS b h1
    have hb:AtI N st0 W0.heap.size S ev H { E with W:=B } a:=
     ⟨ha.size,ha.defers,fun t=>(ha.env t).keepT ha.rel htouch,ha.rel.keepT hsz htouch,ha.own,ha.st,fun b hb=>⟨(ha.lo b hb).1,Nat.lt_of_lt_of_le (ha.lo b hb).2 hsz⟩,Nat.le_trans ha.ge hsz⟩
    exact hK T' _ H S { E with W:=B } _ hk (hb.undef hd (.bool _)) hj'
   rcases he with⟨rfl,hJ⟩ | ⟨rfl,hJ⟩
   ·exact fin (some k') hJ ht
   ·exact fin none ⟨_,hJ⟩ hff
theorem runY_sound (hL:Lets P l R st0 W0 J Jx){C:Ctr}(hC:CtrOK P C){ops:Array Oper}(hok:dstsOK ops N=true)(hnd:∀(i:Nat)(o:Oper),ops[i]? =some o→noDefer o=true){Q:Exit→Act→World→Prop}{K:YK ι}{n:Nat}
 (hK:∀T' ev' H' S' E' a',K T' ev' H'→AtI N st0 W0.heap.size S' ev' H' E' a'→JT J Jx T' S' E'.W→Q .normal a' E'.W) :
 ∀(m i:Nat),i+m=ops.size→∀(T:Option ι) (ev:AEnv) (H:AH) (S:Nat→Prop) (E:Env) (a:Act),runY P C l R ops (ops.toList.drop i) T ev H K→AtI N st0 W0.heap.size S ev H E a→JT J Jx T S E.W→
  wpOpsIn Fence.wide n P ops Q (Qc i m) a E.W:=by
 intro m
 induction m with
 | zero=>
  intro i hi T ev H S E a h ha hj
  rw[List.drop_of_length_le (by simp;omega)] at h
  exact hK T ev H S E a h ha hj
 | succ m ih=>
  intro i hi T ev H S E a h ha hj
  have hil:i<ops.size:=by omega
  have ho:ops[i]? =some ops[i]:=by simp [hil]
  rw[List.drop_eq_getElem_cons (by simpa using hil)] at h
  have e1:ops.toList[i]'(by simpa using hil)=ops[i]:=by simp
  rw[e1] at h
  have hdst:dstsOK #[plainO ops[i]] N=true:=by
   unfold dstsOK at hok ⊢
   have:=Qb.1 hok ops[i] (by simp)
   simpa [plainO] using this
  have hn1:=hnd i _ ho
  generalize ops[i]=o at ho h hdst hn1
  rw[List.range'_succ,wpOpsIn_cons]
  unfold wpOpIn
  rw[ho]
  simp only[runY,mkG_eq] at h
  have yes:oneY P C l R o T ev H (fun T' ev' H'=>runY P C l R ops (ops.toList.drop (i+1)) T' ev' H' K)→o.wpIn Fence.wide n P a E.W (wpOpsIn Fence.wide n P ops Q (Qc (i+1) m)) Q:=fun h1=>
   oneY_sound hL hC hn1 hdst h1 ha hj fun T' ev' H' S' E' a' g1 g2 g3=>ih (i+1) (by omega) T' ev' H' S' E' a' g1 g2 g3
  cases hg:gw ops ev o with
  | none=>rw[hg] at h;exact h.elim
  | some g=>
   cases g with
   | none=>
    rw[hg] at h
    have hw:=wanted_now (gw_none hg) ha.env
    simp only[hw,if_true]
    exact yes h
   | some w=>
    rw[hg] at h
    have hw:=wanted_now (gw_some hg) ha.env
    simp only[hw]
    cases w with
    | true=>rw[if_pos rfl];exact yes (h.1 rfl)
    | false=>
     rw[if_neg (by simp)]
     refine⟨fun f _=>trivial,ih (i+1) (by omega) T _ H S E _ (h.2 rfl) (ha.undef hdst ?_) hj⟩
     exact .undef
end
end Go.Pg
