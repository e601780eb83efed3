/- Pg: abstract values, what operations, regions, calls come to on them. -/
set_option linter.unusedVariables false
set_option linter.unusedSimpArgs false
set_option linter.unusedSectionVars false
open List renaming getD_eq_getElem?_getD → Qa,getElem?_eq_getElem → Qb,mem_of_mem_take → Qc,mem_of_mem_drop → Qd,take_append_drop → Qe,length_take → Qf,length_append → Qg,length_cons → Qh,mem_cons → Qi,drop_left → Qj,take_append_of_le_length → Qk,drop_append_of_le_length → Ql,take_succ_cons → Qn,mem_append → Qo,drop_drop → Qp,take_of_length_le → Qq,cons_append → Qr,take_left → Qs,drop_eq_getElem_cons → Qt,length_drop → Qu,getElem?_cons_succ → Qv,getElem_mem → Qw,drop_succ_cons → Qy,append_assoc → Q0,take_add_one → Q1
open Nat renaming min_eq_left → Qm,zero_add → Qx,sub_zero → Qz
open Option renaming getD_some → Q2
namespace Go.Pg.Tb
structure Pc where
 added:Bool
 off:Nat
 n:Nat
abbrev Bs:=List UInt8
def text (F A:Bs)(p:Pc):Bs:=(((if p.added then A else F).drop p.off).take p.n)
def whole (F A:Bs):List Pc→Bs
 | []=>[]
 | p :: r=>text F A p ++ whole F A r
def fits (F A:Bs)(p:Pc):Prop:=0<p.n∧p.off+p.n≤(if p.added then A else F).length
theorem text_len {F A:Bs}{p:Pc}(h:fits F A p):(text F A p).length=p.n:=by
 simp [text,Qf,Qu];have:=h.2;omega
theorem whole_app (F A:Bs):∀(a b:List Pc),whole F A (a ++ b)=whole F A a ++ whole F A b
 | [],b=>rfl
 | p :: r,b=>by simp [whole,whole_app F A r b]
def cutP (off:Nat):Nat→List Pc→List Pc×Nat
 | _,[]=>([],0)
 | at_,p :: r=>if at_=off then(p :: r,0)
  else if off<at_+p.n then(⟨p.added,p.off,off - at_⟩ :: ⟨p.added,p.off+(off - at_),p.n - (off - at_)⟩ :: r,1)
  else(p :: (cutP off (at_+p.n) r).1,(cutP off (at_+p.n) r).2+1)
structure Cut (F A:Bs) (k:Nat) (ps qs:List Pc) (i:Nat):Prop where
 ok:∀p∈qs,fits F A p
 le:i≤qs.length
 lo:whole F A (qs.take i)=(whole F A ps).take k
 hi:whole F A (qs.drop i)=(whole F A ps).drop k
theorem cutP_ok {F A:Bs}(off:Nat):∀(ps:List Pc)(at_:Nat),(∀p∈ps,fits F A p)→at_≤off→off≤at_+(whole F A ps).length→
 Cut F A (off - at_) ps (cutP off at_ ps).1 (cutP off at_ ps).2
 | [],at_,_,h1,h2=>by
  refine⟨fun p hp=>by simp [cutP] at hp,by simp [cutP],by simp [cutP,whole],by simp [cutP,whole]⟩
 | p :: r,at_,hp,h1,h2=>by
  have hf:=hp p (by simp)
  have hl:=text_len hf
  unfold cutP
  by_cases hq:at_=off
  ·rw[if_pos hq]
   have:off - at_=0:=by omega
   rw[this]
   exact⟨hp,by simp,by simp [whole],by simp⟩
  ·rw[if_neg hq]
   by_cases hw:off<at_+p.n
   ·rw[if_pos hw]
    have f1:fits F A ⟨p.added,p.off,off - at_⟩:=⟨by show 0<off - at_;omega,by have:=hf.2;show p.off+(off - at_)≤_;simp only;omega⟩
    have f2:fits F A ⟨p.added,p.off+(off - at_),p.n - (off - at_)⟩:=⟨by show 0<p.n - (off - at_);omega,by have:=hf.2;show p.off+(off - at_)+(p.n - (off - at_))≤_;simp only;omega⟩
    have e1:text F A ⟨p.added,p.off,off - at_⟩=(text F A p).take (off - at_):=by
     simp only[text]
     rw[List.take_take,Qm (by omega)]
    have e2:text F A ⟨p.added,p.off+(off - at_),p.n - (off - at_)⟩=(text F A p).drop (off - at_):=by
     simp only[text]
     rw[List.drop_take,Qp]
    refine⟨?_,by simp,?_,?_⟩
    ·intro q hq'
     simp only[Qi] at hq'
     rcases hq' with rfl | rfl | hq'
     ·exact f1
     ·exact f2
     ·exact hp q (by simp [hq'])
    ·simp only[Qn,List.take_zero,whole,List.append_nil]
     rw[e1,Qk (by omega)]
    ·simp only[Qy,List.drop_zero,whole]
     rw[e2,Ql (by omega)]
   ·rw[if_neg hw]
    have ih:=cutP_ok off r (at_+p.n) (fun q hq'=>hp q (by simp [hq'])) (by omega) (by simp only[whole,Qg] at h2;omega)
    have hk:off - at_=p.n+(off - (at_+p.n)):=by omega
    refine⟨?_,?_,?_,?_⟩
    ·intro q hq'
     simp only[Qi] at hq'
     rcases hq' with rfl | hq'
     ·exact hf
     ·exact ih.ok q hq'
    ·have:=ih.le;simp only[Qh];omega
    ·simp only[Qn,whole]
     rw[ih.lo,hk,←hl,List.take_length_add_append]
    ·simp only[Qy,whole]
     rw[ih.hi,hk,←hl,List.drop_length_add_append]
def delP (off n:Nat)(ps:List Pc):List Pc:=
 let(q,i):=cutP off 0 ps
 let(s,j):=cutP (off+n) 0 q
 s.take i ++ s.drop j
theorem cutP_take {F A:Bs}(off:Nat):∀(ps:List Pc)(at_ i:Nat),(∀p∈ps,fits F A p)→i≤ps.length→at_+(whole F A (ps.take i)).length≤off→
 (cutP off at_ ps).1.take i=ps.take i
 | _,_,0,_,_,_=>by simp
 | [],_,i+1,_,h,_=>by simp at h
 | p :: r,at_,i+1,hp,h,ho=>by
  have hf:=hp p (by simp)
  have hl:=text_len hf
  simp only[Qn,whole,Qg] at ho
  have:=hf.1
  unfold cutP
  rw[if_neg (by omega),if_neg (by omega)]
  simp only[Qn]
  rw[cutP_take off r (at_+p.n) i (fun q hq=>hp q (by simp [hq])) (by simpa using h) (by omega)]
theorem delP_ok {F A:Bs}{ps:List Pc}{off n:Nat}(hp:∀p∈ps,fits F A p)(h:off+n≤(whole F A ps).length) :
 (∀p∈delP off n ps,fits F A p)∧whole F A (delP off n ps)=(whole F A ps).take off ++ (whole F A ps).drop (off+n):=by
 have c1:=cutP_ok off ps 0 hp (by omega) (by omega)
 rw[Qz] at c1
 have hw:whole F A (cutP off 0 ps).1=whole F A ps:=by
  rw[←Qe (cutP off 0 ps).2 (cutP off 0 ps).1,whole_app,c1.lo,c1.hi,Qe]
 have c2:=cutP_ok (off+n) (cutP off 0 ps).1 0 c1.ok (by omega) (by rw[hw];omega)
 rw[Qz] at c2
 have ht:=cutP_take (off+n) (cutP off 0 ps).1 0 (cutP off 0 ps).2 c1.ok c1.le (by rw[c1.lo,Qf];omega)
 unfold delP
 refine⟨?_,?_⟩
 ·intro p hm
  rw[Qo] at hm
  rcases hm with hm | hm
  ·exact c2.ok p (Qc hm)
  ·exact c2.ok p (Qd hm)
 ·simp only
  rw[whole_app,ht,c1.lo,c2.hi,hw]
theorem text_more {F A S:Bs}{p:Pc}(h:fits F A p):text F (A ++ S) p=text F A p:=by
 have:=h.2
 unfold text
 cases hb:p.added with
 | false=>rfl
 | true=>
  simp only[hb,if_true] at this ⊢
  rw[Ql (by omega),Qk (by rw[Qu];omega)]
theorem fits_more {F A S:Bs}{p:Pc}(h:fits F A p):fits F (A ++ S) p:=by
 refine⟨h.1,?_⟩
 have:=h.2
 cases hb:p.added with
 | false=>simpa [hb] using this
 | true=>simp only[hb,if_true,Qg] at this ⊢;omega
theorem whole_more {F A S:Bs}:∀{ps:List Pc},(∀p∈ps,fits F A p)→whole F (A ++ S) ps=whole F A ps
 | [],_=>rfl
 | p :: r,h=>by simp only[whole];rw[text_more (h p (by simp)),whole_more fun q hq=>h q (by simp [hq])]
def insP (len off m:Nat)(ps:List Pc):List Pc:=
 let(q,i):=cutP off 0 ps
 match i with
 | 0=>⟨true,len,m⟩ :: q
 | k+1=>match q[k]? with
  | some p=>if(p.added && p.off+p.n == len)=true then q.set k ⟨true,p.off,p.n+m⟩ else q.take (k+1) ++ ⟨true,len,m⟩ :: q.drop (k+1)
  | none=>q.take (k+1) ++ ⟨true,len,m⟩ :: q.drop (k+1)
theorem insP_ok {F A S:Bs}{ps:List Pc}{off:Nat}(hp:∀p∈ps,fits F A p)(h:off≤(whole F A ps).length)(hs:0<S.length) :
 (∀p∈insP A.length off S.length ps,fits F (A ++ S) p)∧whole F (A ++ S) (insP A.length off S.length ps)=(whole F A ps).take off ++ S ++ (whole F A ps).drop off:=by
 have c1:=cutP_ok off ps 0 hp (by omega) (by omega)
 rw[Qz] at c1
 unfold insP
 generalize hq:cutP off 0 ps=q at c1
 obtain⟨q,i⟩:=q
 simp only at c1 ⊢
 have nf:fits F (A ++ S) ⟨true,A.length,S.length⟩:=⟨hs,by simp⟩
 have nt:text F (A ++ S) ⟨true,A.length,S.length⟩=S:=by simp [text]
 have plain:∀i,i≤q.length→whole F A (q.take i)=(whole F A ps).take off→whole F A (q.drop i)=(whole F A ps).drop off→
  (∀p∈q.take i ++ ⟨true,A.length,S.length⟩ :: q.drop i,fits F (A ++ S) p)∧whole F (A ++ S) (q.take i ++ ⟨true,A.length,S.length⟩ :: q.drop i)=(whole F A ps).take off ++ S ++ (whole F A ps).drop off:=by
  intro i _ h1 h2
  refine⟨?_,?_⟩
  ·intro p hm
   simp only[Qo,Qi] at hm
   rcases hm with hm | rfl | hm
   ·exact fits_more (c1.ok p (Qc hm))
   ·exact nf
   ·exact fits_more (c1.ok p (Qd hm))
  ·rw[whole_app,whole_more fun p hm=>c1.ok p (Qc hm)]
   simp only[whole]
   rw[nt,whole_more fun p hm=>c1.ok p (Qd hm),h1,h2,Q0]
 obtain⟨ok,le,lo,hi⟩:=c1
 cases i with
 | zero=>
  have:=plain 0 (by omega) lo hi
  simpa using this
 | succ k=>
  simp only
  cases hk:q[k]? with
  | none=>simp only;exact plain (k+1) le lo hi
  | some p=>
   simp only
   by_cases hc:(p.added && p.off+p.n == A.length)=true
   ·rw[if_pos hc]
    simp only[Bool.and_eq_true,beq_iff_eq] at hc
    obtain⟨ha,he⟩:=hc
    obtain⟨hkl,hkp⟩:=List.getElem?_eq_some_iff.1 hk
    have pf:=ok p (List.mem_of_getElem? hk)
    have gt:text F (A ++ S) ⟨true,p.off,p.n+S.length⟩=text F A p ++ S:=by
     simp only[text,ha,if_true]
     rw[Ql (by omega),Qq (by simp;omega),Qq (by simp;omega)]
    have split:q=q.take k ++ p :: q.drop (k+1):=by
     conv=>lhs;rw[←Qe k q]
     rw[Qt hkl,hkp]
    have e1:whole F A (q.take (k+1))=whole F A (q.take k) ++ text F A p:=by
     rw[Q1,hk,whole_app];simp [whole]
    have eset:q.set k ⟨true,p.off,p.n+S.length⟩=q.take k ++ ⟨true,p.off,p.n+S.length⟩ :: q.drop (k+1):=by
     rw[List.set_eq_take_append_cons_drop,if_pos hkl]
    rw[eset]
    refine⟨?_,?_⟩
    ·intro x hm
     simp only[Qo,Qi] at hm
     rcases hm with hm | rfl | hm
     ·exact fits_more (ok x (Qc hm))
     ·exact⟨by show 0<p.n+S.length;omega,by simp;omega⟩
     ·exact fits_more (ok x (Qd hm))
    ·rw[whole_app,whole_more fun x hm=>ok x (Qc hm)]
     simp only[whole]
     rw[gt,whole_more fun x hm=>ok x (Qd hm),hi,←lo,e1]
     simp [Q0]
   ·rw[if_neg hc]
    exact plain (k+1) le lo hi
end Go.Pg.Tb
namespace Go.Pg.Tb
def nls:Nat→Bs→List Nat
 | _,[]=>[]
 | o,c :: r=>if c=10 then(o+1) :: nls (o+1) r else nls (o+1) r
def starts (T:Bs):List Nat:=0 :: nls 0 T
theorem nls_app (o:Nat):∀(a b:Bs),nls o (a ++ b)=nls o a ++ nls (o+a.length) b:=by
 intro a
 induction a generalizing o with
 | nil=>intro b;simp [nls]
 | cons c r ih=>
  intro b
  have e:o+1+r.length=o+(r.length+1):=by omega
  simp only[Qr,nls,ih,Qh,e]
  split <;> simp
theorem nls_add (m:Nat):∀(o:Nat)(a:Bs),nls (o+m) a=(nls o a).map (· +m)
 | _,[]=>rfl
 | o,c :: r=>by
  have e:o+m+1=o+1+m:=by omega
  simp only[nls,e,nls_add m (o+1) r]
  split <;> simp
theorem nls_gt:∀(o:Nat)(a:Bs),∀x∈nls o a,o<x∧x≤o+a.length
 | _,[],x,h=>by simp [nls] at h
 | o,c :: r,x,h=>by
  simp only[nls] at h
  split at h
  ·simp only[Qi] at h
   rcases h with rfl | h
   ·simp only[Qh];omega
   ·have:=nls_gt (o+1) r x h;simp only[Qh];omega
  ·have:=nls_gt (o+1) r x h;simp only[Qh];omega
theorem nls_cut (T:Bs){off:Nat}(h:off≤T.length):nls 0 T=nls 0 (T.take off) ++ nls off (T.drop off):=by
 conv=>lhs;rw[←Qe off T]
 rw[nls_app,Qf,Qm h,Qx]
def lineF (l:List Nat)(off:Nat):Nat→Nat→Nat→Nat
 | 0,low,_=>low
 | f+1,low,high=>if high - low > 1 then
  (if l.getD (low+(high - low) / 2) 0≤off then lineF l off f (low+(high - low) / 2) high else lineF l off f low (low+(high - low) / 2))
  else low
theorem lineF_spec (l:List Nat)(off:Nat):∀(f low high:Nat),high - low≤f+1→low<high→high≤l.length→l.getD low 0≤off→(high<l.length→off<l.getD high 0)→
 lineF l off f low high<l.length∧l.getD (lineF l off f low high) 0≤off∧(lineF l off f low high+1<l.length→off<l.getD (lineF l off f low high+1) 0)
 | 0,low,high,h1,h2,h3,h4,h5=>by
  have:high=low+1:=by omega
  subst this
  exact⟨h3,h4,h5⟩
 | f+1,low,high,h1,h2,h3,h4,h5=>by
  unfold lineF
  by_cases hq:high - low > 1
  ·rw[if_pos hq]
   by_cases hh:l.getD (low+(high - low) / 2) 0≤off
   ·rw[if_pos hh]
    exact lineF_spec l off f _ _ (by omega) (by omega) h3 hh h5
   ·rw[if_neg hh]
    exact lineF_spec l off f _ _ (by omega) (by omega) (by omega) h4 (fun _=>by omega)
  ·rw[if_neg hq]
   have:high=low+1:=by omega
   subst this
   exact⟨h3,h4,h5⟩
def line (l:List Nat)(off:Nat):Nat:=lineF l off l.length 0 l.length
theorem line_unique (T:Bs){off r:Nat}(h:off≤T.length)(h1:r< (starts T).length)(h2:(starts T).getD r 0≤off)(h3:r+1< (starts T).length→off< (starts T).getD (r+1) 0) :
 r=(nls 0 (T.take off)).length:=by
 have e:starts T=(0 :: nls 0 (T.take off)) ++ nls off (T.drop off):=by rw[starts,nls_cut T h];rfl
 rcases Nat.lt_trichotomy r (nls 0 (T.take off)).length with hr | hr | hr
 ·exfalso
  have hlt:r+1< (starts T).length:=by rw[e];simp;omega
  have:=h3 hlt
  rw[e,Qa,List.getElem?_append_left (by simp;omega),Qv,Qb hr] at this
  have hm:=nls_gt 0 (T.take off) _ (Qw hr)
  rw[Qf] at hm
  simp only[Q2] at this
  omega
 ·exact hr
 ·exfalso
  rw[e,Qa,List.getElem?_append_right (by simp;omega)] at h2
  rw[e] at h1
  simp only[Qg,Qh] at h1
  have hi:r - (0 :: nls 0 (T.take off)).length< (nls off (T.drop off)).length:=by simp;omega
  rw[Qb hi] at h2
  have hm:=nls_gt off (T.drop off) _ (Qw hi)
  simp only[Q2] at h2
  omega
theorem line_ok (T:Bs){off:Nat}(h:off≤T.length):line (starts T) off=(nls 0 (T.take off)).length:=by
 obtain⟨h1,h2,h3⟩:=lineF_spec (starts T) off (starts T).length 0 (starts T).length (by omega) (by simp [starts]) (Nat.le_refl _) (by simp [starts]) (fun hh=>absurd hh (Nat.lt_irrefl _))
 exact line_unique T h h1 h2 h3
def moveF (l:List Nat)(k:Nat)(f:Nat→Nat):List Nat:=l.take (k+1) ++ (l.drop (k+1)).map f
def insX (l:List Nat)(off:Nat)(s:Bs):List Nat:=
 let k:=line l off
 let l1:=moveF l k (· +s.length)
 l1.take (k+1) ++ nls off s ++ l1.drop (k+1)
def delX (l:List Nat)(off n:Nat):List Nat:=
 let k:=line l off
 let l1:=l.take (k+1) ++ l.drop (k+1+(line l (off+n) - k))
 moveF l1 k (· - n)
theorem starts_cut (T:Bs){off:Nat}(h:off≤T.length):(starts T).take ((nls 0 (T.take off)).length+1)=starts (T.take off)∧(starts T).drop ((nls 0 (T.take off)).length+1)=nls off (T.drop off):=by
 have e:starts T=starts (T.take off) ++ nls off (T.drop off):=by rw[starts,nls_cut T h];rfl
 have hl:(starts (T.take off)).length=(nls 0 (T.take off)).length+1:=by simp [starts]
 rw[e,←hl]
 exact⟨by simp,by simp⟩
theorem insX_ok (T:Bs){off:Nat}(s:Bs)(h:off≤T.length):insX (starts T) off s=starts (T.take off ++ s ++ T.drop off):=by
 unfold insX
 simp only[line_ok T h]
 obtain⟨h1,h2⟩:=starts_cut T h
 have hl:(starts (T.take off)).length=(nls 0 (T.take off)).length+1:=by simp [starts]
 simp only[moveF,h1,h2]
 rw[←hl,Qs,Qj]
 unfold starts
 rw[nls_app,nls_app]
 simp only[Qg,Qf,Qm h,Qx,Qr]
 rw[nls_add]
theorem nls_drop (T:Bs){off n:Nat}(h:off+n≤T.length):nls off (T.drop off)=nls off ((T.drop off).take n) ++ nls (off+n) (T.drop (off+n)):=by
 conv=>lhs;rw[←Qe n (T.drop off)]
 rw[nls_app,Qf,Qu,Qm (by omega),Qp]
theorem take_nls (T:Bs){off n:Nat}(h:off+n≤T.length):nls 0 (T.take (off+n))=nls 0 (T.take off) ++ nls off ((T.drop off).take n):=by
 rw[List.take_add,nls_app,Qf,Qm (by omega),Qx]
theorem delX_ok (T:Bs){off n:Nat}(h:off+n≤T.length):delX (starts T) off n=starts (T.take off ++ T.drop (off+n)):=by
 unfold delX
 simp only[line_ok T (show off≤T.length by omega),line_ok T h]
 obtain⟨h1,h2⟩:=starts_cut T (show off≤T.length by omega)
 have hl:(starts (T.take off)).length=(nls 0 (T.take off)).length+1:=by simp [starts]
 have e:(nls 0 (T.take off)).length+1+((nls 0 (T.take (off+n))).length - (nls 0 (T.take off)).length)=(nls 0 (T.take off)).length+1+(nls off ((T.drop off).take n)).length:=by
  rw[take_nls T h];simp
 rw[e,←Qp,h1,h2,nls_drop T h,Qj]
 unfold moveF
 rw[←hl,Qs,Qj]
 unfold starts
 rw[nls_app,Qf,Qm (by omega),Qx,nls_add,List.map_map]
 simp only[Qr]
 congr 2
 conv=>rhs;rw[←List.map_id (nls off (T.drop (off+n)))]
 exact List.map_congr_left fun x _=>by simp
end Go.Pg.Tb
namespace Go.Pg.Tb
def joinL:List Bs→Bs
 | []=>[]
 | [l]=>l
 | l :: m :: r=>l ++ 10 :: joinL (m :: r)
def term:List Bs→Bs
 | []=>[]
 | l :: r=>l ++ 10 :: term r
theorem term_app:∀(a b:List Bs),term (a ++ b)=term a ++ term b
 | [],_=>rfl
 | l :: r,b=>by simp [term,term_app r b]
theorem term_join:∀(a:List Bs),a≠[]→term a=joinL a ++ [10]
 | [],h=>absurd rfl h
 | [l],_=>by simp [term,joinL]
 | l :: m :: r,_=>by
  have:=term_join (m :: r) (by simp)
  rw[term,this]
  simp [joinL]
theorem join_app:∀(a b:List Bs),b≠[]→joinL (a ++ b)=term a ++ joinL b
 | [],_,_=>rfl
 | [l],b,h=>by
  cases b with
  | nil=>exact absurd rfl h
  | cons m r=>simp [joinL,term]
 | l :: m :: r,b,h=>by
  have:=join_app (m :: r) b h
  simp only[Qr] at this ⊢
  simp [joinL,term,this]
def clean (ls:List Bs):Prop:=∀l∈ls,(10:UInt8)∉l
theorem nls_clean:∀(o:Nat)(l:Bs),(10:UInt8)∉l→nls o l=[]
 | _,[],_=>rfl
 | o,c :: r,h=>by
  simp only[Qi,not_or] at h
  rw[nls,if_neg (fun hc=>h.1 hc.symm),nls_clean (o+1) r h.2]
def startsL:Nat→List Bs→List Nat
 | _,[]=>[]
 | o,l :: r=>o :: startsL (o+l.length+1) r
theorem startsL_ok:∀(r:List Bs)(l:Bs)(o:Nat),clean (l :: r)→o :: nls o (joinL (l :: r))=startsL o (l :: r)
 | [],l,o,h=>by simp [joinL,startsL,nls_clean o l (h l (by simp))]
 | m :: r,l,o,h=>by
  have ih:=startsL_ok r m (o+l.length+1) (fun x hx=>h x (by simp only[Qi] at hx ⊢;exact .inr hx))
  rw[joinL,nls_app,nls_clean o l (h l (by simp)),startsL,←ih]
  simp [nls]
theorem starts_join {ls:List Bs}(h:clean ls)(hn:ls≠[]):starts (joinL ls)=startsL 0 ls:=by
 cases ls with
 | nil=>exact absurd rfl hn
 | cons l r=>exact startsL_ok r l 0 h
theorem startsL_len:∀(o:Nat)(ls:List Bs),(startsL o ls).length=ls.length
 | _,[]=>rfl
 | o,l :: r=>by simp [startsL,startsL_len _ r]
theorem startsL_get:∀(ls:List Bs)(o i:Nat),i<ls.length→(startsL o ls)[i]? =some (o+(term (ls.take i)).length)
 | [],_,_,h=>by simp at h
 | l :: r,o,0,_=>by simp [startsL,term]
 | l :: r,o,i+1,h=>by
  simp only[startsL,Qv]
  rw[startsL_get r _ i (by simpa using h)]
  simp [term];omega
end Go.Pg.Tb
namespace Go.Pg.Tb
theorem drop_line {ls:List Bs}{k:Nat}(h:k<ls.length):ls.drop k=ls.getD k [] :: ls.drop (k+1):=by
 rw[Qt h,Qa,Qb h];rfl
theorem drop_ne {ls:List Bs}{k:Nat}(h:k<ls.length):ls.drop k≠[]:=by
 intro e;rw[List.drop_eq_nil_iff] at e;omega
theorem join_cut {ls:List Bs}{k:Nat}(h:k<ls.length):joinL ls=term (ls.take k) ++ joinL (ls.drop k):=by
 rw[←join_app _ _ (drop_ne h),Qe]
theorem join_line {ls:List Bs}{k:Nat}(h:k+1<ls.length):joinL ls=term (ls.take k) ++ (ls.getD k [] ++ 10 :: joinL (ls.drop (k+1))):=by
 rw[join_cut (show k<ls.length by omega),drop_line (show k<ls.length by omega)]
 congr 1
 cases hd:ls.drop (k+1) with
 | nil=>exact absurd hd (drop_ne h)
 | cons m r=>rfl
theorem term_succ {ls:List Bs}{k:Nat}(h:k<ls.length):term (ls.take (k+1))=term (ls.take k) ++ (ls.getD k [] ++ [10]):=by
 have t:ls.take (k+1)=ls.take k ++ [ls.getD k []]:=by rw[Q1,Qb h,Qa,Qb h];rfl
 rw[t,term_app];simp [term]
theorem starts_len {ls:List Bs}(h:clean ls)(hn:ls≠[]):(starts (joinL ls)).length=ls.length:=by rw[starts_join h hn,startsL_len]
theorem starts_getD {ls:List Bs}(h:clean ls)(hn:ls≠[]){i:Nat}(hi:i<ls.length):(starts (joinL ls)).getD i 0=(term (ls.take i)).length:=by
 rw[starts_join h hn,Qa,startsL_get ls 0 i hi];simp
theorem nls_line (o:Nat)(l:Bs)(h:(10:UInt8)∉l):(nls o (l ++ [10])).length=1:=by
 rw[nls_app,nls_clean o l h];simp [nls]
theorem del_line {ls:List Bs}(hc:clean ls){k:Nat}(h:k+1<ls.length) :
 ((joinL ls).take (term (ls.take k)).length=term (ls.take k))∧((joinL ls).drop ((term (ls.take k)).length+((ls.getD k []).length+1))=joinL (ls.drop (k+1)))∧
 joinL (ls.take k ++ ls.drop (k+1))=term (ls.take k) ++ joinL (ls.drop (k+1))∧
 line (starts (joinL ls)) (term (ls.take k)).length<line (starts (joinL ls)) ((term (ls.take k)).length+((ls.getD k []).length+1))∧
 (term (ls.take k)).length+((ls.getD k []).length+1)≤(joinL ls).length:=by
 have hj:=join_line h
 have hne:ls≠[]:=by intro e;subst e;simp at h
 have h1:(joinL ls).take (term (ls.take k)).length=term (ls.take k):=by rw[hj,Qs]
 have h2:(joinL ls).drop ((term (ls.take k)).length+((ls.getD k []).length+1))=joinL (ls.drop (k+1)):=by
  rw[hj,←Qp,Qj,←Qp,Qj];rfl
 have h5:(term (ls.take k)).length+((ls.getD k []).length+1)≤(joinL ls).length:=by
  have:=congrArg List.length hj
  simp only[Qg,Qh] at this
  omega
 refine⟨h1,h2,join_app _ _ (drop_ne h),?_,h5⟩
 rw[line_ok _ (by omega),line_ok _ h5,take_nls _ h5,Qg]
 have:((joinL ls).drop (term (ls.take k)).length).take ((ls.getD k []).length+1)=ls.getD k [] ++ [10]:=by
  rw[hj,Qj]
  have:ls.getD k [] ++ 10 :: joinL (ls.drop (k+1))=(ls.getD k [] ++ [10]) ++ joinL (ls.drop (k+1)):=by simp
  rw[this,Qk (by simp),Qq (by simp)]
 rw[this,nls_line _ _ (hc _ (by rw[Qa,Qb (by omega)];exact Qw _))]
 omega
theorem ins_line {ls:List Bs}(s:Bs){a:Nat}(h:a<ls.length) :
 joinL (ls.take a ++ s :: ls.drop a)=(joinL ls).take (term (ls.take a)).length ++ (s ++ [10]) ++ (joinL ls).drop (term (ls.take a)).length:=by
 have hj:=join_cut h
 have e:ls.take a ++ s :: ls.drop a=(ls.take a ++ [s]) ++ ls.drop a:=by simp
 rw[e,join_app _ _ (drop_ne h),term_app,hj,Qs,Qj]
 simp [term]
theorem ins_last {ls:List Bs}(s:Bs)(hn:ls≠[]):joinL (ls ++ [s])=(joinL ls).take (joinL ls).length ++ (10 :: s) ++ (joinL ls).drop (joinL ls).length:=by
 rw[join_app _ _ (by simp),term_join _ hn]
 simp [joinL]
theorem clean_del {ls:List Bs}(h:clean ls)(k:Nat):clean (ls.take k ++ ls.drop (k+1)):=by
 intro l hl
 rw[Qo] at hl
 rcases hl with hl | hl
 ·exact h l (Qc hl)
 ·exact h l (Qd hl)
theorem clean_ins {ls:List Bs}(h:clean ls){s:Bs}(hs:(10:UInt8)∉s)(a:Nat):clean (ls.take a ++ s :: ls.drop a):=by
 intro l hl
 simp only[Qo,Qi] at hl
 rcases hl with hl | rfl | hl
 ·exact h l (Qc hl)
 ·exact hs
 ·exact h l (Qd hl)
end Go.Pg.Tb
