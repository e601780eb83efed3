/- Pg, part 26: a range over a function: the law, over an iterator that tells its values in order. -/
import Derived.Test.YtjbgnnggmngpcaaGreatDoorPgRng
set_option linter.unusedVariables false
set_option linter.unusedSimpArgs false
set_option linter.unusedSectionVars false
open Array renaming getElem?_eq_some_iff → Qa
open Nat renaming le_refl → Qb
namespace Go.Pg
open Go Go.RowKit
variable [Syms]
def KeepS (S:Nat→Prop)(W W':World):Prop:=∀b,S b→W'.heap[b]? =W.heap[b]?
def roundPost (B:Nat)(S:Nat→Prop)(I':(Nat→Prop)→World→Prop)(Ix:Code→(Nat→Prop)→World→Prop)(W:World):Exit→Act→World→Prop
 | .normal,_,W'=>KeepsB B W W'∧KeepS S W W'∧I' S W'
 | .ret,_,W'=>KeepsB B W W'∧KeepS S W W'∧Ix .ret S W'
 | .exit id,_,W'=>KeepsB B W W'∧KeepS S W W'∧Ix (.exit id) S W'
 | _,_,_=>False
def Abides (B:Nat)(S:Nat→Prop)(K:World→Prop):Prop:=
 ∀W W' row,K W→W.grownBy W' row→(∀r,row=some r→B≤r∧¬S r∧∃o:Obj,W.heap[r]? =some o∧bk o=true)→K W'
theorem Abides.putObj {B:Nat}{S:Nat→Prop}{K:World→Prop}(h:Abides B S K){W:World}{l:Nat}{o:Obj}(o':Obj)(hs:K W)(hB:B≤l)(hS:¬S l)(hl:W.heap[l]? =some o)(ho:bk o=true):K (W.putObj l o'):=
 h W _ (some l) hs (grownBy_putObj' W l o') (fun r e=>by cases e;exact⟨hB,hS,o,hl,ho⟩)
theorem Abides.alloc {B:Nat}{S:Nat→Prop}{K:World→Prop}(h:Abides B S K){W:World}(o:Obj)(hs:K W):K (W.alloc o):=
 h W _ none hs (World.grownBy_alloc W o none) (fun r e=>by cases e)
theorem range_law {P:Program}{n:Nat}{g:Operand}{ps:Array Tmp}{assign body:Code}{Q:Exit→Act→World→Prop}{a:Act}{w:World}
 {gf:Nat} {lb:Array Value} (hg:a.eval g= .func (.func gf) #[] lb) (eg:∀args w,(callFunc gf args).run P w= .ok (.enter gf args) w)
 {X:Tell} {st:Nat→Prop} (hseq:IterW P gf lb X st w) (hps:∀i x i',X.R i x i'→x.length=ps.size) (hst:∀b,st b→b<w.heap.size)
 (I:X.ι→(Nat→Prop)→World→Prop) (Ix:Code→(Nat→Prop)→World→Prop) (Ax:X.ι→(Nat→Prop)→Act→World→Prop)
 (hI:∀k S,Abides w.heap.size S (I k S)) (hIx:∀c S,Abides w.heap.size S (Ix c S)) (hAx:∀k S a',Abides w.heap.size S (Ax k S a'))
 (hIo:∀k S A B,I k S A→OwnStep S A B→I k (grow S A B) B) (hIxo:∀c S A B,Ix c S A→OwnStep S A B→Ix c (grow S A B) B)
 (hIst:∀k S A,I k S A→∀b,st b→A.heap[b]? =w.heap[b]?) (hIxst:∀c S A,Ix c S A→∀b,st b→A.heap[b]? =w.heap[b]?) (h0:I X.i0 (fun _=>False) w)
 (hassign:∀(l n:Nat) k x k' S v W,X.R k x k'→TellsV w st x v→(∀b,S b→b<W.heap.size)→I k S W→
   assign.wpIn (FW (some l)) n P (Exit.then (fun a' W'=>KeepsB w.heap.size W W'∧KeepS S W W'∧Ax k' S a' W') (fun _ _ _=>False)) { tmps:=(ps.zip v).foldl (fun t (p,v)=>t.setIfInBounds p v) a.tmps,defers:=[] } W)
 (hbody:∀(l n:Nat) k' S a' W,(∀b,S b→b<W.heap.size)→Ax k' S a' W→body.wpIn (FW (some l)) n P (roundPost w.heap.size S (I k') Ix W) a' W)
 (hdone:∀(D:Nat) k S W,w.heap.size≤D→X.D k→I k S W→W.heap[D]? =some (.deferred (some []))→Q .normal { a with defers:={ target:= .collected D,args:= #[] } :: a.defers } W)
 (hstop:∀(D:Nat) c S W,w.heap.size≤D→Ix c S W→W.heap[D]? =some (.deferred (some []))→c.wpIn Fence.wide n P Q { a with defers:={ target:= .collected D,args:= #[] } :: a.defers } W) :
 (Code.rangeFunc g ps assign body).wpIn Fence.wide n P Q a w:=by
 refine wpIn_rangeFunc ?_
 intro fn hfn
 rw[show Fence.wide.round=none from rfl]
 obtain⟨rec,hrec⟩:∃rec:LoopState→Option Code→Loop,rec=fun st pe=>{ state:=st,pending:=pe,fn,tmps:=a.tmps,params:=ps,assign,body,defers:=w.heap.size }:=⟨_,rfl⟩
 obtain⟨W1,hW1⟩:∃W1,(w.alloc (.deferred (some []))).alloc (.loop (rec .ready none))=W1:=⟨_,rfl⟩
 have hL1:W1.heap[w.heap.size+1]? =some (.loop (rec .ready none)):=by
  rw[←hW1];have:=World.alloc_heap_new (w.alloc (.deferred (some []))) (.loop (rec .ready none));rwa [World.size_alloc] at this
 have hK1:W1.heap[w.heap.size]? =some (.deferred (some [])):=by
  rw[←hW1];exact(Below.heap_alloc _ _ _ (by simp)).trans (World.alloc_heap_new w _)
 have hI1:I X.i0 (fun _=>False) W1:=by rw[←hW1];exact(hI _ _).alloc _ ((hI _ _).alloc _ h0)
 have hsz1:W1.heap.size=w.heap.size+2:=by rw[←hW1];simp
 have hb1:Below w.heap.size w W1:=by
  rw[←hW1];exact(((Below.refl _ w).alloc (Qb _) _).alloc (by simp) _)
 refine⟨w.heap.size+1,[{ target:= .collected w.heap.size,args:= #[] }],W1,{ target:= .fn (.func gf) lb,args:= #[.func (.yield (w.heap.size+1)) #[] #[]] },W1,gf,
  #[.func (.yield (w.heap.size+1)) #[] #[]] ++ lb,W1,?_,?_,?_,?_,?_,?_⟩
 ·rw[←hW1,hrec];exact run_enterLoop_outer _ _ _ _ _
 ·simp only[resolve,hg]
  simp [go_sem]
 ·intro f' _;exact trivial
 ·simp [invoke,go_sem,eg]
 ·intro h;cases h
 ·refine callsIn_wide.2 ((hseq (w.heap.size+1)
   (fun k S W=>I k S W∧W.heap[w.heap.size+1]? =some (.loop (rec .ready none))∧W.heap[w.heap.size]? =some (.deferred (some []))∧∀b,S b→w.heap.size+2≤b)
   (fun _ S W=>∃c,Ix c S W∧W.heap[w.heap.size+1]? =some (.loop (rec .done (some c)))∧W.heap[w.heap.size]? =some (.deferred (some []))∧∀b,S b→w.heap.size+2≤b)
   W1 hb1
   (fun k S A B h hb=>by
     have hl:=(Qa.1 h.2.1).1
     have hk:=(Qa.1 h.2.2.1).1
     exact⟨hIo k S A B h.1 hb,(hb.keep _ hl (fun hS=>by have:=h.2.2.2 _ hS;omega)).trans h.2.1,(hb.keep _ hk (fun hS=>by have:=h.2.2.2 _ hS;omega)).trans h.2.2.1,fun b hS=>hS.elim (h.2.2.2 b) (fun hS=>by omega)⟩)
   (fun k S A B h hb=>by
     obtain⟨c,hc,h1,h2,h3⟩:=h
     have hl:=(Qa.1 h1).1
     have hk:=(Qa.1 h2).1
     exact⟨c,hIxo c S A B hc hb,(hb.keep _ hl (fun hS=>by have:=h3 _ hS;omega)).trans h1,(hb.keep _ hk (fun hS=>by have:=h3 _ hS;omega)).trans h2,fun b hS=>hS.elim (h3 b) (fun hS=>by omega)⟩)
   (fun k S A h b hb=>by rw[hIst k S A h.1 b hb,hb1.block b (hst b hb)])
   (fun k S A h b hb=>by obtain⟨c,hc,_⟩:=h;rw[hIxst c S A hc b hb,hb1.block b (hst b hb)])
   ?_ ⟨hI1,hL1,hK1,fun b hb=>hb.elim⟩).mono ?_)
  ·rintro m k k' x S W v hR hv hSb ⟨hi,hl,hk,hS2⟩
   have hlt:w.heap.size+1<W.heap.size:=(Qa.1 hl).1
   have nl:¬S (w.heap.size+1):=fun h=>by have:=hS2 _ h;omega
   have nk:¬S w.heap.size:=fun h=>by have:=hS2 _ h;omega
   have hy:=run_yield (P:=P) (args:=v) hl (by rw[hrec];exact hv.1.trans (hps _ _ _ hR))
   rw[hrec] at hy
   refine⟨fn,_,assign,body,hy,roundIn_of_wpIn hfn (wpIn_mono (hassign _ m k x k' S v W hR hv (fun b h=>(hSb b h).2) hi) ?_)⟩
   clear hy
   intro e a' Wa hh
   cases e with
   | normal=>
    obtain⟨hkfa,hksa,hax⟩:=hh
    replace hl:=hkfa.same _ _ (by omega) hl rfl
    replace hk:=hkfa.same _ _ (Qb _) hk rfl
    have hlt':w.heap.size+1<Wa.heap.size:=(Qa.1 hl).1
    have hza:=hkfa.size
    refine⟨_,run_beginRound hl (by rw[hrec]),?_⟩
    have hl2:(Wa.putObj (w.heap.size+1) (.loop { rec .ready none with state:= .busy })).heap[w.heap.size+1]? =some (.loop { rec .ready none with state:= .busy }):=World.putObj_heap_same hlt'
    have hk2:(Wa.putObj (w.heap.size+1) (.loop { rec .ready none with state:= .busy })).heap[w.heap.size]? =some (.deferred (some [])):=(World.putObj_heap_other (by omega)).trans hk
    have hs2:(Wa.putObj (w.heap.size+1) (.loop { rec .ready none with state:= .busy })).heap.size=Wa.heap.size:=by simp [World.putObj]
    have hkp:∀b,S b→(Wa.putObj (w.heap.size+1) (.loop { rec .ready none with state:= .busy })).heap[b]? =W.heap[b]?:=fun b h=>by
     have hne:b≠w.heap.size+1:=fun e=>nl (by rw[←e];exact h)
     exact(World.putObj_heap_other (by omega)).trans (hksa b h)
    refine wpIn_mono (hbody _ m k' S a' _ (fun b h=>by rw[hs2];have:=(hSb b h).2;omega) ((hAx k' S a').putObj _ hax (by omega) nl hl rfl)) ?_
    have fin:∀(jump:Option Code) (W3:World),KeepsB w.heap.size (Wa.putObj (w.heap.size+1) (.loop { rec .ready none with state:= .busy })) W3→KeepS S (Wa.putObj (w.heap.size+1) (.loop { rec .ready none with state:= .busy })) W3→
     (Instr.endRound (w.heap.size+1) jump).run P W3= .ok (.bool jump.isNone) (W3.putObj (w.heap.size+1) (.loop (rec (if jump.isNone then .ready else .done) jump)))∧
     W3.heap[w.heap.size+1]? =some (.loop { rec .ready none with state:= .busy })∧
     (W3.putObj (w.heap.size+1) (.loop (rec (if jump.isNone then .ready else .done) jump))).heap[w.heap.size+1]? =some (.loop (rec (if jump.isNone then .ready else .done) jump))∧
     (W3.putObj (w.heap.size+1) (.loop (rec (if jump.isNone then .ready else .done) jump))).heap[w.heap.size]? =some (.deferred (some []))∧
     (W.heap.size≤(W3.putObj (w.heap.size+1) (.loop (rec (if jump.isNone then .ready else .done) jump))).heap.size∧∀b,S b→(W3.putObj (w.heap.size+1) (.loop (rec (if jump.isNone then .ready else .done) jump))).heap[b]? =W.heap[b]?):=fun jump W3 hk3 hks3=>by
     have hl3:=hk3.same _ _ (by omega) hl2 rfl
     have:=run_endRound (P:=P) jump hl3
     rw[hrec] at this ⊢
     have hz3:=hk3.size
     rw[hs2] at hz3
     refine⟨this,by rw[hrec] at hl3;exact hl3,World.putObj_heap_same (Qa.1 hl3).1,(World.putObj_heap_other (by omega)).trans (hk3.same _ _ (Qb _) hk2 rfl),by simp only[World.putObj,Array.size_setIfInBounds];omega,fun b h=>?_⟩
     have hne:b≠w.heap.size+1:=fun e=>nl (by rw[←e];exact h)
     exact(World.putObj_heap_other (by omega)).trans ((hks3 b h).trans (hkp b h))
    rintro e a3 W3 hp
    cases e with
    | normal=>
     obtain⟨hk3,hks3,hi3⟩:=hp
     obtain⟨hr,hl3,hl4,hk4,hz4⟩:=fin none W3 hk3 hks3
     exact⟨_,_,hr,hz4,.inl ⟨rfl,(hI _ _).putObj _ hi3 (by omega) nl hl3 rfl,hl4,hk4,hS2⟩⟩
    | ret=>
     obtain⟨hk3,hks3,hi3⟩:=hp
     obtain⟨hr,hl3,hl4,hk4,hz4⟩:=fin (some .ret) W3 hk3 hks3
     exact⟨_,_,hr,hz4,.inr ⟨rfl,.ret,(hIx _ _).putObj _ hi3 (by omega) nl hl3 rfl,hl4,hk4,hS2⟩⟩
    | exit id=>
     obtain⟨hk3,hks3,hi3⟩:=hp
     obtain⟨hr,hl3,hl4,hk4,hz4⟩:=fin (some (.exit id)) W3 hk3 hks3
     exact⟨_,_,hr,hz4,.inr ⟨rfl,.exit id,(hIx _ _).putObj _ hi3 (by omega) nl hl3 rfl,hl4,hk4,hS2⟩⟩
    | goto t=>exact hp.elim
    | panic ch=>exact hp.elim
    | outgrown=>exact hp.elim
   | _=>exact hh.elim
  ·rintro e W2 ⟨⟨v,rfl⟩,(⟨kd,S,hD,hi,hl,hk,hS2⟩ | ⟨k,S,c,hi,hl,hk,hS2⟩)⟩
   ·exact⟨none,_,by have:=run_endLoop (P:=P) hl (by rw[hrec];simp);rw[hrec] at this;exact this,hdone _ kd S _ (Qb _) hD ((hI _ _).putObj _ hi (by omega) (fun h=>by have:=hS2 _ h;omega) hl rfl) ((World.putObj_heap_other (by omega)).trans hk)⟩
   ·exact⟨some c,_,by have:=run_endLoop (P:=P) hl (by rw[hrec];simp);rw[hrec] at this;exact this,hstop _ c S _ (Qb _) ((hIx _ _).putObj _ hi (by omega) (fun h=>by have:=hS2 _ h;omega) hl rfl) ((World.putObj_heap_other (by omega)).trans hk)⟩
end Go.Pg
