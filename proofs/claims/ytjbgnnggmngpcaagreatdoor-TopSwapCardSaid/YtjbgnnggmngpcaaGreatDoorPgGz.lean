/- Pg: abstract values, what operations, regions, calls come to on them. -/
import GoSem.ClaimGoes
import GoSem.ClaimFn
set_option linter.unusedVariables false
set_option linter.unusedSimpArgs false
set_option linter.unusedSectionVars false
namespace Go.Pg
open Go
theorem goes_none {P:Program}(h:P.funcs.any Func.goes=false)(f:FuncId):P.goes f=false:=by
 unfold Program.goes
 rw[h,Bool.and_false,Bool.or_false,List.any_eq_false]
 intro g _
 cases hg:P.funcs[g]? with
 | none=>simp
 | some fn=>
  have:=Array.any_eq_false.1 h
  obtain⟨hlt,he⟩:=Array.getElem?_eq_some_iff.1 hg
  have:=this g hlt
  rw[he] at this
  simpa using this
theorem goesBy_none {P:Program}{c:OpenClaim}(h:P.funcs.any Func.goes=false)(hs:c.start= .entering):false=c.goesBy P:=by
 unfold OpenClaim.goesBy Program.goesAt Program.goesFrom
 rw[hs]
 cases P.funcNamed c.func with
 | none=>rfl
 | some f=>simp [goes_none h f]
end Go.Pg
namespace Go.Pg
open Go
def cloT (tbl:List (List Nat)):Nat→List Nat→Nat→List Nat→List Nat
 | 0,_,_,seen=>seen.reverse
 | _+1,[],_,seen=>seen.reverse
 | n+1,f :: todo,m,seen=>
  match Nat.testBit m f with
  | true=>cloT tbl n todo m seen
  | false=>cloT tbl n ((tbl[f]?).getD [] ++ todo) (m ||| (1 <<< f)) (f :: seen)
def bitsOf (m:Nat)(seen:List Nat):Prop:=∀i,Nat.testBit m i=seen.contains i
theorem bitsOf_cons {m:Nat}{seen:List Nat}(h:bitsOf m seen)(f:Nat):bitsOf (m ||| (1 <<< f)) (f :: seen):=by
 intro i
 rw[Nat.testBit_or,h i,List.contains_cons,Nat.one_shiftLeft,Nat.testBit_two_pow,Bool.or_comm]
 by_cases hi:i=f
 ·subst hi;simp
 ·have h1:(i == f)=false:=by simpa using hi
  have h2:decide (f=i)=false:=by simp;exact fun e=>hi e.symm
  rw[h1,h2]
theorem cloT_eq {P:Program}{tbl:List (List Nat)}(ht:P.funcs.toList.map P.leadsTo=tbl):∀(n:Nat)(todo:List Nat)(m:Nat)(seen:List Nat),bitsOf m seen→P.closureVia n todo seen=cloT tbl n todo m seen:=by
 have hl:∀f:Nat,(P.funcs[f]?).elim [] P.leadsTo=(tbl[f]?).getD []:=by
  intro f
  rw[←ht,List.getElem?_map,Array.getElem?_toList]
  cases P.funcs[f]? <;> rfl
 intro n
 induction n with
 | zero=>intro todo m seen _;cases todo <;> rfl
 | succ n ih=>
  intro todo m seen hb
  cases todo with
  | nil=>rfl
  | cons f todo=>
   have hbf:=hb f
   show(if seen.contains f=true then P.closureVia n todo seen else P.closureVia n ((P.funcs[f]?).elim [] P.leadsTo ++ todo) (f :: seen))=(match Nat.testBit m f with
    | true=>cloT tbl n todo m seen
    | false=>cloT tbl n ((tbl[f]?).getD [] ++ todo) (m ||| (1 <<< f)) (f :: seen))
   rw[hbf]
   cases hc:seen.contains f with
   | true=>exact ih todo m seen hb
   | false=>rw[hl f];exact ih _ _ _ (bitsOf_cons hb f)
def sumT:List (List Nat)→Nat
 | []=>0
 | l :: r=>l.length+1+sumT r
theorem sumT_eq (tbl:List (List Nat)):(tbl.map fun l=>l.length+1).sum=sumT tbl:=by
 induction tbl with
 | nil=>rfl
 | cons l r ih=>rw[List.map_cons,List.sum_cons,ih];rfl
theorem closure_lit {P:Program}{tbl:List (List Nat)}{f:FuncId}{l:List Nat}(ht:P.funcs.toList.map P.leadsTo=tbl)(h:cloT tbl (1+sumT tbl) [f] 0 []=l):P.closure f=l:=by
 rw[←h]
 unfold Program.closure
 have e:(P.funcs.toList.map fun g=>(P.leadsTo g).length+1).sum=sumT tbl:=by
  rw[←sumT_eq,←ht,List.map_map];rfl
 rw[e]
 exact cloT_eq ht _ _ _ _ (fun i=>by simp)
end Go.Pg
