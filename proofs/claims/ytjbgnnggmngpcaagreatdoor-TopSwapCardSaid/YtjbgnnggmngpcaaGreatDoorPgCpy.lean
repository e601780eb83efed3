/- The built-in functions copy and clear at elements of more cells than one. -/
import Derived.Laws.IdiomCopy
import Derived.Lib.SliceRun
set_option linter.unusedVariables false
set_option linter.unusedSimpArgs false
set_option linter.unusedSectionVars false
namespace Go.Pg
open Go
variable {P:Program}
theorem zeroCells_len (z:Array Value)(n:Nat):(Builtin.zeroCells z n).toList.length=n * z.size:=by simp [Builtin.zeroCells]
theorem zeroCells_mem (z:Array Value)(n:Nat):∀v∈(Builtin.zeroCells z n).toList,v∈z:=by
 intro v hv
 simp only[Builtin.zeroCells,Array.toList_map,List.mem_map] at hv
 obtain⟨i,hi,rfl⟩:=hv
 have hi':i<n * z.size:=by simpa using hi
 have hz:0<z.size:=by
  rcases Nat.eq_zero_or_pos z.size with h | h
  ·rw[h,Nat.mul_zero] at hi';omega
  ·exact h
 have hlt:=Nat.mod_lt i hz
 rw[getElem!_pos z _ hlt]
 exact Array.getElem_mem hlt
theorem run_clearK (w:World)(t e ty:TypeId)(z:Value)(ht:P.underlying t=some (.slice e))(hv:∀w,(zeroValue e).run P w= .ok z w)(h1:∀v∈z.cells,v.oneCell'=true)(b o n c:Nat)(hn:0<n)
 (hc:∀j,j<n * z.cells.size→(w.cell? ⟨b,o+j,none⟩).isSome=true) (hf:∀j,j<n * z.cells.size→w.frozen? ⟨b,o+j,none⟩=false) :
 (Builtin.clear_ #[t] ty #[.slice (some ⟨b,o,none⟩) n c]).run P w= .ok (.tuple #[]) (w.setCells b o (Builtin.zeroCells z.cells n).toList):=by
 have hst:=run_storeCells_cells (P:=P) b o (Builtin.zeroCells z.cells n).toList 0 w (by rw[zeroCells_len];simpa using hc) (by rw[zeroCells_len];simpa using hf) (fun v hv=>h1 v (zeroCells_mem _ _ v hv))
 simp only[Nat.add_zero] at hst
 obtain⟨m,rfl⟩:∃m,n=m+1:=⟨n - 1,by omega⟩
 simp [Builtin.clear_,run_underlying ht,hv,hst]
end Go.Pg
