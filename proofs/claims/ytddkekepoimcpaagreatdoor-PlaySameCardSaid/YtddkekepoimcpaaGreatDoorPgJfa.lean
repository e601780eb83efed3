/- The closed facts of PlaySame's row. -/
import Derived.Test.YtddkekepoimcpaaGreatDoorPgClz
import Derived.Test.YtddkekepoimcpaaGreatDoorRows
import Derived.JoinedOf
import Derived.KernelRfl
set_option linter.unusedVariables false
set_option linter.unusedSimpArgs false
namespace Go.Proofs.YtddkekepoimcpaaGreatDoor
open Go Go.Pg
theorem playSame_fact0 : (fun (P : Program) (f : FuncId) (fn : Func) (s : ChangeSpec) (c : OpenClaim) => (c.wf (OpenSpec.ofChange s) : Bool)) Tryz.prog 3 Tryz.f3 Rows.playSameSpec Rows.playSameRow = true := by kernel_rfl
theorem playSame_fact1 : (fun (P : Program) (f : FuncId) (fn : Func) (s : ChangeSpec) (c : OpenClaim) => (laidOutB P : Bool)) Tryz.prog 3 Tryz.f3 Rows.playSameSpec Rows.playSameRow = true := by kernel_rfl
theorem playSame_fact2 : (fun (P : Program) (f : FuncId) (fn : Func) (s : ChangeSpec) (c : OpenClaim) => (mapsRowed P : Bool)) Tryz.prog 3 Tryz.f3 Rows.playSameSpec Rows.playSameRow = true := by kernel_rfl
theorem playSame_fact3 : (fun (P : Program) (f : FuncId) (fn : Func) (s : ChangeSpec) (c : OpenClaim) => (fn.params.all (P.readableRec ·) : Bool)) Tryz.prog 3 Tryz.f3 Rows.playSameSpec Rows.playSameRow = true := by kernel_rfl
theorem playSame_fact4 : (fun (P : Program) (f : FuncId) (fn : Func) (s : ChangeSpec) (c : OpenClaim) => (namedTie P c.named s.vars : Bool)) Tryz.prog 3 Tryz.f3 Rows.playSameSpec Rows.playSameRow = true := by kernel_rfl
theorem playSame_fact5 : (fun (P : Program) (f : FuncId) (fn : Func) (s : ChangeSpec) (c : OpenClaim) => ((c.stops == []) : Bool)) Tryz.prog 3 Tryz.f3 Rows.playSameSpec Rows.playSameRow = true := by kernel_rfl
theorem playSame_fact6 : (fun (P : Program) (f : FuncId) (fn : Func) (s : ChangeSpec) (c : OpenClaim) => ((P.stops == []) : Bool)) Tryz.prog 3 Tryz.f3 Rows.playSameSpec Rows.playSameRow = true := by kernel_rfl
theorem playSame_fact7 : (fun (P : Program) (f : FuncId) (fn : Func) (s : ChangeSpec) (c : OpenClaim) => ((c.knobs == []) : Bool)) Tryz.prog 3 Tryz.f3 Rows.playSameSpec Rows.playSameRow = true := by kernel_rfl
theorem playSame_fact8 : (fun (P : Program) (f : FuncId) (fn : Func) (s : ChangeSpec) (c : OpenClaim) => ((P.stopKnobs == []) : Bool)) Tryz.prog 3 Tryz.f3 Rows.playSameSpec Rows.playSameRow = true := by kernel_rfl
theorem playSame_fact9 : (fun (P : Program) (f : FuncId) (fn : Func) (s : ChangeSpec) (c : OpenClaim) => ((c.inPlace == P.inPlace f) : Bool)) Tryz.prog 3 Tryz.f3 Rows.playSameSpec Rows.playSameRow = true := by
  dsimp only
  unfold Program.inPlace
  rw [clos_ok]
  kernel_rfl
theorem playSame_fact10 : (fun (P : Program) (f : FuncId) (fn : Func) (s : ChangeSpec) (c : OpenClaim) => ((c.unfollowed == P.unfollowed f) : Bool)) Tryz.prog 3 Tryz.f3 Rows.playSameSpec Rows.playSameRow = true := by
  dsimp only
  unfold Program.unfollowed
  rw [clos_ok]
  kernel_rfl
theorem playSame_fact11 : (fun (P : Program) (f : FuncId) (fn : Func) (s : ChangeSpec) (c : OpenClaim) => ((c.recurses == P.recurses f) : Bool)) Tryz.prog 3 Tryz.f3 Rows.playSameSpec Rows.playSameRow = true := by
  dsimp only
  unfold Program.recurses Program.unfollowed
  rw [clos_ok]
  kernel_rfl
theorem playSame_fact12 : (fun (P : Program) (f : FuncId) (fn : Func) (s : ChangeSpec) (c : OpenClaim) => ((c.named == P.varsNamed f) : Bool)) Tryz.prog 3 Tryz.f3 Rows.playSameSpec Rows.playSameRow = true := by
  dsimp only
  unfold Program.varsNamed
  rw [clos_ok]
  kernel_rfl
theorem playSame_fact13 : (fun (P : Program) (f : FuncId) (fn : Func) (s : ChangeSpec) (c : OpenClaim) => ((c.maps == (fn.params.toList ++ s.plain.varTypes P).any (P.mapsRec ·)) : Bool)) Tryz.prog 3 Tryz.f3 Rows.playSameSpec Rows.playSameRow = true := by kernel_rfl
theorem playSame_fact14 : (fun (P : Program) (f : FuncId) (fn : Func) (s : ChangeSpec) (c : OpenClaim) => ((c.ifaces == (fn.params.toList ++ s.plain.varTypes P).any (P.ifacesRec ·)) : Bool)) Tryz.prog 3 Tryz.f3 Rows.playSameSpec Rows.playSameRow = true := by kernel_rfl
theorem playSame_fact15 : (fun (P : Program) (f : FuncId) (fn : Func) (s : ChangeSpec) (c : OpenClaim) => ((c.mapsOut == P.mapsAmong fn.resultTypes.toList) : Bool)) Tryz.prog 3 Tryz.f3 Rows.playSameSpec Rows.playSameRow = true := by kernel_rfl
theorem playSame_fact16 : (fun (P : Program) (f : FuncId) (fn : Func) (s : ChangeSpec) (c : OpenClaim) => ((c.loops == (fn.params.toList ++ s.plain.varTypes P).any (P.loopsFrom ·)) : Bool)) Tryz.prog 3 Tryz.f3 Rows.playSameSpec Rows.playSameRow = true := by kernel_rfl
theorem playSame_fact17 : (fun (P : Program) (f : FuncId) (fn : Func) (s : ChangeSpec) (c : OpenClaim) => ((c.wideKeys == (fn.params.toList ++ s.plain.varTypes P ++ fn.resultTypes.toList).any (P.wideKeysFrom ·)) : Bool)) Tryz.prog 3 Tryz.f3 Rows.playSameSpec Rows.playSameRow = true := by kernel_rfl
theorem playSame_fact18 : (fun (P : Program) (f : FuncId) (fn : Func) (s : ChangeSpec) (c : OpenClaim) => (s.vars.all (P.varReadable ·) : Bool)) Tryz.prog 3 Tryz.f3 Rows.playSameSpec Rows.playSameRow = true := by kernel_rfl
theorem playSame_fact19 : (fun (P : Program) (f : FuncId) (fn : Func) (s : ChangeSpec) (c : OpenClaim) => (fn.resultTypes.all (fun t => P.readableRec t && decide (t < P.types.size)) : Bool)) Tryz.prog 3 Tryz.f3 Rows.playSameSpec Rows.playSameRow = true := by kernel_rfl
theorem playSame_fact20 : (fun (P : Program) (f : FuncId) (fn : Func) (s : ChangeSpec) (c : OpenClaim) => ((c.ifacesOut == fn.resultTypes.toList.any (P.ifacesRec ·)) : Bool)) Tryz.prog 3 Tryz.f3 Rows.playSameSpec Rows.playSameRow = true := by kernel_rfl
theorem playSame_fact21 : (fun (P : Program) (f : FuncId) (fn : Func) (s : ChangeSpec) (c : OpenClaim) => ((c.loopsOut == fn.resultTypes.toList.any (P.loopsFrom ·)) : Bool)) Tryz.prog 3 Tryz.f3 Rows.playSameSpec Rows.playSameRow = true := by kernel_rfl
theorem playSame_fact22 : (fun (P : Program) (f : FuncId) (fn : Func) (s : ChangeSpec) (c : OpenClaim) => ((c.plainKeys == P.plainKeys) : Bool)) Tryz.prog 3 Tryz.f3 Rows.playSameSpec Rows.playSameRow = true := by kernel_rfl
theorem playSame_fact23 : (fun (P : Program) (f : FuncId) (fn : Func) (s : ChangeSpec) (c : OpenClaim) => (c.shortTexts.isNone : Bool)) Tryz.prog 3 Tryz.f3 Rows.playSameSpec Rows.playSameRow = true := by kernel_rfl
theorem playSame_fact24 : (fun (P : Program) (f : FuncId) (fn : Func) (s : ChangeSpec) (c : OpenClaim) => (P.stopsHeard : Bool)) Tryz.prog 3 Tryz.f3 Rows.playSameSpec Rows.playSameRow = true := by kernel_rfl
theorem playSame_fact25 : (fun (P : Program) (f : FuncId) (fn : Func) (s : ChangeSpec) (c : OpenClaim) => (P.mayEnter : Bool)) Tryz.prog 3 Tryz.f3 Rows.playSameSpec Rows.playSameRow = true := by kernel_rfl
theorem playSame_fact26 : (fun (P : Program) (f : FuncId) (fn : Func) (s : ChangeSpec) (c : OpenClaim) => ((c.lifted == P.liftsFinal) : Bool)) Tryz.prog 3 Tryz.f3 Rows.playSameSpec Rows.playSameRow = true := by kernel_rfl
theorem playSame_fact27 : (fun (P : Program) (f : FuncId) (fn : Func) (s : ChangeSpec) (c : OpenClaim) => ((P.make == some c.make) : Bool)) Tryz.prog 3 Tryz.f3 Rows.playSameSpec Rows.playSameRow = true := by kernel_rfl
theorem playSame_fact28 : (fun (P : Program) (f : FuncId) (fn : Func) (s : ChangeSpec) (c : OpenClaim) => ((c.kinds == (if c.domain.isEmpty then [] else fn.params.toList.map fun t => match P.underlying t with | some (.int k) => some k | _ => none)) : Bool)) Tryz.prog 3 Tryz.f3 Rows.playSameSpec Rows.playSameRow = true := by kernel_rfl
theorem playSame_fact29 : (fun (P : Program) (f : FuncId) (fn : Func) (s : ChangeSpec) (c : OpenClaim) => ((c.pinned == c.pinnedBy) : Bool)) Tryz.prog 3 Tryz.f3 Rows.playSameSpec Rows.playSameRow = true := by kernel_rfl
theorem playSame_fact30 : (fun (P : Program) (f : FuncId) (fn : Func) (s : ChangeSpec) (c : OpenClaim) => ((c.veiled == (fn.params.toList ++ s.plain.varTypes P ++ fn.resultTypes.toList).any (P.veiledRec ·)) : Bool)) Tryz.prog 3 Tryz.f3 Rows.playSameSpec Rows.playSameRow = true := by kernel_rfl
theorem playSame_fact31 : (fun (P : Program) (f : FuncId) (fn : Func) (s : ChangeSpec) (c : OpenClaim) => (c.veiledFits P fn.params.toList (fn.params.toList ++ s.plain.varTypes P ++ fn.resultTypes.toList) : Bool)) Tryz.prog 3 Tryz.f3 Rows.playSameSpec Rows.playSameRow = true := by kernel_rfl
set_option maxRecDepth 100000 in
theorem playSame_closed : joinedFacts Tryz.pinned.checked.prog 3 Tryz.f3 Rows.playSameSpec Rows.playSameRow = true := by
  show joinedFacts Tryz.prog 3 Tryz.f3 Rows.playSameSpec Rows.playSameRow = true
  unfold joinedFacts
  simp only [Bool.and_eq_true]
  exact ⟨⟨⟨⟨⟨⟨⟨⟨⟨⟨⟨⟨⟨⟨⟨⟨⟨⟨⟨⟨⟨⟨⟨⟨⟨⟨⟨⟨⟨⟨⟨playSame_fact0, playSame_fact1⟩, playSame_fact2⟩, playSame_fact3⟩, playSame_fact4⟩, playSame_fact5⟩, playSame_fact6⟩, playSame_fact7⟩, playSame_fact8⟩, playSame_fact9⟩, playSame_fact10⟩, playSame_fact11⟩, playSame_fact12⟩, playSame_fact13⟩, playSame_fact14⟩, playSame_fact15⟩, playSame_fact16⟩, playSame_fact17⟩, playSame_fact18⟩, playSame_fact19⟩, playSame_fact20⟩, playSame_fact21⟩, playSame_fact22⟩, playSame_fact23⟩, playSame_fact24⟩, playSame_fact25⟩, playSame_fact26⟩, playSame_fact27⟩, playSame_fact28⟩, playSame_fact29⟩, playSame_fact30⟩, playSame_fact31⟩

end Go.Proofs.YtddkekepoimcpaaGreatDoor
