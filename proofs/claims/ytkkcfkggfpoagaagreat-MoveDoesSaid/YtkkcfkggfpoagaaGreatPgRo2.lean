/- Openers of the arguments' types of chapter 25. -/
import Derived.Test.YtkkcfkggfpoagaaGreatPgRowk
import Derived.Test.YtkkcfkggfpoagaaGreatRows
import Derived.KernelRfl
import Derived.Test.YtkkcfkggfpoagaaGreatPgOpn
import Derived.Test.YtkkcfkggfpoagaaGreatPgFx24
set_option linter.unusedVariables false
set_option linter.unusedSimpArgs false
namespace Go.Proofs.YtkkcfkggfpoagaaGreat
open Go Go.Pg
theorem Tryz.own : ownKnob Tryz.prog.godebug = none := by kernel_rfl
theorem laidOut : laidOutB Tryz.prog = true := by kernel_rfl
end Go.Proofs.YtkkcfkggfpoagaaGreat
namespace Go.Proofs.YtkkcfkggfpoagaaGreat
open Go Go.Pg

section
variable {H : Type} {enc : TypeId × Value → H}
theorem opensInt : Opens enc Tryz.prog 3 1 (AV.int .i64) (fun n => -9223372036854775808 ≤ n ∧ n ≤ 9223372036854775807) := opens_i64 Tryz.underlying3 (by kernel_rfl)
theorem opensStr : Opens enc Tryz.prog 9 1 AV.str (fun s => s.length ≤ 140737488351232) := opens_str Tryz.underlying9 (by kernel_rfl)
theorem opensU8 : Opens enc Tryz.prog 5 1 (fun b : UInt8 => AV.int .u8 b.toNat) (fun _ => True) := opens_byte Tryz.underlying5 (by kernel_rfl)
theorem opensBoo : Opens enc Tryz.prog 4 1 AV.bool (fun _ => True) := opens_bool Tryz.underlying4 (by kernel_rfl)
theorem opensPos : Opens enc Tryz.prog 25 2 (fun p : Int × Int => AV.agg [.int .i64 p.1, .int .i64 p.2]) (fun _ => True) := by
  have hq := opens_struct (enc := enc) (n := 1 + (1 + 0)) Tryz.underlying25 (by kernel_rfl) (opensL_cons opensInt (opensL_cons opensInt opensL_nil rfl) rfl)
  refine ⟨hq.cells, fun _ => rfl, fun W fuel cs x h1 h2 h3 => ?_⟩
  obtain ⟨h4, ⟨a, b, _⟩, _, h8⟩ := hq.run W fuel cs x h1 h2 h3
  exact ⟨h4, (a, b), trivial, h8⟩
theorem opensCx : Opens enc Tryz.prog 27 8 aCx (fun x => x.2.2.2.2.2.2.1.length ≤ 140737488351232) := by
  have hq := opens_struct (enc := enc) (n := 2 + (1 + (1 + (1 + (1 + (1 + (1 + 0))))))) Tryz.underlying27 (by kernel_rfl)
    (opensL_cons opensPos (opensL_cons opensInt (opensL_cons opensInt (opensL_cons opensU8 (opensL_cons opensU8 (opensL_cons opensStr (opensL_cons opensBoo opensL_nil rfl) rfl) rfl) rfl) rfl) rfl) rfl)
  refine ⟨hq.cells, fun _ => rfl, fun W fuel cs x h1 h2 h3 => ?_⟩
  obtain ⟨h4, ⟨⟨a, b⟩, c, d, e, f, g, h, _⟩, ⟨_, _, _, _, _, hs, _⟩, h8⟩ := hq.run W fuel cs x h1 h2 h3
  exact ⟨h4, (a, b, c, d, e, f, g, h), hs, h8⟩
theorem opensCm : Opens enc Tryz.prog 29 6 (fun c : Cm => AV.agg (aCm c)) (fun c => c.2.1 ≤ 9223372036854775807 ∧ c.2.2.2.1.length ≤ 140737488351232 ∧ c.2.2.2.2.2.length ≤ 140737488351232) := by
  have hq := opens_struct (enc := enc) (n := 1 + (1 + (1 + (1 + (1 + (1 + 0)))))) Tryz.underlying29 (by kernel_rfl)
    (opensL_cons opensU8 (opensL_cons opensInt (opensL_cons opensStr (opensL_cons opensStr (opensL_cons opensU8 (opensL_cons opensStr opensL_nil rfl) rfl) rfl) rfl) rfl) rfl)
  refine ⟨hq.cells, fun _ => rfl, fun W fuel cs x h1 h2 h3 => ?_⟩
  obtain ⟨h4, ⟨a, b, c, d, e, f, _⟩, ⟨_, hb, _, hd, _, hf, _⟩, h8⟩ := hq.run W fuel cs x h1 h2 h3
  exact ⟨h4, (a, b, c, d, e, f), ⟨hb.2, hd, hf⟩, h8⟩
theorem opensSt : Opens enc Tryz.prog 42 3 aSt (fun _ => True) := by
  have hq := opens_struct (enc := enc) (n := 1 + (2 + 0)) Tryz.underlying42 (by kernel_rfl) (opensL_cons opensU8 (opensL_cons opensPos opensL_nil rfl) rfl)
  refine ⟨hq.cells, fun _ => rfl, fun W fuel cs x h1 h2 h3 => ?_⟩
  obtain ⟨h4, ⟨a, ⟨b, c⟩, _⟩, _, h8⟩ := hq.run W fuel cs x h1 h2 h3
  exact ⟨h4, (a, b, c), trivial, h8⟩
end
end Go.Proofs.YtkkcfkggfpoagaaGreat
