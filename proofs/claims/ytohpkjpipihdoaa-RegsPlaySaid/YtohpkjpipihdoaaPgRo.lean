/- Openers of the arguments' types of chapter 19. -/
import Derived.Test.YtohpkjpipihdoaaPgRb
import Derived.Test.YtohpkjpipihdoaaPgOpn
import Derived.Test.YtohpkjpipihdoaaPgFx0
namespace Go.Proofs.Ytohpkjpipihdoaa
open Go Go.Pg

theorem opensReg {H : Type} {enc : TypeId × Value → H} : Opens enc Try.prog 52 2 aRg (fun r => (-9223372036854775808 ≤ r.1 ∧ r.1 ≤ 9223372036854775807) ∧ r.2.length ≤ 8796093021952 ∧ ∀ s ∈ r.2, s.length ≤ 140737488351232) := by
  have hi : Opens enc Try.prog 3 1 (AV.int .i64) (fun n => -9223372036854775808 ≤ n ∧ n ≤ 9223372036854775807) := opens_i64 Try.underlying3 (by kernel_rfl)
  have hs : Opens enc Try.prog 50 1 (fun l : LsR => AV.sl 1 (l.map .str)) (fun l => l.length * Try.prog.bytesOf 9 ≤ 140737488351232 ∧ ∀ a ∈ l, a.length ≤ 140737488351232) :=
    opens_slice Try.underlying50 (by kernel_rfl) (opens_str Try.underlying9 (by kernel_rfl)) (by omega)
  have hb : Try.prog.bytesOf 9 = 16 := by kernel_rfl
  have hq := opens_struct (enc := enc) (n := 1 + (1 + 0)) Try.underlying52 (by kernel_rfl) (opensL_cons hi (opensL_cons hs opensL_nil rfl) rfl)
  refine ⟨hq.cells, fun _ => rfl, fun W fuel cs x h1 h2 h3 => ?_⟩
  obtain ⟨h4, ⟨k, l, u⟩, ⟨h5, ⟨h6, h7⟩, _⟩, h8⟩ := hq.run W fuel cs x h1 h2 h3
  rw [hb] at h6
  exact ⟨h4, (k, l), ⟨h5, by show l.length ≤ _; have h6 : l.length * 16 ≤ 140737488351232 := h6; omega, h7⟩, h8⟩
end Go.Proofs.Ytohpkjpipihdoaa
