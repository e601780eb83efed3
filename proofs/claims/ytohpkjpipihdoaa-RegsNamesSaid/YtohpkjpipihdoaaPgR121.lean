/- The statement RegsNamesSaid holds: which names may be written to by whom, and which are read. For every input. -/
import Derived.Test.YtohpkjpipihdoaaPgFr8
import Derived.Test.YtohpkjpipihdoaaPgRb
namespace Go.Proofs.Ytohpkjpipihdoaa
open Go Go.Pg

set_option maxRecDepth 100000 in
theorem regsNames_lifted (os : Os) (started : os.Started) (H : Type) (enc : TypeId × Value → H) :
    ReturnsInHanded {} Try.checked os 12 .any (Rows.regsNamesSpec.pre6 enc Try.prog Try.f12 Rows.regsNamesRow.domain false)
      (Rows.regsNamesSpec.post enc Try.prog Try.f12 false true false false) := by
  refine row_of (P := Try.prog) (C := Try.checked) (tb := 4) rfl Try.own started (by kernel_rfl) Try.func12
    (ChangeSpec.witness6 (enc := enc) (C := Try.checked) false ⟨#[], #[.int .u8 0, .string ByteArray.empty], []⟩ 8 (by kernel_rfl) (by kernel_rfl) (by kernel_rfl) (by kernel_rfl))
    rfl (by kernel_rfl) Try.underlying4 ?_ laidOut (by kernel_rfl) ?_
  · intro ds hds
    rw [Try.params12] at hds
    match ds, hds with
    | [_, _], _ => exact ⟨rfl, rfl, rfl⟩
  · intro W base vs ds p h
    rw [Try.params12] at h
    obtain ⟨v0, vs, _, _, _, _, rfl, i0, h⟩ := h.cons
    obtain ⟨v1, vs, _, _, _, _, rfl, i1, h⟩ := h.cons
    obtain rfl := h.nil
    obtain ⟨n0, a0⟩ := i0.byte Try.underlying5
    obtain ⟨n1, a1, b1⟩ := i1.string Try.underlying9
    exact ⟨_, calls_RegsNames n0 n1 b1, .cons a0 (.cons a1 .nil)⟩

theorem regsNames_holds : Rows.RegsNamesSaid :=
  OpenClaim.holds_of_wide 12 Try.f12 rfl rfl rfl rfl rfl rfl rfl ⟨rfl, rfl, rfl, rfl, rfl⟩ rfl rfl rfl rfl rfl (by kernel_rfl) Try.func12 (by kernel_rfl)
    (of_decide_eq_true (by kernel_rfl)) (by unfold Func.isWrapper; rw [if_neg (by decide +kernel)]; exact ⟨rfl, rfl⟩)
    (fun os started H enc _ => regsNames_lifted os started H enc)
end Go.Proofs.Ytohpkjpipihdoaa
