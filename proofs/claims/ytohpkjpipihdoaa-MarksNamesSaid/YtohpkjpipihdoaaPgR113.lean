/- The statement MarksNamesSaid holds: which names a mark may have, and that those that are set are told in order, each once. For every input. -/
import Derived.Test.YtohpkjpipihdoaaPgFx7
import Derived.Test.YtohpkjpipihdoaaPgRb
namespace Go.Proofs.Ytohpkjpipihdoaa
open Go Go.Pg

set_option maxRecDepth 100000 in
theorem marksNames_lifted (os : Os) (started : os.Started) (H : Type) (enc : TypeId × Value → H) :
    ReturnsInHanded {} Try.checked os 7 .any (Rows.marksNamesSpec.pre6 enc Try.prog Try.f7 Rows.marksNamesRow.domain false)
      (Rows.marksNamesSpec.post enc Try.prog Try.f7 false true false false) := by
  refine row_of (P := Try.prog) (C := Try.checked) (tb := 4) rfl Try.own started (by kernel_rfl) Try.func7
    (ChangeSpec.witness6 (enc := enc) (C := Try.checked) false ⟨#[], #[.slice none 0 0], []⟩ 8 (by kernel_rfl) (by kernel_rfl) (by kernel_rfl) (by kernel_rfl))
    rfl (by kernel_rfl) Try.underlying4 ?_ laidOut (by kernel_rfl) ?_
  · intro ds hds
    rw [Try.params7] at hds
    match ds, hds with
    | [_], _ => exact ⟨rfl, rfl, rfl⟩
  · intro W base vs ds p h
    rw [Try.params7] at h
    obtain ⟨v0, vs, _, _, _, _, rfl, i0, h⟩ := h.cons
    obtain rfl := h.nil
    obtain ⟨n0, a0, b0⟩ := i0.bytes Try.underlying32 Try.underlying5 (by kernel_rfl) (by kernel_rfl)
    exact ⟨_, calls_MarksNames n0 (by omega), .cons a0 .nil⟩

theorem marksNames_holds : Rows.MarksNamesSaid :=
  OpenClaim.holds_of_wide 7 Try.f7 rfl rfl rfl rfl rfl rfl rfl ⟨rfl, rfl, rfl, rfl, rfl⟩ rfl rfl rfl rfl rfl (by kernel_rfl) Try.func7 (by kernel_rfl)
    (of_decide_eq_true (by kernel_rfl)) (by unfold Func.isWrapper; rw [if_neg (by decide +kernel)]; exact ⟨rfl, rfl⟩)
    (fun os started H enc _ => marksNames_lifted os started H enc)
end Go.Proofs.Ytohpkjpipihdoaa
