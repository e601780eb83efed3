/- The statement WordsMarkSaid holds: words begin and end just where the document says, each once, in order. For every input. -/
import Derived.Test.YtnnhelhadcfbcaaPgFx6
import Derived.Test.YtnnhelhadcfbcaaPgRb
namespace Go.Proofs.Ytnnhelhadcfbcaa
open Go Go.Pg

set_option maxRecDepth 100000 in
theorem wordsMark_lifted (os : Os) (started : os.Started) (H : Type) (enc : TypeId × Value → H) :
    ReturnsInHanded {} Try.checked os 3 .any (Rows.wordsMarkSpec.pre6 enc Try.prog Try.f3 Rows.wordsMarkRow.domain false)
      (Rows.wordsMarkSpec.post enc Try.prog Try.f3 false true false false) := by
  refine row_of (P := Try.prog) (C := Try.checked) (tb := 4) rfl Try.own started (by kernel_rfl) Try.func3
    (ChangeSpec.witness6 (enc := enc) (C := Try.checked) false ⟨#[], #[.slice none 0 0, .bool false, .int .u8 0], []⟩ 8 (by kernel_rfl) (by kernel_rfl) (by kernel_rfl) (by kernel_rfl))
    rfl (by kernel_rfl) Try.underlying4 ?_ laidOut (by kernel_rfl) ?_
  · intro ds hds
    rw [Try.params3] at hds
    match ds, hds with
    | [_, _, _], _ => exact ⟨rfl, rfl, rfl⟩
  · intro W base vs ds p h
    rw [Try.params3] at h
    obtain ⟨v0, vs, _, _, _, _, rfl, i0, h⟩ := h.cons
    obtain ⟨v1, vs, _, _, _, _, rfl, i1, h⟩ := h.cons
    obtain ⟨v2, vs, _, _, _, _, rfl, i2, h⟩ := h.cons
    obtain rfl := h.nil
    obtain ⟨n0, a0, c0, b0⟩ := i0.strings Try.underlying22 Try.underlying9 (by kernel_rfl) (by kernel_rfl)
    obtain ⟨n1, a1⟩ := i1.bool Try.underlying4
    obtain ⟨n2, a2⟩ := i2.byte Try.underlying5
    exact ⟨_, calls_WordsMark n0 n1 n2.toNat b0 ⟨by omega, by have := n2.toNat_lt; omega⟩, .cons a0 (.cons a1 (.cons a2 .nil))⟩

theorem wordsMark_holds : Rows.WordsMarkSaid :=
  OpenClaim.holds_of_wide 3 Try.f3 rfl rfl rfl rfl rfl rfl rfl ⟨rfl, rfl, rfl, rfl, rfl⟩ rfl rfl rfl rfl rfl (by kernel_rfl) Try.func3 (by kernel_rfl)
    (of_decide_eq_true (by kernel_rfl)) (by unfold Func.isWrapper; rw [if_neg (by decide +kernel)]; exact ⟨rfl, rfl⟩)
    (fun os started H enc _ => wordsMark_lifted os started H enc)
end Go.Proofs.Ytnnhelhadcfbcaa
