/- The statement WordsBigSaid holds: where a big word begins a small one does, and where one ends one does. For every input. -/
import Derived.Test.YtnnhelhadcfbcaaPgFx6
import Derived.Test.YtnnhelhadcfbcaaPgRb
namespace Go.Proofs.Ytnnhelhadcfbcaa
open Go Go.Pg

set_option maxRecDepth 100000 in
theorem wordsBig_lifted (os : Os) (started : os.Started) (H : Type) (enc : TypeId × Value → H) :
    ReturnsInHanded {} Try.checked os 6 .any (Rows.wordsBigSpec.pre6 enc Try.prog Try.f6 Rows.wordsBigRow.domain false)
      (Rows.wordsBigSpec.post enc Try.prog Try.f6 false true false false) := by
  refine row_of (P := Try.prog) (C := Try.checked) (tb := 4) rfl Try.own started (by kernel_rfl) Try.func6
    (ChangeSpec.witness6 (enc := enc) (C := Try.checked) false ⟨#[], #[.slice none 0 0, .int .u16 0, .int .u16 0], []⟩ 8 (by kernel_rfl) (by kernel_rfl) (by kernel_rfl) (by kernel_rfl))
    rfl (by kernel_rfl) Try.underlying4 ?_ laidOut (by kernel_rfl) ?_
  · intro ds hds
    rw [Try.params6] at hds
    match ds, hds with
    | [_, _, _], _ => exact ⟨rfl, rfl, rfl⟩
  · intro W base vs ds p h
    rw [Try.params6] at h
    obtain ⟨v0, vs, _, _, _, _, rfl, i0, h⟩ := h.cons
    obtain ⟨v1, vs, _, _, _, _, rfl, i1, h⟩ := h.cons
    obtain ⟨v2, vs, _, _, _, _, rfl, i2, h⟩ := h.cons
    obtain rfl := h.nil
    obtain ⟨n0, a0, c0, b0⟩ := i0.strings Try.underlying22 Try.underlying9 (by kernel_rfl) (by kernel_rfl)
    obtain ⟨n1, a1, b1⟩ := i1.u16 Try.underlying34
    obtain ⟨n2, a2, b2⟩ := i2.u16 Try.underlying34
    exact ⟨_, calls_WordsBig n0 n1 n2 b0 b1 b2, .cons a0 (.cons a1 (.cons a2 .nil))⟩

theorem wordsBig_holds : Rows.WordsBigSaid :=
  OpenClaim.holds_of_wide 6 Try.f6 rfl rfl rfl rfl rfl rfl rfl ⟨rfl, rfl, rfl, rfl, rfl⟩ rfl rfl rfl rfl rfl (by kernel_rfl) Try.func6 (by kernel_rfl)
    (of_decide_eq_true (by kernel_rfl)) (by unfold Func.isWrapper; rw [if_neg (by decide +kernel)]; exact ⟨rfl, rfl⟩)
    (fun os started H enc _ => wordsBig_lifted os started H enc)
end Go.Proofs.Ytnnhelhadcfbcaa
