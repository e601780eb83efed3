/- The statement MoveSearchesSaid holds: n goes on as the last search went, N the other way, and star and hash search the word that they are on. For every input. -/
import Derived.Test.YtkkcfkggfpoagaaPgFx11
import Derived.Test.YtkkcfkggfpoagaaPgRb
namespace Go.Proofs.Ytkkcfkggfpoagaa
open Go Go.Pg

set_option maxRecDepth 100000 in
theorem moveSearches_lifted (os : Os) (started : os.Started) (H : Type) (enc : TypeId × Value → H) :
    ReturnsInHanded {} Try.checked os 4 .any (Rows.moveSearchesSpec.pre6 enc Try.prog Try.f4 Rows.moveSearchesRow.domain false)
      (Rows.moveSearchesSpec.post enc Try.prog Try.f4 false true false false) := by
  refine row_of (P := Try.prog) (C := Try.checked) (tb := 4) rfl Try.own started (by kernel_rfl) Try.func4
    (ChangeSpec.witness6 (enc := enc) (C := Try.checked) false ⟨#[], #[.slice none 0 0, .int .u16 0, .int .u16 0, .int .u8 0, .bool false, .int .u8 0], []⟩ 8 (by kernel_rfl) (by kernel_rfl) (by kernel_rfl) (by kernel_rfl))
    rfl (by kernel_rfl) Try.underlying4 ?_ laidOut (by kernel_rfl) ?_
  · intro ds hds
    rw [Try.params4] at hds
    match ds, hds with
    | [_, _, _, _, _, _], _ => exact ⟨rfl, rfl, rfl⟩
  · intro W base vs ds p h
    rw [Try.params4] at h
    obtain ⟨v0, vs, _, _, _, _, rfl, i0, h⟩ := h.cons
    obtain ⟨v1, vs, _, _, _, _, rfl, i1, h⟩ := h.cons
    obtain ⟨v2, vs, _, _, _, _, rfl, i2, h⟩ := h.cons
    obtain ⟨v3, vs, _, _, _, _, rfl, i3, h⟩ := h.cons
    obtain ⟨v4, vs, _, _, _, _, rfl, i4, h⟩ := h.cons
    obtain ⟨v5, vs, _, _, _, _, rfl, i5, h⟩ := h.cons
    obtain rfl := h.nil
    obtain ⟨n0, a0, c0, b0⟩ := i0.strings Try.underlying22 Try.underlying9 (by kernel_rfl) (by kernel_rfl)
    obtain ⟨n1, a1, b1⟩ := i1.u16 Try.underlying23
    obtain ⟨n2, a2, b2⟩ := i2.u16 Try.underlying23
    obtain ⟨n3, a3⟩ := i3.byte Try.underlying5
    obtain ⟨n4, a4⟩ := i4.bool Try.underlying4
    obtain ⟨n5, a5⟩ := i5.byte Try.underlying5
    exact ⟨_, calls_MoveSearches n0 n1 n2 n3 n4 n5 b0 b1 b2, .cons a0 (.cons a1 (.cons a2 (.cons a3 (.cons a4 (.cons a5 .nil)))))⟩

theorem moveSearches_holds : Rows.MoveSearchesSaid :=
  OpenClaim.holds_of_wide 4 Try.f4 rfl rfl rfl rfl rfl rfl rfl ⟨rfl, rfl, rfl, rfl, rfl⟩ rfl rfl rfl rfl rfl (by kernel_rfl) Try.func4 (by kernel_rfl)
    (of_decide_eq_true (by kernel_rfl)) (by unfold Func.isWrapper; rw [if_neg (by decide +kernel)]; exact ⟨rfl, rfl⟩)
    (fun os started H enc _ => moveSearches_lifted os started H enc)
end Go.Proofs.Ytkkcfkggfpoagaa
