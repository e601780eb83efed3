/- The statement MoveStaysSaid holds: wherever motions lead, it is a place of the text, by an operator up to a line's end, without on its last byte at most. For every input. -/
import Derived.Test.YtkkcfkggfpoagaaPgFx12
import Derived.Test.YtkkcfkggfpoagaaPgRb
namespace Go.Proofs.Ytkkcfkggfpoagaa
open Go Go.Pg

set_option maxRecDepth 100000 in
theorem moveStays_lifted (os : Os) (started : os.Started) (H : Type) (enc : TypeId × Value → H) :
    ReturnsInHanded {} Try.checked os 3 .any (Rows.moveStaysSpec.pre6 enc Try.prog Try.f3 Rows.moveStaysRow.domain false)
      (Rows.moveStaysSpec.post enc Try.prog Try.f3 false true false false) := by
  refine row_of (P := Try.prog) (C := Try.checked) (tb := 4) rfl Try.own started (by kernel_rfl) Try.func3
    (ChangeSpec.witness6 (enc := enc) (C := Try.checked) false ⟨#[], #[.slice none 0 0, .int .u16 0, .int .u16 0, .slice none 0 0, .bool false], []⟩ 8 (by kernel_rfl) (by kernel_rfl) (by kernel_rfl) (by kernel_rfl))
    rfl (by kernel_rfl) Try.underlying4 ?_ laidOut (by kernel_rfl) ?_
  · intro ds hds
    rw [Try.params3] at hds
    match ds, hds with
    | [_, _, _, _, _], _ => exact ⟨rfl, rfl, rfl⟩
  · intro W base vs ds p h
    rw [Try.params3] at h
    obtain ⟨v0, vs, _, _, _, _, rfl, i0, h⟩ := h.cons
    obtain ⟨v1, vs, _, _, _, _, rfl, i1, h⟩ := h.cons
    obtain ⟨v2, vs, _, _, _, _, rfl, i2, h⟩ := h.cons
    obtain ⟨v3, vs, _, _, _, _, rfl, i3, h⟩ := h.cons
    obtain ⟨v4, vs, _, _, _, _, rfl, i4, h⟩ := h.cons
    obtain rfl := h.nil
    obtain ⟨n0, a0, c0, b0⟩ := i0.strings Try.underlying22 Try.underlying9 (by kernel_rfl) (by kernel_rfl)
    obtain ⟨n1, a1, b1⟩ := i1.u16 Try.underlying23
    obtain ⟨n2, a2, b2⟩ := i2.u16 Try.underlying23
    obtain ⟨n3, a3, b3⟩ := i3.bytes Try.underlying24 Try.underlying5 (by kernel_rfl) (by kernel_rfl)
    obtain ⟨n4, a4⟩ := i4.bool Try.underlying4
    exact ⟨_, calls_MoveStays n0 n1 n2 n3 n4 b0 b1 b2, .cons a0 (.cons a1 (.cons a2 (.cons a3 (.cons a4 .nil))))⟩

theorem moveStays_holds : Rows.MoveStaysSaid :=
  OpenClaim.holds_of_wide 3 Try.f3 rfl rfl rfl rfl rfl rfl rfl ⟨rfl, rfl, rfl, rfl, rfl⟩ rfl rfl rfl rfl rfl (by kernel_rfl) Try.func3 (by kernel_rfl)
    (of_decide_eq_true (by kernel_rfl)) (by unfold Func.isWrapper; rw [if_neg (by decide +kernel)]; exact ⟨rfl, rfl⟩)
    (fun os started H enc _ => moveStays_lifted os started H enc)
end Go.Proofs.Ytkkcfkggfpoagaa
