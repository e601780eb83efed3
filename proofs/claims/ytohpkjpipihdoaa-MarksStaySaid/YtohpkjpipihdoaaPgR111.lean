/- The statement MarksStaySaid holds: a change and its inverse leave each mark that wasn't gone where it was. For every input. -/
import Derived.Test.YtohpkjpipihdoaaPgFx3
import Derived.Test.YtohpkjpipihdoaaPgRb
namespace Go.Proofs.Ytohpkjpipihdoaa
open Go Go.Pg

set_option maxRecDepth 100000 in
theorem marksStay_lifted (os : Os) (started : os.Started) (H : Type) (enc : TypeId × Value → H) :
    ReturnsInHanded {} Try.checked os 5 .any (Rows.marksStaySpec.pre6 enc Try.prog Try.f5 Rows.marksStayRow.domain false)
      (Rows.marksStaySpec.post enc Try.prog Try.f5 false true false false) := by
  refine row_of (P := Try.prog) (C := Try.checked) (tb := 4) rfl Try.own started (by kernel_rfl) Try.func5
    (ChangeSpec.witness6 (enc := enc) (C := Try.checked) false ⟨#[], #[.slice none 0 0, .int .u8 0, .int .u8 0, .int .u8 0], []⟩ 8 (by kernel_rfl) (by kernel_rfl) (by kernel_rfl) (by kernel_rfl))
    rfl (by kernel_rfl) Try.underlying4 ?_ laidOut (by kernel_rfl) ?_
  · intro ds hds
    rw [Try.params5] at hds
    match ds, hds with
    | [_, _, _, _], _ => exact ⟨rfl, rfl, rfl⟩
  · intro W base vs ds p h
    rw [Try.params5] at h
    obtain ⟨v0, vs, _, _, _, _, rfl, i0, h⟩ := h.cons
    obtain ⟨v1, vs, _, _, _, _, rfl, i1, h⟩ := h.cons
    obtain ⟨v2, vs, _, _, _, _, rfl, i2, h⟩ := h.cons
    obtain ⟨v3, vs, _, _, _, _, rfl, i3, h⟩ := h.cons
    obtain rfl := h.nil
    obtain ⟨n0, a0, b0⟩ := i0.bytes Try.underlying32 Try.underlying5 (by kernel_rfl) (by kernel_rfl)
    obtain ⟨n1, a1⟩ := i1.byte Try.underlying5
    obtain ⟨n2, a2⟩ := i2.byte Try.underlying5
    obtain ⟨n3, a3⟩ := i3.byte Try.underlying5
    exact ⟨_, calls_MarksStay n0 n1 n2 n3, .cons a0 (.cons a1 (.cons a2 (.cons a3 .nil)))⟩

theorem marksStay_holds : Rows.MarksStaySaid :=
  OpenClaim.holds_of_wide 5 Try.f5 rfl rfl rfl rfl rfl rfl rfl ⟨rfl, rfl, rfl, rfl, rfl⟩ rfl rfl rfl rfl rfl (by kernel_rfl) Try.func5 (by kernel_rfl)
    (of_decide_eq_true (by kernel_rfl)) (by unfold Func.isWrapper; rw [if_neg (by decide +kernel)]; exact ⟨rfl, rfl⟩)
    (fun os started H enc _ => marksStay_lifted os started H enc)
end Go.Proofs.Ytohpkjpipihdoaa
