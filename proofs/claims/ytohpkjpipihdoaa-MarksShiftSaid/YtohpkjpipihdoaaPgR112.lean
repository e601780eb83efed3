/- The statement MarksShiftSaid holds: where any line is behind any change. For every input. -/
import Derived.Test.YtohpkjpipihdoaaPgFx3
import Derived.Test.YtohpkjpipihdoaaPgRb
namespace Go.Proofs.Ytohpkjpipihdoaa
open Go Go.Pg

set_option maxRecDepth 100000 in
theorem marksShift_lifted (os : Os) (started : os.Started) (H : Type) (enc : TypeId × Value → H) :
    ReturnsInHanded {} Try.checked os 3 .any (Rows.marksShiftSpec.pre6 enc Try.prog Try.f3 Rows.marksShiftRow.domain false)
      (Rows.marksShiftSpec.post enc Try.prog Try.f3 false true false false) := by
  refine row_of (P := Try.prog) (C := Try.checked) (tb := 4) rfl Try.own started (by kernel_rfl) Try.func3
    (ChangeSpec.witness6 (enc := enc) (C := Try.checked) false ⟨#[], #[.int .i64 0, .int .i64 0, .int .i64 0, .int .i64 0], []⟩ 8 (by kernel_rfl) (by kernel_rfl) (by kernel_rfl) (by kernel_rfl))
    rfl (by kernel_rfl) Try.underlying4 ?_ laidOut (by kernel_rfl) ?_
  · intro ds hds
    rw [Try.params3] at hds
    match ds, hds with
    | [_, _, _, _], _ => exact ⟨rfl, rfl, rfl⟩
  · intro W base vs ds p h
    rw [Try.params3] at h
    obtain ⟨v0, vs, _, _, _, _, rfl, i0, h⟩ := h.cons
    obtain ⟨v1, vs, _, _, _, _, rfl, i1, h⟩ := h.cons
    obtain ⟨v2, vs, _, _, _, _, rfl, i2, h⟩ := h.cons
    obtain ⟨v3, vs, _, _, _, _, rfl, i3, h⟩ := h.cons
    obtain rfl := h.nil
    obtain ⟨n0, a0, b0⟩ := i0.i64 Try.underlying3
    obtain ⟨n1, a1, b1⟩ := i1.i64 Try.underlying3
    obtain ⟨n2, a2, b2⟩ := i2.i64 Try.underlying3
    obtain ⟨n3, a3, b3⟩ := i3.i64 Try.underlying3
    exact ⟨_, calls_MarksShift n0 n1 n2 n3 ⟨b0.1, by omega⟩ ⟨b1.1, by omega⟩ ⟨b2.1, by omega⟩ ⟨b3.1, by omega⟩, .cons a0 (.cons a1 (.cons a2 (.cons a3 .nil)))⟩

theorem marksShift_holds : Rows.MarksShiftSaid :=
  OpenClaim.holds_of_wide 3 Try.f3 rfl rfl rfl rfl rfl rfl rfl ⟨rfl, rfl, rfl, rfl, rfl⟩ rfl rfl rfl rfl rfl (by kernel_rfl) Try.func3 (by kernel_rfl)
    (of_decide_eq_true (by kernel_rfl)) (by unfold Func.isWrapper; rw [if_neg (by decide +kernel)]; exact ⟨rfl, rfl⟩)
    (fun os started H enc _ => marksShift_lifted os started H enc)
end Go.Proofs.Ytohpkjpipihdoaa
