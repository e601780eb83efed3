/- The statement InsertBesideSaid holds: a text comes into any lines at any column as the document says, or not at all. For every input. -/
import Derived.Test.YtkjfcpdancjhmaaPgFs26
import Derived.Test.YtkjfcpdancjhmaaPgRb
namespace Go.Proofs.Ytkjfcpdancjhmaa
open Go Go.Pg

set_option maxRecDepth 100000 in
theorem insertBeside_lifted (os : Os) (started : os.Started) (H : Type) (enc : TypeId × Value → H) :
    ReturnsInHanded {} Try.checked os 14 .any (Rows.insertBesideSpec.pre6 enc Try.prog Try.f14 Rows.insertBesideRow.domain false)
      (Rows.insertBesideSpec.post enc Try.prog Try.f14 false true false false) := by
  refine row_of (P := Try.prog) (C := Try.checked) (tb := 4) rfl Try.own started (by kernel_rfl) Try.func14
    (ChangeSpec.witness6 (enc := enc) (C := Try.checked) false ⟨#[], #[.slice none 0 0, .int .i64 0, .int .i64 0, .int .i64 0, .string ByteArray.empty, .bool false], []⟩ 8 (by kernel_rfl) (by kernel_rfl) (by kernel_rfl) (by kernel_rfl))
    rfl (by kernel_rfl) Try.underlying4 ?_ laidOut (by kernel_rfl) ?_
  · intro ds hds
    rw [Try.params14] at hds
    match ds, hds with
    | [_, _, _, _, _, _], _ => exact ⟨rfl, rfl, rfl⟩
  · intro W base vs ds p h
    rw [Try.params14] at h
    obtain ⟨v0, vs, _, _, _, _, rfl, i0, h⟩ := h.cons
    obtain ⟨v1, vs, _, _, _, _, rfl, i1, h⟩ := h.cons
    obtain ⟨v2, vs, _, _, _, _, rfl, i2, h⟩ := h.cons
    obtain ⟨v3, vs, _, _, _, _, rfl, i3, h⟩ := h.cons
    obtain ⟨v4, vs, _, _, _, _, rfl, i4, h⟩ := h.cons
    obtain ⟨v5, vs, _, _, _, _, rfl, i5, h⟩ := h.cons
    obtain rfl := h.nil
    obtain ⟨n0, a0, c0, b0⟩ := i0.strings Try.underlying22 Try.underlying9 (by kernel_rfl) (by kernel_rfl)
    obtain ⟨n1, a1, b1⟩ := i1.i64 Try.underlying3
    obtain ⟨n2, a2, b2⟩ := i2.i64 Try.underlying3
    obtain ⟨n3, a3, b3⟩ := i3.i64 Try.underlying3
    obtain ⟨n4, a4, b4⟩ := i4.string Try.underlying9
    obtain ⟨n5, a5⟩ := i5.bool Try.underlying4
    exact ⟨_, calls_InsertBeside n0 n1 n2 n3 n4 n5 b0 b4 b1 b2, .cons a0 (.cons a1 (.cons a2 (.cons a3 (.cons a4 (.cons a5 .nil)))))⟩

theorem insertBeside_holds : Rows.InsertBesideSaid :=
  OpenClaim.holds_of_wide 14 Try.f14 rfl rfl rfl rfl rfl rfl rfl ⟨rfl, rfl, rfl, rfl, rfl⟩ rfl rfl rfl rfl rfl (by kernel_rfl) Try.func14 (by kernel_rfl)
    (of_decide_eq_true (by kernel_rfl)) (by unfold Func.isWrapper; rw [if_neg (by decide +kernel)]; exact ⟨rfl, rfl⟩)
    (fun os started H enc _ => insertBeside_lifted os started H enc)
end Go.Proofs.Ytkjfcpdancjhmaa
