/- The statement InsertTypesSaid holds: any key, at any place, in any mode, is the change of the document, or none. For every input. -/
import Derived.Test.YtkjfcpdancjhmaaPgFs19
import Derived.Test.YtkjfcpdancjhmaaPgRb
namespace Go.Proofs.Ytkjfcpdancjhmaa
open Go Go.Pg

set_option maxRecDepth 100000 in
theorem insertTypes_lifted (os : Os) (started : os.Started) (H : Type) (enc : TypeId × Value → H) :
    ReturnsInHanded {} Try.checked os 3 .any (Rows.insertTypesSpec.pre6 enc Try.prog Try.f3 Rows.insertTypesRow.domain false)
      (Rows.insertTypesSpec.post enc Try.prog Try.f3 false true false false) := by
  refine row_of (P := Try.prog) (C := Try.checked) (tb := 4) rfl Try.own started (by kernel_rfl) Try.func3
    (ChangeSpec.witness6 (enc := enc) (C := Try.checked) false ⟨#[], #[.slice none 0 0, .agg #[.int .i64 0, .int .i64 0], .agg #[.int .i64 0, .int .i64 0], .int .u16 0, .int .u16 0, .int .u16 0, .int .u16 0, .int .i64 0, .int .u8 0], []⟩ 8 (by kernel_rfl) (by kernel_rfl) (by kernel_rfl) (by kernel_rfl))
    rfl (by kernel_rfl) Try.underlying4 ?_ laidOut (by kernel_rfl) ?_
  · intro ds hds
    rw [Try.params3] at hds
    match ds, hds with
    | [_, _, _, _, _, _, _, _, _], _ => exact ⟨rfl, rfl, rfl⟩
  · intro W base vs ds p h
    rw [Try.params3] at h
    obtain ⟨v0, vs, _, _, _, _, rfl, i0, h⟩ := h.cons
    obtain ⟨v1, vs, _, _, _, _, rfl, i1, h⟩ := h.cons
    obtain ⟨v2, vs, _, _, _, _, rfl, i2, h⟩ := h.cons
    obtain ⟨v3, vs, _, _, _, _, rfl, i3, h⟩ := h.cons
    obtain ⟨v4, vs, _, _, _, _, rfl, i4, h⟩ := h.cons
    obtain ⟨v5, vs, _, _, _, _, rfl, i5, h⟩ := h.cons
    obtain ⟨v6, vs, _, _, _, _, rfl, i6, h⟩ := h.cons
    obtain ⟨v7, vs, _, _, _, _, rfl, i7, h⟩ := h.cons
    obtain ⟨v8, vs, _, _, _, _, rfl, i8, h⟩ := h.cons
    obtain rfl := h.nil
    obtain ⟨n0, a0, c0, b0⟩ := i0.strings Try.underlying22 Try.underlying9 (by kernel_rfl) (by kernel_rfl)
    obtain ⟨n1, m1, a1, b1⟩ := i1.ints2 Try.underlying24 Try.underlying3 rfl rfl (by kernel_rfl) (by kernel_rfl) rfl rfl
    obtain ⟨n2, m2, a2, b2⟩ := i2.ints2 Try.underlying24 Try.underlying3 rfl rfl (by kernel_rfl) (by kernel_rfl) rfl rfl
    obtain ⟨n3, a3, b3⟩ := i3.u16 Try.underlying25
    obtain ⟨n4, a4, b4⟩ := i4.u16 Try.underlying25
    obtain ⟨n5, a5, b5⟩ := i5.u16 Try.underlying25
    obtain ⟨n6, a6, b6⟩ := i6.u16 Try.underlying25
    obtain ⟨n7, a7, b7⟩ := i7.i64 Try.underlying3
    obtain ⟨n8, a8⟩ := i8.byte Try.underlying5
    exact ⟨_, calls_InsertTypes n0 n1 m1 n2 m2 n3 n4 n5 n6 n7 n8 b0 b3 b4 b5 b6, .cons a0 (.cons a1 (.cons a2 (.cons a3 (.cons a4 (.cons a5 (.cons a6 (.cons a7 (.cons a8 .nil))))))))⟩

theorem insertTypes_holds : Rows.InsertTypesSaid :=
  OpenClaim.holds_of_wide 3 Try.f3 rfl rfl rfl rfl rfl rfl rfl ⟨rfl, rfl, rfl, rfl, rfl⟩ rfl rfl rfl rfl rfl (by kernel_rfl) Try.func3 (by kernel_rfl)
    (of_decide_eq_true (by kernel_rfl)) (by unfold Func.isWrapper; rw [if_neg (by decide +kernel)]; exact ⟨rfl, rfl⟩)
    (fun os started H enc _ => insertTypes_lifted os started H enc)
end Go.Proofs.Ytkjfcpdancjhmaa
