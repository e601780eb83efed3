/- The statement WordsMoveSaid holds: any motion by words leads where the document says, or fails, from any place, by any count, with an operator or without. For every input. -/
import Derived.Test.YtnnhelhadcfbcaaPgFx6
import Derived.Test.YtnnhelhadcfbcaaPgRb
namespace Go.Proofs.Ytnnhelhadcfbcaa
open Go Go.Pg

set_option maxRecDepth 100000 in
theorem wordsMove_lifted (os : Os) (started : os.Started) (H : Type) (enc : TypeId × Value → H) :
    ReturnsInHanded {} Try.checked os 7 .any (Rows.wordsMoveSpec.pre6 enc Try.prog Try.f7 Rows.wordsMoveRow.domain false)
      (Rows.wordsMoveSpec.post enc Try.prog Try.f7 false true false false) := by
  refine row_of (P := Try.prog) (C := Try.checked) (tb := 4) rfl Try.own started (by kernel_rfl) Try.func7
    (ChangeSpec.witness6 (enc := enc) (C := Try.checked) false ⟨#[], #[.slice none 0 0, .agg #[.int .i64 0, .int .i64 0], .int .u16 0, .int .u16 0, .int .i64 0, .bool false, .bool false], []⟩ 8 (by kernel_rfl) (by kernel_rfl) (by kernel_rfl) (by kernel_rfl))
    rfl (by kernel_rfl) Try.underlying4 ?_ laidOut (by kernel_rfl) ?_
  · intro ds hds
    rw [Try.params7] at hds
    match ds, hds with
    | [_, _, _, _, _, _, _], _ => exact ⟨rfl, rfl, rfl⟩
  · intro W base vs ds p h
    rw [Try.params7] at h
    obtain ⟨v0, vs, _, _, _, _, rfl, i0, h⟩ := h.cons
    obtain ⟨v1, vs, _, _, _, _, rfl, i1, h⟩ := h.cons
    obtain ⟨v2, vs, _, _, _, _, rfl, i2, h⟩ := h.cons
    obtain ⟨v3, vs, _, _, _, _, rfl, i3, h⟩ := h.cons
    obtain ⟨v4, vs, _, _, _, _, rfl, i4, h⟩ := h.cons
    obtain ⟨v5, vs, _, _, _, _, rfl, i5, h⟩ := h.cons
    obtain ⟨v6, vs, _, _, _, _, rfl, i6, h⟩ := h.cons
    obtain rfl := h.nil
    obtain ⟨n0, a0, c0, b0⟩ := i0.strings Try.underlying22 Try.underlying9 (by kernel_rfl) (by kernel_rfl)
    obtain ⟨n1, m1, a1, b1⟩ := i1.ints2 Try.underlying36 Try.underlying3 rfl rfl (by kernel_rfl) (by kernel_rfl) rfl rfl
    obtain ⟨n2, a2, b2⟩ := i2.u16 Try.underlying34
    obtain ⟨n3, a3, b3⟩ := i3.u16 Try.underlying34
    obtain ⟨n4, a4, b4⟩ := i4.i64 Try.underlying3
    obtain ⟨n5, a5⟩ := i5.bool Try.underlying4
    obtain ⟨n6, a6⟩ := i6.bool Try.underlying4
    exact ⟨_, calls_WordsMove n0 n1 m1 n2 n3 n4 n5 n6 b0 b2 b3 ⟨b4.1, by omega⟩, .cons a0 (.cons a1 (.cons a2 (.cons a3 (.cons a4 (.cons a5 (.cons a6 .nil))))))⟩

theorem wordsMove_holds : Rows.WordsMoveSaid :=
  OpenClaim.holds_of_wide 7 Try.f7 rfl rfl rfl rfl rfl rfl rfl ⟨rfl, rfl, rfl, rfl, rfl⟩ rfl rfl rfl rfl rfl (by kernel_rfl) Try.func7 (by kernel_rfl)
    (of_decide_eq_true (by kernel_rfl)) (by unfold Func.isWrapper; rw [if_neg (by decide +kernel)]; exact ⟨rfl, rfl⟩)
    (fun os started H enc _ => wordsMove_lifted os started H enc)
end Go.Proofs.Ytnnhelhadcfbcaa
