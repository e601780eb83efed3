/- The statement RegsAppendSaid holds: a capital name adds to what is there: bytes to bytes, lines to lines. For every input. -/
import Derived.Test.YtohpkjpipihdoaaPgFr11
import Derived.Test.YtohpkjpipihdoaaPgRb
namespace Go.Proofs.Ytohpkjpipihdoaa
open Go Go.Pg

set_option maxRecDepth 100000 in
theorem regsAppend_lifted (os : Os) (started : os.Started) (H : Type) (enc : TypeId × Value → H) :
    ReturnsInHanded {} Try.checked os 13 .any (Rows.regsAppendSpec.pre6 enc Try.prog Try.f13 Rows.regsAppendRow.domain false)
      (Rows.regsAppendSpec.post enc Try.prog Try.f13 false true false false) := by
  refine row_of (P := Try.prog) (C := Try.checked) (tb := 4) rfl Try.own started (by kernel_rfl) Try.func13
    (ChangeSpec.witness6 (enc := enc) (C := Try.checked) false ⟨#[], #[.slice none 0 0, .bool false, .int .u8 0], []⟩ 8 (by kernel_rfl) (by kernel_rfl) (by kernel_rfl) (by kernel_rfl))
    rfl (by kernel_rfl) Try.underlying4 ?_ laidOut (by kernel_rfl) ?_
  · intro ds hds
    rw [Try.params13] at hds
    match ds, hds with
    | [_, _, _], _ => exact ⟨rfl, rfl, rfl⟩
  · intro W base vs ds p h
    rw [Try.params13] at h
    obtain ⟨v0, vs, _, _, _, _, rfl, i0, h⟩ := h.cons
    obtain ⟨v1, vs, _, _, _, _, rfl, i1, h⟩ := h.cons
    obtain ⟨v2, vs, _, _, _, _, rfl, i2, h⟩ := h.cons
    obtain rfl := h.nil
    obtain ⟨n0, a0, c0, b0⟩ := i0.strings Try.underlying50 Try.underlying9 (by kernel_rfl) (by kernel_rfl)
    obtain ⟨n1, a1⟩ := i1.bool Try.underlying4
    obtain ⟨n2, a2⟩ := i2.byte Try.underlying5
    exact ⟨_, calls_RegsAppend n0 n1 n2 c0 b0, .cons a0 (.cons a1 (.cons a2 .nil))⟩

theorem regsAppend_holds : Rows.RegsAppendSaid :=
  OpenClaim.holds_of_wide 13 Try.f13 rfl rfl rfl rfl rfl rfl rfl ⟨rfl, rfl, rfl, rfl, rfl⟩ rfl rfl rfl rfl rfl (by kernel_rfl) Try.func13 (by kernel_rfl)
    (of_decide_eq_true (by kernel_rfl)) (by unfold Func.isWrapper; rw [if_neg (by decide +kernel)]; exact ⟨rfl, rfl⟩)
    (fun os started H enc _ => regsAppend_lifted os started H enc)
end Go.Proofs.Ytohpkjpipihdoaa
