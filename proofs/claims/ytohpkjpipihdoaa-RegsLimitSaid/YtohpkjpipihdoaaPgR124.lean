/- The statement RegsLimitSaid holds: what is too large is refused whole; what was there stays. For every input. -/
import Derived.Test.YtohpkjpipihdoaaPgFr13
import Derived.Test.YtohpkjpipihdoaaPgRb
namespace Go.Proofs.Ytohpkjpipihdoaa
open Go Go.Pg

set_option maxRecDepth 100000 in
theorem regsLimit_lifted (os : Os) (started : os.Started) (H : Type) (enc : TypeId × Value → H) :
    ReturnsInHanded {} Try.checked os 11 .any (Rows.regsLimitSpec.pre6 enc Try.prog Try.f11 Rows.regsLimitRow.domain false)
      (Rows.regsLimitSpec.post enc Try.prog Try.f11 false true false false) := by
  refine row_of (P := Try.prog) (C := Try.checked) (tb := 4) rfl Try.own started (by kernel_rfl) Try.func11
    (ChangeSpec.witness6 (enc := enc) (C := Try.checked) false ⟨#[], #[.int .u8 0, .int .u8 0, .bool false], []⟩ 8 (by kernel_rfl) (by kernel_rfl) (by kernel_rfl) (by kernel_rfl))
    rfl (by kernel_rfl) Try.underlying4 ?_ laidOut (by kernel_rfl) ?_
  · intro ds hds
    rw [Try.params11] at hds
    match ds, hds with
    | [_, _, _], _ => exact ⟨rfl, rfl, rfl⟩
  · intro W base vs ds p h
    rw [Try.params11] at h
    obtain ⟨v0, vs, _, _, _, _, rfl, i0, h⟩ := h.cons
    obtain ⟨v1, vs, _, _, _, _, rfl, i1, h⟩ := h.cons
    obtain ⟨v2, vs, _, _, _, _, rfl, i2, h⟩ := h.cons
    obtain rfl := h.nil
    obtain ⟨n0, a0⟩ := i0.byte Try.underlying5
    obtain ⟨n1, a1⟩ := i1.byte Try.underlying5
    obtain ⟨n2, a2⟩ := i2.bool Try.underlying4
    exact ⟨_, calls_RegsLimit n0 n1 n2, .cons a0 (.cons a1 (.cons a2 .nil))⟩

theorem regsLimit_holds : Rows.RegsLimitSaid :=
  OpenClaim.holds_of_wide 11 Try.f11 rfl rfl rfl rfl rfl rfl rfl ⟨rfl, rfl, rfl, rfl, rfl⟩ rfl rfl rfl rfl rfl (by kernel_rfl) Try.func11 (by kernel_rfl)
    (of_decide_eq_true (by kernel_rfl)) (by unfold Func.isWrapper; rw [if_neg (by decide +kernel)]; exact ⟨rfl, rfl⟩)
    (fun os started H enc _ => regsLimit_lifted os started H enc)
end Go.Proofs.Ytohpkjpipihdoaa
