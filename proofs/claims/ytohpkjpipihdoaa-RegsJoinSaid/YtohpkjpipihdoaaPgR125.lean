/- The statement RegsJoinSaid holds: what two registers together are. For every input. -/
import Derived.Test.YtohpkjpipihdoaaPgFr14
import Derived.Test.YtohpkjpipihdoaaPgRb
import Derived.Test.YtohpkjpipihdoaaPgRo
namespace Go.Proofs.Ytohpkjpipihdoaa
open Go Go.Pg

set_option maxRecDepth 100000 in
theorem regsJoin_lifted (os : Os) (started : os.Started) (H : Type) (enc : TypeId × Value → H) :
    ReturnsInHanded {} Try.checked os 8 .any (Rows.regsJoinSpec.pre6 enc Try.prog Try.f8 Rows.regsJoinRow.domain false)
      (Rows.regsJoinSpec.post enc Try.prog Try.f8 false true false false) := by
  refine row_of (P := Try.prog) (C := Try.checked) (tb := 4) rfl Try.own started (by kernel_rfl) Try.func8
    (ChangeSpec.witness6 (enc := enc) (C := Try.checked) false ⟨#[], #[.agg #[.int .i64 0, .slice none 0 0], .agg #[.int .i64 0, .slice none 0 0]], []⟩ 8 (by kernel_rfl) (by kernel_rfl) (by kernel_rfl) (by kernel_rfl))
    rfl (by kernel_rfl) Try.underlying4 ?_ laidOut (by kernel_rfl) ?_
  · intro ds hds
    rw [Try.params8] at hds
    match ds, hds with
    | [_, _], _ => exact ⟨rfl, rfl, rfl⟩
  · intro W base vs ds p h
    rw [Try.params8] at h
    obtain ⟨v0, vs, _, _, _, _, rfl, i0, h⟩ := h.cons
    obtain ⟨v1, vs, _, _, _, _, rfl, i1, h⟩ := h.cons
    obtain rfl := h.nil
    obtain ⟨n0, b0, a0⟩ := i0.opens Try.underlying52 opensReg
    obtain ⟨n1, b1, a1⟩ := i1.opens Try.underlying52 opensReg
    exact ⟨_, calls_RegsJoin n0 n1 b0 b1, .cons a0 (.cons a1 .nil)⟩

theorem regsJoin_holds : Rows.RegsJoinSaid :=
  OpenClaim.holds_of_wide 8 Try.f8 rfl rfl rfl rfl rfl rfl rfl ⟨rfl, rfl, rfl, rfl, rfl⟩ rfl rfl rfl rfl rfl (by kernel_rfl) Try.func8 (by kernel_rfl)
    (of_decide_eq_true (by kernel_rfl)) (by unfold Func.isWrapper; rw [if_neg (by decide +kernel)]; exact ⟨rfl, rfl⟩)
    (fun os started H enc _ => regsJoin_lifted os started H enc)
end Go.Proofs.Ytohpkjpipihdoaa
