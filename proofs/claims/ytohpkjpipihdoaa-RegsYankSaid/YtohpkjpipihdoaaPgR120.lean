/- The statement RegsYankSaid holds: a yank is 0, and that cuts leave it as it is, up to the next one. For every input. -/
import Derived.Test.YtohpkjpipihdoaaPgFr10
import Derived.Test.YtohpkjpipihdoaaPgRb
import Derived.Test.YtohpkjpipihdoaaPgRo
namespace Go.Proofs.Ytohpkjpipihdoaa
open Go Go.Pg

set_option maxRecDepth 100000 in
theorem regsYank_lifted (os : Os) (started : os.Started) (H : Type) (enc : TypeId × Value → H) :
    ReturnsInHanded {} Try.checked os 14 .any (Rows.regsYankSpec.pre6 enc Try.prog Try.f14 Rows.regsYankRow.domain false)
      (Rows.regsYankSpec.post enc Try.prog Try.f14 false true false false) := by
  refine row_of (P := Try.prog) (C := Try.checked) (tb := 4) rfl Try.own started (by kernel_rfl) Try.func14
    (ChangeSpec.witness6 (enc := enc) (C := Try.checked) false ⟨#[], #[.slice none 0 0, .int .u8 0], []⟩ 8 (by kernel_rfl) (by kernel_rfl) (by kernel_rfl) (by kernel_rfl))
    rfl (by kernel_rfl) Try.underlying4 ?_ laidOut (by kernel_rfl) ?_
  · intro ds hds
    rw [Try.params14] at hds
    match ds, hds with
    | [_, _], _ => exact ⟨rfl, rfl, rfl⟩
  · intro W base vs ds p h
    rw [Try.params14] at h
    obtain ⟨v0, vs, _, _, _, _, rfl, i0, h⟩ := h.cons
    obtain ⟨v1, vs, _, _, _, _, rfl, i1, h⟩ := h.cons
    obtain rfl := h.nil
    obtain ⟨n0, b0, a0⟩ := i0.slice Try.underlying57 (opens_slice Try.underlying57 (by kernel_rfl) (opens_bool Try.underlying4 (by kernel_rfl)) (by omega)) (fun _ => rfl)
    rw [show Try.prog.bytesOf 4 = 1 by kernel_rfl] at b0
    obtain ⟨n1, a1⟩ := i1.byte Try.underlying5
    exact ⟨_, calls_RegsYank n0 n1 (by have := b0.1; omega), .cons a0 (.cons a1 .nil)⟩

theorem regsYank_holds : Rows.RegsYankSaid :=
  OpenClaim.holds_of_wide 14 Try.f14 rfl rfl rfl rfl rfl rfl rfl ⟨rfl, rfl, rfl, rfl, rfl⟩ rfl rfl rfl rfl rfl (by kernel_rfl) Try.func14 (by kernel_rfl)
    (of_decide_eq_true (by kernel_rfl)) (by unfold Func.isWrapper; rw [if_neg (by decide +kernel)]; exact ⟨rfl, rfl⟩)
    (fun os started H enc _ => regsYank_lifted os started H enc)
end Go.Proofs.Ytohpkjpipihdoaa
