/- The statement RegsShiftSaid holds: cuts of whole lines go down from 1 to 9, the rest into -. For every input. -/
import Derived.Test.YtohpkjpipihdoaaPgFr12
import Derived.Test.YtohpkjpipihdoaaPgRb
import Derived.Test.YtohpkjpipihdoaaPgRo
namespace Go.Proofs.Ytohpkjpipihdoaa
open Go Go.Pg

set_option maxRecDepth 100000 in
theorem regsShift_lifted (os : Os) (started : os.Started) (H : Type) (enc : TypeId × Value → H) :
    ReturnsInHanded {} Try.checked os 9 .any (Rows.regsShiftSpec.pre6 enc Try.prog Try.f9 Rows.regsShiftRow.domain false)
      (Rows.regsShiftSpec.post enc Try.prog Try.f9 false true false false) := by
  refine row_of (P := Try.prog) (C := Try.checked) (tb := 4) rfl Try.own started (by kernel_rfl) Try.func9
    (ChangeSpec.witness6 (enc := enc) (C := Try.checked) false ⟨#[], #[.int .u8 0, .slice none 0 0], []⟩ 8 (by kernel_rfl) (by kernel_rfl) (by kernel_rfl) (by kernel_rfl))
    rfl (by kernel_rfl) Try.underlying4 ?_ laidOut (by kernel_rfl) ?_
  · intro ds hds
    rw [Try.params9] at hds
    match ds, hds with
    | [_, _], _ => exact ⟨rfl, rfl, rfl⟩
  · intro W base vs ds p h
    rw [Try.params9] at h
    obtain ⟨v0, vs, _, _, _, _, rfl, i0, h⟩ := h.cons
    obtain ⟨v1, vs, _, _, _, _, rfl, i1, h⟩ := h.cons
    obtain rfl := h.nil
    obtain ⟨n0, a0⟩ := i0.byte Try.underlying5
    obtain ⟨n1, b1, a1⟩ := i1.slice Try.underlying57 (opens_slice Try.underlying57 (by kernel_rfl) (opens_bool Try.underlying4 (by kernel_rfl)) (by omega)) (fun _ => rfl)
    rw [show Try.prog.bytesOf 4 = 1 by kernel_rfl] at b1
    exact ⟨_, calls_RegsShift n0 n1 (by have := b1; omega), .cons a0 (.cons a1 .nil)⟩

theorem regsShift_holds : Rows.RegsShiftSaid :=
  OpenClaim.holds_of_wide 9 Try.f9 rfl rfl rfl rfl rfl rfl rfl ⟨rfl, rfl, rfl, rfl, rfl⟩ rfl rfl rfl rfl rfl (by kernel_rfl) Try.func9 (by kernel_rfl)
    (of_decide_eq_true (by kernel_rfl)) (by unfold Func.isWrapper; rw [if_neg (by decide +kernel)]; exact ⟨rfl, rfl⟩)
    (fun os started H enc _ => regsShift_lifted os started H enc)
end Go.Proofs.Ytohpkjpipihdoaa
