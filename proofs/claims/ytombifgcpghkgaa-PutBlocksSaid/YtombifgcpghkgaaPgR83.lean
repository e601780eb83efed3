/- The statement PutBlocksSaid holds: a block that is put stands side by side in as many lines, whatever their length, and lines that lack are made. For every input. -/
import Derived.Test.YtombifgcpghkgaaPgFx11
import Derived.Test.YtombifgcpghkgaaPgRb
namespace Go.Proofs.Ytombifgcpghkgaa
open Go Go.Pg

set_option maxRecDepth 100000 in
theorem putBlocks_lifted (os : Os) (started : os.Started) (H : Type) (enc : TypeId × Value → H) :
    ReturnsInHanded {} Try.checked os 9 .any (Rows.putBlocksSpec.pre6 enc Try.prog Try.f9 Rows.putBlocksRow.domain false)
      (Rows.putBlocksSpec.post enc Try.prog Try.f9 false true false false) := by
  refine row_of (P := Try.prog) (C := Try.checked) (tb := 4) rfl Try.own started (by kernel_rfl) Try.func9
    (ChangeSpec.witness6 (enc := enc) (C := Try.checked) false ⟨#[], #[.slice none 0 0, .slice none 0 0, .int .u16 0, .int .u16 0, .bool false], []⟩ 8 (by kernel_rfl) (by kernel_rfl) (by kernel_rfl) (by kernel_rfl))
    rfl (by kernel_rfl) Try.underlying4 ?_ laidOut (by kernel_rfl) ?_
  · intro ds hds
    rw [Try.params9] at hds
    match ds, hds with
    | [_, _, _, _, _], _ => exact ⟨rfl, rfl, rfl⟩
  · intro W base vs ds p h
    rw [Try.params9] at h
    obtain ⟨v0, vs, _, _, _, _, rfl, i0, h⟩ := h.cons
    obtain ⟨v1, vs, _, _, _, _, rfl, i1, h⟩ := h.cons
    obtain ⟨v2, vs, _, _, _, _, rfl, i2, h⟩ := h.cons
    obtain ⟨v3, vs, _, _, _, _, rfl, i3, h⟩ := h.cons
    obtain ⟨v4, vs, _, _, _, _, rfl, i4, h⟩ := h.cons
    obtain rfl := h.nil
    obtain ⟨n0, a0, c0, b0⟩ := i0.strings Try.underlying22 Try.underlying9 (by kernel_rfl) (by kernel_rfl)
    obtain ⟨n1, a1, c1, b1⟩ := i1.strings Try.underlying22 Try.underlying9 (by kernel_rfl) (by kernel_rfl)
    obtain ⟨n2, a2, b2⟩ := i2.u16 Try.underlying23
    obtain ⟨n3, a3, b3⟩ := i3.u16 Try.underlying23
    obtain ⟨n4, a4⟩ := i4.bool Try.underlying4
    exact ⟨_, calls_PutBlocks n0 n1 n2 n3 n4 b0 b1 b2 b3, .cons a0 (.cons a1 (.cons a2 (.cons a3 (.cons a4 .nil))))⟩

theorem putBlocks_holds : Rows.PutBlocksSaid :=
  OpenClaim.holds_of_wide 9 Try.f9 rfl rfl rfl rfl rfl rfl rfl ⟨rfl, rfl, rfl, rfl, rfl⟩ rfl rfl rfl rfl rfl (by kernel_rfl) Try.func9 (by kernel_rfl)
    (of_decide_eq_true (by kernel_rfl)) (by unfold Func.isWrapper; rw [if_neg (by decide +kernel)]; exact ⟨rfl, rfl⟩)
    (fun os started H enc _ => putBlocks_lifted os started H enc)
end Go.Proofs.Ytombifgcpghkgaa
