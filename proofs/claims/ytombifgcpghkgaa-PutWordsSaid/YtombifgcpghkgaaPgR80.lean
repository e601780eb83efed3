/- The statement PutWordsSaid holds: bytes that are put behind the cursor's stand there, as often as is asked, and the cursor is on the last of them. For every input. -/
import Derived.Test.YtombifgcpghkgaaPgFx10
import Derived.Test.YtombifgcpghkgaaPgRb
namespace Go.Proofs.Ytombifgcpghkgaa
open Go Go.Pg

set_option maxRecDepth 100000 in
theorem putWords_lifted (os : Os) (started : os.Started) (H : Type) (enc : TypeId × Value → H) :
    ReturnsInHanded {} Try.checked os 10 .any (Rows.putWordsSpec.pre6 enc Try.prog Try.f10 Rows.putWordsRow.domain false)
      (Rows.putWordsSpec.post enc Try.prog Try.f10 false true false false) := by
  refine row_of (P := Try.prog) (C := Try.checked) (tb := 4) rfl Try.own started (by kernel_rfl) Try.func10
    (ChangeSpec.witness6 (enc := enc) (C := Try.checked) false ⟨#[], #[.string ByteArray.empty, .string ByteArray.empty, .int .u16 0, .int .u8 0, .bool false], []⟩ 8 (by kernel_rfl) (by kernel_rfl) (by kernel_rfl) (by kernel_rfl))
    rfl (by kernel_rfl) Try.underlying4 ?_ laidOut (by kernel_rfl) ?_
  · intro ds hds
    rw [Try.params10] at hds
    match ds, hds with
    | [_, _, _, _, _], _ => exact ⟨rfl, rfl, rfl⟩
  · intro W base vs ds p h
    rw [Try.params10] at h
    obtain ⟨v0, vs, _, _, _, _, rfl, i0, h⟩ := h.cons
    obtain ⟨v1, vs, _, _, _, _, rfl, i1, h⟩ := h.cons
    obtain ⟨v2, vs, _, _, _, _, rfl, i2, h⟩ := h.cons
    obtain ⟨v3, vs, _, _, _, _, rfl, i3, h⟩ := h.cons
    obtain ⟨v4, vs, _, _, _, _, rfl, i4, h⟩ := h.cons
    obtain rfl := h.nil
    obtain ⟨n0, a0, b0⟩ := i0.string Try.underlying9
    obtain ⟨n1, a1, b1⟩ := i1.string Try.underlying9
    obtain ⟨n2, a2, b2⟩ := i2.u16 Try.underlying23
    obtain ⟨n3, a3⟩ := i3.byte Try.underlying5
    obtain ⟨n4, a4⟩ := i4.bool Try.underlying4
    exact ⟨_, calls_PutWords n0 n1 n2 n3.toNat n4 (by omega) (by omega) b2 (by have := n3.toNat_lt; omega), .cons a0 (.cons a1 (.cons a2 (.cons a3 (.cons a4 .nil))))⟩

theorem putWords_holds : Rows.PutWordsSaid :=
  OpenClaim.holds_of_wide 10 Try.f10 rfl rfl rfl rfl rfl rfl rfl ⟨rfl, rfl, rfl, rfl, rfl⟩ rfl rfl rfl rfl rfl (by kernel_rfl) Try.func10 (by kernel_rfl)
    (of_decide_eq_true (by kernel_rfl)) (by unfold Func.isWrapper; rw [if_neg (by decide +kernel)]; exact ⟨rfl, rfl⟩)
    (fun os started H enc _ => putWords_lifted os started H enc)
end Go.Proofs.Ytombifgcpghkgaa
