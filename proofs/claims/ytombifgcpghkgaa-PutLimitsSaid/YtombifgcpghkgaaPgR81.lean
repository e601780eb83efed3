/- The statement PutLimitsSaid holds: just how much may be put at once. For every input. -/
import Derived.Test.YtombifgcpghkgaaPgFx10
import Derived.Test.YtombifgcpghkgaaPgRb
namespace Go.Proofs.Ytombifgcpghkgaa
open Go Go.Pg

set_option maxRecDepth 100000 in
theorem putLimits_lifted (os : Os) (started : os.Started) (H : Type) (enc : TypeId × Value → H) :
    ReturnsInHanded {} Try.checked os 7 .any (Rows.putLimitsSpec.pre6 enc Try.prog Try.f7 Rows.putLimitsRow.domain false)
      (Rows.putLimitsSpec.post enc Try.prog Try.f7 false true false false) := by
  refine row_of (P := Try.prog) (C := Try.checked) (tb := 4) rfl Try.own started (by kernel_rfl) Try.func7
    (ChangeSpec.witness6 (enc := enc) (C := Try.checked) false ⟨#[], #[.int .u16 0, .int .u8 0, .int .i8 0], []⟩ 8 (by kernel_rfl) (by kernel_rfl) (by kernel_rfl) (by kernel_rfl))
    rfl (by kernel_rfl) Try.underlying4 ?_ laidOut (by kernel_rfl) ?_
  · intro ds hds
    rw [Try.params7] at hds
    match ds, hds with
    | [_, _, _], _ => exact ⟨rfl, rfl, rfl⟩
  · intro W base vs ds p h
    rw [Try.params7] at h
    obtain ⟨v0, vs, _, _, _, _, rfl, i0, h⟩ := h.cons
    obtain ⟨v1, vs, _, _, _, _, rfl, i1, h⟩ := h.cons
    obtain ⟨v2, vs, _, _, _, _, rfl, i2, h⟩ := h.cons
    obtain rfl := h.nil
    obtain ⟨n0, a0, b0⟩ := i0.u16 Try.underlying23
    obtain ⟨n1, a1⟩ := i1.byte Try.underlying5
    obtain ⟨n2, a2, w2⟩ := i2.int Try.underlying52
    have b2 : -128 ≤ n2 ∧ n2 < 128 := by
      have h : (decide (IntKind.i8.min ≤ n2) && decide (n2 ≤ IntKind.i8.max)) = true := w2
      simp only [Bool.and_eq_true, decide_eq_true_eq] at h
      have h2 : -128 ≤ n2 ∧ n2 ≤ 127 := h
      omega
    exact ⟨_, calls_PutLimits n0 n1.toNat n2 b0 (by have := n1.toNat_lt; omega) b2, .cons a0 (.cons a1 (.cons a2 .nil))⟩

theorem putLimits_holds : Rows.PutLimitsSaid :=
  OpenClaim.holds_of_wide 7 Try.f7 rfl rfl rfl rfl rfl rfl rfl ⟨rfl, rfl, rfl, rfl, rfl⟩ rfl rfl rfl rfl rfl (by kernel_rfl) Try.func7 (by kernel_rfl)
    (of_decide_eq_true (by kernel_rfl)) (by unfold Func.isWrapper; rw [if_neg (by decide +kernel)]; exact ⟨rfl, rfl⟩)
    (fun os started H enc _ => putLimits_lifted os started H enc)
end Go.Proofs.Ytombifgcpghkgaa
