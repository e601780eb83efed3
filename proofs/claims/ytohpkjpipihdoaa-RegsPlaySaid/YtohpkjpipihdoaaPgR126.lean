/- The statement RegsPlaySaid holds: any script of yanks, cuts, puts comes to just the document's registers. For every input. -/
import Derived.Test.YtohpkjpipihdoaaPgFx8
import Derived.Test.YtohpkjpipihdoaaPgRb
import Derived.Test.YtohpkjpipihdoaaPgRo
namespace Go.Proofs.Ytohpkjpipihdoaa
open Go Go.Pg

theorem opensAct19 {H : Type} {enc : TypeId × Value → H} : Opens enc Try.prog 72 5 aAct19 (fun a => True ∧ True ∧ ((-9223372036854775808 ≤ a.2.2.1.1 ∧ a.2.2.1.1 ≤ 9223372036854775807) ∧ a.2.2.1.2.length ≤ 8796093021952 ∧ ∀ s ∈ a.2.2.1.2, s.length ≤ 140737488351232) ∧ True ∧ True) := by
  have hb : Opens enc Try.prog 5 1 (fun b : UInt8 => AV.int .u8 b.toNat) (fun _ => True) := opens_byte Try.underlying5 (by kernel_rfl)
  have ht : Opens enc Try.prog 4 1 AV.bool (fun _ => True) := opens_bool Try.underlying4 (by kernel_rfl)
  have hq := opens_struct (enc := enc) (n := 1 + (1 + (2 + (1 + 0)))) Try.underlying72 (by kernel_rfl) (opensL_cons hb (opensL_cons hb (opensL_cons opensReg (opensL_cons ht opensL_nil rfl) rfl) rfl) rfl)
  exact hq

set_option maxRecDepth 100000 in
theorem regsPlay_lifted (os : Os) (started : os.Started) (H : Type) (enc : TypeId × Value → H) :
    ReturnsInHanded {} Try.checked os 10 .any (Rows.regsPlaySpec.pre6 enc Try.prog Try.f10 Rows.regsPlayRow.domain false)
      (Rows.regsPlaySpec.post enc Try.prog Try.f10 false true false false) := by
  refine row_of (P := Try.prog) (C := Try.checked) (tb := 4) rfl Try.own started (by kernel_rfl) Try.func10
    (ChangeSpec.witness6 (enc := enc) (C := Try.checked) false ⟨#[], #[.slice none 0 0, .int .u8 0], []⟩ 8 (by kernel_rfl) (by kernel_rfl) (by kernel_rfl) (by kernel_rfl))
    rfl (by kernel_rfl) Try.underlying4 ?_ laidOut (by kernel_rfl) ?_
  · intro ds hds
    rw [Try.params10] at hds
    match ds, hds with
    | [_, _], _ => exact ⟨rfl, rfl, rfl⟩
  · intro W base vs ds p h
    rw [Try.params10] at h
    obtain ⟨v0, vs, _, _, _, _, rfl, i0, h⟩ := h.cons
    obtain ⟨v1, vs, _, _, _, _, rfl, i1, h⟩ := h.cons
    obtain rfl := h.nil
    obtain ⟨n0, b0, a0⟩ := i0.slice Try.underlying66 (opens_slice Try.underlying66 (by kernel_rfl) opensAct19 (by omega)) (fun _ => rfl)
    obtain ⟨n1, a1⟩ := i1.byte Try.underlying5
    have hk : Try.prog.bytesOf 72 = 48 := by kernel_rfl
    rw [hk] at b0
    exact ⟨_, calls_RegsPlay n0 n1 (by have := b0.1; omega) (fun a ha => (b0.2 a ha).2.2.1), .cons a0 (.cons a1 .nil)⟩

theorem regsPlay_holds : Rows.RegsPlaySaid :=
  OpenClaim.holds_of_wide 10 Try.f10 rfl rfl rfl rfl rfl rfl rfl ⟨rfl, rfl, rfl, rfl, rfl⟩ rfl rfl rfl rfl rfl (by kernel_rfl) Try.func10 (by kernel_rfl)
    (of_decide_eq_true (by kernel_rfl)) (by unfold Func.isWrapper; rw [if_neg (by decide +kernel)]; exact ⟨rfl, rfl⟩)
    (fun os started H enc _ => regsPlay_lifted os started H enc)
end Go.Proofs.Ytohpkjpipihdoaa
