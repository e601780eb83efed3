/- The statement MarksPlaySaid holds: any script of marks and changes comes to just the document's marks. For every input. -/
import Derived.Test.YtohpkjpipihdoaaPgFx8
import Derived.Test.YtohpkjpipihdoaaPgRb
import Derived.Test.YtohpkjpipihdoaaPgOpn
namespace Go.Proofs.Ytohpkjpipihdoaa
open Go Go.Pg

theorem opensAct {H : Type} {enc : TypeId × Value → H} : Opens enc Try.prog 39 7 aAct (fun a => True ∧ True ∧ ((-9223372036854775808 ≤ a.2.2.1.1 ∧ a.2.2.1.1 ≤ 9223372036854775807) ∧ (-9223372036854775808 ≤ a.2.2.1.2.1 ∧ a.2.2.1.2.1 ≤ 9223372036854775807) ∧ True) ∧ (-9223372036854775808 ≤ a.2.2.2.1 ∧ a.2.2.2.1 ≤ 9223372036854775807) ∧ (-9223372036854775808 ≤ a.2.2.2.2.1 ∧ a.2.2.2.2.1 ≤ 9223372036854775807) ∧ (-9223372036854775808 ≤ a.2.2.2.2.2.1 ∧ a.2.2.2.2.2.1 ≤ 9223372036854775807) ∧ True) := by
  have hi : Opens enc Try.prog 3 1 (AV.int .i64) (fun n => -9223372036854775808 ≤ n ∧ n ≤ 9223372036854775807) := opens_i64 Try.underlying3 (by kernel_rfl)
  have hb : Opens enc Try.prog 5 1 (fun b : UInt8 => AV.int .u8 b.toNat) (fun _ => True) := opens_byte Try.underlying5 (by kernel_rfl)
  have hp := opens_struct (enc := enc) (n := 1 + (1 + 0)) Try.underlying37 (by kernel_rfl) (opensL_cons hi (opensL_cons hi opensL_nil rfl) rfl)
  have hq := opens_struct (enc := enc) (n := 1 + (1 + ((1 + (1 + 0)) + (1 + (1 + (1 + 0)))))) Try.underlying39 (by kernel_rfl) (opensL_cons hb (opensL_cons hb (opensL_cons hp (opensL_cons hi (opensL_cons hi (opensL_cons hi opensL_nil rfl) rfl) rfl) rfl) rfl) rfl)
  exact hq

set_option maxRecDepth 100000 in
theorem marksPlay_lifted (os : Os) (started : os.Started) (H : Type) (enc : TypeId × Value → H) :
    ReturnsInHanded {} Try.checked os 4 .any (Rows.marksPlaySpec.pre6 enc Try.prog Try.f4 Rows.marksPlayRow.domain false)
      (Rows.marksPlaySpec.post enc Try.prog Try.f4 false true false false) := by
  refine row_of (P := Try.prog) (C := Try.checked) (tb := 4) rfl Try.own started (by kernel_rfl) Try.func4
    (ChangeSpec.witness6 (enc := enc) (C := Try.checked) false ⟨#[], #[.slice none 0 0, .int .u8 0], []⟩ 8 (by kernel_rfl) (by kernel_rfl) (by kernel_rfl) (by kernel_rfl))
    rfl (by kernel_rfl) Try.underlying4 ?_ laidOut (by kernel_rfl) ?_
  · intro ds hds
    rw [Try.params4] at hds
    match ds, hds with
    | [_, _], _ => exact ⟨rfl, rfl, rfl⟩
  · intro W base vs ds p h
    rw [Try.params4] at h
    obtain ⟨v0, vs, _, _, _, _, rfl, i0, h⟩ := h.cons
    obtain ⟨v1, vs, _, _, _, _, rfl, i1, h⟩ := h.cons
    obtain rfl := h.nil
    obtain ⟨n0, b0, a0⟩ := i0.slice Try.underlying28 (opens_slice Try.underlying28 (by kernel_rfl) opensAct (by omega)) (fun _ => rfl)
    obtain ⟨n1, a1⟩ := i1.byte Try.underlying5
    have hk : Try.prog.bytesOf 39 = 48 := by kernel_rfl
    rw [hk] at b0
    exact ⟨_, calls_MarksPlay n0 n1 (by omega), .cons a0 (.cons a1 .nil)⟩

theorem marksPlay_holds : Rows.MarksPlaySaid :=
  OpenClaim.holds_of_wide 4 Try.f4 rfl rfl rfl rfl rfl rfl rfl ⟨rfl, rfl, rfl, rfl, rfl⟩ rfl rfl rfl rfl rfl (by kernel_rfl) Try.func4 (by kernel_rfl)
    (of_decide_eq_true (by kernel_rfl)) (by unfold Func.isWrapper; rw [if_neg (by decide +kernel)]; exact ⟨rfl, rfl⟩)
    (fun os started H enc _ => marksPlay_lifted os started H enc)
end Go.Proofs.Ytohpkjpipihdoaa
