/- The statement MoveDoesSaid holds: any motion, of any name, from any place, with whatever was sought, searched, marked, leads where the document says, or fails, and leaves what is remembered as it says. For every input. -/
import Derived.Test.YtkkcfkggfpoagaaGreatPgFx24
import Derived.Test.YtkkcfkggfpoagaaGreatPgRo2
set_option linter.unusedVariables false
set_option linter.unusedSimpArgs false
namespace Go.Proofs.YtkkcfkggfpoagaaGreat
open Go Go.Pg

set_option maxRecDepth 100000 in
theorem moveDoes_lifted (os : Os) (started : os.Started) (H : Type) (enc : TypeId × Value → H) :
    ReturnsInHanded {} Tryz.checked os 3 .any (Rows.moveDoesSpec.pre6 enc Tryz.prog Tryz.f3 Rows.moveDoesRow.domain false)
      (Rows.moveDoesSpec.post enc Tryz.prog Tryz.f3 false true false false) := by
  refine row_of (P := Tryz.prog) (C := Tryz.checked) (tb := 4) rfl Tryz.own started (by kernel_rfl) Tryz.func3
    (ChangeSpec.witness6 (enc := enc) (C := Tryz.checked) false ⟨#[], #[.slice none 0 0, .int .u16 0, .int .u16 0, .agg #[.int .i64 0, .int .i64 0, .int .i64 0, .int .i64 0, .int .u8 0, .int .u8 0, .string ByteArray.empty, .bool false], .agg #[.int .u8 0, .int .i64 0, .string ByteArray.empty, .string ByteArray.empty, .int .u8 0, .string ByteArray.empty], .slice none 0 0, .slice none 0 0, .bool false], []⟩ 8 (by kernel_rfl) (by kernel_rfl) (by kernel_rfl) (by kernel_rfl))
    rfl (by kernel_rfl) Tryz.underlying4 ?_ laidOut (by kernel_rfl) ?_
  · intro ds hds
    rw [Tryz.params3] at hds
    match ds, hds with
    | [_, _, _, _, _, _, _, _], _ => exact ⟨rfl, rfl, rfl⟩
  · intro W base vs ds p h
    rw [Tryz.params3] at h
    obtain ⟨v0, vs, _, _, _, _, rfl, i0, h⟩ := h.cons
    obtain ⟨v1, vs, _, _, _, _, rfl, i1, h⟩ := h.cons
    obtain ⟨v2, vs, _, _, _, _, rfl, i2, h⟩ := h.cons
    obtain ⟨v3, vs, _, _, _, _, rfl, i3, h⟩ := h.cons
    obtain ⟨v4, vs, _, _, _, _, rfl, i4, h⟩ := h.cons
    obtain ⟨v5, vs, _, _, _, _, rfl, i5, h⟩ := h.cons
    obtain ⟨v6, vs, _, _, _, _, rfl, i6, h⟩ := h.cons
    obtain ⟨v7, vs, _, _, _, _, rfl, i7, h⟩ := h.cons
    obtain rfl := h.nil
    obtain ⟨n0, a0, c0, b0⟩ := i0.strings Tryz.underlying22 Tryz.underlying9 (by kernel_rfl) (by kernel_rfl)
    obtain ⟨n1, a1, b1⟩ := i1.u16 Tryz.underlying23
    obtain ⟨n2, a2, b2⟩ := i2.u16 Tryz.underlying23
    obtain ⟨n3, b3, a3⟩ := i3.opens Tryz.underlying27 opensCx
    obtain ⟨n4, b4, a4⟩ := i4.opens Tryz.underlying29 opensCm
    obtain ⟨n5, a5, b5⟩ := i5.bytes Tryz.underlying30 Tryz.underlying5 (by kernel_rfl) (by kernel_rfl)
    obtain ⟨n6, b6, a6⟩ := i6.slice Tryz.underlying31 (opens_slice Tryz.underlying31 (by kernel_rfl) opensSt (by omega)) (fun _ => rfl)
    rw [show Tryz.prog.bytesOf 42 = 24 by kernel_rfl] at b6
    obtain ⟨n7, a7⟩ := i7.bool Tryz.underlying4
    exact ⟨_, calls_MoveDoes n0 n1 n2 n3 n4 n5 n6 n7 b0 b1 b2 b4.1 (by have := b4.2.1; omega) (by have := b4.2.2; omega) (by omega) (by omega) (by have := b6.1; omega), .cons a0 (.cons a1 (.cons a2 (.cons a3 (.cons a4 (.cons a5 (.cons a6 (.cons a7 .nil)))))))⟩

theorem moveDoes_holds : Rows.MoveDoesSaid :=
  OpenClaim.holds_of_wide 3 Tryz.f3 rfl rfl rfl rfl rfl rfl rfl ⟨rfl, rfl, rfl, rfl, rfl⟩ rfl rfl rfl rfl rfl (by kernel_rfl) Tryz.func3 (by kernel_rfl)
    (of_decide_eq_true (by kernel_rfl)) (by unfold Func.isWrapper; rw [if_neg (by decide +kernel)]; exact ⟨rfl, rfl⟩)
    (fun os started H enc _ => moveDoes_lifted os started H enc)
end Go.Proofs.YtkkcfkggfpoagaaGreat
