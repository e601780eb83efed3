/- The statement EditWritesCardSaid holds: a text of any lines is written at any place as the document says, or not at all, and a byte is written over others. For every input, what the listed package-level variables hold being what the program's text lays. -/
import Derived.Test.YtefihnkbelhneaaDoorPgFs48
import Derived.Test.YtefihnkbelhneaaDoorPgRb
import Derived.Test.YtefihnkbelhneaaDoorTie
import Derived.Test.YtefihnkbelhneaaDoorCards
import Derived.Lay
import Derived.LaidMore
import Derived.SevenTiedAt
namespace Go.Proofs.YtefihnkbelhneaaDoor
open Go Go.Pg

set_option maxRecDepth 100000 in
theorem editWrites_lifted (os : Os) (started : os.Started) (H : Type) (enc : TypeId × Value → H) :
    ReturnsInHanded {} Tryd.checked os 3 .any (fun w args => (Rows.editWritesSpec.pre enc Tryd.prog Tryd.f3 [] false w args ∧ laidMetH Tryd.prog Rows.editWritesRow.laid w) ∧ sizedMet enc Tryd.prog Tryd.f3 (OpenSpec.ofChange Rows.editWritesSpec) false w args)
      (Rows.editWritesSpec.post enc Tryd.prog Tryd.f3 false true false false) := by
  refine row_of_laid (X := fun w => laidMetH Tryd.prog Rows.editWritesRow.laid w) (fun _ _ hh h => h.of_heap hh) (P := Tryd.prog) (C := Tryd.checked) (tb := 4) rfl Tryd.own started (by kernel_rfl) Tryd.func3
    (ChangeSpec.witness_shaped (enc := enc) (C := Tryd.checked) (os := os) (X := fun w _ => laidMetH Tryd.prog Rows.editWritesRow.laid w) false (World.laidAll Tryd.prog os Rows.editWritesRow.laid) #[.slice none 0 0, .agg #[.int .i64 0, .int .i64 0], .int .u16 0, .int .u16 0, .slice none 0 0, .int .u8 0, .int .i64 0] 8 (World.laidAll_os _ _ _)
      (World.shaped_of_ZipB (by kernel_rfl) (by kernel_rfl)) (by kernel_rfl) (by kernel_rfl) (by kernel_rfl)
      (by rw [MakeChecks.laidMetH_plain _ _ _ (by kernel_rfl)]; exact laidMet_laidAll _ (by kernel_rfl) (by kernel_rfl)))
    rfl (by kernel_rfl) Tryd.underlying4 ?_ laidOut (by kernel_rfl) ?_
  · intro ds hds
    rw [Tryd.params3] at hds
    match ds, hds with
    | [_, _, _, _, _, _, _], _ => exact ⟨rfl, rfl, rfl⟩
  · intro W base vs ds p h
    rw [Tryd.params3] at h
    obtain ⟨v0, vs, _, _, _, _, rfl, i0, h⟩ := h.cons
    obtain ⟨v1, vs, _, _, _, _, rfl, i1, h⟩ := h.cons
    obtain ⟨v2, vs, _, _, _, _, rfl, i2, h⟩ := h.cons
    obtain ⟨v3, vs, _, _, _, _, rfl, i3, h⟩ := h.cons
    obtain ⟨v4, vs, _, _, _, _, rfl, i4, h⟩ := h.cons
    obtain ⟨v5, vs, _, _, _, _, rfl, i5, h⟩ := h.cons
    obtain ⟨v6, vs, _, _, _, _, rfl, i6, h⟩ := h.cons
    obtain rfl := h.nil
    obtain ⟨n0, a0, c0, b0⟩ := i0.strings Tryd.underlying22 Tryd.underlying9 (by kernel_rfl) (by kernel_rfl)
    obtain ⟨n1, m1, a1, b1⟩ := i1.ints2 Tryd.underlying24 Tryd.underlying3 rfl rfl (by kernel_rfl) (by kernel_rfl) rfl rfl
    obtain ⟨n2, a2, b2⟩ := i2.u16 Tryd.underlying25
    obtain ⟨n3, a3, b3⟩ := i3.u16 Tryd.underlying25
    obtain ⟨n4, a4, c4, b4⟩ := i4.strings Tryd.underlying22 Tryd.underlying9 (by kernel_rfl) (by kernel_rfl)
    obtain ⟨n5, a5⟩ := i5.byte Tryd.underlying5
    obtain ⟨n6, a6, b6⟩ := i6.i64 Tryd.underlying3
    exact ⟨_, calls_EditWrites n0 n4 (n1, m1) n2 n3 n5 n6 b0 b4 b2 b3, .cons a0 (.cons a1 (.cons a2 (.cons a3 (.cons a4 (.cons a5 (.cons a6 .nil))))))⟩

theorem editWrites_holds : Rows.EditWritesSaid :=
  OpenClaim.holds_of_wide 3 Tryd.f3 rfl rfl rfl rfl rfl rfl rfl ⟨rfl, rfl, rfl, rfl, rfl⟩ rfl rfl rfl rfl rfl (by kernel_rfl) Tryd.func3 (by kernel_rfl)
    (of_decide_eq_true (by kernel_rfl)) (by unfold Func.isWrapper; rw [if_neg (by decide +kernel)]; exact ⟨rfl, rfl⟩)
    (fun os started H enc _ => editWrites_lifted os started H enc)
theorem editWrites_card : Rows.EditWritesCardSaid :=
  Claim7.holds_tied_plain_at .later [] [.data, .pinned] true (true, "e22b2544ff578f8cbf994da1adc23e9913e9d2c338c8f44a48dd1244a448294e") false editWrites_holds (fun _ h => by cases h) (by kernel_rfl) (fun _ h => by cases h) editWrites_row_tie rfl ⟨rfl, rfl⟩ (by kernel_rfl) rfl
    (fun f fn hf hfn => by
      obtain rfl : f = 3 := Option.some.inj ((show Tryd.prog.funcNamed "foolscap/foolscaplaw20.EditWrites" = some 3 by kernel_rfl).symm.trans hf) |>.symm
      obtain rfl : fn = Tryd.f3 := (Option.some.inj (Tryd.func3.symm.trans hfn)).symm
      exact ⟨by kernel_rfl, fun j t ht => by
        have hall : (Tryd.f3.params.toList.all fun u => !Tryd.prog.wantsStandIn u) = true := by kernel_rfl
        have hm : t ∈ Tryd.f3.params.toList := by simpa using Array.mem_of_getElem? ht
        exact (show Tryd.prog.wantsStandIn t = false by simpa using List.all_eq_true.1 hall t hm)⟩)
    (by kernel_rfl)
end Go.Proofs.YtefihnkbelhneaaDoor
