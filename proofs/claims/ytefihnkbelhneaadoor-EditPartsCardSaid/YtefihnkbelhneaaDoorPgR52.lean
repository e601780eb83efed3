/- The statement EditPartsCardSaid holds: a line that is parted, and joined again with nothing between, is as it was, where it had no blanks there. For every input, what the listed package-level variables hold being what the program's text lays. -/
import Derived.Test.YtefihnkbelhneaaDoorPgFs52
import Derived.Test.YtefihnkbelhneaaDoorPgRb
import Derived.Test.YtefihnkbelhneaaDoorTie
import Derived.Test.YtefihnkbelhneaaDoorCards
import Derived.Lay
import Derived.LaidMore
import Derived.SevenTiedAt
namespace Go.Proofs.YtefihnkbelhneaaDoor
open Go Go.Pg

set_option maxRecDepth 100000 in
theorem editParts_lifted (os : Os) (started : os.Started) (H : Type) (enc : TypeId × Value → H) :
    ReturnsInHanded {} Tryd.checked os 5 .any (fun w args => (Rows.editPartsSpec.pre enc Tryd.prog Tryd.f5 [] false w args ∧ laidMetH Tryd.prog Rows.editPartsRow.laid w) ∧ sizedMet enc Tryd.prog Tryd.f5 (OpenSpec.ofChange Rows.editPartsSpec) false w args)
      (Rows.editPartsSpec.post enc Tryd.prog Tryd.f5 false true false false) := by
  refine row_of_laid (X := fun w => laidMetH Tryd.prog Rows.editPartsRow.laid w) (fun _ _ hh h => h.of_heap hh) (P := Tryd.prog) (C := Tryd.checked) (tb := 4) rfl Tryd.own started (by kernel_rfl) Tryd.func5
    (ChangeSpec.witness_shaped (enc := enc) (C := Tryd.checked) (os := os) (X := fun w _ => laidMetH Tryd.prog Rows.editPartsRow.laid w) false (World.laidAll Tryd.prog os Rows.editPartsRow.laid) #[.slice none 0 0, .int .u16 0, .int .u16 0] 8 (World.laidAll_os _ _ _)
      (World.shaped_of_ZipB (by kernel_rfl) (by kernel_rfl)) (by kernel_rfl) (by kernel_rfl) (by kernel_rfl)
      (by rw [MakeChecks.laidMetH_plain _ _ _ (by kernel_rfl)]; exact laidMet_laidAll _ (by kernel_rfl) (by kernel_rfl)))
    rfl (by kernel_rfl) Tryd.underlying4 ?_ laidOut (by kernel_rfl) ?_
  · intro ds hds
    rw [Tryd.params5] at hds
    match ds, hds with
    | [_, _, _], _ => exact ⟨rfl, rfl, rfl⟩
  · intro W base vs ds p h
    rw [Tryd.params5] at h
    obtain ⟨v0, vs, _, _, _, _, rfl, i0, h⟩ := h.cons
    obtain ⟨v1, vs, _, _, _, _, rfl, i1, h⟩ := h.cons
    obtain ⟨v2, vs, _, _, _, _, rfl, i2, h⟩ := h.cons
    obtain rfl := h.nil
    obtain ⟨n0, a0, c0, b0⟩ := i0.strings Tryd.underlying22 Tryd.underlying9 (by kernel_rfl) (by kernel_rfl)
    obtain ⟨n1, a1, b1⟩ := i1.u16 Tryd.underlying25
    obtain ⟨n2, a2, b2⟩ := i2.u16 Tryd.underlying25
    exact ⟨_, calls_EditParts n0 n1 n2 b0 b1 b2, .cons a0 (.cons a1 (.cons a2 .nil))⟩

theorem editParts_holds : Rows.EditPartsSaid :=
  OpenClaim.holds_of_wide 5 Tryd.f5 rfl rfl rfl rfl rfl rfl rfl ⟨rfl, rfl, rfl, rfl, rfl⟩ rfl rfl rfl rfl rfl (by kernel_rfl) Tryd.func5 (by kernel_rfl)
    (of_decide_eq_true (by kernel_rfl)) (by unfold Func.isWrapper; rw [if_neg (by decide +kernel)]; exact ⟨rfl, rfl⟩)
    (fun os started H enc _ => editParts_lifted os started H enc)
theorem editParts_card : Rows.EditPartsCardSaid :=
  Claim7.holds_tied_plain_at .later [] [.data, .pinned] true (true, "e22b2544ff578f8cbf994da1adc23e9913e9d2c338c8f44a48dd1244a448294e") false editParts_holds (fun _ h => by cases h) (by kernel_rfl) (fun _ h => by cases h) editParts_row_tie rfl ⟨rfl, rfl⟩ (by kernel_rfl) rfl
    (fun f fn hf hfn => by
      obtain rfl : f = 5 := Option.some.inj ((show Tryd.prog.funcNamed "foolscap/foolscaplaw20.EditParts" = some 5 by kernel_rfl).symm.trans hf) |>.symm
      obtain rfl : fn = Tryd.f5 := (Option.some.inj (Tryd.func5.symm.trans hfn)).symm
      exact ⟨by kernel_rfl, fun j t ht => by
        have hall : (Tryd.f5.params.toList.all fun u => !Tryd.prog.wantsStandIn u) = true := by kernel_rfl
        have hm : t ∈ Tryd.f5.params.toList := by simpa using Array.mem_of_getElem? ht
        exact (show Tryd.prog.wantsStandIn t = false by simpa using List.all_eq_true.1 hall t hm)⟩)
    (by kernel_rfl)
end Go.Proofs.YtefihnkbelhneaaDoor
