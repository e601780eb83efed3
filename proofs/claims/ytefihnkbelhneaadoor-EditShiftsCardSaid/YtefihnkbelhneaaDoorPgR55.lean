/- The statement EditShiftsCardSaid holds: lines are shifted as the document says, either way, by any count, or not at all. For every input, what the listed package-level variables hold being what the program's text lays. -/
import Derived.Test.YtefihnkbelhneaaDoorPgFs55
import Derived.Test.YtefihnkbelhneaaDoorPgRb
import Derived.Test.YtefihnkbelhneaaDoorTie
import Derived.Test.YtefihnkbelhneaaDoorCards
import Derived.Lay
import Derived.LaidMore
import Derived.SevenTiedAt
namespace Go.Proofs.YtefihnkbelhneaaDoor
open Go Go.Pg

set_option maxRecDepth 100000 in
theorem editShifts_lifted (os : Os) (started : os.Started) (H : Type) (enc : TypeId × Value → H) :
    ReturnsInHanded {} Tryd.checked os 7 .any (fun w args => (Rows.editShiftsSpec.pre enc Tryd.prog Tryd.f7 [] false w args ∧ laidMetH Tryd.prog Rows.editShiftsRow.laid w) ∧ sizedMet enc Tryd.prog Tryd.f7 (OpenSpec.ofChange Rows.editShiftsSpec) false w args)
      (Rows.editShiftsSpec.post enc Tryd.prog Tryd.f7 false true false false) := by
  refine row_of_laid (X := fun w => laidMetH Tryd.prog Rows.editShiftsRow.laid w) (fun _ _ hh h => h.of_heap hh) (P := Tryd.prog) (C := Tryd.checked) (tb := 4) rfl Tryd.own started (by kernel_rfl) Tryd.func7
    (ChangeSpec.witness_shaped (enc := enc) (C := Tryd.checked) (os := os) (X := fun w _ => laidMetH Tryd.prog Rows.editShiftsRow.laid w) false (World.laidAll Tryd.prog os Rows.editShiftsRow.laid) #[.slice none 0 0, .int .i64 0, .int .i64 0, .int .i64 0, .bool false] 8 (World.laidAll_os _ _ _)
      (World.shaped_of_ZipB (by kernel_rfl) (by kernel_rfl)) (by kernel_rfl) (by kernel_rfl) (by kernel_rfl)
      (by rw [MakeChecks.laidMetH_plain _ _ _ (by kernel_rfl)]; exact laidMet_laidAll _ (by kernel_rfl) (by kernel_rfl)))
    rfl (by kernel_rfl) Tryd.underlying4 ?_ laidOut (by kernel_rfl) ?_
  · intro ds hds
    rw [Tryd.params7] at hds
    match ds, hds with
    | [_, _, _, _, _], _ => exact ⟨rfl, rfl, rfl⟩
  · intro W base vs ds p h
    rw [Tryd.params7] at h
    obtain ⟨v0, vs, _, _, _, _, rfl, i0, h⟩ := h.cons
    obtain ⟨v1, vs, _, _, _, _, rfl, i1, h⟩ := h.cons
    obtain ⟨v2, vs, _, _, _, _, rfl, i2, h⟩ := h.cons
    obtain ⟨v3, vs, _, _, _, _, rfl, i3, h⟩ := h.cons
    obtain ⟨v4, vs, _, _, _, _, rfl, i4, h⟩ := h.cons
    obtain rfl := h.nil
    obtain ⟨n0, a0, c0, b0⟩ := i0.strings Tryd.underlying22 Tryd.underlying9 (by kernel_rfl) (by kernel_rfl)
    obtain ⟨n1, a1, b1⟩ := i1.i64 Tryd.underlying3
    obtain ⟨n2, a2, b2⟩ := i2.i64 Tryd.underlying3
    obtain ⟨n3, a3, b3⟩ := i3.i64 Tryd.underlying3
    obtain ⟨n4, a4⟩ := i4.bool Tryd.underlying4
    exact ⟨_, calls_EditShifts n0 n1 n2 n3 n4 b0 b1 b2, .cons a0 (.cons a1 (.cons a2 (.cons a3 (.cons a4 .nil))))⟩

theorem editShifts_holds : Rows.EditShiftsSaid :=
  OpenClaim.holds_of_wide 7 Tryd.f7 rfl rfl rfl rfl rfl rfl rfl ⟨rfl, rfl, rfl, rfl, rfl⟩ rfl rfl rfl rfl rfl (by kernel_rfl) Tryd.func7 (by kernel_rfl)
    (of_decide_eq_true (by kernel_rfl)) (by unfold Func.isWrapper; rw [if_neg (by decide +kernel)]; exact ⟨rfl, rfl⟩)
    (fun os started H enc _ => editShifts_lifted os started H enc)
theorem editShifts_card : Rows.EditShiftsCardSaid :=
  Claim7.holds_tied_plain_at .later [] [.data, .pinned] true (true, "e22b2544ff578f8cbf994da1adc23e9913e9d2c338c8f44a48dd1244a448294e") false editShifts_holds (fun _ h => by cases h) (by kernel_rfl) (fun _ h => by cases h) editShifts_row_tie rfl ⟨rfl, rfl⟩ (by kernel_rfl) rfl
    (fun f fn hf hfn => by
      obtain rfl : f = 7 := Option.some.inj ((show Tryd.prog.funcNamed "foolscap/foolscaplaw20.EditShifts" = some 7 by kernel_rfl).symm.trans hf) |>.symm
      obtain rfl : fn = Tryd.f7 := (Option.some.inj (Tryd.func7.symm.trans hfn)).symm
      exact ⟨by kernel_rfl, fun j t ht => by
        have hall : (Tryd.f7.params.toList.all fun u => !Tryd.prog.wantsStandIn u) = true := by kernel_rfl
        have hm : t ∈ Tryd.f7.params.toList := by simpa using Array.mem_of_getElem? ht
        exact (show Tryd.prog.wantsStandIn t = false by simpa using List.all_eq_true.1 hall t hm)⟩)
    (by kernel_rfl)
end Go.Proofs.YtefihnkbelhneaaDoor
