/- The statement EditBackCardSaid holds: what was shifted to the right comes back by the left, and what was cased twice is as it was. For every input, what the listed package-level variables hold being what the program's text lays. -/
import Derived.Test.YtefihnkbelhneaaDoorPgFs58
import Derived.Test.YtefihnkbelhneaaDoorPgRb
import Derived.Test.YtefihnkbelhneaaDoorTie
import Derived.Test.YtefihnkbelhneaaDoorCards
import Derived.Lay
import Derived.LaidMore
import Derived.SevenTiedAt
namespace Go.Proofs.YtefihnkbelhneaaDoor
open Go Go.Pg

set_option maxRecDepth 100000 in
theorem editBack_lifted (os : Os) (started : os.Started) (H : Type) (enc : TypeId × Value → H) :
    ReturnsInHanded {} Tryd.checked os 8 .any (fun w args => (Rows.editBackSpec.pre enc Tryd.prog Tryd.f8 [] false w args ∧ laidMetH Tryd.prog Rows.editBackRow.laid w) ∧ sizedMet enc Tryd.prog Tryd.f8 (OpenSpec.ofChange Rows.editBackSpec) false w args)
      (Rows.editBackSpec.post enc Tryd.prog Tryd.f8 false true false false) := by
  refine row_of_laid (X := fun w => laidMetH Tryd.prog Rows.editBackRow.laid w) (fun _ _ hh h => h.of_heap hh) (P := Tryd.prog) (C := Tryd.checked) (tb := 4) rfl Tryd.own started (by kernel_rfl) Tryd.func8
    (ChangeSpec.witness_shaped (enc := enc) (C := Tryd.checked) (os := os) (X := fun w _ => laidMetH Tryd.prog Rows.editBackRow.laid w) false (World.laidAll Tryd.prog os Rows.editBackRow.laid) #[.slice none 0 0, .int .u8 0, .int .u16 0, .int .u16 0, .int .u16 0, .int .u16 0, .int .u8 0] 8 (World.laidAll_os _ _ _)
      (World.shaped_of_ZipB (by kernel_rfl) (by kernel_rfl)) (by kernel_rfl) (by kernel_rfl) (by kernel_rfl)
      (by rw [MakeChecks.laidMetH_plain _ _ _ (by kernel_rfl)]; exact laidMet_laidAll _ (by kernel_rfl) (by kernel_rfl)))
    rfl (by kernel_rfl) Tryd.underlying4 ?_ laidOut (by kernel_rfl) ?_
  · intro ds hds
    rw [Tryd.params8] at hds
    match ds, hds with
    | [_, _, _, _, _, _, _], _ => exact ⟨rfl, rfl, rfl⟩
  · intro W base vs ds p h
    rw [Tryd.params8] at h
    obtain ⟨v0, vs, _, _, _, _, rfl, i0, h⟩ := h.cons
    obtain ⟨v1, vs, _, _, _, _, rfl, i1, h⟩ := h.cons
    obtain ⟨v2, vs, _, _, _, _, rfl, i2, h⟩ := h.cons
    obtain ⟨v3, vs, _, _, _, _, rfl, i3, h⟩ := h.cons
    obtain ⟨v4, vs, _, _, _, _, rfl, i4, h⟩ := h.cons
    obtain ⟨v5, vs, _, _, _, _, rfl, i5, h⟩ := h.cons
    obtain ⟨v6, vs, _, _, _, _, rfl, i6, h⟩ := h.cons
    obtain rfl := h.nil
    obtain ⟨n0, a0, c0, b0⟩ := i0.strings Tryd.underlying22 Tryd.underlying9 (by kernel_rfl) (by kernel_rfl)
    obtain ⟨n1, a1⟩ := i1.byte Tryd.underlying5
    obtain ⟨n2, a2, b2⟩ := i2.u16 Tryd.underlying25
    obtain ⟨n3, a3, b3⟩ := i3.u16 Tryd.underlying25
    obtain ⟨n4, a4, b4⟩ := i4.u16 Tryd.underlying25
    obtain ⟨n5, a5, b5⟩ := i5.u16 Tryd.underlying25
    obtain ⟨n6, a6⟩ := i6.byte Tryd.underlying5
    exact ⟨_, calls_EditBack n0 n1.toNat n2 n3 n4 n5 n6.toNat b0 (by have := n1.toNat_lt; omega) b2 b3 b4 b5 (by have := n6.toNat_lt; omega), .cons a0 (.cons a1 (.cons a2 (.cons a3 (.cons a4 (.cons a5 (.cons a6 .nil))))))⟩

theorem editBack_holds : Rows.EditBackSaid :=
  OpenClaim.holds_of_wide 8 Tryd.f8 rfl rfl rfl rfl rfl rfl rfl ⟨rfl, rfl, rfl, rfl, rfl⟩ rfl rfl rfl rfl rfl (by kernel_rfl) Tryd.func8 (by kernel_rfl)
    (of_decide_eq_true (by kernel_rfl)) (by unfold Func.isWrapper; rw [if_neg (by decide +kernel)]; exact ⟨rfl, rfl⟩)
    (fun os started H enc _ => editBack_lifted os started H enc)
theorem editBack_card : Rows.EditBackCardSaid :=
  Claim7.holds_tied_plain_at .later [] [.data, .pinned] true (true, "e22b2544ff578f8cbf994da1adc23e9913e9d2c338c8f44a48dd1244a448294e") false editBack_holds (fun _ h => by cases h) (by kernel_rfl) (fun _ h => by cases h) editBack_row_tie rfl ⟨rfl, rfl⟩ (by kernel_rfl) rfl
    (fun f fn hf hfn => by
      obtain rfl : f = 8 := Option.some.inj ((show Tryd.prog.funcNamed "foolscap/foolscaplaw20.EditBack" = some 8 by kernel_rfl).symm.trans hf) |>.symm
      obtain rfl : fn = Tryd.f8 := (Option.some.inj (Tryd.func8.symm.trans hfn)).symm
      exact ⟨by kernel_rfl, fun j t ht => by
        have hall : (Tryd.f8.params.toList.all fun u => !Tryd.prog.wantsStandIn u) = true := by kernel_rfl
        have hm : t ∈ Tryd.f8.params.toList := by simpa using Array.mem_of_getElem? ht
        exact (show Tryd.prog.wantsStandIn t = false by simpa using List.all_eq_true.1 hall t hm)⟩)
    (by kernel_rfl)
end Go.Proofs.YtefihnkbelhneaaDoor
