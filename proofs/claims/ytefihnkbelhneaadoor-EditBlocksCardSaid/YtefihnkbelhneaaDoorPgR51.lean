/- The statement EditBlocksCardSaid holds: a block is cut out of each of its lines, and nothing else is. For every input, what the listed package-level variables hold being what the program's text lays. -/
import Derived.Test.YtefihnkbelhneaaDoorPgFs51
import Derived.Test.YtefihnkbelhneaaDoorPgRb
import Derived.Test.YtefihnkbelhneaaDoorTie
import Derived.Test.YtefihnkbelhneaaDoorCards
import Derived.Lay
import Derived.LaidMore
import Derived.SevenTiedAt
namespace Go.Proofs.YtefihnkbelhneaaDoor
open Go Go.Pg

set_option maxRecDepth 100000 in
theorem editBlocks_lifted (os : Os) (started : os.Started) (H : Type) (enc : TypeId × Value → H) :
    ReturnsInHanded {} Tryd.checked os 6 .any (fun w args => (Rows.editBlocksSpec.pre enc Tryd.prog Tryd.f6 [] false w args ∧ laidMetH Tryd.prog Rows.editBlocksRow.laid w) ∧ sizedMet enc Tryd.prog Tryd.f6 (OpenSpec.ofChange Rows.editBlocksSpec) false w args)
      (Rows.editBlocksSpec.post enc Tryd.prog Tryd.f6 false true false false) := by
  refine row_of_laid (X := fun w => laidMetH Tryd.prog Rows.editBlocksRow.laid w) (fun _ _ hh h => h.of_heap hh) (P := Tryd.prog) (C := Tryd.checked) (tb := 4) rfl Tryd.own started (by kernel_rfl) Tryd.func6
    (ChangeSpec.witness_shaped (enc := enc) (C := Tryd.checked) (os := os) (X := fun w _ => laidMetH Tryd.prog Rows.editBlocksRow.laid w) false (World.laidAll Tryd.prog os Rows.editBlocksRow.laid) #[.slice none 0 0, .int .u16 0, .int .u16 0, .int .u16 0, .int .u16 0] 8 (World.laidAll_os _ _ _)
      (World.shaped_of_ZipB (by kernel_rfl) (by kernel_rfl)) (by kernel_rfl) (by kernel_rfl) (by kernel_rfl)
      (by rw [MakeChecks.laidMetH_plain _ _ _ (by kernel_rfl)]; exact laidMet_laidAll _ (by kernel_rfl) (by kernel_rfl)))
    rfl (by kernel_rfl) Tryd.underlying4 ?_ laidOut (by kernel_rfl) ?_
  · intro ds hds
    rw [Tryd.params6] at hds
    match ds, hds with
    | [_, _, _, _, _], _ => exact ⟨rfl, rfl, rfl⟩
  · intro W base vs ds p h
    rw [Tryd.params6] at h
    obtain ⟨v0, vs, _, _, _, _, rfl, i0, h⟩ := h.cons
    obtain ⟨v1, vs, _, _, _, _, rfl, i1, h⟩ := h.cons
    obtain ⟨v2, vs, _, _, _, _, rfl, i2, h⟩ := h.cons
    obtain ⟨v3, vs, _, _, _, _, rfl, i3, h⟩ := h.cons
    obtain ⟨v4, vs, _, _, _, _, rfl, i4, h⟩ := h.cons
    obtain rfl := h.nil
    obtain ⟨n0, a0, c0, b0⟩ := i0.strings Tryd.underlying22 Tryd.underlying9 (by kernel_rfl) (by kernel_rfl)
    obtain ⟨n1, a1, b1⟩ := i1.u16 Tryd.underlying25
    obtain ⟨n2, a2, b2⟩ := i2.u16 Tryd.underlying25
    obtain ⟨n3, a3, b3⟩ := i3.u16 Tryd.underlying25
    obtain ⟨n4, a4, b4⟩ := i4.u16 Tryd.underlying25
    exact ⟨_, calls_EditBlocks n0 n1 n2 n3 n4 b0 b1 b2 b3 b4, .cons a0 (.cons a1 (.cons a2 (.cons a3 (.cons a4 .nil))))⟩

theorem editBlocks_holds : Rows.EditBlocksSaid :=
  OpenClaim.holds_of_wide 6 Tryd.f6 rfl rfl rfl rfl rfl rfl rfl ⟨rfl, rfl, rfl, rfl, rfl⟩ rfl rfl rfl rfl rfl (by kernel_rfl) Tryd.func6 (by kernel_rfl)
    (of_decide_eq_true (by kernel_rfl)) (by unfold Func.isWrapper; rw [if_neg (by decide +kernel)]; exact ⟨rfl, rfl⟩)
    (fun os started H enc _ => editBlocks_lifted os started H enc)
theorem editBlocks_card : Rows.EditBlocksCardSaid :=
  Claim7.holds_tied_plain_at .later [] [.data, .pinned] true (true, "e22b2544ff578f8cbf994da1adc23e9913e9d2c338c8f44a48dd1244a448294e") false editBlocks_holds (fun _ h => by cases h) (by kernel_rfl) (fun _ h => by cases h) editBlocks_row_tie rfl ⟨rfl, rfl⟩ (by kernel_rfl) rfl
    (fun f fn hf hfn => by
      obtain rfl : f = 6 := Option.some.inj ((show Tryd.prog.funcNamed "foolscap/foolscaplaw20.EditBlocks" = some 6 by kernel_rfl).symm.trans hf) |>.symm
      obtain rfl : fn = Tryd.f6 := (Option.some.inj (Tryd.func6.symm.trans hfn)).symm
      exact ⟨by kernel_rfl, fun j t ht => by
        have hall : (Tryd.f6.params.toList.all fun u => !Tryd.prog.wantsStandIn u) = true := by kernel_rfl
        have hm : t ∈ Tryd.f6.params.toList := by simpa using Array.mem_of_getElem? ht
        exact (show Tryd.prog.wantsStandIn t = false by simpa using List.all_eq_true.1 hall t hm)⟩)
    (by kernel_rfl)
end Go.Proofs.YtefihnkbelhneaaDoor
