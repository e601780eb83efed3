/- The statement PlaySameCardSaid holds: when two states are alike, field by field, and which text one has. For every input, what the listed package-level variables hold being what the program's text lays. -/
import Derived.Test.YtddkekepoimcpaaGreatDoorPgFx3
import Derived.Test.YtddkekepoimcpaaGreatDoorPgRb
import Derived.Test.YtddkekepoimcpaaGreatDoorTie
import Derived.Test.YtddkekepoimcpaaGreatDoorCards
import Derived.Lay
import Derived.LaidMore
import Derived.SevenTiedAt
import Derived.Test.YtddkekepoimcpaaGreatDoorPgGz
import Derived.Test.YtddkekepoimcpaaGreatDoorPgJfa
set_option linter.unusedVariables false
set_option linter.unusedSimpArgs false
namespace Go.Proofs.YtddkekepoimcpaaGreatDoor
open Go Go.Pg

set_option maxRecDepth 100000 in
theorem playSame_lifted (os : Os) (started : os.Started) (H : Type) (enc : TypeId × Value → H) :
    ReturnsInHanded {} Tryz.checked os 3 .any (fun w args => (Rows.playSameSpec.pre enc Tryz.prog Tryz.f3 [] false w args ∧ laidMetH Tryz.prog Rows.playSameRow.laid w) ∧ sizedMet enc Tryz.prog Tryz.f3 (OpenSpec.ofChange Rows.playSameSpec) false w args)
      (Rows.playSameSpec.post enc Tryz.prog Tryz.f3 false true false false) := by
  refine row_of_laid (X := fun w => laidMetH Tryz.prog Rows.playSameRow.laid w) (fun _ _ hh h => h.of_heap hh) (P := Tryz.prog) (C := Tryz.checked) (tb := 4) rfl Tryz.own started (by kernel_rfl) Tryz.func3
    (ChangeSpec.witness_shaped (enc := enc) (C := Tryz.checked) (os := os) (X := fun w _ => laidMetH Tryz.prog Rows.playSameRow.laid w) false (World.laidAll Tryz.prog os Rows.playSameRow.laid) #[.agg #[.slice none 0 0, .int .i64 0, .int .i64 0, .int .i64 0, .int .i64 0, .int .i64 0, .int .i64 0, .bool false, .int .i64 0, .slice none 0 0, .slice none 0 0, .slice none 0 0, .slice none 0 0, .slice none 0 0, .int .i64 0, .int .u8 0], .int .u8 0] 8 (World.laidAll_os _ _ _)
      (World.shaped_of_ZipB (by kernel_rfl) (by kernel_rfl)) (by kernel_rfl) (by kernel_rfl) (by kernel_rfl)
      (by rw [MakeChecks.laidMetH_plain _ _ _ (by kernel_rfl)]; exact laidMet_laidAll _ (by kernel_rfl) (by kernel_rfl)))
    rfl (by kernel_rfl) Tryz.underlying4 ?_ laidOut (by kernel_rfl) ?_
  · intro ds hds
    rw [Tryz.params3] at hds
    match ds, hds with
    | [_, _], _ => exact ⟨rfl, rfl, rfl⟩
  · intro W base vs ds p h
    rw [Tryz.params3] at h
    obtain ⟨v0, vs, _, _, _, _, rfl, i0, h⟩ := h.cons
    obtain ⟨v1, vs, _, _, _, _, rfl, i1, h⟩ := h.cons
    obtain rfl := h.nil
    obtain ⟨n0, b0, a0⟩ := i0.opens Tryz.underlying29 opensState
    obtain ⟨n1, a1⟩ := i1.byte Tryz.underlying5
    exact ⟨_, calls_PlaySame n0 n1 b0, .cons a0 (.cons a1 .nil)⟩

theorem playSame_holds : Rows.PlaySameSaid :=
  OpenClaim.holds_of_wide 3 Tryz.f3 rfl rfl rfl rfl rfl rfl rfl ⟨rfl, rfl, rfl, rfl, rfl⟩ rfl rfl rfl rfl rfl (by kernel_rfl) Tryz.func3 playSame_closed
    (of_decide_eq_true (by kernel_rfl)) (by unfold Func.isWrapper; rw [if_neg (by decide +kernel)]; exact ⟨rfl, rfl⟩)
    (fun os started H enc _ => playSame_lifted os started H enc)
theorem playSame_card : Rows.PlaySameCardSaid :=
  Claim7.holds_tied_plain_at .later [] [.data, .pinned] true (true, "a07d2f061a3763b39cd0f56d3487792cb7845f5f6aa6f1dd0958ee4eb595376b") true playSame_holds (fun _ h => by cases h) (by kernel_rfl) (fun _ h => by cases h) playSame_row_tie rfl ⟨rfl, rfl⟩ (by kernel_rfl) rfl
    (fun f fn hf hfn => by
      obtain rfl : f = 3 := Option.some.inj ((show Tryz.prog.funcNamed "foolscap/foolscaplaw35.PlaySame" = some 3 by kernel_rfl).symm.trans hf) |>.symm
      obtain rfl : fn = Tryz.f3 := (Option.some.inj (Tryz.func3.symm.trans hfn)).symm
      exact ⟨by kernel_rfl, fun j t ht => by
        have hall : (Tryz.f3.params.toList.all fun u => !Tryz.prog.wantsStandIn u) = true := by kernel_rfl
        have hm : t ∈ Tryz.f3.params.toList := by simpa using Array.mem_of_getElem? ht
        exact (show Tryz.prog.wantsStandIn t = false by simpa using List.all_eq_true.1 hall t hm)⟩)
    (goesBy_none (by kernel_rfl) rfl)
end Go.Proofs.YtddkekepoimcpaaGreatDoor
