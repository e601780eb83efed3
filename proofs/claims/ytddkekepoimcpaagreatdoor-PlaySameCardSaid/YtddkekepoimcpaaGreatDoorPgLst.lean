/- Pg, part 22: lists. -/
import Derived.Test.YtddkekepoimcpaaGreatDoorPgNil
set_option linter.unusedVariables false
set_option linter.unusedSimpArgs false
namespace Go.Pg
open Go

theorem rg1 : ([0] = List.range 1) = True := by decide
theorem rg2 : ([0, 1] = List.range 2) = True := by decide
theorem rg3 : ([0, 1, 2] = List.range 3) = True := by decide
theorem rg4 : ([0, 1, 2, 3] = List.range 4) = True := by decide
theorem rg5 : ([0, 1, 2, 3, 4] = List.range 5) = True := by decide
theorem rg6 : ([0, 1, 2, 3, 4, 5] = List.range 6) = True := by decide
theorem rg7 : ([0, 1, 2, 3, 4, 5, 6] = List.range 7) = True := by decide
theorem rg8 : ([0, 1, 2, 3, 4, 5, 6, 7] = List.range 8) = True := by decide
theorem not_mem_nil (n : Nat) : (n ∈ ([] : List Nat)) = False := by simp
theorem length_ofBytes (l : List UInt8) : (ofBytes l).length = l.length := by simp [ofBytes]
theorem take_ofBytes (l : List UInt8) (n : Nat) : (ofBytes l).take n = ofBytes (l.take n) := by simp [ofBytes]
theorem drop_ofBytes (l : List UInt8) (n : Nat) : (ofBytes l).drop n = ofBytes (l.drop n) := by simp [ofBytes]
theorem getD_ofBytes (l : List UInt8) (i : Nat) : (ofBytes l).getD i (.int .u8 0) = .int .u8 (l.getD i 0).toNat := by
  have := getD_map (fun b : UInt8 => AV.int .u8 b.toNat) l i 0
  exact this
theorem app1_ofBytes (l : List UInt8) (b : UInt8) : ofBytes l ++ [.int .u8 b.toNat] = ofBytes (l ++ [b]) := by simp [ofBytes]
theorem app_ofBytes (l m : List UInt8) : ofBytes l ++ ofBytes m = ofBytes (l ++ m) := by simp [ofBytes]
theorem set_ofBytes (l : List UInt8) (i : Nat) (b : UInt8) : (ofBytes l).set i (.int .u8 b.toNat) = ofBytes (l.set i b) := by simp [ofBytes]
theorem app_strs (l m : List (List UInt8)) : l.map AV.str ++ m.map AV.str = (l ++ m).map AV.str := by simp


/-! ### What a closure has captured, all of it only read -/
structure PureCaps (caps : List AV) : Prop where
  res : ∀ H d, resL (res H (d + 1)) caps = some (caps, [])
  res8 : ∀ H, resL (Go.Pg.res8 H) caps = some (caps, [])
  pairs : pairsL (pairsC pairs0) caps caps = []
  frz : ∀ H, frzL (frz0 H) caps caps = []
  sub : ∀ H F pick d, subL (subV H F pick (d + 1)) caps caps = True

theorem PureCaps.nil : PureCaps [] := ⟨fun _ _ => rfl, fun _ => rfl, rfl, fun _ => rfl, fun _ _ _ _ => rfl⟩
theorem PureCaps.cons {cs : List AV} {caps : List AV} (h : PureCaps caps) : PureCaps (.rp cs :: caps) := by
  refine ⟨fun H d => ?_, fun H => ?_, ?_, fun H => ?_, fun H F pick d => ?_⟩
  · show (match Go.Pg.res H (d + 1) (.rp cs), resL (Go.Pg.res H (d + 1)) caps with
      | some (y, i), some (l, j) => some (y :: l, i ++ j)
      | _, _ => none) = _
    rw [h.res]; rfl
  · show (match Go.Pg.res8 H (.rp cs), resL (Go.Pg.res8 H) caps with
      | some (y, i), some (l, j) => some (y :: l, i ++ j)
      | _, _ => none) = _
    rw [h.res8]; rfl
  · simp [pairsL, pairsC, pairs0, h.pairs]
  · simp [frzL, frz0, h.frz]
  · show (subV H F pick (d + 1) (.rp cs) (.rp cs) ∧ subL (subV H F pick (d + 1)) caps caps) = True
    rw [h.sub]; simp [subV]

end Go.Pg
