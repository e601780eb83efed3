/- What a key does, by the program. -/
import Derived.Test.YtefihnkbelhneaaDoorPgFs5
namespace Go.Pg
open Go Go.Proofs

theorem write_one (ls : Ls) (l c : Int) (s : List UInt8) (h : place ls l c = true) :
    write ls l c [s] = ((l, [ls.getD l.toNat []], [(ls.getD l.toNat []).take c.toNat ++ s ++ (ls.getD l.toNat []).drop c.toNat]), (l, c + s.length), true) := by
  have e : write ls l c [s] = _ := if_pos (by rw [h]; rfl)
  obtain ⟨a1, a2, a3, a4⟩ := (place_iff ..).1 h
  rw [e]
  show ((l, _, [((ls.getD l.toNat []).take c.toNat ++ s) ++ (ls.getD l.toNat []).drop c.toNat]), ((l + ((0 : Nat) : Int)), (((ls.getD l.toNat []).take c.toNat ++ s).length : Int)), true) = _
  have h1 : (((ls.getD l.toNat []).take c.toNat ++ s).length : Int) = c + s.length := by
    simp only [List.length_append, List.length_take]; omega
  have h2 : l + ((0 : Nat) : Int) = l := by omega
  rw [h1, h2]

theorem write_two (ls : Ls) (l c : Int) (h : place ls l c = true) :
    write ls l c [[], []] = ((l, [ls.getD l.toNat []], [(ls.getD l.toNat []).take c.toNat, (ls.getD l.toNat []).drop c.toNat]), (l + 1, 0), true) := by
  have e : write ls l c [[], []] = _ := if_pos (by rw [h]; rfl)
  rw [e]
  show ((l, _, [(ls.getD l.toNat []).take c.toNat ++ [], [] ++ (ls.getD l.toNat []).drop c.toNat]), ((l + ((1 : Nat) : Int)), ((0 : Nat) : Int)), true) = _
  rw [List.append_nil, List.nil_append]
  rfl

theorem small_two (a b : List UInt8) (ha : a.length ≤ 1099511627776) (hb : b.length ≤ 1099511627776) : small [a, b] := by
  refine ⟨by simp, fun i => ?_⟩
  match i with
  | 0 => exact ha
  | 1 => exact hb
  | i + 2 => simp
theorem small_one (a : List UInt8) (ha : a.length ≤ 1099511627776) : small [a] := by
  refine ⟨by simp, fun i => ?_⟩
  match i with
  | 0 => exact ha
  | i + 1 => simp

end Go.Pg
