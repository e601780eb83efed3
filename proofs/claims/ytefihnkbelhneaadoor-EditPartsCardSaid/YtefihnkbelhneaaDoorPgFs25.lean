/- A text put into lines side by side, by the document. -/
import Derived.Test.YtefihnkbelhneaaDoorPgFs24
namespace Go.Pg
open Go Go.Proofs

theorem has10_take (x : List UInt8) (i : Nat) (h : i < x.length) : has10 (x.take (i + 1)) = (has10 (x.take i) || x.getD i 0 == 10) := by
  rw [take_succ_getD x i 0 h]; simp [has10]

theorem take_drop_succ (ls : Ls) (a i : Nat) (h : a + i < ls.length) : (ls.drop a).take (i + 1) = (ls.drop a).take i ++ [ls.getD (a + i) []] := by
  rw [take_succ_getD (ls.drop a) i [] (by rw [List.length_drop]; omega)]
  congr 2
  rw [List.getD_eq_getElem?_getD, List.getElem?_drop, ← List.getD_eq_getElem?_getD]

end Go.Pg
