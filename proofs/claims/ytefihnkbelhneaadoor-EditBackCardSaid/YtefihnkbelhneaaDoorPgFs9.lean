/- What is left of keys. -/
import Derived.Test.YtefihnkbelhneaaDoorPgFs7
namespace Go.Pg
open Go Go.Proofs

def netStep (out : List UInt8) (k : UInt8) : List UInt8 :=
  if (letter k.toNat || k.toNat == (13 : Int) || k.toNat == (10 : Int)) = true then out ++ [k]
  else if ((k.toNat == (8 : Int) || k.toNat == (127 : Int)) && decide (0 < out.length) && letter (out.getD (out.length - 1) 0).toNat) = true then out.take (out.length - 1)
  else out
def net (keys : List UInt8) : List UInt8 := keys.foldl netStep []

theorem netStep_len (out : List UInt8) (k : UInt8) : (netStep out k).length ≤ out.length + 1 := by
  unfold netStep
  split
  · simp
  · split
    · simp; omega
    · omega

theorem drop_getD {α : Type} (l : List α) (i : Nat) (d : α) (h : i < l.length) : l.drop i = l.getD i d :: l.drop (i + 1) := by
  rw [List.drop_eq_getElem_cons h, List.getD_eq_getElem?_getD, List.getElem?_eq_getElem h]; rfl

def kNet : C1 := C1.by [.sl 1 []] (lOne (cSl 1 cByte)) (fun d => d.length ≤ 1099511627776) (fun d => .sl 1 (ofBytes (net d))) (fun _ => [])
end Go.Pg
