/- The library's functions that texts side by side use. -/
import Derived.Test.YtefihnkbelhneaaDoorPgLib
import Derived.Test.YtefihnkbelhneaaDoorPgShf
import Derived.Test.YtefihnkbelhneaaDoorPgFs12
import Derived.Lib.IndexLaws
namespace Go.Pg
open Go Go.Proofs Go.RowKit

theorem indexByte_has (l : List UInt8) (c : UInt8) : decide (0 ≤ Lib.indexByte l c) = l.any (· == c) := by
  have h1 := Lib.indexByte_ge l c
  by_cases h : Lib.indexByte l c = -1
  · have h2 := Lib.indexByte_none h
    rw [h, show decide ((0 : Int) ≤ -1) = false from rfl]
    symm
    simp only [List.any_eq_false, beq_iff_eq]
    intro x hx e
    subst e
    obtain ⟨k, hk⟩ := List.getElem?_of_mem hx
    exact h2 k hk
  · obtain ⟨n, hn⟩ : ∃ n : Nat, Lib.indexByte l c = n := ⟨(Lib.indexByte l c).toNat, by omega⟩
    have h2 := (Lib.indexByte_some hn).1
    rw [hn]
    symm
    rw [decide_eq_true (by omega : (0 : Int) ≤ n)]
    simp only [List.any_eq_true, beq_iff_eq]
    exact ⟨c, List.mem_of_getElem? h2, rfl⟩

theorem calls_Repeat1 (x : UInt8) (n : Int) (h0 : 0 ≤ n) (h1 : n ≤ 140737488355328) : CallsR Tryd.prog 61 [.str [x], .int .i64 n] [] (.str (List.replicate n.toNat x)) [] := by
  refine callsR_below fun E vals hv => ?_
  obtain ⟨u, v, rfl, h2, h3⟩ := hv.two
  obtain ⟨k, rfl⟩ : ∃ k : Nat, n = k := ⟨n.toNat, by omega⟩
  cases h3 with
  | int =>
    generalize hx : AV.str [x] = y at h2
    cases h2 with
    | str S =>
      have e : S = ⟨#[x]⟩ := by
        rw [← bytesEta S]
        have := (AV.str.inj hx).symm
        rw [this]
      subst e
      have hs : (⟨#[x]⟩ : ByteArray).size = 1 := rfl
      refine (Tryd.strings_Repeat ⟨#[x]⟩ k E.W (by omega) (by rw [hs]; omega)).mono fun e W' ⟨h4, h5⟩ => ?_
      refine ⟨⟨_, h4, fun E' => ?_⟩, h5⟩
      have hr : Lib.repeatL [x] k = List.replicate k x := by
        have := Lib.repeatL_replicate x 1 k
        simpa using this
      rw [show (⟨#[x]⟩ : ByteArray).data.toList = [x] from rfl, hr, Int.toNat_natCast]
      have := VR.str (E := E') ⟨(List.replicate k x).toArray⟩
      simpa using this
    | _ => cases hx

end Go.Pg
