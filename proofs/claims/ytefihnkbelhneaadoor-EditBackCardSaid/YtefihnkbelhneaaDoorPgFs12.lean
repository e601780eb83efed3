/- The contracts that the laws of typing use. -/
import Derived.Test.YtefihnkbelhneaaDoorPgFs11
namespace Go.Pg
open Go Go.Proofs

abbrev cPos : Cd (Int × Int) := cAgg lPos
abbrev cCh : Cd Ch := cAgg (lCons (cInt .i64) (lCons cStrs (lOne cStrs)))
def kChange : C1 := C1.by [.ag [none, some 1, some 1], .ag [none, some 1, some 1]] (lCons cCh (lOne cCh)) (fun d => d.1.2.1.length ≤ 140737488355328 ∧ d.1.2.2.length ≤ 140737488355328 ∧ d.2.2.1.length ≤ 140737488355328 ∧ d.2.2.2.length ≤ 140737488355328)
  (fun d => .bool (d.1 == d.2)) (fun _ => [])
theorem ok_Change : C1OK Tryd.prog 30 kChange := C1OK.by (by kernel_rfl) (fun d h => calls_Change d.1 d.2 h) (fun _ => rfl) (fun _ => rfl)

/-- A place by two numbers. -/
def splace (ls : Ls) (a b : Int) : Int × Int := (a % ls.length, b % ((ls.getD (a % ls.length).toNat []).length + 1))
def kSPlace : C1 := C1.by [.sl 1 [], .id, .id] (lCons cStrs (lCons (cInt .u16) (lOne (cInt .u16)))) (fun d => 0 < d.1.length ∧ small d.1 ∧ (0 ≤ d.2.1 ∧ d.2.1 < 65536) ∧ 0 ≤ d.2.2 ∧ d.2.2 < 65536)
  (fun d => aPos (splace d.1 d.2.1 d.2.2)) (fun _ => [])
theorem ok_SPlace : C1OK Tryd.prog 12 kSPlace := C1OK.by (by kernel_rfl) (fun d h => calls_SPlace d.1 d.2.1 d.2.2 h.1 h.2.1 h.2.2.1 h.2.2.2) (fun _ => rfl) (fun _ => rfl)
def kRSize : C1 := C1.by [.sl 1 []] (lOne cStrs) (fun d => few d) (fun d => .int .i64 (size d)) (fun _ => [])
theorem splace_place (ls : Ls) (a b : Int) (h : 0 < ls.length) (hb : 0 ≤ b) : place ls (splace ls a b).1 (splace ls a b).2 = true := by
  rw [place_iff]
  have h3 := Int.emod_nonneg a (b := ls.length) (by omega)
  have h4 := Int.emod_lt_of_pos a (b := ls.length) (by omega)
  refine ⟨h3, ?_, Int.emod_nonneg _ (by omega), ?_⟩
  · show (a % ls.length).toNat < _; omega
  · have h5 := Int.emod_lt_of_pos b (b := (ls.getD (a % ls.length).toNat []).length + 1) (by omega)
    show b % ((ls.getD (a % ls.length).toNat []).length + 1) ≤ ((ls.getD (a % ls.length).toNat []).length : Int)
    omega

theorem fits_text {ls : Ls} (h : text ls = true) : fits 40 1200 ls := by
  obtain ⟨h1, h2, h3⟩ := few_of_text h
  refine ⟨h2, fun s hs => ?_⟩
  obtain ⟨i, hi, rfl⟩ := List.getElem_of_mem hs
  have := h3 i
  rw [List.getD_eq_getElem?_getD, List.getElem?_eq_getElem hi] at this
  exact this
end Go.Pg
