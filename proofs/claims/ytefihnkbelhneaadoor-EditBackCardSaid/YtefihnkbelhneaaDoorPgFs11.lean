/- Keys are typed, one by one. -/
import Derived.Test.YtefihnkbelhneaaDoorPgFs10
namespace Go.Pg
open Go Go.Proofs

/-- So many lines, so long. -/
def fits (n b : Nat) (ls : Ls) : Prop := ls.length ≤ n ∧ ∀ s ∈ ls, s.length ≤ b

theorem fits_getD {n b : Nat} {ls : Ls} (h : fits n b ls) (i : Nat) : (ls.getD i []).length ≤ b := by
  rw [List.getD_eq_getElem?_getD]
  cases e : ls[i]? with
  | none => simp
  | some s => exact h.2 s (List.mem_of_getElem? e)
theorem fits_small {n b : Nat} {ls : Ls} (h : fits n b ls) (hn : n ≤ 1099511627776) (hb : b ≤ 1099511627776) : small ls :=
  ⟨Nat.le_trans h.1 hn, fun i => Nat.le_trans (fits_getD h i) hb⟩
theorem fits_mono {n b n' b' : Nat} {ls : Ls} (h : fits n b ls) (hn : n ≤ n') (hb : b ≤ b') : fits n' b' ls :=
  ⟨Nat.le_trans h.1 hn, fun s hs => Nat.le_trans (h.2 s hs) hb⟩

theorem typ_cases (ls : Ls) (p f : Int × Int) (m : Int) (k : UInt8) : typ ls p f m k = nothing ∨
    (place ls p.1 p.2 = true ∧ (typ ls p f m k).2.2 = true ∧ (typ ls p f m k).1.1 = p.1 ∧ (typ ls p f m k).1.2.1 = [ls.getD p.1.toNat []]) := by
  unfold typ
  dsimp only
  split
  · next h =>
    have hp : place ls p.1 p.2 = true := by simp only [Bool.and_eq_true] at h; exact h.1
    split
    · exact .inr ⟨hp, rfl, rfl, rfl⟩
    · split
      · exact .inr ⟨hp, rfl, rfl, rfl⟩
      · split
        · exact .inr ⟨hp, rfl, rfl, rfl⟩
        · exact .inl rfl
  · exact .inl rfl

theorem typ_fits {n b : Nat} {ls : Ls} (h : fits n b ls) (p f : Int × Int) (m : Int) (k : UInt8) : (typ ls p f m k).1.2.1.length ≤ 1 ∧ fits 2 (b + 1) (typ ls p f m k).1.2.2 := by
  have hs := fits_getD h p.1.toNat
  have h0 : fits 2 (b + 1) [] := ⟨by simp, by simp⟩
  unfold typ
  dsimp only
  split
  · split
    · refine ⟨by simp, by simp, fun s hs' => ?_⟩
      simp only [List.mem_singleton] at hs'
      subst hs'
      simp only [List.length_append, List.length_take, List.length_cons, List.length_nil]
      split
      · simp only [List.length_drop]; omega
      · simp only [List.length_drop]; omega
    · split
      · refine ⟨by simp, by simp, fun s hs' => ?_⟩
        simp only [List.mem_cons, List.not_mem_nil, or_false] at hs'
        rcases hs' with rfl | rfl <;> simp only [List.length_take, List.length_drop] <;> omega
      · split
        · refine ⟨by simp, by simp, fun s hs' => ?_⟩
          simp only [List.mem_singleton] at hs'
          subst hs'
          simp only [List.length_append, List.length_take, List.length_drop]
          omega
        · exact ⟨by simp [nothing], h0⟩
  · exact ⟨by simp [nothing], h0⟩

theorem apply1_fits {n b n' b' : Nat} {ls : Ls} {x : Ch} (h : fits n b ls) (hx : fits n' b' x.2.2) (hb : b ≤ b') : fits (n + n') b' (apply1 ls x).1 := by
  unfold apply1
  split
  · exact ⟨by simp, by simp⟩
  · refine ⟨?_, fun s hs => ?_⟩
    · have := h.1
      have := hx.1
      simp only [List.length_append, List.length_take, List.length_drop]
      omega
    · simp only [List.mem_append] at hs
      rcases hs with (hs | hs) | hs
      · exact Nat.le_trans (h.2 s (List.mem_of_mem_take hs)) hb
      · exact hx.2 s hs
      · exact Nat.le_trans (h.2 s (List.mem_of_mem_drop hs)) hb

theorem applyL1 (ls : Ls) (x : Ch) : applyL ls [x] = if (apply1 ls x).2 = true then ((apply1 ls x).1, true) else ([], false) := rfl
theorem applyL1_fits {n b n' b' : Nat} {ls : Ls} {x : Ch} (h : fits n b ls) (hx : fits n' b' x.2.2) (hb : b ≤ b') : fits (n + n') b' (applyL ls [x]).1 := by
  rw [applyL1]
  split
  · exact apply1_fits h hx hb
  · exact ⟨by simp, by simp⟩

/-- Keys, one by one. -/
def typedL (ls : Ls) (p f : Int × Int) : List UInt8 → Ls × (Int × Int) × Bool
  | [] => (ls, p, true)
  | k :: r => if ((typ ls p f 1 k).2.2 && (applyL ls [(typ ls p f 1 k).1]).2) = true then typedL (applyL ls [(typ ls p f 1 k).1]).1 (typ ls p f 1 k).2.1 f r else ([], (0, 0), false)

def kTyped : C1 := C1.by [.sl 1 [], .id, .sl 1 []] (lCons cStrs (lCons (cAgg lPos) (lOne (cSl 1 cByte)))) (fun d => fits 65536 65536 d.1 ∧ d.2.2.length ≤ 65536)
  (fun d => .tuple [.sl 1 ((typedL d.1 d.2.1 d.2.1 d.2.2).1.map .str), aPos (typedL d.1 d.2.1 d.2.1 d.2.2).2.1, .bool (typedL d.1 d.2.1 d.2.1 d.2.2).2.2]) (fun _ => [])
end Go.Pg
