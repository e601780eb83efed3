/- A line break parts a line. -/
import Derived.Test.YtkjfcpdancjhmaaPgFs14
namespace Go.Pg
open Go Go.Proofs

/-- Breaks alone. -/
theorem typedL_breaks (f : Int × Int) : ∀ (n : Nat) (ls : Ls) (p1 p2 : Int), place ls p1 p2 = true → 
    typedL ls (p1, p2) f (List.replicate (n + 1) 13) = (ls.take p1.toNat ++ (ls.getD p1.toNat []).take p2.toNat :: List.replicate n [] ++ (ls.getD p1.toNat []).drop p2.toNat :: ls.drop (p1.toNat + 1), (p1 + (n + 1 : Nat), 0), true) := by
  intro n
  induction n with
  | zero =>
    intro ls p1 p2 hp
    obtain ⟨a1, a2, a3, a4⟩ := (place_iff ..).1 hp
    rw [List.replicate_succ, typedL, typ_break ls p1 p2 f 1 13 hp rfl (by decide) (by decide)]
    simp only
    rw [applyL_at ls p1 _ a1 a2 (by simp)]
    simp [typedL]
  | succ n ih =>
    intro ls p1 p2 hp
    obtain ⟨a1, a2, a3, a4⟩ := (place_iff ..).1 hp
    rw [List.replicate_succ, typedL, typ_break ls p1 p2 f 1 13 hp rfl (by decide) (by decide)]
    simp only
    rw [applyL_at ls p1 _ a1 a2 (by simp)]
    simp only [Bool.and_self, if_true]
    generalize hs : ls.getD p1.toNat [] = s at *
    have ht : (ls.take p1.toNat).length = p1.toNat := by rw [List.length_take]; omega
    have hn : (p1 + 1).toNat = p1.toNat + 1 := by omega
    have hg : (ls.take p1.toNat ++ [s.take p2.toNat, s.drop p2.toNat] ++ ls.drop (p1.toNat + 1)).getD (p1 + 1).toNat [] = s.drop p2.toNat := by
      rw [hn, List.append_assoc, List.getD_eq_getElem?_getD, List.getElem?_append_right (by omega), ht]
      simp
    have hp' : place (ls.take p1.toNat ++ [s.take p2.toNat, s.drop p2.toNat] ++ ls.drop (p1.toNat + 1)) (p1 + 1) 0 = true := by
      rw [place_iff]
      refine ⟨by omega, ?_, by omega, by omega⟩
      simp only [List.length_append, List.length_take, List.length_cons, List.length_nil, List.length_drop]
      omega
    rw [ih _ (p1 + 1) 0 hp', hg, hn]
    have h1 : (ls.take p1.toNat ++ [s.take p2.toNat, s.drop p2.toNat] ++ ls.drop (p1.toNat + 1)).take (p1.toNat + 1) = ls.take p1.toNat ++ [s.take p2.toNat] := by
      have := List.take_left (l₁ := ls.take p1.toNat ++ [s.take p2.toNat]) (l₂ := s.drop p2.toNat :: ls.drop (p1.toNat + 1))
      have e : (ls.take p1.toNat ++ [s.take p2.toNat]).length = p1.toNat + 1 := by simp only [List.length_append, ht, List.length_singleton]
      rw [e] at this
      simpa using this
    have h2 : (ls.take p1.toNat ++ [s.take p2.toNat, s.drop p2.toNat] ++ ls.drop (p1.toNat + 1)).drop (p1.toNat + 1 + 1) = ls.drop (p1.toNat + 1) := by
      have := List.drop_left (l₁ := ls.take p1.toNat ++ [s.take p2.toNat, s.drop p2.toNat]) (l₂ := ls.drop (p1.toNat + 1))
      have e : (ls.take p1.toNat ++ [s.take p2.toNat, s.drop p2.toNat]).length = p1.toNat + 1 + 1 := by simp only [List.length_append, ht, List.length_cons, List.length_nil]
      rw [e] at this
      exact this
    rw [h1, h2]
    have e3 : p1 + 1 + ((n + 1 : Nat) : Int) = p1 + ((n + 1 + 1 : Nat) : Int) := by omega
    rw [e3]
    simp [List.replicate_succ]
end Go.Pg
