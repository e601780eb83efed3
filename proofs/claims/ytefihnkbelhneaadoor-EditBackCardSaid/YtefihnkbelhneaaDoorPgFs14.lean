/- Plain laws of typing. -/
import Derived.Test.YtefihnkbelhneaaDoorPgFs12
namespace Go.Pg
open Go Go.Proofs

theorem apply1_at (ls : Ls) (p : Int) (new : Ls) (h0 : 0 ≤ p) (h1 : p.toNat < ls.length) (hn : 0 < new.length) :
    apply1 ls (p, [ls.getD p.toNat []], new) = (ls.take p.toNat ++ new ++ ls.drop (p.toNat + 1), true) := by
  have e : apply1 ls (p, [ls.getD p.toNat []], new) = _ := if_neg ?_
  · rw [e]; rfl
  · have hc : cutL ls p.toNat (p + (([ls.getD p.toNat []] : Ls).length : Int)).toNat = [ls.getD p.toNat []] := by
      unfold cutL
      have : (p + (([ls.getD p.toNat []] : Ls).length : Int)).toNat - p.toNat = 1 := by simp; omega
      rw [this, take1_drop ls p.toNat [] h1]
    intro h
    dsimp only at h
    rw [hc] at h
    simp only [beq_self_eq_true, Bool.not_true, Bool.or_false, Bool.or_eq_true, decide_eq_true_eq, beq_iff_eq, List.length_cons, List.length_nil] at h
    omega
theorem applyL_at (ls : Ls) (p : Int) (new : Ls) (h0 : 0 ≤ p) (h1 : p.toNat < ls.length) (hn : 0 < new.length) :
    applyL ls [(p, [ls.getD p.toNat []], new)] = (ls.take p.toNat ++ new ++ ls.drop (p.toNat + 1), true) := by
  rw [applyL1, apply1_at ls p new h0 h1 hn]; rfl
theorem applyL_set (ls : Ls) (p : Int) (x : List UInt8) (h0 : 0 ≤ p) (h1 : p.toNat < ls.length) :
    applyL ls [(p, [ls.getD p.toNat []], [x])] = (ls.set p.toNat x, true) := by
  rw [applyL_at ls p [x] h0 h1 (by simp), List.set_eq_take_append_cons_drop, if_pos h1]
  simp

theorem letter_of (k : UInt8) (h1 : ¬ k.toNat < 32) (h2 : k.toNat ≠ 127) : letter k.toNat = true := by
  unfold letter
  have a : decide ((k.toNat : Int) ≥ 32) = true := by simp; omega
  have b : ((k.toNat : Int) != 127) = true := by simp; omega
  rw [a, b]; rfl

theorem typ_letter (ls : Ls) (p1 p2 : Int) (f : Int × Int) (m : Int) (k : UInt8) (hp : place ls p1 p2 = true) (hm : (m == 1 || m == 2) = true) (hl : letter k.toNat = true) :
    typ ls (p1, p2) f m k = ((p1, [ls.getD p1.toNat []], [(ls.getD p1.toNat []).take p2.toNat ++ [k] ++ (if (m == 2) = true then ((ls.getD p1.toNat []).drop p2.toNat).drop 1 else (ls.getD p1.toNat []).drop p2.toNat)]), (p1, p2 + 1), true) := by
  have e : typ ls (p1, p2) f m k = _ := if_pos (by simp only [hp, hm]; rfl)
  rw [e, if_pos hl]
theorem typ_break (ls : Ls) (p1 p2 : Int) (f : Int × Int) (m : Int) (k : UInt8) (hp : place ls p1 p2 = true) (hm : (m == 1 || m == 2) = true) (hl : letter k.toNat = false) (hk : (k.toNat == (13 : Int) || k.toNat == (10 : Int)) = true) :
    typ ls (p1, p2) f m k = ((p1, [ls.getD p1.toNat []], [(ls.getD p1.toNat []).take p2.toNat, (ls.getD p1.toNat []).drop p2.toNat]), (p1 + 1, 0), true) := by
  have e : typ ls (p1, p2) f m k = _ := if_pos (by simp only [hp, hm]; rfl)
  rw [e, if_neg (by rw [hl]; simp), if_pos hk]
theorem typ_none (ls : Ls) (p1 p2 : Int) (m : Int) (k : UInt8) (hl : letter k.toNat = false) (hk : (k.toNat == (13 : Int) || k.toNat == (10 : Int)) = false) :
    typ ls (p1, p2) (p1, p2) m k = nothing := by
  unfold typ
  dsimp only
  split
  · rw [if_neg (by rw [hl]; simp), if_neg (by rw [hk]; simp), if_neg ?_]
    intro h
    simp at h
  · rfl

theorem getD_set_self (ls : Ls) (i : Nat) (x : List UInt8) (h : i < ls.length) : (ls.set i x).getD i [] = x := by
  rw [getD_setL]; simp [h]

/-- What is typed stands where it was typed. -/
theorem typedL_text (f : Int × Int) (p1 : Int) : ∀ (ks : List UInt8) (ls : Ls) (p2 : Int), place ls p1 p2 = true → (∀ k ∈ ks, letter k.toNat = true) →
    typedL ls (p1, p2) f ks = (ls.set p1.toNat ((ls.getD p1.toNat []).take p2.toNat ++ ks ++ (ls.getD p1.toNat []).drop p2.toNat), (p1, p2 + ks.length), true) := by
  intro ks
  induction ks with
  | nil =>
    intro ls p2 hp _
    obtain ⟨a1, a2, a3, a4⟩ := (place_iff ..).1 hp
    simp only [typedL, List.append_nil, List.take_append_drop]
    have : ls.set p1.toNat (ls.getD p1.toNat []) = ls := by
      rw [List.getD_eq_getElem?_getD, List.getElem?_eq_getElem a2]; simp
    rw [this]; simp
  | cons k ks ih =>
    intro ls p2 hp hk
    obtain ⟨a1, a2, a3, a4⟩ := (place_iff ..).1 hp
    have hl := hk k (by simp)
    have e1 := typ_letter ls p1 p2 f 1 k hp rfl hl
    rw [if_neg (by decide)] at e1
    rw [typedL, e1]
    simp only
    rw [applyL_set ls p1 _ a1 a2]
    simp only [Bool.and_self, if_true]
    generalize hs : ls.getD p1.toNat [] = s at *
    have hp' : place (ls.set p1.toNat (s.take p2.toNat ++ [k] ++ s.drop p2.toNat)) p1 (p2 + 1) = true := by
      rw [place_iff]
      refine ⟨a1, by simpa using a2, by omega, ?_⟩
      rw [getD_set_self ls _ _ a2]
      simp only [List.length_append, List.length_take, List.length_drop, List.length_cons, List.length_nil]
      omega
    rw [ih _ (p2 + 1) hp' (fun k' hk' => hk k' (by simp [hk'])), getD_set_self ls _ _ a2]
    have hn : (p2 + 1).toNat = p2.toNat + 1 := by omega
    have hlen : (s.take p2.toNat ++ [k]).length = p2.toNat + 1 := by simp only [List.length_append, List.length_take, List.length_cons, List.length_nil]; omega
    have ht : (s.take p2.toNat ++ [k] ++ s.drop p2.toNat).take (p2 + 1).toNat = s.take p2.toNat ++ [k] := by rw [hn, ← hlen, List.take_left]
    have hd : (s.take p2.toNat ++ [k] ++ s.drop p2.toNat).drop (p2 + 1).toNat = s.drop p2.toNat := by rw [hn, ← hlen, List.drop_left]
    rw [ht, hd]
    have e1 : (p2 + 1 + (ks.length : Int)) = p2 + ((k :: ks).length : Int) := by simp only [List.length_cons]; omega
    rw [List.set_set, e1]
    simp only [List.append_assoc, List.cons_append, List.nil_append]
end Go.Pg
