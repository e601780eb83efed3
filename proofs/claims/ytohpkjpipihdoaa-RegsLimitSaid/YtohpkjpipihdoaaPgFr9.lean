/- Where registers 1 to 9 go; what a cut leaves alone: plain. -/
import Derived.Test.YtohpkjpipihdoaaPgFr7
namespace Go.Pg
open Go Go.Proofs

theorem ofNat_inj {a b : Nat} (ha : a < 256) (hb : b < 256) (h : UInt8.ofNat a = UInt8.ofNat b) : a = b := by
  have := congrArg UInt8.toNat h
  rw [UInt8.toNat_ofNat', UInt8.toNat_ofNat'] at this
  omega
/-- One round of the shift. -/
def sh1 (n : Nat) (l : Rgs) : Rgs := match look1 (UInt8.ofNat (49 + n)) l with
  | some w => upd (UInt8.ofNat (49 + (n + 1))) w l
  | none => l
theorem shR_succ (n : Nat) (l : Rgs) : shR (n + 1) l = shR n (sh1 n l) := rfl
theorem sh1_look (n : Nat) (l : Rgs) (k : UInt8) : look1 k (sh1 n l) = if k = UInt8.ofNat (49 + (n + 1)) then (look1 (UInt8.ofNat (49 + n)) l).or (look1 k l) else look1 k l := by
  unfold sh1
  cases h : look1 (UInt8.ofNat (49 + n)) l with
  | none => simp
  | some w =>
    simp only [look1_upd, Option.some_or]
    by_cases e : UInt8.ofNat (49 + (n + 1)) = k
    · rw [if_pos e, if_pos e.symm]
    · rw [if_neg e, if_neg (fun h => e h.symm)]
theorem shR_other : ∀ (n : Nat) (l : Rgs) (k : UInt8), (∀ j, 1 ≤ j → j ≤ n → k ≠ UInt8.ofNat (49 + j)) → look1 k (shR n l) = look1 k l := by
  intro n
  induction n with
  | zero => intro l k _; rfl
  | succ n ih =>
    intro l k h
    rw [shR_succ, ih _ k (fun j h1 h2 => h j h1 (by omega)), sh1_look, if_neg (h (n + 1) (by omega) (Nat.le_refl _))]
theorem shR_look : ∀ (n : Nat) (l : Rgs) (j : Nat), n ≤ 8 → 1 ≤ j → j ≤ n → look1 (UInt8.ofNat (49 + j)) (shR n l) = (look1 (UInt8.ofNat (49 + (j - 1))) l).or (look1 (UInt8.ofNat (49 + j)) l) := by
  intro n
  induction n with
  | zero => intro l j _ h1 h2; omega
  | succ n ih =>
    intro l j hn h1 h2
    rw [shR_succ]
    by_cases hj : j = n + 1
    · subst hj
      rw [shR_other n _ _ (fun i h3 h4 e => by have := ofNat_inj (by omega) (by omega) e; omega), sh1_look, if_pos rfl, Nat.add_sub_cancel]
    · rw [ih _ j (by omega) h1 (by omega), sh1_look, sh1_look, if_neg (fun e => by have := ofNat_inj (by omega) (by omega) e; omega), if_neg (fun e => by have := ofNat_inj (by omega) (by omega) e; omega)]
theorem shR_from : ∀ (n : Nat) (l : Rgs) (k : UInt8) (v : RgV), look1 k (shR n l) = some v → ∃ k', look1 k' l = some v := by
  intro n
  induction n with
  | zero => intro l k v h; exact ⟨k, h⟩
  | succ n ih =>
    intro l k v h
    rw [shR_succ] at h
    obtain ⟨k', h'⟩ := ih _ k v h
    rw [sh1_look] at h'
    split at h'
    · cases h2 : look1 (UInt8.ofNat (49 + n)) l with
      | none => rw [h2, Option.none_or] at h'; exact ⟨k', h'⟩
      | some w => rw [h2, Option.some_or] at h'; exact ⟨_, h2.trans h'⟩
    · exact ⟨k', h'⟩
theorem stock_upd {k : UInt8} {v : RgV} {l : Rgs} (hl : stockR l) (hv : lsz v.2 ≤ 4096) : stockR (upd k v l) := fun k' v' h => by
  rw [look1_upd] at h
  split at h
  · cases h; exact hv
  · exact hl k' v' h
theorem stock_cut {r : RgV} {l : Rgs} (hl : stockR l) (hr : lsz r.2 ≤ 4096) : stockR (cutR r l) := by
  unfold cutR
  split
  · exact stock_upd hl hr
  · refine stock_upd (fun k v h => ?_) hr
    obtain ⟨k', h'⟩ := shR_from 8 l k v h
    exact hl k' v h'
/-- What a cut leaves as it is. -/
theorem cut_other (r : RgV) (l : Rgs) (k : UInt8) (h1 : k.toNat < 49 ∨ 57 < k.toNat) (h2 : k ≠ 45) : look1 k (cutR r l) = look1 k l := by
  have h49 : ∀ j, j ≤ 8 → k ≠ UInt8.ofNat (49 + j) := fun j hj e => by
    have := congrArg UInt8.toNat e
    rw [UInt8.toNat_ofNat'] at this
    omega
  unfold cutR
  split
  · rw [look1_upd, if_neg (fun e => h2 e.symm)]
  · rw [look1_upd, if_neg (fun e => h49 0 (by omega) e.symm), shR_other 8 l k (fun j _ hj => h49 j hj)]
end Go.Pg
