/- A letter in an empty file; plain. -/
import Derived.Test.YtohpkjpipihdoaaPgFr7
namespace Go.Pg
open Go Go.Proofs

theorem cLaw19 : CtrOK Try.prog [(27, kKnown19), (33, kRNew), (34, kRCut), (37, kRYank), (39, kRPut), (35, kRGet), (29, kHReg), (36, kStrings)] :=
  CtrOK.cons ok_known19 (CtrOK.cons ok_RNew (CtrOK.cons ok_RCut (CtrOK.cons ok_RYank (CtrOK.cons ok_RPut (CtrOK.cons ok_RGet (CtrOK.cons ok_HReg (CtrOK.cons ok_Strings (CtrOK.nil _))))))))
theorem up_low {b : UInt8} (h : isUp b = true) : isLow b = false := by
  simp only [isUp, isLow, Bool.and_eq_true, decide_eq_true_eq, Bool.and_eq_false_iff, decide_eq_false_iff_not] at *
  omega
theorem low_up {b : UInt8} (h : isLow b = true) : isUp b = false := by
  simp only [isUp, isLow, Bool.and_eq_true, decide_eq_true_eq, Bool.and_eq_false_iff, decide_eq_false_iff_not] at *
  omega
theorem low_ne {b : UInt8} (h : isLow b = true) : b ≠ 0 ∧ b ≠ 34 ∧ b ≠ 95 := by
  refine ⟨?_, ?_, ?_⟩ <;> (rintro rfl; revert h; decide)
theorem up_ne {b : UInt8} (h : isUp b = true) : b ≠ 0 ∧ b ≠ 34 ∧ b ≠ 95 := by
  refine ⟨?_, ?_, ?_⟩ <;> (rintro rfl; revert h; decide)
theorem up_key {b : UInt8} (h : isUp b = true) : b + 32 ≠ 34 := by
  intro e
  have := congrArg UInt8.toNat e
  simp only [isUp, Bool.and_eq_true, decide_eq_true_eq] at h
  rw [UInt8.toNat_add, show (32 : UInt8).toNat = 32 from rfl, show (34 : UInt8).toNat = 34 from rfl] at this
  omega
theorem gname_low {b : UInt8} (h : isLow b = true) : gname b = b := by
  unfold gname
  rw [if_neg (low_ne h).1, if_neg (by rw [low_up h]; simp)]
theorem gname_up {b : UInt8} (h : isUp b = true) : gname b = b + 32 := by
  unfold gname
  rw [if_neg (up_ne h).1, if_pos h]
theorem gname34 : gname 34 = 34 := rfl
theorem stock_one {k : UInt8} {v : RgV} {l : Rgs} (hl : stockR l) (hv : lsz v.2 ≤ 4096) : stockR (upd k v l) := fun k' v' h => by
  rw [look1_upd] at h
  split at h
  · cases h; exact hv
  · exact hl k' v' h

/-! ### A letter in an empty file -/
theorem put_letter {b k : UInt8} {r : RgV} (h : (isLow b = true ∧ k = b) ∨ (isUp b = true ∧ k = b + 32)) (hr : lsz r.2 ≤ 4096) : putR [] b r = (0, [(k, r)]) := by
  have hn : namedR [] b r = (k, r, true) := by
    unfold namedR
    rcases h with ⟨h1, rfl⟩ | ⟨h1, rfl⟩
    · rw [if_pos h1]
    · rw [if_neg (by rw [up_low h1]; simp), if_pos h1]; rfl
  unfold putR
  rw [hn, if_pos rfl, if_neg (show ¬ lsz r.2 > 4096 by omega)]
  rfl
theorem put_other {b : UInt8} {r : RgV} (l : Rgs) (h1 : isLow b = false) (h2 : isUp b = false) : putR l b r = (23, l) := by
  have hn : namedR l b r = (0, (0, []), false) := by
    unfold namedR
    rw [if_neg (by rw [h1]; simp), if_neg (by rw [h2]; simp)]
  unfold putR
  rw [hn, if_neg (by simp)]
theorem set_letter (g : RgV → Rgs → Rgs) {b k : UInt8} {r : RgV} (h : (isLow b = true ∧ k = b) ∨ (isUp b = true ∧ k = b + 32)) (hr : lsz r.2 ≤ 4096) : setR g [] b r = (0, upd 34 r [(k, r)]) := by
  have hne : b ≠ 0 ∧ b ≠ 34 ∧ b ≠ 95 := by
    rcases h with ⟨h1, _⟩ | ⟨h1, _⟩
    · exact low_ne h1
    · exact up_ne h1
  have hg : gname b = k := by
    rcases h with ⟨h1, rfl⟩ | ⟨h1, rfl⟩
    · exact gname_low h1
    · exact gname_up h1
  unfold setR
  rw [if_neg hne.2.2, if_pos ⟨hne.1, hne.2.1⟩, put_letter h hr, if_pos rfl, hg]
  simp [look1]
theorem set_other (g : RgV → Rgs → Rgs) {b : UInt8} {r : RgV} (l : Rgs) (h1 : isLow b = false) (h2 : isUp b = false) (h3 : b ≠ 0) (h4 : b ≠ 34) (h5 : b ≠ 95) : setR g l b r = (23, l) := by
  unfold setR
  rw [if_neg h5, if_pos ⟨h3, h4⟩, put_other l h1 h2, if_neg (show ¬ (23 : Int) = 0 by decide)]
theorem set_plain (g : RgV → Rgs → Rgs) {b : UInt8} {r : RgV} (l : Rgs) (h : b = 0 ∨ b = 34) (hr : lsz r.2 ≤ 4096) : setR g l b r = (0, upd 34 r (g r l)) := by
  unfold setR
  rw [if_neg (by rcases h with rfl | rfl <;> decide), if_neg (by rcases h with rfl | rfl <;> decide), if_neg (show ¬ lsz r.2 > 4096 by omega)]

end Go.Pg
