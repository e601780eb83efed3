/- Searching: the document's n-th place. The word at a place: the document's. Chapter 25: the chapter's example. Searching: plain laws. -/
import Derived.Test.YtkkcfkggfpoagaaGreatPgBs
import Derived.Test.YtkkcfkggfpoagaaGreatPgFx11
import Derived.Test.YtkkcfkggfpoagaaGreatPgFx8
set_option linter.unusedVariables false
set_option linter.unusedSimpArgs false
namespace Go.Pg
open Go Go.Proofs

def roundR (ls : Ls) (p : Int × Int) (pat : List UInt8) (back : Bool) : List (Int × Int) :=
  if back = true then ahead (hits pat ls) p ++ (hits pat ls).reverse.filter fun q => !less q p
  else behind (hits pat ls) p false ++ (hits pat ls).filter fun q => !less p q
theorem split_len (g : Int × Int → Bool) : ∀ (M : List (Int × Int)), (M.filter g).length + (M.filter fun q => !g q).length = M.length
  | [] => rfl
  | q :: M => by
    have := split_len g M
    rw [List.filter_cons, List.filter_cons]
    cases g q <;> simp only [Bool.not_true, Bool.not_false, Bool.false_eq_true, if_true, if_false, List.length_cons] <;> omega
theorem isBehind_f (p q : Int × Int) : isBehind p false q = less p q := by unfold isBehind; simp
theorem behind_f (M : List (Int × Int)) (p : Int × Int) : behind M p false = M.filter (less p) := by
  unfold behind
  congr 1
  funext q
  exact isBehind_f p q
theorem roundR_len (ls : Ls) (p : Int × Int) (pat : List UInt8) (back : Bool) : (roundR ls p pat back).length = (hits pat ls).length := by
  unfold roundR
  cases back with
  | true =>
    rw [if_pos rfl, List.length_append]
    have := split_len (fun q => less q p) (hits pat ls).reverse
    rw [List.length_reverse] at this
    exact this
  | false =>
    rw [if_neg (by simp), List.length_append, behind_f]
    exact split_len (less p) (hits pat ls)
def rsearchP (ls : Ls) (p : Int × Int) (pat : List UInt8) (back : Bool) (n : Int) : Mv × Bool := whenMay ls p n (pickS (roundR ls p pat back) n)

set_option maxRecDepth 20000 in
set_option maxHeartbeats 8000000 in
theorem calls_RSearch (ls : Ls) (p : Int × Int) (pat : List UInt8) (back : Bool) (n : Int) (hf : okText ls) (hpl : pat.length ≤ 1099511627776) : CallsR Tryz.prog 67 [.sl 1 (ls.map .str), aPos p, .str pat, .bool back, .int .i64 n] [] (aMove (rsearchP ls p pat back n)) [] := by
  obtain ⟨p1, p2⟩ := p
  refine callsR_of (mrg := true) (dyn := []) (CtrOK.cons ok_RAll (CtrOK.cons ok_may (CtrOK.cons ok_none (CtrOK.cons ok_behindO (CtrOK.cons ok_aheadO (CtrOK.cons ok_RLess (CtrOK.cons ok_capped (CtrOK.cons ok_Rjump (CtrOK.nil _))))))))) mixed Tryz.func67 rfl (by simp [Tryz.ntmps67]) (by kernel_rfl) ?_
  rw [show Tryz.f67.results.toList = [.cell 10 49, .tmp 11] from by kernel_rfl]
  unfold rsearchP whenMay
  have hml := hits_len pat ls hf
  have hrl := roundR_len ls (p1, p2) pat back
  cases hm : may ls (p1, p2) n with
  | false =>
    rw [if_neg (by simp)]
    generalize hM : hits pat ls = M at hml hrl ⊢
    simp (maxSteps := 4000000) only [go_sem, Nat.reduceAdd, reduceCtorEq, Nat.reduceEqDiff, tk25, dz25, tk37, tk49, tz49, dz49, kRAll, kMay, kNone, aPos, aMove, aMv, mNone, hm, hM]
    exact ⟨hf, hpl⟩
  | true =>
    rw [if_pos rfl]
    have hi := (may_iff _ _ _).1 hm
    dsimp only at hi
    unfold pickS roundR at *
    generalize hM : hits pat ls = M at hml hrl ⊢
    by_cases hL : M.length = 0
    · have c1 : ((M.length : Int) == 0) = true := by rw [hL]; rfl
      rw [if_pos (by rw [hrl]; exact hL)]
      simp (maxSteps := 4000000) only [go_sem, Nat.reduceAdd, reduceCtorEq, Nat.reduceEqDiff, tk25, dz25, tk37, tk49, tz49, dz49, kRAll, kMay, kNone, aPos, aMove, aMv, mNone, hm, hM, c1]
      exact ⟨hf, hpl⟩
    · have c1 : ((M.length : Int) == 0) = false := beq_eq_false_iff_ne.2 (by omega)
      rw [if_neg (by rw [hrl]; exact hL)]
      have w1 : IntKind.i64.wrap (min n 1073741824 - 1) = min n 1073741824 - 1 := wrap64 (by omega) (by omega)
      cases back with
      | false =>
        rw [if_neg (by simp)] at hrl ⊢
        simp (maxSteps := 4000000) only [go_sem, Nat.reduceAdd, reduceCtorEq, Nat.reduceEqDiff, tk25, dz25, tk37, tz49, kRAll, kMay, kNone, kBehindO, aPos, aMove, aMv, hm, hM, c1, decL_posL]
        refine ⟨⟨hf, hpl⟩, by omega, ?_⟩
        refine loopH_intro (α := Nat × List (Int × Int)) (fun x => ([(3, .bool false), (4, .int .i64 n), (6, .ptr 0 2 1 0 0), (10, .ptr 1 5 1 0 0), (11, .bool false), (12, .sl 2 (M.map aPos)), (13, .own 2 2 x.2.length), (14, .int .i64 x.1)], [.arr 25 2 [.agg [.int .i64 p1, .int .i64 p2]], .arr 49 5 [.agg [.int .i64 0, .int .i64 0, .int .i64 0, .bool false, .int .i64 0]], .arr 25 2 (x.2.map aPos)]))
          (fun x => x.1 ≤ M.length ∧ x.2 = behind M (p1, p2) false ++ (M.take x.1).filter (fun q => !less (p1, p2) q)) (fun x => M.length - x.1) (0, behind M (p1, p2) false) ⟨by simp, by simp⟩ ?_ ?_
        · simp (maxSteps := 4000000) only [go_sem, Nat.reduceAdd, reduceCtorEq, Nat.reduceEqDiff]
          (repeat' first | exact hf | exact hpl | exact subX_eq rfl rfl | exact subX_eq rfl (pureB_posL _) | apply And.intro | rfl | omega)
        rintro ⟨i, out⟩ ⟨hx1, hx2⟩
        dsimp only at hx1 hx2
        have lb : (behind M (p1, p2) false).length ≤ M.length := List.length_filter_le _ _
        have lc : ((M.take i).filter (fun q => !less (p1, p2) q)).length ≤ i := Nat.le_trans (List.length_filter_le _ _) (by rw [List.length_take]; omega)
        have hol : out.length ≤ M.length + i := by rw [hx2, List.length_append]; omega
        by_cases hi2 : i < M.length
        · have c2 : decide ((i : Int) < (M.length : Int)) = true := decide_eq_true (by omega)
          have hft := filter_take (fun q => !less (p1, p2) q) M i (0, 0) hi2
          have hap := app1_pos out (M.getD i (0, 0))
          have w2 : IntKind.i64.wrap ((i : Int) + 1) = ((i + 1 : Nat) : Int) := by rw [wrap64 (by omega) (by omega)]; rfl
          have htn : ((i : Int)).toNat = i := by omega
          cases b1 : less (p1, p2) (M.getD i (0, 0)) with
          | true =>
            rw [if_neg (by simp only [b1]; simp)] at hft
            simp (maxSteps := 4000000) only [go_sem, Nat.reduceAdd, reduceCtorEq, Nat.reduceEqDiff, tk25, tz25, dz25, tk37, kLess, aPos, getD_pos, c2, b1, w2]
            refine ⟨by omega, (i + 1, out), ⟨by dsimp only; omega, by dsimp only; rw [hft]; exact hx2⟩, by dsimp only; omega, ?_⟩
            (repeat' first | exact subX_eq rfl rfl | exact subX_eq rfl (pureB_posL _) | apply And.intro | rfl | omega)
          | false =>
            rw [if_pos (by simp only [b1]; rfl)] at hft
            simp (maxSteps := 4000000) only [go_sem, Nat.reduceAdd, reduceCtorEq, Nat.reduceEqDiff, Nat.reducePow, Nat.reduceLeDiff, tk25, tz25, dz25, eb25, tk37, kLess, aPos, getD_pos, c2, b1, w2, hap]
            refine ⟨by omega, ⟨by decide, by omega⟩, (i + 1, out ++ [M.getD i (0, 0)]), ⟨by dsimp only; omega, by dsimp only; rw [hft, hx2, List.append_assoc]⟩, by dsimp only; omega, ?_⟩
            (repeat' first | exact subX_eq rfl rfl | exact subX_eq rfl (pureB_posL _) | apply And.intro | rfl | (simp; done) | omega)
        · have c2 : decide ((i : Int) < (M.length : Int)) = false := decide_eq_false (by omega)
          rw [List.take_of_length_le (by omega)] at hx2
          rw [← hx2] at hrl ⊢
          have w2 : (min n 1073741824 - 1).tmod (out.length : Int) = (min n 1073741824 - 1) % (out.length : Int) := Int.tmod_eq_emod_of_nonneg (by omega)
          have h1 := Int.emod_nonneg (min n 1073741824 - 1) (b := (out.length : Int)) (by omega)
          have h2 := Int.emod_lt_of_pos (min n 1073741824 - 1) (b := (out.length : Int)) (by omega)
          simp (maxSteps := 4000000) only [go_sem, Nat.reduceAdd, Nat.reduceEqDiff, tk25, dz25, tk37, tk49, dz49, kCapped, kRJump, aPos, aMove, aMv, jumpM, getD_pos, c2, w1, w2]
          (repeat' first | exact trivial | apply And.intro | decide | omega)
      | true =>
        rw [if_pos rfl] at hrl ⊢
        simp (maxSteps := 4000000) only [go_sem, Nat.reduceAdd, reduceCtorEq, Nat.reduceEqDiff, tk25, dz25, tk37, tz49, kRAll, kMay, kNone, kBehindO, kAheadO, aPos, aMove, aMv, hm, hM, c1, decL_posL]
        refine ⟨⟨hf, hpl⟩, by omega, by omega, ?_⟩
        refine loopH_intro (α := Nat × List (Int × Int)) (fun x => ([(3, .bool true), (4, .int .i64 n), (6, .ptr 0 2 1 0 0), (10, .ptr 1 5 1 0 0), (11, .bool false), (12, .sl 2 (M.map aPos)), (13, .own 2 2 x.2.length), (14, .int .i64 x.1)], [.arr 25 2 [.agg [.int .i64 p1, .int .i64 p2]], .arr 49 5 [.agg [.int .i64 0, .int .i64 0, .int .i64 0, .bool false, .int .i64 0]], .arr 25 2 (x.2.map aPos)]))
          (fun x => x.1 ≤ M.length ∧ x.2 = ahead M (p1, p2) ++ (M.reverse.take x.1).filter (fun q => !less q (p1, p2))) (fun x => M.length - x.1) (0, ahead M (p1, p2)) ⟨by simp, by simp⟩ ?_ ?_
        · simp (maxSteps := 4000000) only [go_sem, Nat.reduceAdd, reduceCtorEq, Nat.reduceEqDiff]
          (repeat' first | exact hf | exact hpl | exact subX_eq rfl rfl | exact subX_eq rfl (pureB_posL _) | apply And.intro | rfl | omega)
        rintro ⟨i, out⟩ ⟨hx1, hx2⟩
        dsimp only at hx1 hx2
        have lb : (ahead M (p1, p2)).length ≤ M.length := Nat.le_trans (List.length_filter_le _ _) (by simp)
        have lc : ((M.reverse.take i).filter (fun q => !less q (p1, p2))).length ≤ i := Nat.le_trans (List.length_filter_le _ _) (by rw [List.length_take]; omega)
        have hol : out.length ≤ M.length + i := by rw [hx2, List.length_append]; omega
        by_cases hi2 : i < M.length
        · have c2 : decide ((i : Int) < (M.length : Int)) = true := decide_eq_true (by omega)
          have hft := filter_take (fun q => !less q (p1, p2)) M.reverse i (0, 0) (by simpa using hi2)
          rw [getD_rev M i (0, 0) hi2] at hft
          have w2 : IntKind.i64.wrap ((i : Int) + 1) = ((i + 1 : Nat) : Int) := by rw [wrap64 (by omega) (by omega)]; rfl
          have w3 : IntKind.i64.wrap ((M.length : Int) - 1) = (M.length : Int) - 1 := wrap64 (by omega) (by omega)
          have w4 : IntKind.i64.wrap ((M.length : Int) - 1 - (i : Int)) = (M.length : Int) - 1 - (i : Int) := wrap64 (by omega) (by omega)
          have htn : ((M.length : Int) - 1 - (i : Int)).toNat = M.length - 1 - i := by omega
          have hap := app1_pos out (M.getD (M.length - 1 - i) (0, 0))
          cases b1 : less (M.getD (M.length - 1 - i) (0, 0)) (p1, p2) with
          | true =>
            rw [if_neg (by simp only [b1]; simp)] at hft
            simp (maxSteps := 4000000) only [go_sem, Nat.reduceAdd, reduceCtorEq, Nat.reduceEqDiff, tk25, tz25, dz25, tk37, kLess, aPos, getD_pos, c2, b1, w2, w3, w4, htn]
            refine ⟨by omega, (i + 1, out), ⟨by dsimp only; omega, by dsimp only; rw [hft]; exact hx2⟩, by dsimp only; omega, ?_⟩
            (repeat' first | exact subX_eq rfl rfl | exact subX_eq rfl (pureB_posL _) | apply And.intro | rfl | omega)
          | false =>
            rw [if_pos (by simp only [b1]; rfl)] at hft
            simp (maxSteps := 4000000) only [go_sem, Nat.reduceAdd, reduceCtorEq, Nat.reduceEqDiff, Nat.reducePow, Nat.reduceLeDiff, tk25, tz25, dz25, eb25, tk37, kLess, aPos, getD_pos, c2, b1, w2, w3, w4, htn, hap]
            refine ⟨by omega, ⟨by decide, by omega⟩, (i + 1, out ++ [M.getD (M.length - 1 - i) (0, 0)]), ⟨by dsimp only; omega, by dsimp only; rw [hft, hx2, List.append_assoc]⟩, by dsimp only; omega, ?_⟩
            (repeat' first | exact subX_eq rfl rfl | exact subX_eq rfl (pureB_posL _) | apply And.intro | rfl | (simp; done) | omega)
        · have c2 : decide ((i : Int) < (M.length : Int)) = false := decide_eq_false (by omega)
          rw [List.take_of_length_le (by simp; omega)] at hx2
          rw [← hx2] at hrl ⊢
          have w2 : (min n 1073741824 - 1).tmod (out.length : Int) = (min n 1073741824 - 1) % (out.length : Int) := Int.tmod_eq_emod_of_nonneg (by omega)
          have h1 := Int.emod_nonneg (min n 1073741824 - 1) (b := (out.length : Int)) (by omega)
          have h2 := Int.emod_lt_of_pos (min n 1073741824 - 1) (b := (out.length : Int)) (by omega)
          simp (maxSteps := 4000000) only [go_sem, Nat.reduceAdd, Nat.reduceEqDiff, tk25, dz25, tk37, tk49, dz49, kCapped, kRJump, aPos, aMove, aMv, jumpM, getD_pos, c2, w1, w2]
          (repeat' first | exact trivial | apply And.intro | decide | omega)
def kRSearch : C1 := C1.by [.sl 1 [], .id, .id, .id, .id] (lCons cStrs (lCons cPos2 (lCons cStr (lCons cBool (lOne (cInt .i64)))))) (fun d => okText d.1 ∧ d.2.2.1.length ≤ 1099511627776) (fun d => aMove (rsearchP d.1 d.2.1 d.2.2.1 d.2.2.2.1 d.2.2.2.2)) (fun _ => [])
theorem ok_RSearch : C1OK Tryz.prog 67 kRSearch := C1OK.by (by kernel_rfl) (fun d h => calls_RSearch d.1 d.2.1 d.2.2.1 d.2.2.2.1 d.2.2.2.2 h.1 h.2) (fun _ => rfl) (fun _ => rfl)
end Go.Pg
namespace Go.Pg
open Go Go.Proofs

def rB (s : List UInt8) (k : Nat) : Nat := if k < s.length ∧ wAt s k = true then wBeg s k else k
theorem wBeg_at (s : List UInt8) : ∀ k, wAt s k = true → wAt s (wBeg s k) = true
  | 0, h => h
  | k + 1, h => by
    unfold wBeg
    split
    · next h2 => exact wBeg_at s k h2
    · exact h
theorem wBeg_stop (s : List UInt8) (k : Nat) (h : ¬ (0 < k ∧ wAt s (k - 1) = true)) : wBeg s k = k := by
  cases k with
  | zero => rfl
  | succ k => rw [wBeg]; exact if_neg (fun h2 => h ⟨by omega, h2⟩)
theorem rB_step (s : List UInt8) (k : Nat) (h : 0 < k ∧ k < s.length ∧ wAt s k = true ∧ wAt s (k - 1) = true) : rB s (k - 1) = rB s k := by
  obtain ⟨h1, h2, h3, h4⟩ := h
  obtain ⟨j, rfl⟩ : ∃ j, k = j + 1 := ⟨k - 1, by omega⟩
  rw [Nat.add_sub_cancel] at h4 ⊢
  rw [rB, rB, if_pos ⟨by omega, h4⟩, if_pos ⟨h2, h3⟩]
  conv => rhs; rw [wBeg, if_pos h4]
theorem rB_stop (s : List UInt8) (k : Nat) (h : ¬ (0 < k ∧ k < s.length ∧ wAt s k = true ∧ wAt s (k - 1) = true)) : rB s k = k := by
  unfold rB
  split
  · next h2 => exact wBeg_stop s k (fun h3 => h ⟨h3.1, h2.1, h2.2, h3.2⟩)
  · rfl
theorem findUp_none_at {g : Nat → Bool} {k i : Nat} (h : g i = true) (hk : 0 < k) : findUp g k i = some i := by
  obtain ⟨j, rfl⟩ : ∃ j, k = j + 1 := ⟨k - 1, by omega⟩
  rw [findUp, if_pos h]
theorem findUp_first {g : Nat → Bool} : ∀ {k i j : Nat}, findUp g k i = some j → ∀ m, i ≤ m → m < j → g m = false
  | 0, _, _, h => by cases h
  | k + 1, i, j, h => by
    unfold findUp at h
    split at h
    · next hg => cases h; intro m h1 h2; omega
    · next hg =>
      intro m h1 h2
      by_cases hm : m = i
      · subst hm; exact Bool.eq_false_iff.2 hg
      · exact findUp_first h m (by omega) h2
def rwL (l : Int) (s : List UInt8) (b : Nat) : Wd := match findUp (wAt s) (s.length - b) b with
  | some i => wdB l s i
  | none => ((0, 0), [], false)
theorem rw_word (l : Int) (s : List UInt8) (c : Nat) : rwL l s (rB s c) = wordL l s c := by
  unfold rwL wordL
  by_cases h : c < s.length ∧ wAt s c = true
  · have hle := wBeg_le s c
    rw [rB, if_pos h, findUp_none_at h.2 (by omega), findUp_none_at (wBeg_at s c h.2) (by omega)]
  · rw [rB, if_neg h]
    cases e : findUp (wAt s) (s.length - c) c with
    | none => rfl
    | some i =>
      have h1 := findUp_some e
      have h2 := findUp_first e
      show wdB l s i = wdB l s (wBeg s i)
      rw [wBeg_stop]
      intro h3
      by_cases hic : i = c
      · subst hic; exact h ⟨by omega, h1.2.2⟩
      · have := h2 (i - 1) (by omega) (by omega)
        rw [this] at h3
        exact absurd h3.2 (by simp)

set_option maxRecDepth 20000 in
set_option maxHeartbeats 8000000 in
theorem calls_RWord (ls : Ls) (p : Int × Int) (hf : okText ls) : CallsR Tryz.prog 68 [.sl 1 (ls.map .str), aPos p] [] (aWd (wordP ls p)) [] := by
  refine callsR_of (mrg := true) (dyn := [14]) (CtrOK.cons ok_may (CtrOK.cons ok_ROf (CtrOK.nil _))) mixed Tryz.func68 rfl (by simp [Tryz.ntmps68]) (by kernel_rfl) ?_
  rw [show Tryz.f68.results.toList = [.cell 4 25, .tmp 5, .tmp 6] from by kernel_rfl]
  obtain ⟨p1, p2⟩ := p
  unfold wordP
  dsimp only
  have hmy : may ls (p1, p2) 1 = place ls p1 p2 := by unfold may; simp
  cases hm : place ls p1 p2 with
  | false =>
    rw [hm] at hmy
    rw [if_neg (by simp)]
    simp (maxSteps := 4000000) only [go_sem, Nat.reduceAdd, reduceCtorEq, Nat.reduceEqDiff, Nat.reduceBEq, tk25, tz25, dz25, kMay, aPos, aWd, hmy]
  | true =>
    rw [hm] at hmy
    rw [if_pos rfl]
    obtain ⟨g1, g2, g3, g4⟩ := (place_iff _ _ _).1 hm
    obtain ⟨l, rfl⟩ := Int.eq_ofNat_of_zero_le g1
    obtain ⟨c, rfl⟩ := Int.eq_ofNat_of_zero_le g3
    rw [Int.toNat_natCast] at g2 g4
    have h5 := fits_getD hf l
    rw [Int.toNat_natCast, Int.toNat_natCast]
    obtain ⟨s, hs⟩ : ∃ s, s = ls.getD l [] := ⟨_, rfl⟩
    rw [← hs] at g4 h5 ⊢
    rw [← rw_word]
    simp (maxSteps := 4000000) only [go_sem, Nat.reduceAdd, reduceCtorEq, Nat.reduceEqDiff, Nat.reduceBEq, tk3, tk9, dz9, tk22, tk25, tz25, dz25, kMay, aPos, hmy, ←hs]
    refine ⟨⟨by omega, g2⟩, ?_⟩
    refine loopH_intro (α := Nat) (fun i => ([(3, .ptr 0 2 1 0 0), (4, .ptr 1 2 1 0 0), (5, .str []), (6, .bool false), (7, .str s), (8, .int .i64 i)], [.arr 25 2 [.agg [.int .i64 l, .int .i64 c]], .arr 25 2 [.agg [.int .i64 0, .int .i64 0]]]))
      (fun i => i ≤ s.length ∧ rB s i = rB s c) (fun i => i) c ⟨by omega, rfl⟩ ?_ ?_
    · simp (maxSteps := 4000000) only [go_sem, reduceCtorEq, Nat.reduceEqDiff]
      (repeat' first | exact subX_eq rfl rfl | apply And.intro | rfl | omega)
    rintro k ⟨hk, hR⟩
    by_cases hct : 0 < k ∧ k < s.length ∧ wAt s k = true ∧ wAt s (k - 1) = true
    · have hst := rB_step s k hct
      obtain ⟨e1, e2, e3, e4⟩ := hct
      have c1 : decide ((k : Int) > 0) = true := decide_eq_true (by omega)
      have c2 : decide ((k : Int) < (s.length : Int)) = true := decide_eq_true (by omega)
      have w1 : IntKind.i64.wrap ((k : Int) - 1) = (k : Int) - 1 := wrap64 (by omega) (by omega)
      have htn : ((k : Int) - 1).toNat = k - 1 := by omega
      unfold wAt at e3 e4
      simp (maxSteps := 4000000) only [go_sem, Nat.reduceAdd, reduceCtorEq, Nat.reduceEqDiff, Nat.reduceBEq, tk9, kOf, c1, c2, w1, htn, e3, e4]
      refine ⟨by omega, ⟨by omega, by omega⟩, k - 1, ⟨by omega, hst.trans hR⟩, by omega, ?_⟩
      (repeat' first | exact subX_eq rfl rfl | apply And.intro | rfl | omega)
    · have hst := rB_stop s k hct
      rw [hst] at hR
      rw [← hR]
      have w1 : IntKind.i64.wrap ((k : Int) - 1) = (k : Int) - 1 := wrap64 (by omega) (by omega)
      have htn : ((k : Int) - 1).toNat = k - 1 := by omega
      have D : (decide ((k : Int) > 0) = false ∧ decide ((k : Int) > 0) = false ∧ decide ((k : Int) > 0) = false ∧ decide ((k : Int) > 0) = false ∧ True)
          ∨ (decide ((k : Int) > 0) = true ∧ decide ((k : Int) < (s.length : Int)) = false ∧ decide ((k : Int) > 0) = true ∧ decide ((k : Int) > 0) = true ∧ True)
          ∨ (decide ((k : Int) > 0) = true ∧ decide ((k : Int) < (s.length : Int)) = true ∧ (cls (s.getD k 0).toNat false == 1) = false ∧ decide ((k : Int) > 0) = true ∧ (0 < k ∧ k < s.length))
          ∨ (decide ((k : Int) > 0) = true ∧ decide ((k : Int) < (s.length : Int)) = true ∧ (cls (s.getD k 0).toNat false == 1) = true ∧ (cls (s.getD (k - 1) 0).toNat false == 1) = false ∧ (0 < k ∧ k < s.length)) := by
        by_cases e1 : 0 < k
        · rw [show decide ((k : Int) > 0) = true from decide_eq_true (by omega)]
          by_cases e2 : k < s.length
          · rw [show decide ((k : Int) < (s.length : Int)) = true from decide_eq_true (by omega)]
            cases e3 : wAt s k with
            | false => exact .inr (.inr (.inl ⟨rfl, rfl, e3, rfl, e1, e2⟩))
            | true =>
              cases e4 : wAt s (k - 1) with
              | false => exact .inr (.inr (.inr ⟨rfl, rfl, e3, e4, e1, e2⟩))
              | true => exact absurd ⟨e1, e2, e3, e4⟩ hct
          · rw [show decide ((k : Int) < (s.length : Int)) = false from decide_eq_false (by omega)]
            exact .inr (.inl ⟨rfl, rfl, rfl, rfl, trivial⟩)
        · rw [show decide ((k : Int) > 0) = false from decide_eq_false (by omega)]
          exact .inl ⟨rfl, rfl, rfl, rfl, trivial⟩
      rcases D with ⟨c1, c2, e3, e4, d⟩ | ⟨c1, c2, e3, e4, d⟩ | ⟨c1, c2, e3, e4, d⟩ | ⟨c1, c2, e3, e4, d⟩
      all_goals
        simp (maxSteps := 4000000) only [go_sem, Nat.reduceAdd, Nat.reduceEqDiff, Nat.reduceBEq, tk9, kOf, c1, c2, w1, htn, e3, e4]
        try (refine ⟨by omega, ?_⟩)
        try (refine ⟨⟨by omega, by omega⟩, ?_⟩)
        refine loopH_intro (α := Nat) (fun i => ([(3, .ptr 0 2 1 0 0), (4, .ptr 1 2 1 0 0), (5, .str []), (6, .bool false), (7, .str s), (8, .int .i64 i)], [.arr 25 2 [.agg [.int .i64 l, .int .i64 c]], .arr 25 2 [.agg [.int .i64 0, .int .i64 0]]]))
          (fun i => i ≤ s.length ∧ rwL (l : Int) s k = match findUp (wAt s) (s.length - i) i with
            | some i => wdB l s i
            | none => ((0, 0), [], false)) (fun i => s.length - i) k ⟨by omega, rfl⟩ ?_ ?_
        · simp (maxSteps := 4000000) only [go_sem, reduceCtorEq, Nat.reduceEqDiff]
          (repeat' first | exact subX_eq rfl rfl | apply And.intro | rfl | omega)
        rintro i ⟨hi, hE⟩
        by_cases hil : i < s.length
        · have c3 : decide ((i : Int) < (s.length : Int)) = true := decide_eq_true (by omega)
          have w2 : IntKind.i64.wrap ((i : Int) + 1) = ((i + 1 : Nat) : Int) := by rw [wrap64 (by omega) (by omega)]; rfl
          rw [show s.length - i = (s.length - (i + 1)) + 1 by omega, findUp] at hE
          cases e5 : wAt s i with
          | false =>
            rw [e5] at hE
            simp only [Bool.false_eq_true, if_false] at hE
            unfold wAt at e5
            simp (maxSteps := 4000000) only [go_sem, Nat.reduceAdd, reduceCtorEq, Nat.reduceEqDiff, Nat.reduceBEq, tk9, kOf, c3, w2, e5, bne]
            refine ⟨⟨by omega, hil⟩, i + 1, ⟨by omega, hE⟩, by omega, ?_⟩
            (repeat' first | exact subX_eq rfl rfl | apply And.intro | rfl | omega)
          | true =>
            rw [e5] at hE
            simp only [if_true] at hE
            have hE : rwL (l : Int) s k = wdB l s i := hE
            unfold wAt at e5
            have c4 : decide ((i : Int) ≥ (s.length : Int)) = false := decide_eq_false (by omega)
            simp (maxSteps := 4000000) only [go_sem, Nat.reduceAdd, Nat.reduceEqDiff, Nat.reduceBEq, tk9, kOf, c3, e5, bne, c4]
            refine ⟨⟨by omega, hil⟩, ?_⟩
            refine loopH_intro (α := Nat) (fun m => ([(3, .ptr 0 2 1 0 0), (4, .ptr 1 2 1 0 0), (5, .str []), (6, .bool false), (7, .str s), (8, .int .i64 i), (9, .int .i64 m)], [.arr 25 2 [.agg [.int .i64 l, .int .i64 c]], .arr 25 2 [.agg [.int .i64 0, .int .i64 0]]]))
              (fun m => i ≤ m ∧ m ≤ s.length ∧ wEndF s i = (findUp (fun k => !wAt s k) (s.length - m) m).getD s.length) (fun m => s.length - m) i ⟨by omega, by omega, rfl⟩ ?_ ?_
            · simp (maxSteps := 4000000) only [go_sem, reduceCtorEq, Nat.reduceEqDiff]
              (repeat' first | exact subX_eq rfl rfl | apply And.intro | rfl | omega)
            rintro m ⟨hkm, hms, hG⟩
            by_cases hml : m < s.length
            · have c5 : decide ((m : Int) < (s.length : Int)) = true := decide_eq_true (by omega)
              have w3 : IntKind.i64.wrap ((m : Int) + 1) = ((m + 1 : Nat) : Int) := by rw [wrap64 (by omega) (by omega)]; rfl
              rw [show s.length - m = (s.length - (m + 1)) + 1 by omega, findUp] at hG
              cases e6 : wAt s m with
              | true =>
                rw [e6, if_neg (by simp)] at hG
                unfold wAt at e6
                simp (maxSteps := 4000000) only [go_sem, Nat.reduceAdd, reduceCtorEq, Nat.reduceEqDiff, Nat.reduceBEq, tk9, kOf, c5, w3, e6]
                refine ⟨⟨by omega, hml⟩, m + 1, ⟨by omega, by omega, hG⟩, by omega, ?_⟩
                (repeat' first | exact subX_eq rfl rfl | apply And.intro | rfl | omega)
              | false =>
                rw [e6, if_pos (show (!false) = true from rfl)] at hG
                have hG2 : wEndF s i = m := hG
                unfold wAt at e6
                rw [wdB, hG2] at hE
                rw [hE]
                simp (maxSteps := 4000000) only [go_sem, Nat.reduceAdd, Nat.reduceEqDiff, Nat.reduceBEq, Nat.reduceLeDiff, tk3, tk9, tk25, tz25, dz25, kOf, aPos, aWd, c5, e6]
                exact ⟨⟨by omega, hml⟩, ⟨by omega, by omega, by omega⟩, by kernel_rfl⟩
            · have c5 : decide ((m : Int) < (s.length : Int)) = false := decide_eq_false (by omega)
              have hG2 : wEndF s i = m := by
                rw [hG, show s.length - m = 0 by omega, findUp]
                show s.length = m
                omega
              rw [wdB, hG2] at hE
              rw [hE]
              simp (maxSteps := 4000000) only [go_sem, Nat.reduceAdd, Nat.reduceEqDiff, Nat.reduceBEq, Nat.reduceLeDiff, tk3, tk9, tk25, tz25, dz25, kOf, aPos, aWd, c5]
              exact ⟨⟨by omega, by omega, by omega⟩, by kernel_rfl⟩
        · have c3 : decide ((i : Int) < (s.length : Int)) = false := decide_eq_false (by omega)
          have c4 : decide ((i : Int) ≥ (s.length : Int)) = true := decide_eq_true (by omega)
          rw [show s.length - i = 0 by omega, findUp] at hE
          rw [hE]
          simp (maxSteps := 4000000) only [go_sem, Nat.reduceAdd, Nat.reduceEqDiff, Nat.reduceBEq, tk9, tk25, tz25, dz25, kOf, aPos, aWd, c3, c4]
theorem ok_RWord : C1OK Tryz.prog 68 kWord := C1OK.by (by kernel_rfl) (fun d h => calls_RWord d.1 d.2 h) (fun _ => rfl) (fun _ => rfl)
end Go.Pg
namespace Go.Pg
open Go Go.Proofs

def ex25 : Ls := [[97, 98, 32, 99, 100], [120]]
theorem ex25_1 : doN ex25 (0, 0, 0, 0, 0, 0, [], false) (0, 0, [], [119], 0, []) false = ((((0, 3), 0, false, 3), true), (0, 0, 0, 0, 0, 0, [], false)) := by kernel_rfl
theorem ex25_2 : doN ex25 (0, 0, 0, 0, 0, 0, [], false) (0, 0, [], [102], 100, []) false = ((((0, 4), 1, false, 4), true), (0, 0, 0, 0, 102, 100, [], false)) := by kernel_rfl
theorem ex25_3 : doN ex25 (0, 0, 0, 0, 102, 100, [], false) (0, 0, [], [71], 0, []) false = ((((1, 0), 2, true, 0), true), (0, 0, 0, 0, 102, 100, [], false)) := by kernel_rfl
theorem ex25_4 : doN ex25 (0, 0, 0, 0, 102, 100, [], false) (0, 0, [], [110], 0, []) false = (mNone, (0, 0, 0, 0, 102, 100, [], false)) := by kernel_rfl
set_option maxRecDepth 40000 in
set_option maxHeartbeats 4000000 in
theorem calls_known25 : CallsR Tryz.prog 4 [] [] (.bool true) [] := by
  refine callsR_of (mrg := true) (dyn := []) (CtrOK.cons ok_DoN (CtrOK.nil _)) mixed Tryz.func4 rfl (by simp [Tryz.ntmps4]) (by kernel_rfl) ?_
  rw [show Tryz.f4.results.toList = [.tmp 0] from by kernel_rfl]
  have e1 := ex25_1
  have e2 := ex25_2
  have e3 := ex25_3
  have e4 := ex25_4
  unfold ex25 at e1 e2 e3 e4
  simp (maxSteps := 4000000) only [go_sem, Nat.reduceAdd, reduceCtorEq, Nat.reduceEqDiff, Int.reduceToNat, Int.reduceLE, Int.reduceLT, UInt8.reduceOfNat, Nat.reduceBEq, Nat.reducePow, Nat.reduceLeDiff, tk3, tk5, eb9, tk22, tk25, tk27, tz27, dz27, tk29, tz29, tk49, tz49, dz49, kDoN, aMove, aMv, mNone, cNpt_dec, e1, e2, e3, e4]
  have h : okText ex25 := ⟨by decide, by intro s hs; simp [ex25] at hs; rcases hs with rfl | rfl <;> decide⟩
  exact ⟨h, h, h, h, rfl⟩
def kKnown25 : C1 := C1.by [] lNil (fun _ => True) (fun _ => .bool true) (fun _ => [])
theorem ok_known25 : C1OK Tryz.prog 4 kKnown25 := C1OK.by (by kernel_rfl) (fun _ _ => calls_known25) (fun _ => rfl) (fun _ => rfl)
end Go.Pg
namespace Go.Pg
open Go Go.Proofs

theorem hits_sorted (pat : List UInt8) (ls : Ls) : (hits pat ls).Pairwise (fun a b => less a b = true) := by
  unfold hits
  split
  · exact .nil
  · exact (marksTo_sorted _ _ _ _).1
theorem filter_none {α : Type} {g : α → Bool} {l : List α} (h : ∀ q ∈ l, g q = false) : l.filter g = [] := by
  rw [List.filter_eq_nil_iff]
  intro q hq
  rw [h q hq]; simp
theorem not_less_both {p q : Int × Int} (h1 : less p q = true) : less q p = false := by
  unfold less at *
  simp only [Bool.or_eq_true, Bool.and_eq_true, decide_eq_true_eq, beq_iff_eq] at h1
  simp only [Bool.or_eq_false_iff, Bool.and_eq_false_iff, decide_eq_false_iff_not, beq_eq_false_iff_ne]
  omega
theorem neither_eq {p q : Int × Int} (h1 : less p q = false) (h2 : less q p = false) : p = q := by
  unfold less at *
  simp only [Bool.or_eq_false_iff, Bool.and_eq_false_iff, decide_eq_false_iff_not, beq_eq_false_iff_ne] at h1 h2
  obtain ⟨p1, p2⟩ := p
  obtain ⟨q1, q2⟩ := q
  dsimp only at *
  rw [Prod.mk.injEq]
  omega
/-- Ahead of a place, or at it: the list in two. -/
theorem fwd_split (p : Int × Int) : ∀ (M : List (Int × Int)), M.Pairwise (fun a b => less a b = true) → M.filter (fun q => !less p q) = (M.filter fun q => less q p) ++ M.filter fun q => !less q p && !less p q
  | [], _ => rfl
  | q :: M, h => by
    obtain ⟨h1, h2⟩ := List.pairwise_cons.1 h
    have ih := fwd_split p M h2
    cases a : less q p with
    | true =>
      have b := not_less_both a
      simp only [List.filter_cons, a, b, Bool.not_false, Bool.not_true, Bool.false_and, if_true, Bool.false_eq_true, if_false, List.cons_append]
      rw [ih]
    | false =>
      have e1 : M.filter (fun q => less q p) = [] := by
        refine filter_none fun r hr => ?_
        cases c : less r p with
        | false => rfl
        | true => have := less_trans (h1 r hr) c; rw [a] at this; cases this
      rw [e1, List.nil_append] at ih
      simp only [List.filter_cons, a, Bool.not_false, Bool.true_and, Bool.false_eq_true, if_false]
      rw [e1, List.nil_append, ih]
theorem at_most (p : Int × Int) : ∀ (M : List (Int × Int)), M.Pairwise (fun a b => less a b = true) → (M.filter fun q => !less q p && !less p q).length ≤ 1
  | [], _ => by simp
  | q :: M, h => by
    obtain ⟨h1, h2⟩ := List.pairwise_cons.1 h
    have ih := at_most p M h2
    rw [List.filter_cons]
    split
    · next hq =>
      rw [Bool.and_eq_true, Bool.not_eq_true', Bool.not_eq_true'] at hq
      have e := neither_eq hq.1 hq.2
      rw [filter_none (fun r hr => by rw [← e, h1 r hr]; simp)]
      simp
    · exact ih
theorem rev_one {α : Type} : ∀ {l : List α}, l.length ≤ 1 → l.reverse = l
  | [], _ => rfl
  | [_], _ => rfl
  | _ :: _ :: _, h => by simp at h
theorem bwd_split (p : Int × Int) : ∀ (M : List (Int × Int)), M.Pairwise (fun a b => less a b = true) → M.filter (fun q => !less q p) = (M.filter fun q => !less q p && !less p q) ++ M.filter fun q => !less q p && less p q
  | [], _ => rfl
  | q :: M, h => by
    obtain ⟨h1, h2⟩ := List.pairwise_cons.1 h
    have ih := bwd_split p M h2
    cases a : less q p with
    | true =>
      simp only [List.filter_cons, a, Bool.not_true, Bool.false_and, Bool.false_eq_true, if_false]
      exact ih
    | false =>
      cases b : less p q with
      | false =>
        simp only [List.filter_cons, a, b, Bool.not_false, Bool.true_and, if_true, Bool.false_eq_true, if_false, List.cons_append]
        rw [ih]
      | true =>
        have e1 : (M.filter fun q => !less q p && !less p q) = [] := by
          refine filter_none fun r hr => ?_
          rw [less_trans b (h1 r hr)]; simp
        rw [e1, List.nil_append] at ih
        simp only [List.filter_cons, a, b, Bool.not_false, Bool.not_true, Bool.and_false, Bool.true_and, if_true, Bool.false_eq_true, if_false]
        rw [e1, List.nil_append, ih]
theorem round_eq (ls : Ls) (p : Int × Int) (pat : List UInt8) (back : Bool) : roundS ls p pat back = roundR ls p pat back := by
  have hs := hits_sorted pat ls
  unfold roundS roundR
  generalize hits pat ls = M at hs
  have e0 : (M.filter fun q => !less q p && less p q) = M.filter (less p) := by
    apply List.filter_congr
    intro q _
    cases c : less p q with
    | false => simp
    | true => rw [not_less_both c]; rfl
  cases back with
  | true =>
    rw [if_pos rfl, if_pos rfl]
    unfold ahead
    rw [List.filter_reverse, List.filter_reverse, bwd_split p M hs, List.reverse_append, rev_one (at_most p M hs)]
  | false =>
    rw [if_neg (by simp), if_neg (by simp), behind_f, e0, fwd_split p M hs]
theorem search_eq (ls : Ls) (p : Int × Int) (pat : List UInt8) (back : Bool) (n : Int) : searchP ls p pat back n = rsearchP ls p pat back n := by
  unfold searchP rsearchP
  rw [round_eq]
end Go.Pg
