/- Where a pattern stands: the program's iterator; the word at a place. The n-th place of a pattern: the program's. The word at a place: the program's. Brackets: the program's. -/
import Derived.Test.YtkkcfkggfpoagaaGreatPgBs
import Derived.Test.YtkkcfkggfpoagaaGreatPgFx6
import Derived.Test.YtkkcfkggfpoagaaGreatPgFx3
import Derived.Test.YtkkcfkggfpoagaaGreatPgFx5
set_option linter.unusedVariables false
set_option linter.unusedSimpArgs false
namespace Go.Pg
open Go Go.Proofs

def prefB (s p : List UInt8) : Bool := decide ((s.length : Int) ≥ (p.length : Int)) && s.take p.length == p
theorem calls_HasPrefixL (s p : List UInt8) : CallsR Tryz.prog 157 [.str s, .str p] [] (.bool (prefB s p)) [] := by
  refine callsR_of (mrg := true) (dyn := []) (CtrOK.nil _) mixed Tryz.func157 rfl (by simp [Tryz.ntmps157]) (by kernel_rfl) ?_
  rw [show Tryz.f157.results.toList = [.tmp 4] from by kernel_rfl]
  simp (maxSteps := 4000000) only [go_sem, reduceCtorEq, Nat.reduceEqDiff, tk9, prefB]
  exact fun h => ⟨h, by omega, by omega⟩
def kHasPrefix : C1 := C1.by [.id, .id] (lCons cStr (lOne cStr)) (fun _ => True) (fun d => .bool (prefB d.1 d.2)) (fun _ => [])
theorem ok_HasPrefixL : C1OK Tryz.prog 157 kHasPrefix := C1OK.by (by kernel_rfl) (fun d _ => calls_HasPrefixL d.1 d.2) (fun _ => rfl) (fun _ => rfl)
theorem calls_HasPrefix (s p : List UInt8) : CallsR Tryz.prog 155 [.str s, .str p] [] (.bool (prefB s p)) [] := by
  refine callsR_of (mrg := true) (dyn := []) (CtrOK.cons ok_HasPrefixL (CtrOK.nil _)) mixed Tryz.func155 rfl (by simp [Tryz.ntmps155]) (by kernel_rfl) ?_
  rw [show Tryz.f155.results.toList = [.tmp 4] from by kernel_rfl]
  simp (maxSteps := 4000000) only [go_sem, reduceCtorEq, Nat.reduceEqDiff, kHasPrefix]
theorem ok_HasPrefix : C1OK Tryz.prog 155 kHasPrefix := C1OK.by (by kernel_rfl) (fun d _ => calls_HasPrefix d.1 d.2) (fun _ => rfl) (fun _ => rfl)

def hitB (p : List UInt8) (s : List UInt8) (i : Nat) : Bool := prefB (s.drop i) p
def hits (p : List UInt8) (ls : Ls) : List (Int × Int) := if (p == []) = true then [] else marksTo false (hitB p) ls ls.length

set_option maxRecDepth 20000 in
set_option maxHeartbeats 8000000 in
theorem it_all (p : List UInt8) (ls : Ls) (hf : okText ls) : ItR Tryz.prog 154 [.rp [.str p], .rp [.sl 1 (ls.map .str)]] (Tell.seq ((hits p ls).map fun p => [aPos p])) := by
  refine itR_of (mrg := true) (dyn := [1000007]) (CtrOK.cons ok_HasPrefix (CtrOK.nil _)) mixed Tryz.func154 rfl (by simp [Tryz.ntmps154]) (by kernel_rfl) (by kernel_rfl) ?_ ?_
  · intro x hx
    obtain ⟨p, _, rfl⟩ := List.mem_map.1 hx
    rfl
  intro l
  have hll := hf.1
  have hls := fits_getD hf
  unfold hits
  cases hp : (p == []) with
  | true =>
    rw [if_pos rfl]
    simp (maxSteps := 4000000) only [go_sem, ↓wpY_H, ↓wpYH_ret, ↓wpYH_seq, ↓wpYH_cond, ↓wpYH_region0, regYH_none, runYH_nil, runYH_cons, ↓oneYH_eq, yarg, yselH_none, ↓thenY_normal, ↓thenY_ret, ↓endY_ret, endT_some, Nat.reduceAdd, reduceCtorEq, Nat.reduceEqDiff, tk9, kHasPrefix, hp]
    all_goals rfl
  | false =>
    rw [if_neg (by simp)]
    simp (maxSteps := 4000000) only [go_sem, ↓wpY_H, ↓wpYH_skip, ↓wpYH_seq, ↓wpYH_cond, ↓wpYH_block, ↓wpYH_loop, ↓wpYH_region0, regYH_none, runYH_nil, runYH_cons, ↓oneYH_eq, yarg, yselH_none, ↓thenY_normal, Nat.reduceAdd, reduceCtorEq, Nat.reduceEqDiff, tk9, tk22, kHasPrefix, hp]
    refine loopYH_intro (α := Nat) (fun i => (some (marksTo false (hitB p) ls i).length, [(0, .yld l), (1, .rp [.str p]), (9, .sl 1 (ls.map .str)), (10, .int .i64 ls.length), (11, .int .i64 i)], []))
      (fun i => i ≤ ls.length) (fun i => ls.length - i) 0 (by omega) (by simp [marksTo]) ?_ ?_
    · simp (maxSteps := 4000000) only [go_sem, reduceCtorEq, Nat.reduceEqDiff]
      all_goals rfl
    intro i hi
    by_cases hlt : i < ls.length
    · have hct : decide ((i : Int) < (ls.length : Int)) = true := decide_eq_true (by omega)
      have hsl := hls i
      have hts := marksTo_succ false (hitB p) ls i
      have hln := lineMarks_len false (hitB p) i (ls.getD i [])
      have hl : lineLead false (ls.getD i []) = 0 := rfl
      have w1 : IntKind.i64.wrap ((i : Int) + 1) = ((i + 1 : Nat) : Int) := by rw [wrap64 (by omega) (by omega)]; rfl
      simp (maxSteps := 4000000) only [go_sem, ↓wpY_H, ↓wpYH_skip, ↓wpYH_seq, ↓wpYH_cond, ↓wpYH_block, ↓wpYH_loop, ↓wpYH_region0, regYH_none, runYH_nil, runYH_cons, ↓oneYH_eq, yarg, yselH_none, ↓thenY_normal, reduceCtorEq, Nat.reduceEqDiff, tk9, dz9, tk22, kHasPrefix, hct]
      refine ⟨by omega, ?_⟩
      refine loopYH_intro (α := Nat) (fun k => (some ((marksTo false (hitB p) ls i).length + lineLead false (ls.getD i []) + (marksIn (hitB p) i (ls.getD i []) k).length), [(0, .yld l), (1, .rp [.str p]), (4, .int .i64 i), (5, .str (ls.getD i [])), (9, .sl 1 (ls.map .str)), (10, .int .i64 ls.length), (11, .int .i64 i), (17, .int .i64 (ls.getD i []).length), (18, .int .i64 k)], []))
        (fun k => k ≤ (ls.getD i []).length) (fun k => (ls.getD i []).length - k) 0 (by omega) (by rw [hl]; simp [marksIn]) ?_ ?_
      · simp (maxSteps := 4000000) only [go_sem, reduceCtorEq, Nat.reduceEqDiff]
        all_goals rfl
      intro k hk1
      have hm1 := marksIn_succ (hitB p) i (ls.getD i []) k
      by_cases hk2 : k < (ls.getD i []).length
      · have hct2 : decide ((k : Int) < ((ls.getD i []).length : Int)) = true := decide_eq_true (by omega)
        have w2 : IntKind.i64.wrap ((k : Int) + 1) = ((k + 1 : Nat) : Int) := by rw [wrap64 (by omega) (by omega)]; rfl
        have hgd : hitB p (ls.getD i []) k = prefB ((ls.getD i []).drop k) p := rfl
        cases hg : prefB ((ls.getD i []).drop k) p with
        | true =>
          rw [hg] at hgd
          rw [if_pos hgd] at hm1
          have hy := mark_in false (hitB p) ls i k hlt hk2 hgd
          simp (maxSteps := 4000000) only [go_sem, ↓wpY_H, ↓wpYH_skip, ↓wpYH_ret, ↓wpYH_seq, ↓wpYH_cond, ↓wpYH_block, ↓wpYH_region0, ↓wpYH_region1, regYH_none, runYH_nil, runYH_cons, ↓oneYH_eq, runYDH_nil, runYDH_cons, ↓tkC_eq, yarg, yselH_none, yselH_some, yieldH_some, ↓thenY_normal, ↓thenY_ret, ↓blockY_normal, ↓blockY_ret, ↓endY_ret, endT_none, Nat.reduceAdd, reduceCtorEq, Nat.reduceEqDiff, Nat.reduceLeDiff, tk9, tk25, tz25, kHasPrefix, AV.okS, hct2, hg, List.getElem?_map, hy, w2]
          exact ⟨by kernel_rfl, ⟨by omega, by omega⟩, ⟨by omega, by omega⟩, rfl, k + 1, by omega, by omega, by rw [hm1, List.length_append]; rfl, rfl⟩
        | false =>
          rw [hg] at hgd
          rw [if_neg (by rw [hgd]; simp)] at hm1
          simp (maxSteps := 4000000) only [go_sem, ↓wpY_H, ↓wpYH_skip, ↓wpYH_seq, ↓wpYH_cond, ↓wpYH_block, ↓wpYH_region0, ↓wpYH_region1, regYH_none, runYH_nil, runYH_cons, ↓oneYH_eq, runYDH_nil, runYDH_cons, ↓tkC_eq, yarg, yselH_none, ↓thenY_normal, ↓blockY_normal, Nat.reduceAdd, reduceCtorEq, Nat.reduceEqDiff, tk9, kHasPrefix, AV.okS, hct2, hg, w2]
          exact ⟨by kernel_rfl, ⟨by omega, by omega⟩, ⟨by omega, by omega⟩, k + 1, by omega, by omega, by rw [hm1], rfl⟩
      · have hcf2 : decide ((k : Int) < ((ls.getD i []).length : Int)) = false := decide_eq_false (by omega)
        have hke : k = (ls.getD i []).length := by omega
        subst hke
        simp (maxSteps := 4000000) only [go_sem, ↓wpY_H, ↓wpYH_exit, ↓wpYH_seq, ↓wpYH_cond, ↓wpYH_region0, regYH_none, runYH_nil, runYH_cons, ↓oneYH_eq, yarg, yselH_none, ↓thenY_normal, ↓thenY_exit, ↓blockY_normal, ↓blockY_exit, ↓endY_normal, endT_some, reduceCtorEq, Nat.reduceEqDiff, hcf2, w1]
        exact ⟨i + 1, by omega, by omega, by rw [hts, List.length_append, hln]; omega, rfl⟩
    · have hcf : decide ((i : Int) < (ls.length : Int)) = false := decide_eq_false (by omega)
      have hil : i = ls.length := by omega
      simp (maxSteps := 4000000) only [go_sem, ↓wpY_H, ↓wpYH_exit, ↓wpYH_seq, ↓wpYH_cond, ↓wpYH_region0, regYH_none, runYH_nil, runYH_cons, ↓oneYH_eq, yarg, yselH_none, ↓thenY_normal, ↓thenY_exit, ↓blockY_exit, ↓endY_normal, endT_some, reduceCtorEq, Nat.reduceEqDiff, hcf]
      rw [hil]
def aAll (p : List UInt8) (ls : Ls) : AV := .fn 154 [.rp [.str p], .rp [.sl 1 (ls.map .str)]]
def kAll1 : C1 := C1.itBy (lCons (cRp (lOne cStr)) (lOne (cRp (lOne cStrs)))) (fun d => okText d.2) (fun d => (hits d.1 d.2).map fun p => [aPos p])
theorem ok_all1 : C1OK Tryz.prog 154 kAll1 := C1OK.itBy (by kernel_rfl) (fun d h => it_all d.1 d.2 h)
theorem calls_All (ls : Ls) (p : List UInt8) : CallsR Tryz.prog 150 [.sl 1 (ls.map .str), .str p] [] (aAll p ls) [] := by
  refine callsR_of (mrg := true) (dyn := []) (CtrOK.nil _) mixed Tryz.func150 rfl (by simp [Tryz.ntmps150]) (by kernel_rfl) ?_
  rw [show Tryz.f150.results.toList = [.tmp 4] from by kernel_rfl]
  unfold aAll
  simp (maxSteps := 4000000) only [go_sem, reduceCtorEq, Nat.reduceEqDiff, Nat.reduceBEq]
def kAllF : C1 := C1.by [.sl 1 [], .id] (lCons cStrs (lOne cStr)) (fun _ => True) (fun d => aAll d.2 d.1) (fun _ => [])
theorem ok_AllF : C1OK Tryz.prog 150 kAllF := C1OK.by (by kernel_rfl) (fun d _ => calls_All d.1 d.2) (fun d => by unfold aAll; rfl) (fun _ => rfl)
end Go.Pg
namespace Go.Pg
open Go Go.Proofs

theorem decL_posL (l : List (Int × Int)) : decL cPos2.dec (l.map aPos) = some l := decL_map (fun a => by simp [aPos, cAgg, lCons, lOne, cInt, dec2]) l
theorem renL_posL (ρ : Nat → Nat) (l : List (Int × Int)) : renL ρ (l.map aPos) = l.map aPos := renL_pure ρ _ (pureB_posL l)
def roundS (ls : Ls) (p : Int × Int) (pat : List UInt8) (back : Bool) : List (Int × Int) :=
  if back = true then ((hits pat ls).filter fun q => less q p).reverse ++ (((hits pat ls).filter fun q => !less q p && less p q).reverse ++ (hits pat ls).filter fun q => !less q p && !less p q)
  else ((hits pat ls).filter fun q => !less q p && less p q) ++ (((hits pat ls).filter fun q => less q p) ++ (hits pat ls).filter fun q => !less q p && !less p q)
def pickS (l : List (Int × Int)) (n : Int) : Mv × Bool := if l.length = 0 then mNone else (jumpM (l.getD ((min n 1073741824 - 1) % l.length).toNat (0, 0)), true)
def searchP (ls : Ls) (p : Int × Int) (pat : List UInt8) (back : Bool) (n : Int) : Mv × Bool := whenMay ls p n (pickS (roundS ls p pat back) n)
theorem hits_len (pat : List UInt8) (ls : Ls) (hf : okText ls) : (hits pat ls).length ≤ 4295032832 := by
  unfold hits
  split
  · simp
  · have h1 := marksTo_len false (hitB pat) ls 65536 (fits_getD hf) ls.length
    have h2 : ls.length * (65536 + 1) ≤ 65536 * 65537 := Nat.mul_le_mul hf.1 (by omega)
    omega

set_option maxRecDepth 20000 in
set_option maxHeartbeats 8000000 in
theorem calls_Search (ls : Ls) (p : Int × Int) (pat : List UInt8) (back : Bool) (n : Int) (hf : okText ls) : CallsR Tryz.prog 144 [.sl 1 (ls.map .str), aPos p, .str pat, .bool back, .int .i64 n] [] (aMove (searchP ls p pat back n)) [] := by
  obtain ⟨p1, p2⟩ := p
  refine callsR_of (mrg := true) (dyn := []) (CtrOK.cons ok_CPlace (CtrOK.cons ok_AllF (CtrOK.cons ok_all1 (CtrOK.cons ok_Less (CtrOK.cons ok_Reverse (CtrOK.cons ok_ConcatR (CtrOK.nil _))))))) mixed Tryz.func144 rfl (by simp [Tryz.ntmps144]) (by kernel_rfl) ?_
  rw [show Tryz.f144.results.toList = [.cell 10 49, .tmp 11] from by kernel_rfl]
  unfold searchP whenMay
  have hpl : may ls (p1, p2) n = (place ls p1 p2 && decide (n ≥ 1)) := rfl
  cases hm : may ls (p1, p2) n with
  | false =>
    rw [if_neg (by simp)]
    have c1 : (decide (n < 1) || !place ls p1 p2) = true := by
      rw [hpl, Bool.and_eq_false_iff] at hm
      simp only [Bool.or_eq_true, decide_eq_true_eq, Bool.not_eq_true', decide_eq_false_iff_not] at hm ⊢
      rcases hm with hm | hm
      · exact .inr hm
      · exact .inl (by omega)
    simp (maxSteps := 4000000) only [go_sem, Nat.reduceAdd, reduceCtorEq, Nat.reduceEqDiff, tk25, dz25, tk49, tz49, dz49, kRPlace, aPos, aMove, aMv, mNone, c1]
    all_goals (intros; simp_all)
  | true =>
    rw [if_pos rfl]
    have hi := (may_iff _ _ _).1 hm
    dsimp only at hi
    have c1 : decide (n < 1) = false := decide_eq_false (by omega)
    have c2 : place ls p1 p2 = true := by rw [hpl, Bool.and_eq_true] at hm; exact hm.1
    have hml := hits_len pat ls hf
    simp (maxSteps := 4000000) only [go_sem, Nat.reduceAdd, reduceCtorEq, Nat.reduceEqDiff, tk25, dz25, tz37, tz49, kRPlace, kAllF, aAll, kAll1, kLess, aPos, c1, c2]
    refine ⟨hf, ?_⟩
    unfold roundS
    generalize hM : hits pat ls = M at hml ⊢
    rw [mark_eq]
    obtain ⟨gA, hgA⟩ : ∃ gA : Int × Int → Bool, gA = fun q => less q (p1, p2) := ⟨_, rfl⟩
    obtain ⟨gB, hgB⟩ : ∃ gB : Int × Int → Bool, gB = fun q => !less q (p1, p2) && less (p1, p2) q := ⟨_, rfl⟩
    obtain ⟨gC, hgC⟩ : ∃ gC : Int × Int → Bool, gC = fun q => !less q (p1, p2) && !less (p1, p2) q := ⟨_, rfl⟩
    rw [← hgA, ← hgB, ← hgC]
    refine rangG_intro M (fun p => [.agg [.int .i64 p.1, .int .i64 p.2]]) (0, 0) [(3, .bool back), (4, .int .i64 n), (6, .ptr 0 2 1 0 0), (10, .ptr 1 5 1 0 0), (11, .bool false), (12, .ptr 2 1 1 0 0), (13, .ptr 3 1 1 0 0), (14, .ptr 4 1 1 0 0)]
      [.arr 25 2 [.agg [.int .i64 p1, .int .i64 p2]], .arr 49 5 [.agg [.int .i64 0, .int .i64 0, .int .i64 0, .bool false, .int .i64 0]], .arr 37 1 [.nls], .arr 37 1 [.nls], .arr 37 1 [.nls]]
      (fun k => ([(3, .bool back), (4, .int .i64 n), (6, .ptr 0 2 1 0 0), (10, .ptr 1 5 1 0 0), (11, .bool false), (12, .ptr 2 1 1 0 0), (13, .ptr 3 1 1 0 0), (14, .ptr 4 1 1 0 0)], [.arr 25 2 [.agg [.int .i64 p1, .int .i64 p2]], .arr 49 5 [.agg [.int .i64 0, .int .i64 0, .int .i64 0, .bool false, .int .i64 0]], .arr 37 1 [.own 5 2 ((M.take k).filter gA).length], .arr 37 1 [.own 6 2 ((M.take k).filter gB).length], .arr 37 1 [.own 7 2 ((M.take k).filter gC).length], .arr 25 2 (((M.take k).filter gA).map aPos), .arr 25 2 (((M.take k).filter gB).map aPos), .arr 25 2 (((M.take k).filter gC).map aPos)]))
      (fun _ => True) rfl ?_ ?_ trivial (fun _ => rfl) ?_ ?_
    · simp (maxSteps := 4000000) only [go_sem, Nat.reduceAdd, reduceCtorEq, Nat.reduceEqDiff]
      (repeat' first | exact trivial | exact subX_eq rfl rfl | exact subX_eq rfl (pureB_posL _) | exact subX_nls rfl | exact subX_own rfl rfl | exact subX_own rfl (by simp) | apply And.intro | decide | omega)
    · simp (maxSteps := 4000000) only [go_sem, Nat.reduceAdd, reduceCtorEq, Nat.reduceEqDiff, Nat.reduceLT, List.filter_nil]
      (repeat' first | exact trivial | exact subX_eq rfl rfl | exact subX_eq rfl (pureB_posL _) | exact subX_nls rfl | exact subX_own rfl rfl | exact subX_own rfl (by simp) | apply And.intro | decide | omega)
    · intro k hk _
      have fA := filter_take gA M k (0, 0) hk
      have fB := filter_take gB M k (0, 0) hk
      have fC := filter_take gC M k (0, 0) hk
      have lA : ((M.take k).filter gA).length ≤ k := Nat.le_trans (List.length_filter_le _ _) (by rw [List.length_take]; omega)
      have lB : ((M.take k).filter gB).length ≤ k := Nat.le_trans (List.length_filter_le _ _) (by rw [List.length_take]; omega)
      have lC : ((M.take k).filter gC).length ≤ k := Nat.le_trans (List.length_filter_le _ _) (by rw [List.length_take]; omega)
      have hA : gA (M.getD k (0, 0)) = less (M.getD k (0, 0)) (p1, p2) := by rw [hgA]
      have hB : gB (M.getD k (0, 0)) = (!less (M.getD k (0, 0)) (p1, p2) && less (p1, p2) (M.getD k (0, 0))) := by rw [hgB]
      have hC : gC (M.getD k (0, 0)) = (!less (M.getD k (0, 0)) (p1, p2) && !less (p1, p2) (M.getD k (0, 0))) := by rw [hgC]
      obtain ⟨xA, hxA⟩ : ∃ x, x = (M.take k).filter gA := ⟨_, rfl⟩
      obtain ⟨xB, hxB⟩ : ∃ x, x = (M.take k).filter gB := ⟨_, rfl⟩
      obtain ⟨xC, hxC⟩ : ∃ x, x = (M.take k).filter gC := ⟨_, rfl⟩
      rw [← hxA] at fA lA
      rw [← hxB] at fB lB
      rw [← hxC] at fC lC
      have aA := app1_pos xA (M.getD k (0, 0))
      have aB := app1_pos xB (M.getD k (0, 0))
      have aC := app1_pos xC (M.getD k (0, 0))
      cases b1 : less (M.getD k (0, 0)) (p1, p2) with
      | true =>
        rw [b1] at hA hB hC
        rw [if_pos hA] at fA
        rw [if_neg (by rw [hB]; simp)] at fB
        rw [if_neg (by rw [hC]; simp)] at fC
        simp (maxSteps := 4000000) only [go_sem, Nat.reduceAdd, reduceCtorEq, Nat.reduceEqDiff, Nat.reduceLT, Nat.reducePow, Nat.reduceLeDiff, tk25, tz25, dz25, eb25, tk37, dz37, ←hxA, ←hxB, ←hxC, fA, fB, fC, aA, b1, pureB_posL]
        (repeat' first | exact trivial | exact subX_eq rfl rfl | exact subX_eq rfl (pureB_posL _) | exact subX_nls rfl | exact subX_own rfl rfl | exact subX_own rfl (by simp) | apply And.intro | decide | omega)
      | false =>
        rw [b1] at hA hB hC
        rw [if_neg (by rw [hA]; simp)] at fA
        cases b2 : less (p1, p2) (M.getD k (0, 0)) with
        | true =>
          rw [b2] at hB hC
          rw [if_pos (by rw [hB]; rfl)] at fB
          rw [if_neg (by rw [hC]; simp)] at fC
          simp (maxSteps := 4000000) only [go_sem, Nat.reduceAdd, reduceCtorEq, Nat.reduceEqDiff, Nat.reduceLT, Nat.reducePow, Nat.reduceLeDiff, tk25, tz25, dz25, eb25, tk37, dz37, ←hxA, ←hxB, ←hxC, fA, fB, fC, aB, b1, b2, pureB_posL]
          (repeat' first | exact trivial | exact subX_eq rfl rfl | exact subX_eq rfl (pureB_posL _) | exact subX_nls rfl | exact subX_own rfl rfl | exact subX_own rfl (by simp) | apply And.intro | decide | omega)
        | false =>
          rw [b2] at hB hC
          rw [if_neg (by rw [hB]; simp)] at fB
          rw [if_pos (by rw [hC]; rfl)] at fC
          simp (maxSteps := 4000000) only [go_sem, Nat.reduceAdd, reduceCtorEq, Nat.reduceEqDiff, Nat.reduceLT, Nat.reducePow, Nat.reduceLeDiff, tk25, tz25, dz25, eb25, tk37, dz37, ←hxA, ←hxB, ←hxC, fA, fB, fC, aC, b1, b2, pureB_posL]
          (repeat' first | exact trivial | exact subX_eq rfl rfl | exact subX_eq rfl (pureB_posL _) | exact subX_nls rfl | exact subX_own rfl rfl | exact subX_own rfl (by simp) | apply And.intro | decide | omega)
    · intro _
      rw [List.take_of_length_le (Nat.le_refl M.length)]
      have lA : (M.filter gA).length ≤ M.length := List.length_filter_le _ _
      have lB : (M.filter gB).length ≤ M.length := List.length_filter_le _ _
      have lC : (M.filter gC).length ≤ M.length := List.length_filter_le _ _
      generalize M.filter gA = xA at lA ⊢
      generalize M.filter gB = xB at lB ⊢
      generalize M.filter gC = xC at lC ⊢
      cases back with
      | true =>
        rw [if_pos rfl]
        have hfl : [xA.reverse, xB.reverse, xC].flatten = xA.reverse ++ (xB.reverse ++ xC) := by simp
        have hLl : (xA.reverse ++ (xB.reverse ++ xC)).length ≤ 1099511627776 := by simp only [List.length_append, List.length_reverse]; omega
        generalize xA.reverse ++ (xB.reverse ++ xC) = L at hfl hLl ⊢
        have w1 : IntKind.i64.wrap (min n 1073741824 - 1) = min n 1073741824 - 1 := wrap64 (by omega) (by omega)
        by_cases hL : L.length = 0
        · have c3 : ((L.length : Int) == 0) = true := by rw [hL]; rfl
          rw [pickS, if_pos hL]
          simp (maxSteps := 4000000) only [go_sem, Nat.reduceAdd, Nat.reduceEqDiff, Nat.reducePow, Nat.reduceLeDiff, tk37, dz37, eb37, tk49, tz49, dz49, tk137, kReverse, hPoss, kConcatR, aMove, aMv, mNone, pureB_posL, decL_posL, renL_posL, List.length_reverse, hfl, c3]
          (repeat' first | exact trivial | apply And.intro | decide | omega)
        · have c3 : ((L.length : Int) == 0) = false := beq_eq_false_iff_ne.2 (by omega)
          have w2 : (min n 1073741824 - 1).tmod (L.length : Int) = (min n 1073741824 - 1) % (L.length : Int) := Int.tmod_eq_emod_of_nonneg (by omega)
          have h1 := Int.emod_nonneg (min n 1073741824 - 1) (b := (L.length : Int)) (by omega)
          have h2 := Int.emod_lt_of_pos (min n 1073741824 - 1) (b := (L.length : Int)) (by omega)
          rw [pickS, if_neg hL]
          simp (maxSteps := 4000000) only [go_sem, Nat.reduceAdd, Nat.reduceEqDiff, Nat.reducePow, Nat.reduceLeDiff, tk25, dz25, tk37, dz37, eb37, tk49, tz49, dz49, tk137, kReverse, hPoss, kConcatR, aMove, aMv, jumpM, pureB_posL, decL_posL, renL_posL, List.length_reverse, aPos_def, getD_pos, hfl, w1, w2, c3]
          (repeat' first | exact trivial | apply And.intro | decide | omega)
      | false =>
        rw [if_neg (by simp)]
        have hfl : [xB, xA, xC].flatten = xB ++ (xA ++ xC) := by simp
        have hLl : (xB ++ (xA ++ xC)).length ≤ 1099511627776 := by simp only [List.length_append]; omega
        generalize xB ++ (xA ++ xC) = L at hfl hLl ⊢
        have w1 : IntKind.i64.wrap (min n 1073741824 - 1) = min n 1073741824 - 1 := wrap64 (by omega) (by omega)
        by_cases hL : L.length = 0
        · have c3 : ((L.length : Int) == 0) = true := by rw [hL]; rfl
          rw [pickS, if_pos hL]
          simp (maxSteps := 4000000) only [go_sem, Nat.reduceAdd, Nat.reduceEqDiff, Nat.reducePow, Nat.reduceLeDiff, tk37, dz37, eb37, tk49, tz49, dz49, tk137, kReverse, hPoss, kConcatR, aMove, aMv, mNone, pureB_posL, decL_posL, hfl, c3]
          (repeat' first | exact trivial | apply And.intro | decide | omega)
        · have c3 : ((L.length : Int) == 0) = false := beq_eq_false_iff_ne.2 (by omega)
          have w2 : (min n 1073741824 - 1).tmod (L.length : Int) = (min n 1073741824 - 1) % (L.length : Int) := Int.tmod_eq_emod_of_nonneg (by omega)
          have h1 := Int.emod_nonneg (min n 1073741824 - 1) (b := (L.length : Int)) (by omega)
          have h2 := Int.emod_lt_of_pos (min n 1073741824 - 1) (b := (L.length : Int)) (by omega)
          rw [pickS, if_neg hL]
          simp (maxSteps := 4000000) only [go_sem, Nat.reduceAdd, Nat.reduceEqDiff, Nat.reducePow, Nat.reduceLeDiff, tk25, dz25, tk37, dz37, eb37, tk49, tz49, dz49, tk137, kReverse, hPoss, kConcatR, aMove, aMv, jumpM, pureB_posL, decL_posL, aPos_def, getD_pos, hfl, w1, w2, c3]
          (repeat' first | exact trivial | apply And.intro | decide | omega)
def kSearch : C1 := C1.by [.sl 1 [], .id, .id, .id, .id] (lCons cStrs (lCons cPos2 (lCons cStr (lCons cBool (lOne (cInt .i64)))))) (fun d => okText d.1) (fun d => aMove (searchP d.1 d.2.1 d.2.2.1 d.2.2.2.1 d.2.2.2.2)) (fun _ => [])
theorem ok_Search : C1OK Tryz.prog 144 kSearch := C1OK.by (by kernel_rfl) (fun d h => calls_Search d.1 d.2.1 d.2.2.1 d.2.2.2.1 d.2.2.2.2 h) (fun _ => rfl) (fun _ => rfl)
end Go.Pg
namespace Go.Pg
open Go Go.Proofs

/-- Is it a byte of a word. -/
def isW (s : List UInt8) (i : Int) : Bool := decide (0 ≤ i) && (decide (i < s.length) && (cls (s.getD i.toNat 0).toNat false == 1))
theorem calls_isW (s : List UInt8) (i : Int) : CallsR Tryz.prog 149 [.int .i64 i, .rp [.str s]] [] (.bool (isW s i)) [] := by
  refine callsR_of (mrg := true) (dyn := []) (CtrOK.cons ok_Of (CtrOK.nil _)) mixed Tryz.func149 rfl (by simp [Tryz.ntmps149]) (by kernel_rfl) ?_
  rw [show Tryz.f149.results.toList = [.tmp 3] from by kernel_rfl]
  simp (maxSteps := 4000000) only [go_sem, reduceCtorEq, Nat.reduceEqDiff, tk9, kOf, isW]
  refine ⟨fun h => ⟨h, ?_⟩, ?_⟩
  · simp only [Bool.and_eq_true, decide_eq_true_eq] at h
    omega
  · rw [Bool.and_assoc]
def kIsW : C1 := C1.by [.id, .id] (lCons (cInt .i64) (lOne (cRp (lOne cStr)))) (fun _ => True) (fun d => .bool (isW d.2 d.1)) (fun _ => [])
theorem ok_isW : C1OK Tryz.prog 149 kIsW := C1OK.by (by kernel_rfl) (fun d _ => calls_isW d.2 d.1) (fun _ => rfl) (fun _ => rfl)

def wAt (s : List UInt8) (i : Nat) : Bool := cls (s.getD i 0).toNat false == 1
/-- Where the word's beginning is, going back. -/
def wBeg (s : List UInt8) : Nat → Nat
  | 0 => 0
  | k + 1 => if wAt s k = true then wBeg s k else k + 1
def wEndF (s : List UInt8) (i : Nat) : Nat := (findUp (fun k => !wAt s k) (s.length - i) i).getD s.length
abbrev Wd := (Int × Int) × List UInt8 × Bool
def wdB (l : Int) (s : List UInt8) (b : Nat) : Wd := ((l, b), cutL s b (wEndF s b), true)
def wordL (l : Int) (s : List UInt8) (c : Nat) : Wd := match findUp (wAt s) (s.length - c) c with
  | some i => wdB l s (wBeg s i)
  | none => ((0, 0), [], false)
def aWd (w : Wd) : AV := .tuple [aPos w.1, .str w.2.1, .bool w.2.2]
def wordP (ls : Ls) (p : Int × Int) : Wd := if place ls p.1 p.2 = true then wordL p.1 (ls.getD p.1.toNat []) p.2.toNat else ((0, 0), [], false)
theorem wBeg_le (s : List UInt8) : ∀ k, wBeg s k ≤ k
  | 0 => Nat.le_refl _
  | k + 1 => by unfold wBeg; split; · exact Nat.le_succ_of_le (wBeg_le s k)
                · exact Nat.le_refl _
theorem isW_nat (s : List UInt8) (i : Nat) : isW s i = (decide (i < s.length) && wAt s i) := by
  unfold isW wAt
  rw [decide_eq_true (by omega : (0 : Int) ≤ i), Bool.true_and, Int.toNat_natCast]
  congr 1
  rw [Bool.eq_iff_iff, decide_eq_true_eq, decide_eq_true_eq]; omega

set_option maxRecDepth 20000 in
set_option maxHeartbeats 8000000 in
theorem calls_Word (ls : Ls) (p : Int × Int) (hf : okText ls) : CallsR Tryz.prog 143 [.sl 1 (ls.map .str), aPos p] [] (aWd (wordP ls p)) [] := by
  refine callsR_of (mrg := true) (dyn := [15]) (CtrOK.cons ok_CPlace (CtrOK.cons ok_isW (CtrOK.nil _))) mixed Tryz.func143 rfl (by simp [Tryz.ntmps143]) (by kernel_rfl) ?_
  rw [show Tryz.f143.results.toList = [.cell 4 25, .tmp 5, .tmp 6] from by kernel_rfl]
  obtain ⟨p1, p2⟩ := p
  unfold wordP
  dsimp only
  cases hm : place ls p1 p2 with
  | false =>
    rw [if_neg (by simp)]
    simp (maxSteps := 4000000) only [go_sem, Nat.reduceAdd, reduceCtorEq, Nat.reduceEqDiff, Nat.reduceBEq, tk25, tz25, dz25, kRPlace, aPos, aWd, hm]
  | true =>
    rw [if_pos rfl]
    obtain ⟨g1, g2, g3, g4⟩ := (place_iff _ _ _).1 hm
    obtain ⟨l, rfl⟩ := Int.eq_ofNat_of_zero_le g1
    obtain ⟨c, rfl⟩ := Int.eq_ofNat_of_zero_le g3
    rw [Int.toNat_natCast] at g2 g4
    have h5 := fits_getD hf l
    rw [Int.toNat_natCast, Int.toNat_natCast]
    obtain ⟨s, hs⟩ : ∃ s, s = ls.getD l [] := ⟨_, rfl⟩
    rw [← hs] at g4 h5 ⊢
    have hR : wordL (l : Int) s c = match findUp (wAt s) (s.length - c) c with
      | some i => wdB l s (wBeg s i)
      | none => ((0, 0), [], false) := rfl
    generalize wordL (l : Int) s c = R at hR ⊢
    simp (maxSteps := 4000000) only [go_sem, Nat.reduceAdd, reduceCtorEq, Nat.reduceEqDiff, Nat.reduceBEq, tk3, tk9, tz9, dz9, tk22, tk25, tz25, dz25, kRPlace, aPos, hm, ←hs]
    refine ⟨⟨by omega, g2⟩, ?_⟩
    refine loopH_intro (α := Nat) (fun i => ([(3, .ptr 0 2 1 0 0), (4, .ptr 1 2 1 0 0), (5, .str []), (6, .bool false), (7, .ptr 2 1 1 0 0), (8, .fn 149 [.ptr 2 1 1 0 0]), (9, .int .i64 i)], [.arr 25 2 [.agg [.int .i64 l, .int .i64 c]], .arr 25 2 [.agg [.int .i64 0, .int .i64 0]], .frz 9 1 [.str s]]))
      (fun i => i ≤ s.length ∧ R = match findUp (wAt s) (s.length - i) i with
        | some i => wdB l s (wBeg s i)
        | none => ((0, 0), [], false)) (fun i => s.length - i) c ⟨by omega, hR⟩ ?_ ?_
    · simp (maxSteps := 4000000) only [go_sem, Nat.reduceAdd, reduceCtorEq, Nat.reduceEqDiff]
      exact ⟨by decide, subX_eq rfl rfl, subX_eq rfl rfl, subX_eq rfl rfl⟩
    rintro i ⟨hi, hR⟩
    by_cases hlt : i < s.length
    · have c1 : decide ((i : Int) < (s.length : Int)) = true := decide_eq_true (by omega)
      have w1 : IntKind.i64.wrap ((i : Int) + 1) = ((i + 1 : Nat) : Int) := by rw [wrap64 (by omega) (by omega)]; rfl
      have hw := isW_nat s i
      rw [decide_eq_true hlt, Bool.true_and] at hw
      rw [show s.length - i = (s.length - (i + 1)) + 1 by omega, findUp] at hR
      cases hb : wAt s i with
      | false =>
        rw [hb] at hw hR
        simp only [Bool.false_eq_true, if_false] at hR
        simp (maxSteps := 4000000) only [go_sem, Nat.reduceAdd, reduceCtorEq, Nat.reduceEqDiff, Nat.reduceBEq, tk9, dz9, kIsW, c1, w1, hw]
        exact ⟨i + 1, ⟨by omega, hR⟩, by omega, by decide, ⟨subX_eq rfl rfl, subX_eq rfl rfl, subX_eq rfl rfl⟩, rfl⟩
      | true =>
        rw [hb] at hw hR
        simp only [if_true] at hR
        have c2 : decide ((i : Int) ≥ (s.length : Int)) = false := decide_eq_false (by omega)
        simp (maxSteps := 4000000) only [go_sem, Nat.reduceAdd, Nat.reduceEqDiff, Nat.reduceBEq, tk9, dz9, kIsW, c1, hw, c2]
        refine loopH_intro (α := Nat) (fun k => ([(3, .ptr 0 2 1 0 0), (4, .ptr 1 2 1 0 0), (5, .str []), (6, .bool false), (7, .ptr 2 1 1 0 0), (8, .fn 149 [.ptr 2 1 1 0 0]), (9, .int .i64 k)], [.arr 25 2 [.agg [.int .i64 l, .int .i64 c]], .arr 25 2 [.agg [.int .i64 0, .int .i64 0]], .frz 9 1 [.str s]]))
          (fun k => k ≤ i ∧ R = wdB l s (wBeg s k)) (fun k => k) i ⟨by omega, hR⟩ ?_ ?_
        · simp (maxSteps := 4000000) only [go_sem, Nat.reduceAdd, reduceCtorEq, Nat.reduceEqDiff]
          exact ⟨by decide, subX_eq rfl rfl, subX_eq rfl rfl, subX_eq rfl rfl⟩
        rintro k ⟨hk, hR⟩
        cases hwk : isW s ((k : Int) - 1) with
        | true =>
          obtain ⟨j, rfl⟩ : ∃ j, k = j + 1 := by
            cases k with
            | zero =>
              unfold isW at hwk
              rw [decide_eq_false (by omega)] at hwk
              cases hwk
            | succ j => exact ⟨j, rfl⟩
          have e1 : (((j + 1 : Nat) : Int) - 1) = (j : Int) := by omega
          rw [e1, isW_nat, Bool.and_eq_true] at hwk
          rw [wBeg, if_pos hwk.2] at hR
          have w2 : IntKind.i64.wrap (((j + 1 : Nat) : Int) - 1) = (j : Int) := by rw [wrap64 (by omega) (by omega)]; omega
          have hw2 : isW s (j : Int) = true := by rw [isW_nat, Bool.and_eq_true]; exact hwk
          simp (maxSteps := 4000000) only [go_sem, Nat.reduceAdd, reduceCtorEq, Nat.reduceEqDiff, Nat.reduceBEq, kIsW, w2, hw2]
          exact ⟨j, ⟨by omega, hR⟩, by omega, by decide, ⟨subX_eq rfl rfl, subX_eq rfl rfl, subX_eq rfl rfl⟩, rfl⟩
        | false =>
          have w2 : IntKind.i64.wrap ((k : Int) - 1) = (k : Int) - 1 := wrap64 (by omega) (by omega)
          have hb0 : wBeg s k = k := by
            cases k with
            | zero => rfl
            | succ j =>
              have e1 : (((j + 1 : Nat) : Int) - 1) = (j : Int) := by omega
              rw [e1, isW_nat, decide_eq_true (by omega : j < s.length), Bool.true_and] at hwk
              rw [wBeg, if_neg (by rw [hwk]; simp)]
          rw [hb0] at hR
          simp (maxSteps := 4000000) only [go_sem, Nat.reduceAdd, Nat.reduceEqDiff, Nat.reduceBEq, kIsW, w2, hwk]
          refine loopH_intro (α := Nat) (fun m => ([(3, .ptr 0 2 1 0 0), (4, .ptr 1 2 1 0 0), (5, .str []), (6, .bool false), (7, .ptr 2 1 1 0 0), (8, .fn 149 [.ptr 2 1 1 0 0]), (9, .int .i64 k), (10, .int .i64 m)], [.arr 25 2 [.agg [.int .i64 l, .int .i64 c]], .arr 25 2 [.agg [.int .i64 0, .int .i64 0]], .frz 9 1 [.str s]]))
            (fun m => k ≤ m ∧ m ≤ s.length ∧ wEndF s k = (findUp (fun k => !wAt s k) (s.length - m) m).getD s.length) (fun m => s.length - m) k ⟨by omega, by omega, rfl⟩ ?_ ?_
          · simp (maxSteps := 4000000) only [go_sem, Nat.reduceAdd, reduceCtorEq, Nat.reduceEqDiff]
            exact ⟨by decide, subX_eq rfl rfl, subX_eq rfl rfl, subX_eq rfl rfl⟩
          rintro m ⟨hkm, hms, hE⟩
          cases hwm : isW s (m : Int) with
          | true =>
            have hwm' := hwm
            rw [isW_nat, Bool.and_eq_true, decide_eq_true_eq] at hwm'
            have w3 : IntKind.i64.wrap ((m : Int) + 1) = ((m + 1 : Nat) : Int) := by rw [wrap64 (by omega) (by omega)]; rfl
            rw [show s.length - m = (s.length - (m + 1)) + 1 by omega, findUp, if_neg (by rw [hwm'.2]; simp)] at hE
            simp (maxSteps := 4000000) only [go_sem, Nat.reduceAdd, reduceCtorEq, Nat.reduceEqDiff, Nat.reduceBEq, kIsW, hwm, w3]
            exact ⟨m + 1, ⟨by omega, by omega, hE⟩, by omega, by decide, ⟨subX_eq rfl rfl, subX_eq rfl rfl, subX_eq rfl rfl⟩, rfl⟩
          | false =>
            have hE2 : wEndF s k = m := by
              rw [hE]
              by_cases hml : m < s.length
              · rw [isW_nat, decide_eq_true hml, Bool.true_and] at hwm
                rw [show s.length - m = (s.length - (m + 1)) + 1 by omega, findUp, if_pos (by rw [hwm]; rfl)]; rfl
              · rw [show s.length - m = 0 by omega, findUp]
                show s.length = m
                omega
            rw [wdB, hE2] at hR
            subst hR
            simp (maxSteps := 4000000) only [go_sem, Nat.reduceAdd, Nat.reduceEqDiff, Nat.reduceBEq, Nat.reduceLeDiff, tk3, tk9, dz9, tk25, tz25, dz25, kIsW, aPos, aWd, hwm]
            exact ⟨⟨by omega, by omega, by omega⟩, by kernel_rfl⟩
    · have c1 : decide ((i : Int) < (s.length : Int)) = false := decide_eq_false (by omega)
      have c2 : decide ((i : Int) ≥ (s.length : Int)) = true := decide_eq_true (by omega)
      rw [show s.length - i = 0 by omega, findUp] at hR
      subst hR
      simp (maxSteps := 4000000) only [go_sem, Nat.reduceAdd, Nat.reduceEqDiff, Nat.reduceBEq, tk9, dz9, tk25, tz25, dz25, kIsW, aPos, aWd, c1, c2]
def kWord : C1 := C1.by [.sl 1 [], .id] (lCons cStrs (lOne cPos2)) (fun d => okText d.1) (fun d => aWd (wordP d.1 d.2)) (fun _ => [])
theorem ok_Word : C1OK Tryz.prog 143 kWord := C1OK.by (by kernel_rfl) (fun d h => calls_Word d.1 d.2 h) (fun _ => rfl) (fun _ => rfl)
end Go.Pg
namespace Go.Pg
open Go Go.Proofs

def kindF (c : UInt8) : UInt8 × UInt8 × Bool × Bool :=
  if c = 40 ∨ c = 41 then (40, 41, c == 40, true) else if c = 91 ∨ c = 93 then (91, 93, c == 91, true) else if c = 123 ∨ c = 125 then (123, 125, c == 123, true) else (0, 0, false, false)
def aKind (k : UInt8 × UInt8 × Bool × Bool) : AV := .tuple [byteA k.1, byteA k.2.1, .bool k.2.2.1, .bool k.2.2.2]
set_option maxHeartbeats 4000000 in
theorem calls_Kind (c : UInt8) : CallsR Tryz.prog 141 [byteA c] [] (aKind (kindF c)) [] := by
  refine callsR_of (mrg := true) (dyn := []) (CtrOK.nil _) mixed Tryz.func141 rfl (by simp [Tryz.ntmps141]) (by kernel_rfl) ?_
  rw [show Tryz.f141.results.toList = [.tmp 2, .tmp 3, .tmp 4, .tmp 5] from by kernel_rfl]
  by_cases h1 : c = 40
  · subst h1
    rw [show kindF 40 = (40, 41, true, true) by decide]
    simp (maxSteps := 4000000) only [go_sem, reduceCtorEq, Nat.reduceEqDiff, aKind, byteA, UInt8.reduceToNat]
    all_goals first | rfl | decide
  by_cases h2 : c = 41
  · subst h2
    rw [show kindF 41 = (40, 41, false, true) by decide]
    simp (maxSteps := 4000000) only [go_sem, reduceCtorEq, Nat.reduceEqDiff, Int.reduceBEq, aKind, byteA, UInt8.reduceToNat]
    all_goals first | rfl | decide
  by_cases h3 : c = 91
  · subst h3
    rw [show kindF 91 = (91, 93, true, true) by decide]
    simp (maxSteps := 4000000) only [go_sem, reduceCtorEq, Nat.reduceEqDiff, Int.reduceBEq, aKind, byteA, UInt8.reduceToNat]
    all_goals first | rfl | decide
  by_cases h4 : c = 93
  · subst h4
    rw [show kindF 93 = (91, 93, false, true) by decide]
    simp (maxSteps := 4000000) only [go_sem, reduceCtorEq, Nat.reduceEqDiff, Int.reduceBEq, aKind, byteA, UInt8.reduceToNat]
    all_goals first | rfl | decide
  by_cases h5 : c = 123
  · subst h5
    rw [show kindF 123 = (123, 125, true, true) by decide]
    simp (maxSteps := 4000000) only [go_sem, reduceCtorEq, Nat.reduceEqDiff, Int.reduceBEq, aKind, byteA, UInt8.reduceToNat]
    all_goals first | rfl | decide
  by_cases h6 : c = 125
  · subst h6
    rw [show kindF 125 = (123, 125, false, true) by decide]
    simp (maxSteps := 4000000) only [go_sem, reduceCtorEq, Nat.reduceEqDiff, Int.reduceBEq, aKind, byteA, UInt8.reduceToNat]
    all_goals first | rfl | decide
  have e1 := byte_lit c 40 40 rfl h1
  have e2 := byte_lit c 41 41 rfl h2
  have e3 := byte_lit c 91 91 rfl h3
  have e4 := byte_lit c 93 93 rfl h4
  have e5 := byte_lit c 123 123 rfl h5
  have e6 := byte_lit c 125 125 rfl h6
  have e : kindF c = (0, 0, false, false) := by
    unfold kindF
    rw [if_neg (by simp [h1, h2]), if_neg (by simp [h3, h4]), if_neg (by simp [h5, h6])]
  rw [e]
  simp (maxSteps := 4000000) only [go_sem, reduceCtorEq, Nat.reduceEqDiff, aKind, byteA, UInt8.reduceToNat, e1, e2, e3, e4, e5, e6]
  all_goals first | rfl | decide
def kKind : C1 := C1.by [.id] (lOne cByte) (fun _ => True) (fun d => aKind (kindF d)) (fun _ => [])
theorem ok_Kind : C1OK Tryz.prog 141 kKind := C1OK.by (by kernel_rfl) (fun d _ => calls_Kind d) (fun _ => rfl) (fun _ => rfl)

def lineEndB (ls : Ls) (l : Nat) : Int × Int := ((l : Int), ((ls.getD l []).length : Int) - 1)
def lineBegB (l : Nat) : Int × Int := ((l : Int), 0)
def full (ls : Ls) (l : Nat) : Bool := (ls.getD l []).length != 0
/-- The next byte's place. -/
def nextB (ls : Ls) (p : Int × Int) (back : Bool) : Option (Int × Int) :=
  if back = true then (if p.2 - 1 ≥ 0 then some (p.1, p.2 - 1) else (findDn (full ls) p.1.toNat).map (lineEndB ls))
  else (if p.2 + 1 < (ls.getD p.1.toNat []).length then some (p.1, p.2 + 1) else (findUp (full ls) (ls.length - (p.1.toNat + 1)) (p.1.toNat + 1)).map lineBegB)
def aOpt (r : Option (Int × Int)) : AV := .tuple [aPos (r.getD (0, 0)), .bool r.isSome]

set_option maxRecDepth 20000 in
set_option maxHeartbeats 4000000 in
theorem calls_bnext (ls : Ls) (p : Int × Int) (back : Bool) (hf : okText ls) (h0 : 0 ≤ p.1) (h1 : p.1 < ls.length) (h2 : 0 ≤ p.2) (h3 : p.2 ≤ 65536) :
    CallsR Tryz.prog 148 [.sl 1 (ls.map .str), aPos p, .bool back] [] (aOpt (nextB ls p back)) [] := by
  obtain ⟨p1, p2⟩ := p
  dsimp only at h0 h1 h2 h3
  refine callsR_of (mrg := true) (dyn := []) (CtrOK.nil _) mixed Tryz.func148 rfl (by simp [Tryz.ntmps148]) (by kernel_rfl) ?_
  rw [show Tryz.f148.results.toList = [.cell 6 25, .tmp 7] from by kernel_rfl]
  obtain ⟨l, rfl⟩ := Int.eq_ofNat_of_zero_le h0
  have hll := hf.1
  cases back with
  | true =>
    have w1 : IntKind.i64.wrap (p2 - 1) = p2 - 1 := wrap64 (by omega) (by omega)
    have hR : nextB ls ((l : Int), p2) true = if p2 - 1 ≥ 0 then some ((l : Int), p2 - 1) else (findDn (full ls) l).map (lineEndB ls) := rfl
    generalize nextB ls ((l : Int), p2) true = R at hR ⊢
    simp (maxSteps := 4000000) only [go_sem, Nat.reduceAdd, reduceCtorEq, Nat.reduceEqDiff, tk3, tk25, tz25, dz25, aPos, w1]
    refine loopH_intro (α := Nat × Int) (fun x => ([(0, .sl 1 (ls.map .str)), (4, .ptr 0 2 1 0 0), (6, .ptr 1 2 1 0 0)], [.arr 25 2 [.agg [.int .i64 x.1, .int .i64 x.2]], .arr 25 2 [.agg [.int .i64 0, .int .i64 0]]]))
      (fun x => x.1 < ls.length ∧ -1 ≤ x.2 ∧ x.2 ≤ 65536 ∧ R = if x.2 ≥ 0 then some ((x.1 : Int), x.2) else (findDn (full ls) x.1).map (lineEndB ls)) (fun x => x.1) (l, p2 - 1) ⟨by dsimp only; omega, by dsimp only; omega, by dsimp only; omega, hR⟩ ?_ ?_
    · simp (maxSteps := 4000000) only [go_sem, reduceCtorEq, Nat.reduceEqDiff]
      exact ⟨by decide, subX_eq rfl rfl, subX_eq rfl rfl⟩
    rintro ⟨i, c⟩ ⟨hi, hc1, hc2, hR⟩
    dsimp only at hi hc1 hc2 hR
    by_cases hc : c ≥ 0
    · have c1 : decide (c < 0) = false := decide_eq_false (by omega)
      rw [if_pos hc] at hR
      subst hR
      simp (maxSteps := 4000000) only [go_sem, Nat.reduceAdd, reduceCtorEq, Nat.reduceEqDiff, tk3, tk25, dz25, aPos, aOpt, c1]
    · have c1 : decide (c < 0) = true := decide_eq_true (by omega)
      rw [if_neg hc] at hR
      cases i with
      | zero =>
        have w2 : IntKind.i64.wrap ((0 : Int) - 1) = -1 := rfl
        rw [findDn] at hR
        subst hR
        simp (maxSteps := 4000000) only [go_sem, Nat.reduceAdd, reduceCtorEq, Nat.reduceEqDiff, Int.reduceToNat, Int.reduceLE, Int.reduceLT, Nat.reduceLeDiff, tk3, tk9, dz9, tk22, tk25, tz25, dz25, aPos, aOpt, c1, w2]
        all_goals (try exact ⟨⟨rfl, rfl⟩, rfl⟩)
      | succ i =>
        have w2 : IntKind.i64.wrap (((i + 1 : Nat) : Int) - 1) = (i : Int) := by rw [wrap64 (by omega) (by omega)]; omega
        have c2 : decide ((i : Int) < 0) = false := decide_eq_false (by omega)
        have h6 := fits_getD hf i
        have w3 : IntKind.i64.wrap (((ls.getD i []).length : Int) - 1) = ((ls.getD i []).length : Int) - 1 := wrap64 (by omega) (by omega)
        rw [findDn] at hR
        have hR2 : R = if ((ls.getD i []).length : Int) - 1 ≥ 0 then some ((i : Int), ((ls.getD i []).length : Int) - 1) else (findDn (full ls) i).map (lineEndB ls) := by
          rw [hR]
          by_cases hfl : (ls.getD i []).length = 0
          · rw [if_neg (by simp only [full, bne_iff_ne, ne_eq, hfl]; simp), if_neg (by omega)]
          · rw [if_pos (by simp only [full, bne_iff_ne, ne_eq, hfl]; simp), if_pos (by omega)]; rfl
        simp (maxSteps := 4000000) only [go_sem, Nat.reduceAdd, reduceCtorEq, Nat.reduceEqDiff, Nat.reduceLeDiff, tk3, tk9, dz9, tk22, tk25, dz25, c1, w2, c2, w3]
        exact ⟨⟨by omega, by omega⟩, (i, _), ⟨by dsimp only; omega, by dsimp only; omega, by dsimp only; omega, hR2⟩, by dsimp only; omega, by decide, subX_eq rfl rfl, subX_eq rfl rfl⟩
  | false =>
    have w1 : IntKind.i64.wrap (p2 + 1) = p2 + 1 := wrap64 (by omega) (by omega)
    have hR : nextB ls ((l : Int), p2) false = if p2 + 1 < (ls.getD l []).length then some ((l : Int), p2 + 1) else (findUp (full ls) (ls.length - (l + 1)) (l + 1)).map lineBegB := rfl
    generalize nextB ls ((l : Int), p2) false = R at hR ⊢
    simp (maxSteps := 4000000) only [go_sem, Nat.reduceAdd, reduceCtorEq, Nat.reduceEqDiff, tk3, tk25, tz25, dz25, aPos, w1]
    refine loopH_intro (α := Nat × Int) (fun x => ([(0, .sl 1 (ls.map .str)), (4, .ptr 0 2 1 0 0), (6, .ptr 1 2 1 0 0)], [.arr 25 2 [.agg [.int .i64 x.1, .int .i64 x.2]], .arr 25 2 [.agg [.int .i64 0, .int .i64 0]]]))
      (fun x => x.1 < ls.length ∧ 0 ≤ x.2 ∧ x.2 ≤ 65537 ∧ R = if x.2 < (ls.getD x.1 []).length then some ((x.1 : Int), x.2) else (findUp (full ls) (ls.length - (x.1 + 1)) (x.1 + 1)).map lineBegB) (fun x => ls.length - x.1) (l, p2 + 1) ⟨by dsimp only; omega, by dsimp only; omega, by dsimp only; omega, hR⟩ ?_ ?_
    · simp (maxSteps := 4000000) only [go_sem, reduceCtorEq, Nat.reduceEqDiff]
      exact ⟨by decide, subX_eq rfl rfl, subX_eq rfl rfl⟩
    rintro ⟨i, c⟩ ⟨hi, hc1, hc2, hR⟩
    dsimp only at hi hc1 hc2 hR
    by_cases hc : c < (ls.getD i []).length
    · have c1 : decide (c ≥ ((ls.getD i []).length : Int)) = false := decide_eq_false (by omega)
      rw [if_pos hc] at hR
      subst hR
      simp (maxSteps := 4000000) only [go_sem, Nat.reduceAdd, reduceCtorEq, Nat.reduceEqDiff, tk3, tk9, dz9, tk22, tk25, dz25, aPos, aOpt, c1]
      exact ⟨by omega, by omega⟩
    · have c1 : decide (c ≥ ((ls.getD i []).length : Int)) = true := decide_eq_true (by omega)
      have w2 : IntKind.i64.wrap ((i : Int) + 1) = ((i + 1 : Nat) : Int) := by rw [wrap64 (by omega) (by omega)]; rfl
      rw [if_neg hc] at hR
      by_cases he : i + 1 < ls.length
      · have c2 : decide (((i + 1 : Nat) : Int) ≥ (ls.length : Int)) = false := decide_eq_false (by omega)
        rw [show ls.length - (i + 1) = (ls.length - (i + 1 + 1)) + 1 by omega, findUp] at hR
        have hR2 : R = if (0 : Int) < (ls.getD (i + 1) []).length then some (((i + 1 : Nat) : Int), 0) else (findUp (full ls) (ls.length - (i + 1 + 1)) (i + 1 + 1)).map lineBegB := by
          rw [hR]
          by_cases hfl : (ls.getD (i + 1) []).length = 0
          · rw [if_neg (by simp only [full, bne_iff_ne, ne_eq, hfl]; simp), if_neg (by omega)]
          · rw [if_pos (by simp only [full, bne_iff_ne, ne_eq, hfl]; simp), if_pos (by omega)]; rfl
        simp (maxSteps := 4000000) only [go_sem, Nat.reduceAdd, reduceCtorEq, Nat.reduceEqDiff, Nat.reduceLeDiff, tk3, tk9, dz9, tk22, tk25, dz25, c1, w2, c2]
        exact ⟨⟨by omega, by omega⟩, (i + 1, 0), ⟨by dsimp only; omega, by dsimp only; omega, by dsimp only; omega, hR2⟩, by dsimp only; omega, by decide, subX_eq rfl rfl, subX_eq rfl rfl⟩
      · have c2 : decide (((i + 1 : Nat) : Int) ≥ (ls.length : Int)) = true := decide_eq_true (by omega)
        rw [show ls.length - (i + 1) = 0 by omega, findUp] at hR
        subst hR
        simp (maxSteps := 4000000) only [go_sem, Nat.reduceAdd, reduceCtorEq, Nat.reduceEqDiff, Nat.reduceLeDiff, tk3, tk9, dz9, tk22, tk25, tz25, dz25, aPos, aOpt, c1, w2, c2]
        exact ⟨by omega, by omega⟩
def kBNext : C1 := C1.by [.sl 1 [], .id, .id] (lCons cStrs (lCons cPos2 (lOne cBool))) (fun d => okText d.1 ∧ 0 ≤ d.2.1.1 ∧ d.2.1.1 < d.1.length ∧ 0 ≤ d.2.1.2 ∧ d.2.1.2 ≤ 65536) (fun d => aOpt (nextB d.1 d.2.1 d.2.2)) (fun _ => [])
theorem ok_bnext : C1OK Tryz.prog 148 kBNext := C1OK.by (by kernel_rfl) (fun d h => calls_bnext d.1 d.2.1 d.2.2 h.1 h.2.1 h.2.2.1 h.2.2.2.1 h.2.2.2.2) (fun _ => rfl) (fun _ => rfl)
end Go.Pg
