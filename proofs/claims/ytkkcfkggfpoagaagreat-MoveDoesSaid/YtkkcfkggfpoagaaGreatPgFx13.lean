/- The document's motions by paragraphs. The document's marks: set, asked, moved. Where words begin, by the document. -/
import Derived.Test.YtkkcfkggfpoagaaGreatPgBs
import Derived.Test.YtkkcfkggfpoagaaGreatPgFx6
import Derived.Test.YtkkcfkggfpoagaaGreatPgFx12
import Derived.Test.YtkkcfkggfpoagaaGreatPgFx11
import Derived.Test.YtkkcfkggfpoagaaGreatPgFx1
set_option linter.unusedVariables false
set_option linter.unusedSimpArgs false
namespace Go.Pg
open Go Go.Proofs

set_option maxRecDepth 20000 in
set_option maxHeartbeats 8000000 in
theorem calls_RParaNext (ls : Ls) (p : Int × Int) (n : Int) (op : Bool) (hf : okText ls) (hn : n ≤ 9223372036854775807) :
    CallsR Tryz.prog 62 [.sl 1 (ls.map .str), aPos p, .int .i64 n, .bool op] [] (aMove (parNextP ls p n op)) [] := by
  refine callsR_of (mrg := true) (dyn := []) (CtrOK.cons ok_may (CtrOK.cons ok_none (CtrOK.cons ok_end (CtrOK.cons ok_RLess (CtrOK.cons ok_Rjump (CtrOK.nil _)))))) mixed Tryz.func62 rfl (by simp [Tryz.ntmps62]) (by kernel_rfl) ?_
  rw [show Tryz.f62.results.toList = [.cell 8 49, .tmp 9] from by kernel_rfl]
  have hm := may_iff ls p n
  have h8 := hf.1
  unfold parNextP whenMay
  cases hmm : may ls p n with
  | false =>
    rw [if_neg (by simp)]
    obtain ⟨p1, p2⟩ := p
    simp (maxSteps := 4000000) only [go_sem, Nat.reduceAdd, reduceCtorEq, Nat.reduceEqDiff, tk25, dz25, tk49, tz49, dz49, kMay, kNone, aPos, aMove, aMv, mNone, hmm]
  | true =>
    rw [if_pos rfl]
    have hi := hm.1 hmm
    obtain ⟨e, he⟩ : ∃ e, e = (ls.getD (ls.length - 1) []).length := ⟨_, rfl⟩
    have hll : e ≤ 65536 := by rw [he]; exact fits_getD hf (ls.length - 1)
    obtain ⟨k0, rfl⟩ := Int.eq_ofNat_of_zero_le (show 0 ≤ n by omega)
    have hR : goes (fun q => nextPar ls q.1 op) (less) ((k0 : Int)).toNat p = goes (fun q => nextPar ls q.1 op) (less) k0 p := rfl
    rw [hR]
    clear hR
    obtain ⟨R, hR⟩ : ∃ R, R = goes (fun q => nextPar ls q.1 op) (less) k0 p := ⟨_, rfl⟩
    rw [← hR]
    obtain ⟨p1, p2⟩ := p
    have hlen : 0 < ls.length := by have : p1.toNat < ls.length := hi.2.2.1; omega
    have hz : 0 < ls.length ∧ ls.length ≤ 140737488355328 := ⟨hlen, by omega⟩
    have w3 : IntKind.i64.wrap ((e : Int) - 1) = (e : Int) - 1 := wrap64 (by omega) (by omega)
    obtain ⟨g, hg0⟩ : ∃ g : Int, g = if op = true then (e : Int) else max ((e : Int) - 1) 0 := ⟨_, rfl⟩
    have hlp : lastPos ls op = ((ls.length : Int) - 1, g) := by unfold lastPos; rw [← he, hg0]
    have D : ((!op) = false ∧ (e : Int) = g) ∨ ((!op) = true ∧ max ((e : Int) - 1) 0 = g) := by
      cases op
      · exact .inr ⟨rfl, by rw [hg0, if_neg (by simp)]⟩
      · exact .inl ⟨rfl, by rw [hg0, if_pos rfl]⟩
    simp (maxSteps := 4000000) only [go_sem, Nat.reduceAdd, reduceCtorEq, Nat.reduceEqDiff, tk25, dz25, tz49, kMay, kNone, aPos, hmm]
    refine loopH_intro (α := Nat × Int × Int) (fun x => ([(0, .sl 1 (ls.map .str)), (2, .int .i64 x.1), (3, .bool op), (5, .ptr 0 2 1 0 0), (8, .ptr 1 5 1 0 0), (9, .bool false)], [.arr 25 2 [.agg [.int .i64 x.2.1, .int .i64 x.2.2]], .arr 49 5 [.agg [.int .i64 0, .int .i64 0, .int .i64 0, .bool false, .int .i64 0]]]))
      (fun x => x.1 ≤ k0 ∧ 0 ≤ x.2.1 ∧ x.2.1 < ls.length ∧ R = goes (fun q => nextPar ls q.1 op) (less) x.1 x.2) (fun x => x.1) (k0, p1, p2) ⟨Nat.le_refl _, hi.2.1, by have : p1.toNat < ls.length := hi.2.2.1; show p1 < _; omega, hR⟩ ?_ ?_
    · simp (maxSteps := 4000000) only [go_sem, reduceCtorEq, Nat.reduceEqDiff]
      (repeat' first | exact subX_eq rfl rfl | apply And.intro | decide | rfl)
    rintro ⟨m, q1, q2⟩ ⟨hk, hq1, hq2, hR⟩
    dsimp only at hk hq1 hq2 hR
    cases m with
    | zero =>
      rw [goes] at hR
      subst hR
      simp (maxSteps := 4000000) only [go_sem, Nat.reduceAdd, reduceCtorEq, Nat.reduceEqDiff, tk25, dz25, tk49, dz49, kRJump, aMove, aMv, jumpO, jumpM, Int.reduceGT, decide_false]
    | succ m =>
      obtain ⟨l, rfl⟩ := Int.eq_ofNat_of_zero_le hq1
      have c1 : decide (((m + 1 : Nat) : Int) > 0) = true := decide_eq_true (by omega)
      have w1 : IntKind.i64.wrap (((m + 1 : Nat) : Int) - 1) = (m : Int) := by rw [wrap64 (by omega) (by omega)]; omega
      have w2 : IntKind.i64.wrap ((l : Int) + 1) = ((l + 1 : Nat) : Int) := by rw [wrap64 (by omega) (by omega)]; rfl
      have hin := nextPar_in (ls := ls) (l := (l : Int)) (op := op) hlen
      obtain ⟨t, ht⟩ : ∃ t, t = nextPar ls (l : Int) op := ⟨_, rfl⟩
      have ht2 : t = match findUp (parEnd ls) (ls.length - (l + 1)) (l + 1) with
        | some i => ((i : Int), 0)
        | none => lastPos ls op := ht
      rw [hlp] at ht2
      rw [goes] at hR
      dsimp only at hR
      rw [← ht] at hR hin
      have hP : ∀ (u1 u2 : Int), t = (u1, u2) → (less ((l : Int), q2) (u1, u2) = true ∧ 0 ≤ u1 ∧ u1 < ls.length ∧ R = goes (fun q => nextPar ls q.1 op) (less) m (u1, u2)) ∨ (less ((l : Int), q2) (u1, u2) = false ∧ R = none) := by
        rintro u1 u2 rfl
        cases hg : less ((l : Int), q2) (u1, u2) with
        | true => rw [hg, if_pos rfl] at hR; exact .inl ⟨rfl, hin.1, hin.2, hR⟩
        | false => rw [hg, if_neg (by simp)] at hR; exact .inr ⟨rfl, hR⟩
      rcases D with ⟨b1, b2⟩ | ⟨b1, b2⟩
      all_goals
        simp (maxSteps := 4000000) only [go_sem, Nat.reduceAdd, reduceCtorEq, Nat.reduceEqDiff, tk3, tk25, tz25, dz25, kEnd, aPos, c1, w2, ←he, w3, b1, b2]
        refine ⟨hz, ?_⟩
        refine loopH_intro (α := Nat) (fun i => ([(0, .sl 1 (ls.map .str)), (2, .int .i64 ((m + 1 : Nat) : Int)), (3, .bool op), (5, .ptr 0 2 1 0 0), (8, .ptr 1 5 1 0 0), (9, .bool false), (10, .ptr 2 2 1 0 0), (11, .int .i64 i)], [.arr 25 2 [.agg [.int .i64 l, .int .i64 q2]], .arr 49 5 [.agg [.int .i64 0, .int .i64 0, .int .i64 0, .bool false, .int .i64 0]], .arr 25 2 [.agg [.int .i64 ((ls.length : Int) - 1), .int .i64 g]]]))
          (fun i => l + 1 ≤ i ∧ i ≤ ls.length ∧ t = match findUp (parEnd ls) (ls.length - i) i with
            | some i => ((i : Int), 0)
            | none => ((ls.length : Int) - 1, g)) (fun i => ls.length - i) (l + 1) ⟨by omega, by omega, ht2⟩ ?_ ?_
        · simp (maxSteps := 4000000) only [go_sem, Nat.reduceAdd, reduceCtorEq, Nat.reduceEqDiff]
          (repeat' first | exact subX_eq rfl rfl | apply And.intro | decide | rfl)
        rintro i ⟨hi1, hi2, hT⟩
        by_cases hil : i < ls.length
        · have c2 : decide ((i : Int) < (ls.length : Int)) = true := decide_eq_true (by omega)
          have w4 : IntKind.i64.wrap ((i : Int) + 1) = ((i + 1 : Nat) : Int) := by rw [wrap64 (by omega) (by omega)]; rfl
          have w5 : IntKind.i64.wrap ((i : Int) - 1) = (i : Int) - 1 := wrap64 (by omega) (by omega)
          have e5 : ((i : Int) - 1).toNat = i - 1 := by omega
          rw [show ls.length - i = (ls.length - (i + 1)) + 1 by omega, findUp] at hT
          have hpe : parEnd ls i = (ls.getD i [] == [] && !(ls.getD (i - 1) [] == [])) := rfl
          cases d1 : (ls.getD i [] == []) with
          | false =>
            rw [hpe, d1, Bool.false_and, if_neg (by simp)] at hT
            simp (maxSteps := 4000000) only [go_sem, Nat.reduceAdd, reduceCtorEq, Nat.reduceEqDiff, tk9, dz9, tk22, c2, w4, d1]
            refine ⟨⟨by omega, hil⟩, i + 1, ⟨by omega, by omega, hT⟩, by omega, ?_⟩
            (repeat' first | exact subX_eq rfl rfl | apply And.intro | decide | rfl)
          | true =>
            cases d2 : (ls.getD (i - 1) [] == []) with
            | true =>
              rw [hpe, d1, d2, Bool.not_true, Bool.and_false, if_neg (by simp)] at hT
              simp (maxSteps := 4000000) only [go_sem, Nat.reduceAdd, reduceCtorEq, Nat.reduceEqDiff, tk9, dz9, tk22, c2, w4, w5, e5, d1, d2]
              refine ⟨⟨by omega, hil⟩, ⟨by omega, by omega⟩, i + 1, ⟨by omega, by omega, hT⟩, by omega, ?_⟩
              (repeat' first | exact subX_eq rfl rfl | apply And.intro | decide | rfl)
            | false =>
              rw [hpe, d1, d2, if_pos (show (true && !false) = true from rfl)] at hT
              rcases hP _ _ hT with ⟨f1, f2, f3, f4⟩ | ⟨f1, f2⟩
              · simp (maxSteps := 4000000) only [go_sem, Nat.reduceAdd, reduceCtorEq, Nat.reduceEqDiff, Nat.reduceLeDiff, tk9, dz9, tk22, tk25, tz25, dz25, tk49, kLess, c2, w1, w5, e5, d1, d2, f1]
                refine ⟨⟨by omega, hil⟩, ⟨by omega, by omega⟩, (m, (i : Int), 0), ⟨by dsimp only; omega, f2, f3, f4⟩, by dsimp only; omega, ?_⟩
                (repeat' first | exact subX_eq rfl rfl | apply And.intro | decide | rfl)
              · subst f2
                simp (maxSteps := 4000000) only [go_sem, Nat.reduceAdd, reduceCtorEq, Nat.reduceEqDiff, Nat.reduceLeDiff, tk9, dz9, tk22, tk25, tz25, dz25, tk49, dz49, kLess, kNone, aMove, aMv, mNone, jumpO, c2, w5, e5, d1, d2, f1]
                (repeat' first | apply And.intro | omega)
        · have c2 : decide ((i : Int) < (ls.length : Int)) = false := decide_eq_false (by omega)
          rw [show ls.length - i = 0 by omega, findUp] at hT
          rcases hP _ _ hT with ⟨f1, f2, f3, f4⟩ | ⟨f1, f2⟩
          · simp (maxSteps := 4000000) only [go_sem, Nat.reduceAdd, reduceCtorEq, Nat.reduceEqDiff, tk22, tk25, dz25, tk49, kLess, c2, w1, f1]
            refine ⟨(m, (ls.length : Int) - 1, g), ⟨by dsimp only; omega, f2, f3, f4⟩, by dsimp only; omega, ?_⟩
            (repeat' first | exact subX_eq rfl rfl | apply And.intro | decide | rfl)
          · subst f2
            simp (maxSteps := 4000000) only [go_sem, Nat.reduceAdd, reduceCtorEq, Nat.reduceEqDiff, tk22, tk25, dz25, tk49, dz49, kLess, kNone, aMove, aMv, mNone, jumpO, c2, f1]

set_option maxRecDepth 20000 in
set_option maxHeartbeats 8000000 in
theorem calls_RParaBack (ls : Ls) (p : Int × Int) (n : Int) (hf : okText ls) (hn : n ≤ 9223372036854775807) :
    CallsR Tryz.prog 63 [.sl 1 (ls.map .str), aPos p, .int .i64 n] [] (aMove (parBackP ls p n)) [] := by
  refine callsR_of (mrg := true) (dyn := []) (CtrOK.cons ok_may (CtrOK.cons ok_none (CtrOK.cons ok_RLess (CtrOK.cons ok_Rjump (CtrOK.nil _))))) mixed Tryz.func63 rfl (by simp [Tryz.ntmps63]) (by kernel_rfl) ?_
  rw [show Tryz.f63.results.toList = [.cell 6 49, .tmp 7] from by kernel_rfl]
  have hm := may_iff ls p n
  have h8 := hf.1
  unfold parBackP whenMay
  cases hmm : may ls p n with
  | false =>
    rw [if_neg (by simp)]
    obtain ⟨p1, p2⟩ := p
    simp (maxSteps := 4000000) only [go_sem, Nat.reduceAdd, reduceCtorEq, Nat.reduceEqDiff, tk25, dz25, tk49, tz49, dz49, kMay, kNone, aPos, aMove, aMv, mNone, hmm]
  | true =>
    rw [if_pos rfl]
    have hi := hm.1 hmm
    obtain ⟨k0, rfl⟩ := Int.eq_ofNat_of_zero_le (show 0 ≤ n by omega)
    have hR : goes (fun q => backPar ls q.1) (fun a b => less b a) ((k0 : Int)).toNat p = goes (fun q => backPar ls q.1) (fun a b => less b a) k0 p := rfl
    rw [hR]
    clear hR
    obtain ⟨R, hR⟩ : ∃ R, R = goes (fun q => backPar ls q.1) (fun a b => less b a) k0 p := ⟨_, rfl⟩
    rw [← hR]
    obtain ⟨p1, p2⟩ := p
    simp (maxSteps := 4000000) only [go_sem, Nat.reduceAdd, reduceCtorEq, Nat.reduceEqDiff, tk25, dz25, tz49, kMay, kNone, aPos, hmm]
    refine loopH_intro (α := Nat × Int × Int) (fun x => ([(0, .sl 1 (ls.map .str)), (2, .int .i64 x.1), (4, .ptr 0 2 1 0 0), (6, .ptr 1 5 1 0 0), (7, .bool false)], [.arr 25 2 [.agg [.int .i64 x.2.1, .int .i64 x.2.2]], .arr 49 5 [.agg [.int .i64 0, .int .i64 0, .int .i64 0, .bool false, .int .i64 0]]]))
      (fun x => x.1 ≤ k0 ∧ 0 ≤ x.2.1 ∧ x.2.1 < ls.length ∧ R = goes (fun q => backPar ls q.1) (fun a b => less b a) x.1 x.2) (fun x => x.1) (k0, p1, p2) ⟨Nat.le_refl _, hi.2.1, by have : p1.toNat < ls.length := hi.2.2.1; show p1 < _; omega, hR⟩ ?_ ?_
    · simp (maxSteps := 4000000) only [go_sem, reduceCtorEq, Nat.reduceEqDiff]
      (repeat' first | exact subX_eq rfl rfl | apply And.intro | decide | rfl)
    rintro ⟨m, q1, q2⟩ ⟨hk, hq1, hq2, hR⟩
    dsimp only at hk hq1 hq2 hR
    cases m with
    | zero =>
      rw [goes] at hR
      subst hR
      simp (maxSteps := 4000000) only [go_sem, Nat.reduceAdd, reduceCtorEq, Nat.reduceEqDiff, tk25, dz25, tk49, dz49, kRJump, aMove, aMv, jumpO, jumpM, Int.reduceGT, decide_false]
    | succ m =>
      obtain ⟨l, rfl⟩ := Int.eq_ofNat_of_zero_le hq1
      have c1 : decide (((m + 1 : Nat) : Int) > 0) = true := decide_eq_true (by omega)
      have w1 : IntKind.i64.wrap (((m + 1 : Nat) : Int) - 1) = (m : Int) := by rw [wrap64 (by omega) (by omega)]; omega
      have w2 : IntKind.i64.wrap ((l : Int) - 1) = (l : Int) - 1 := wrap64 (by omega) (by omega)
      have hin := backPar_in (ls := ls) (l := (l : Int)) hq2 hq1
      obtain ⟨t, ht⟩ : ∃ t, t = backPar ls (l : Int) := ⟨_, rfl⟩
      have ht2 : t = match findDn (parBeg ls) l with
        | some i => ((i : Int), 0)
        | none => (0, 0) := ht
      rw [goes] at hR
      dsimp only at hR
      rw [← ht] at hR hin
      have hP : ∀ (u1 u2 : Int), t = (u1, u2) → (less (u1, u2) ((l : Int), q2) = true ∧ 0 ≤ u1 ∧ u1 < ls.length ∧ R = goes (fun q => backPar ls q.1) (fun a b => less b a) m (u1, u2)) ∨ (less (u1, u2) ((l : Int), q2) = false ∧ R = none) := by
        rintro u1 u2 rfl
        cases hg : less (u1, u2) ((l : Int), q2) with
        | true => rw [hg, if_pos rfl] at hR; exact .inl ⟨rfl, hin.1, hin.2, hR⟩
        | false => rw [hg, if_neg (by simp)] at hR; exact .inr ⟨rfl, hR⟩
      simp (maxSteps := 4000000) only [go_sem, Nat.reduceAdd, reduceCtorEq, Nat.reduceEqDiff, tk3, tk25, tz25, dz25, c1, w2]
      refine loopH_intro (α := Nat) (fun i => ([(0, .sl 1 (ls.map .str)), (2, .int .i64 ((m + 1 : Nat) : Int)), (4, .ptr 0 2 1 0 0), (6, .ptr 1 5 1 0 0), (7, .bool false), (8, .ptr 2 2 1 0 0), (9, .int .i64 ((i : Int) - 1))], [.arr 25 2 [.agg [.int .i64 l, .int .i64 q2]], .arr 49 5 [.agg [.int .i64 0, .int .i64 0, .int .i64 0, .bool false, .int .i64 0]], .arr 25 2 [.agg [.int .i64 0, .int .i64 0]]]))
        (fun i => i ≤ l ∧ t = match findDn (parBeg ls) i with
          | some i => ((i : Int), 0)
          | none => (0, 0)) (fun i => i) l ⟨Nat.le_refl _, ht2⟩ ?_ ?_
      · simp (maxSteps := 4000000) only [go_sem, Nat.reduceAdd, reduceCtorEq, Nat.reduceEqDiff]
        (repeat' first | exact subX_eq rfl rfl | apply And.intro | decide | rfl)
      rintro i ⟨hi1, hT⟩
      cases i with
      | succ i =>
        have z1 : (((i + 1 : Nat) : Int) - 1) = (i : Int) := by omega
        have c2 : decide ((i : Int) ≥ 0) = true := decide_eq_true (by omega)
        have w4 : IntKind.i64.wrap ((i : Int) + 1) = ((i + 1 : Nat) : Int) := by rw [wrap64 (by omega) (by omega)]; rfl
        have w5 : IntKind.i64.wrap ((i : Int) - 1) = (i : Int) - 1 := wrap64 (by omega) (by omega)
        rw [findDn] at hT
        have hpe : parBeg ls i = (ls.getD i [] == [] && !(ls.getD (i + 1) [] == [])) := rfl
        cases d1 : (ls.getD i [] == []) with
        | false =>
          rw [hpe, d1, Bool.false_and, if_neg (by simp)] at hT
          simp (maxSteps := 4000000) only [go_sem, Nat.reduceAdd, reduceCtorEq, Nat.reduceEqDiff, tk9, dz9, tk22, z1, c2, w5, d1]
          refine ⟨⟨by omega, by omega⟩, i, ⟨by omega, hT⟩, by omega, ?_⟩
          (repeat' first | exact subX_eq rfl rfl | apply And.intro | decide | rfl)
        | true =>
          cases d2 : (ls.getD (i + 1) [] == []) with
          | true =>
            rw [hpe, d1, d2, Bool.not_true, Bool.and_false, if_neg (by simp)] at hT
            simp (maxSteps := 4000000) only [go_sem, Nat.reduceAdd, reduceCtorEq, Nat.reduceEqDiff, tk9, dz9, tk22, z1, c2, w4, w5, d1, d2]
            refine ⟨⟨by omega, by omega⟩, ⟨by omega, by omega⟩, i, ⟨by omega, hT⟩, by omega, ?_⟩
            (repeat' first | exact subX_eq rfl rfl | apply And.intro | decide | rfl)
          | false =>
            rw [hpe, d1, d2, if_pos (show (true && !false) = true from rfl)] at hT
            rcases hP _ _ hT with ⟨f1, f2, f3, f4⟩ | ⟨f1, f2⟩
            · simp (maxSteps := 4000000) only [go_sem, Nat.reduceAdd, reduceCtorEq, Nat.reduceEqDiff, Nat.reduceLeDiff, tk9, dz9, tk22, tk25, tz25, dz25, tk49, kLess, z1, c2, w1, w4, d1, d2, f1]
              refine ⟨⟨by omega, by omega⟩, ⟨by omega, by omega⟩, (m, (i : Int), 0), ⟨by dsimp only; omega, f2, f3, f4⟩, by dsimp only; omega, ?_⟩
              (repeat' first | exact subX_eq rfl rfl | apply And.intro | decide | rfl)
            · subst f2
              simp (maxSteps := 4000000) only [go_sem, Nat.reduceAdd, reduceCtorEq, Nat.reduceEqDiff, Nat.reduceLeDiff, tk9, dz9, tk22, tk25, tz25, dz25, tk49, dz49, kLess, kNone, aMove, aMv, mNone, jumpO, z1, c2, w4, d1, d2, f1]
              (repeat' first | apply And.intro | omega)
      | zero =>
        have c2 : decide ((((0 : Nat) : Int) - 1) ≥ 0) = false := by decide
        rw [findDn] at hT
        rcases hP _ _ hT with ⟨f1, f2, f3, f4⟩ | ⟨f1, f2⟩
        · simp (maxSteps := 4000000) only [go_sem, Nat.reduceAdd, reduceCtorEq, Nat.reduceEqDiff, tk25, dz25, tk49, kLess, Int.reduceSub, Int.reduceGE, decide_false, w1, f1]
          refine ⟨(m, 0, 0), ⟨by dsimp only; omega, f2, f3, f4⟩, by dsimp only; omega, ?_⟩
          (repeat' first | exact subX_eq rfl rfl | apply And.intro | decide | rfl)
        · subst f2
          simp (maxSteps := 4000000) only [go_sem, Nat.reduceAdd, reduceCtorEq, Nat.reduceEqDiff, tk25, dz25, tk49, dz49, kLess, kNone, aMove, aMv, mNone, jumpO, Int.reduceSub, Int.reduceGE, decide_false, f1]
theorem ok_RParaNext : C1OK Tryz.prog 62 (kMvNB parNextP) := C1OK.by (by kernel_rfl) (fun d h => calls_RParaNext d.1 d.2.1 d.2.2.1 d.2.2.2 h.1 h.2) (fun _ => rfl) (fun _ => rfl)
theorem ok_RParaBack : C1OK Tryz.prog 63 (kMvN parBackP) := C1OK.by (by kernel_rfl) (fun d h => calls_RParaBack d.1 d.2.1 d.2.2 h.1 h.2) (fun _ => rfl) (fun _ => rfl)
end Go.Pg
namespace Go.Pg
open Go Go.Proofs

def aPs (l : List (Int × Int)) : List AV := l.map fun p => .agg [.int .i64 p.1, .int .i64 p.2]
theorem length_aPs (l : List (Int × Int)) : (aPs l).length = l.length := by simp [aPs]
theorem take_aPs (l : List (Int × Int)) (n : Nat) : (aPs l).take n = aPs (l.take n) := by simp [aPs, List.map_take]
theorem drop_aPs (l : List (Int × Int)) (n : Nat) : (aPs l).drop n = aPs (l.drop n) := by simp [aPs, List.map_drop]
theorem app_aPs (l m : List (Int × Int)) : aPs l ++ aPs m = aPs (l ++ m) := by simp [aPs]
theorem cons_aPs (l : List (Int × Int)) (a b : Int) : .agg [.int .i64 a, .int .i64 b] :: aPs l = aPs ((a, b) :: l) := by simp [aPs]
theorem set_aPs (l : List (Int × Int)) (i : Nat) (a b : Int) : (aPs l).set i (.agg [.int .i64 a, .int .i64 b]) = aPs (l.set i (a, b)) := by simp [aPs, List.map_set]
theorem getD_aPs (l : List (Int × Int)) (i : Nat) : (aPs l).getD i (.agg [.int .i64 0, .int .i64 0]) = .agg [.int .i64 (l.getD i (0, 0)).1, .int .i64 (l.getD i (0, 0)).2] := getD_map (fun p : Int × Int => AV.agg [.int .i64 p.1, .int .i64 p.2]) l i (0, 0)
theorem pureB_aPs (l : List (Int × Int)) : (aPs l).all AV.pureB = true := by simp [aPs, AV.pureB, AV.cells, AV.pureLeaf]
theorem leafy_aPs (l : List (Int × Int)) : (aPs l).all AV.leafy = true := by simp [aPs, AV.leafy, AV.cells, AV.leaf]
theorem decL_aPs (l : List (Int × Int)) : decL cPos.dec (aPs l) = some l := decL_enc cPos cPos_ed l
theorem cons_ofBytes (b : UInt8) (l : List UInt8) : .int .u8 b.toNat :: ofBytes l = ofBytes (b :: l) := by simp [ofBytes]
theorem cByte_pure (b : UInt8) : (cByte.enc b).pureB = true := rfl
theorem cPos_pure (p : Int × Int) : (cPos.enc p).pureB = true := rfl

theorem neL_bytes (b : UInt8) (l : List UInt8) : neL (ofBytes (b :: l)) = true := rfl
theorem neL_aPs (p : Int × Int) (l : List (Int × Int)) : neL (aPs (p :: l)) = true := rfl
theorem one_add' (n : Nat) : 1 + n = n + 1 := Nat.add_comm 1 n

def hRef : HC (List UInt8 × List (Int × Int) × Unit) := hPtr 39 2 (hCons (hOwn 5 1 cByte cByte_pure) (hCons (hOwn 25 2 cPos cPos_pure) hNil))
abbrev rH (n : List UInt8) (p : List (Int × Int)) : AH := [.arr 39 2 [.agg [.own 1 1 n.length, .own 2 2 p.length]], .arr 5 1 (ofBytes n), .arr 25 2 (aPs p)]
/-- The same behind a change: the lists are new ones. -/
abbrev rH' (n : List UInt8) (p : List (Int × Int)) : AH := [.arr 39 2 [.agg [.own 3 1 n.length, .own 4 2 p.length]], .dead, .dead, .arr 5 1 (ofBytes n), .arr 25 2 (aPs p)]

/-- How many names stand ahead of one. -/
def lead (b : UInt8) (n : List UInt8) : Nat := (n.takeWhile (fun c => decide (c.toNat < b.toNat))).length
def rSet (n : List UInt8) (ps : List (Int × Int)) (b : UInt8) (p : Int × Int) : List UInt8 × List (Int × Int) :=
  if n.getD (lead b n) 0 = b ∧ lead b n < n.length then (n, ps.set (lead b n) p) else (n.take (lead b n) ++ b :: n.drop (lead b n), ps.take (lead b n) ++ p :: ps.drop (lead b n))

theorem nameOk13_eq (b : UInt8) : (decide ((b.toNat : Int) ≥ 97) && decide ((b.toNat : Int) ≤ 122) || (b.toNat : Int) == 96) = nameOk b := by
  have h1 : ((b.toNat : Int) == 96) = (b == 96) := by
    rw [Bool.eq_iff_iff]
    simp only [beq_iff_eq]
    constructor
    · intro h; exact UInt8.toNat_inj.1 (by have : b.toNat = 96 := by omega
                                           rw [this]; rfl)
    · intro h; subst h; rfl
  have h2 : decide ((b.toNat : Int) ≥ 97) = decide (97 ≤ b.toNat) := by rw [Bool.eq_iff_iff]; simp; omega
  have h3 : decide ((b.toNat : Int) ≤ 122) = decide (b.toNat ≤ 122) := by rw [Bool.eq_iff_iff]; simp; omega
  rw [h1, h2, h3, nameOk, Bool.or_comm]

theorem lead_le (b : UInt8) (n : List UInt8) : lead b n ≤ n.length := (List.takeWhile_sublist _).length_le
theorem lead_lt (b : UInt8) (n : List UInt8) (k : Nat) (h : k < lead b n) : (n.getD k 0).toNat < b.toNat := by
  induction n generalizing k with
  | nil => simp [lead] at h
  | cons c n ih =>
    simp only [lead, List.takeWhile_cons] at h ih
    split at h
    · next hc =>
      cases k with
      | zero => simpa using hc
      | succ k => simpa using ih k (by simpa using h)
    · simp at h
theorem lead_at (b : UInt8) (n : List UInt8) (h : lead b n < n.length) : ¬ (n.getD (lead b n) 0).toNat < b.toNat := by
  induction n with
  | nil => simp at h
  | cons c n ih =>
    simp only [lead, List.takeWhile_cons] at h ih ⊢
    split at h
    · next hc => rw [if_pos hc]; simpa using ih (by simpa using h)
    · next hc => rw [if_neg hc]; simpa using hc

set_option maxRecDepth 20000 in
set_option maxHeartbeats 4000000 in
theorem calls_Set13 (n : List UInt8) (ps : List (Int × Int)) (b : UInt8) (p : Int × Int) (hl : n.length = ps.length) (hn : n.length ≤ 1000) :
    CallsR Tryz.prog 8 [.ptr 0 2 1 0 0, .int .u8 b.toNat, .agg [.int .i64 p.1, .int .i64 p.2]] (rH n ps)
      (.bool (nameOk b)) (rH' (if nameOk b = true then rSet n ps b p else (n, ps)).1 (if nameOk b = true then rSet n ps b p else (n, ps)).2) := by
  refine callsR_of (mrg := true) (dyn := [9, 10]) (CtrOK.nil _) mixed Tryz.func8 rfl (by simp [Tryz.ntmps8]) (by kernel_rfl) ?_
  rw [show Tryz.f8.results.toList = [.tmp 6] from by kernel_rfl]
  cases hb : nameOk b with
  | false =>
    simp (maxSteps := 4000000) only [go_sem, Nat.reduceAdd, reduceCtorEq, Nat.reduceEqDiff, Nat.reduceLT, Nat.reduceBEq, nameOk13_eq, hb, pureB_aPs, rH, rH']
    refine ⟨by decide, subX_one ?_, subX_eq rfl (pureB_bytes _), subX_eq rfl (pureB_aPs _)⟩
    simp (maxSteps := 4000000) only [go_sem]
  | true =>
    simp (maxSteps := 4000000) only [go_sem, Nat.reduceAdd, reduceCtorEq, Nat.reduceEqDiff, Nat.reduceBEq, nameOk13_eq, hb, rH]
    have hlead := lead_le b n
    refine loopH_intro (α := Nat) (fun k => ([(7, .int .i64 k), (6, .bool false), (5, .ptr 3 2 1 0 0), (0, .ptr 0 2 1 0 0), (1, .int .u8 b.toNat)], [.arr 39 2 [.agg [.own 1 1 n.length, .own 2 2 ps.length]], .arr 5 1 (ofBytes n), .arr 25 2 (aPs ps), .arr 25 2 [.agg [.int .i64 p.1, .int .i64 p.2]]]))
      (fun k => k ≤ lead b n) (fun k => lead b n - k) 0 (by omega) ?_ ?_
    · simp (maxSteps := 4000000) only [go_sem, Nat.reduceAdd, reduceCtorEq, Nat.reduceEqDiff, Nat.reduceLT, pureB_aPs]
      refine ⟨by decide, subX_one ?_, subX_eq rfl (pureB_bytes _), subX_eq rfl (pureB_aPs _), subX_one ?_⟩
      all_goals simp (maxSteps := 4000000) only [go_sem]
    intro k hk
    by_cases hlt : k < lead b n
    · have h1 := lead_lt b n k hlt
      have hc1 : decide ((k : Int) < (n.length : Int)) = true := decide_eq_true (by omega)
      have hc2 : decide (((n.getD k 0).toNat : Int) < (b.toNat : Int)) = true := decide_eq_true (by omega)
      have w1 : IntKind.i64.wrap ((k : Int) + 1) = ((k + 1 : Nat) : Int) := by rw [wrap64 (by omega) (by omega)]; omega
      simp (maxSteps := 4000000) only [go_sem, Nat.reduceAdd, reduceCtorEq, Nat.reduceEqDiff, Nat.reduceLT, Nat.reduceBEq, tk5, dz5, tk30, tk39, dz39, pureB_aPs, hc1, hc2, w1]
      refine ⟨⟨by omega, by omega⟩, by omega, k + 1, by omega, by omega, by decide, ⟨subX_one ?_, subX_eq rfl (pureB_bytes _), subX_eq rfl (pureB_aPs _), subX_one ?_⟩, rfl⟩
      all_goals simp (maxSteps := 4000000) only [go_sem]
    · obtain rfl : k = lead b n := by omega
      by_cases hend : lead b n < n.length
      · have h1 := lead_at b n hend
        have hc1 : decide ((lead b n : Int) < (n.length : Int)) = true := decide_eq_true (by omega)
        have hc2 : decide (((n.getD (lead b n) 0).toNat : Int) < (b.toNat : Int)) = false := decide_eq_false (by omega)
        have hc3 : (((n.getD (lead b n) 0).toNat : Int) == (b.toNat : Int)) = decide (n.getD (lead b n) 0 = b) := by
          rw [Bool.eq_iff_iff]
          simp only [beq_iff_eq, decide_eq_true_eq]
          exact ⟨fun h => UInt8.toNat_inj.1 (by omega), fun h => by rw [h]⟩
        simp (maxSteps := 4000000) only [go_sem, Nat.reduceAdd, reduceCtorEq, Nat.reduceEqDiff, Nat.reduceLT, Nat.reduceBEq, Nat.reducePow, Nat.reduceLeDiff, tk5, dz5, eb5, tk25, dz25, eb25, tk30, tk37, tk39, dz39, length_aPs, pureB_aPs, leafy_aPs, hc1, hc2, hc3, set_aPs, getD_aPs, take_aPs, drop_aPs, app_aPs, cons_ofBytes, cons_aPs, neL_bytes, neL_aPs, one_add']
        refine ⟨⟨by omega, by omega⟩, by omega, ⟨by omega, by omega⟩, by omega, fun he => ?_, fun he => ?_⟩
        · have hr : rSet n ps b p = (n, ps.set (lead b n) p) := if_pos ⟨he, hend⟩
          rw [hr]
          refine ⟨⟨by omega, by omega⟩, by omega, by decide, subX_one ?_, subX_eq rfl (pureB_bytes _), subX_eq rfl (pureB_aPs _)⟩
          simp (maxSteps := 4000000) only [go_sem]
        · have hr : rSet n ps b p = (n.take (lead b n) ++ b :: n.drop (lead b n), ps.take (lead b n) ++ p :: ps.drop (lead b n)) := if_neg (fun h => he h.1)
          rw [hr]
          simp only [List.length_drop, List.length_take]
          refine ⟨⟨by omega, by omega⟩, ⟨by omega, by omega⟩, by omega, by omega, by kernel_rfl, ⟨by omega, by omega⟩, ⟨by omega, by omega⟩, by omega, by omega, by kernel_rfl, by decide, subX_one ?_, subX_eq rfl (pureB_bytes _), subX_eq rfl (pureB_aPs _)⟩
          simp (maxSteps := 4000000) only [go_sem, List.length_drop, List.length_take]
          done
      · have hc1 : decide ((lead b n : Int) < (n.length : Int)) = false := decide_eq_false (by omega)
        simp (maxSteps := 4000000) only [go_sem, Nat.reduceAdd, reduceCtorEq, Nat.reduceEqDiff, Nat.reduceLT, Nat.reduceBEq, Nat.reducePow, Nat.reduceLeDiff, tk5, dz5, eb5, tk25, dz25, eb25, tk30, tk37, tk39, dz39, length_aPs, pureB_aPs, leafy_aPs, hc1, take_aPs, drop_aPs, app_aPs, cons_ofBytes, cons_aPs, neL_bytes, neL_aPs, one_add']
        have hr : rSet n ps b p = (n.take (lead b n) ++ b :: n.drop (lead b n), ps.take (lead b n) ++ p :: ps.drop (lead b n)) := if_neg (fun h => hend h.2)
        rw [hr]
        simp only [List.length_drop, List.length_take]
        refine ⟨⟨by omega, by omega⟩, ⟨by omega, by omega⟩, by omega, by omega, by kernel_rfl, ⟨by omega, by omega⟩, ⟨by omega, by omega⟩, by omega, by omega, by kernel_rfl, by decide, subX_one ?_, subX_eq rfl (pureB_bytes _), subX_eq rfl (pureB_aPs _)⟩
        simp (maxSteps := 4000000) only [go_sem, List.length_drop, List.length_take]
        done

def kSet13 : C1 := C1.mby (hCons hRef (hCons (hP .id cByte) (hCons (hP .id cPos) hNil))) (fun d => d.1.1.length = d.1.2.1.length ∧ d.1.1.length ≤ 1000) (fun d => .bool (nameOk d.2.1))
  (fun d => rH' (if nameOk d.2.1 = true then rSet d.1.1 d.1.2.1 d.2.1 d.2.2.1 else (d.1.1, d.1.2.1)).1 (if nameOk d.2.1 = true then rSet d.1.1 d.1.2.1 d.2.1 d.2.2.1 else (d.1.1, d.1.2.1)).2)
theorem ok_Set13 : C1OK Tryz.prog 8 kSet13 := C1OK.mby (by kernel_rfl) (fun d h => calls_Set13 d.1.1 d.1.2.1 d.2.1 d.2.2.1 h.1 h.2) (fun _ _ => by show 3 ≤ 5; omega)

def rGet (b : UInt8) : List UInt8 → List (Int × Int) → Option (Int × Int)
  | c :: n, p :: ps => if c = b then some p else rGet b n ps
  | _, _ => none
theorem rGet_drop (b : UInt8) : ∀ (n : List UInt8) (ps : List (Int × Int)) (k : Nat), n.length = ps.length → k < n.length → rGet b (n.drop k) (ps.drop k) = if n.getD k 0 = b then some (ps.getD k (0, 0)) else rGet b (n.drop (k + 1)) (ps.drop (k + 1)) := by
  intro n
  induction n with
  | nil => intro ps k _ h; simp at h
  | cons c n ih =>
    intro ps k hl hk
    cases ps with
    | nil => simp at hl
    | cons p ps =>
      cases k with
      | zero => rfl
      | succ k => simpa using ih ps k (by simpa using hl) (by simpa using hk)
theorem rGet_end (b : UInt8) (n : List UInt8) (ps : List (Int × Int)) (k : Nat) (h : n.length ≤ k) : rGet b (n.drop k) (ps.drop k) = none := by
  rw [List.drop_eq_nil_of_le h]; rfl

set_option maxRecDepth 20000 in
set_option maxHeartbeats 4000000 in
theorem calls_Get13 (n : List UInt8) (ps : List (Int × Int)) (b : UInt8) (hl : n.length = ps.length) (hn : n.length ≤ 1000) :
    CallsR Tryz.prog 69 [.ptr 0 2 1 0 0, .int .u8 b.toNat] (rH n ps)
      (.tuple [.agg [.int .i64 ((rGet b n ps).getD (0, 0)).1, .int .i64 ((rGet b n ps).getD (0, 0)).2], .bool (rGet b n ps).isSome]) (rH n ps) := by
  refine callsR_of (mrg := true) (dyn := []) (CtrOK.nil _) mixed Tryz.func69 rfl (by simp [Tryz.ntmps69]) (by kernel_rfl) ?_
  rw [show Tryz.f69.results.toList = [.cell 4 25, .tmp 5] from by kernel_rfl]
  simp (maxSteps := 4000000) only [go_sem, Nat.reduceAdd, tz25, rH]
  refine loopH_intro (α := Nat) (fun k => ([(6, .int .i64 k), (5, .bool false), (4, .ptr 3 2 1 0 0), (0, .ptr 0 2 1 0 0), (1, .int .u8 b.toNat)], [.arr 39 2 [.agg [.own 1 1 n.length, .own 2 2 ps.length]], .arr 5 1 (ofBytes n), .arr 25 2 (aPs ps), .arr 25 2 [.agg [.int .i64 0, .int .i64 0]]]))
      (fun k => k ≤ n.length ∧ rGet b (n.drop k) (ps.drop k) = rGet b n ps) (fun k => n.length - k) 0 ⟨by omega, rfl⟩ ?_ ?_
  · simp (maxSteps := 4000000) only [go_sem, Nat.reduceAdd, reduceCtorEq, Nat.reduceEqDiff, Nat.reduceLT, pureB_aPs]
    (repeat' first | exact rfl | apply And.intro | exact subX_eq rfl (pureB_bytes _) | exact subX_eq rfl (pureB_aPs _) | exact subX_eq rfl rfl | decide | omega | apply subX_one)
    all_goals try simp (maxSteps := 4000000) only [go_sem]
  rintro k ⟨hk, hg⟩
  by_cases hlt : k < n.length
  · have hc1 : decide ((k : Int) < (n.length : Int)) = true := decide_eq_true (by omega)
    have hc3 : (((n.getD k 0).toNat : Int) == (b.toNat : Int)) = decide (n.getD k 0 = b) := by
      rw [Bool.eq_iff_iff]
      simp only [beq_iff_eq, decide_eq_true_eq]
      exact ⟨fun h => UInt8.toNat_inj.1 (by omega), fun h => by rw [h]⟩
    have w1 : IntKind.i64.wrap ((k : Int) + 1) = ((k + 1 : Nat) : Int) := by rw [wrap64 (by omega) (by omega)]; omega
    have hd := rGet_drop b n ps k hl hlt
    simp (maxSteps := 4000000) only [go_sem, Nat.reduceAdd, reduceCtorEq, Nat.reduceEqDiff, Nat.reduceLT, tk5, dz5, tk25, dz25, tk30, tk37, tk39, dz39, length_aPs, pureB_aPs, hc1, hc3, w1, getD_aPs]
    refine ⟨⟨by omega, by omega⟩, by omega, fun he => ?_, fun he => ?_⟩
    · rw [if_pos he, hg] at hd
      rw [hd]
      (repeat' first | exact rfl | apply And.intro | exact subX_eq rfl (pureB_bytes _) | exact subX_eq rfl (pureB_aPs _) | exact subX_eq rfl rfl | decide | omega | apply subX_one)
      all_goals try simp (maxSteps := 4000000) only [go_sem]
    · rw [if_neg he, hg] at hd
      refine ⟨k + 1, ⟨by omega, hd.symm⟩, by omega, ?_⟩
      (repeat' first | exact rfl | apply And.intro | exact subX_eq rfl (pureB_bytes _) | exact subX_eq rfl (pureB_aPs _) | exact subX_eq rfl rfl | decide | omega | apply subX_one)
      all_goals try simp (maxSteps := 4000000) only [go_sem]
  · have hc1 : decide ((k : Int) < (n.length : Int)) = false := decide_eq_false (by omega)
    have he : rGet b n ps = none := by rw [← hg]; exact rGet_end b n ps k (by omega)
    simp (maxSteps := 4000000) only [go_sem, Nat.reduceAdd, reduceCtorEq, Nat.reduceEqDiff, Nat.reduceLT, tk25, tz25, dz25, tk30, tk39, dz39, pureB_aPs, hc1, he]
    (repeat' first | exact rfl | apply And.intro | exact subX_eq rfl (pureB_bytes _) | exact subX_eq rfl (pureB_aPs _) | exact subX_eq rfl rfl | decide | omega | apply subX_one)
    all_goals try simp (maxSteps := 4000000) only [go_sem]

def kGet13 : C1 := C1.mby (hCons hRef (hCons (hP .id cByte) hNil)) (fun d => d.1.1.length = d.1.2.1.length ∧ d.1.1.length ≤ 1000)
  (fun d => .tuple [.agg [.int .i64 ((rGet d.2.1 d.1.1 d.1.2.1).getD (0, 0)).1, .int .i64 ((rGet d.2.1 d.1.1 d.1.2.1).getD (0, 0)).2], .bool (rGet d.2.1 d.1.1 d.1.2.1).isSome]) (fun d => rH d.1.1 d.1.2.1)
theorem ok_Get13 : C1OK Tryz.prog 69 kGet13 := C1OK.mby (by kernel_rfl) (fun d h => calls_Get13 d.1.1 d.1.2.1 d.2.1 h.1 h.2) (fun _ _ => Nat.le_refl _)
end Go.Pg
namespace Go.Pg
open Go Go.Proofs

set_option maxRecDepth 20000 in
set_option maxHeartbeats 4000000 in
theorem calls_RStarts (ls : Ls) (big : Bool) (hf : fits 65536 65536 ls) : CallsR Tryz.prog 89 [.sl 1 (ls.map .str), .bool big] [] (.sl 2 ((marksTo true (startB big) ls ls.length).map aPos)) [] := by
  refine callsR_of (mrg := true) (dyn := []) (CtrOK.cons ok_ROf (CtrOK.nil _)) mixed Tryz.func89 rfl (by simp [Tryz.ntmps89]) (by kernel_rfl) ?_
  rw [show Tryz.f89.results.toList = [.tmp 4] from by kernel_rfl]
  simp (maxSteps := 4000000) only [go_sem, kOf]
  have hll := hf.1
  have hls := fits_getD hf
  refine loopH_intro (α := Nat × List (Int × Int)) (fun x => ([(0, .sl 1 (ls.map .str)), (1, .bool big), (4, .nls), (5, .own 0 2 x.2.length), (6, .int .i64 x.1)], [.arr 25 2 (x.2.map aPos)]))
    (fun x => x.1 ≤ ls.length ∧ x.2 = marksTo true (startB big) ls x.1) (fun x => ls.length - x.1) (0, []) ⟨by simp, by simp [marksTo]⟩ ?_ ?_
  · simp (maxSteps := 4000000) only [go_sem, reduceCtorEq, Nat.reduceEqDiff]
    all_goals rfl
  intro x hx
  obtain ⟨i, out⟩ := x
  simp only at hx
  obtain ⟨hx1, hx2⟩ := hx
  have hol := marksTo_len true (startB big) ls 65536 hls i
  rw [← hx2] at hol
  have hmul : i * (65536 + 1) ≤ 65536 * 65537 := Nat.mul_le_mul (by omega) (by omega)
  by_cases hi : i < ls.length
  · have hct : decide ((i : Int) < (ls.length : Int)) = true := decide_eq_true (by omega)
    have hsl := hls i
    have hts := marksTo_succ true (startB big) ls i
    rw [← hx2] at hts
    cases hse : (ls.getD i [] == []) with
    | true =>
      have hlm : lineMarks true (startB big) i (ls.getD i []) = [((i : Int), 0)] ++ marksIn (startB big) i (ls.getD i []) (ls.getD i []).length := by
        unfold lineMarks
        rw [hse]; rfl
      simp (maxSteps := 4000000) only [go_sem, Nat.reduceAdd, reduceCtorEq, Nat.reduceEqDiff, Nat.reducePow, Nat.reduceLeDiff, tk9, dz9, tk22, tk25, tz25, eb25, tk37, kOf, app1_pos2, hct, hse]
      refine ⟨by omega, ⟨by decide, by omega⟩, ?_⟩
      refine loopH_intro (α := Nat × List (Int × Int)) (fun x => ([(0, .sl 1 (ls.map .str)), (1, .bool big), (4, .nls), (5, .own 0 2 x.2.length), (6, .int .i64 i), (7, .str (ls.getD i [])), (8, .int .i64 x.1)], [.arr 25 2 (x.2.map aPos)]))
        (fun x => x.1 ≤ (ls.getD i []).length ∧ x.2 = out ++ [((i : Int), 0)] ++ marksIn (startB big) i (ls.getD i []) x.1) (fun x => (ls.getD i []).length - x.1) (0, out ++ [((i : Int), 0)]) ⟨by simp, by simp [marksIn]⟩ ?_ ?_
      · simp (maxSteps := 4000000) only [go_sem, reduceCtorEq, Nat.reduceEqDiff]
        first | exact subX_eq rfl (pureB_posL _) | exact ⟨subX_eq rfl (pureB_posL _), by simp⟩ | exact ⟨rfl, subX_eq rfl (pureB_posL _)⟩
      intro y hy
      obtain ⟨k, out2⟩ := y
      simp only at hy
      obtain ⟨hy1, hy2⟩ := hy
      have hml := marksIn_len (startB big) i (ls.getD i []) k
      have hol2 : out2.length ≤ 4295032832 + 65540 := by
        rw [hy2, List.length_append, List.length_append]
        have : ([((i : Int), 0)] : List (Int × Int)).length ≤ 1 := by simp
        omega
      by_cases hk : k < (ls.getD i []).length
      · have hct2 : decide ((k : Int) < ((ls.getD i []).length : Int)) = true := decide_eq_true (by omega)
        have hm1 := marksIn_succ (startB big) i (ls.getD i []) k
        have hk1 : (IntKind.i64.wrap ((k : Int) - 1)) = (k : Int) - 1 := wrap64 (by omega) (by omega)
        have hk2 : ((k : Int) - 1).toNat = k - 1 := by omega
        have hk4 : IntKind.i64.wrap (((ls.getD i []).length : Int) - 1) = ((ls.getD i []).length : Int) - 1 := wrap64 (by omega) (by omega)
        have hk3 : (IntKind.i64.wrap ((k : Int) + 1)) = ((k + 1 : Nat) : Int) := by rw [wrap64 (by omega) (by omega)]; omega
        simp (maxSteps := 4000000) only [go_sem, Nat.reduceAdd, reduceCtorEq, Nat.reduceEqDiff, Nat.reducePow, Nat.reduceLeDiff, tk9, tk25, tz25, eb25, tk37, kOf, app1_pos2, hct2, hk1, hk2, hk3]
        refine ⟨by omega, fun h => ?_, fun h => ⟨h, fun h2 => by rw [h, h2]; rfl⟩, fun h => ?_, fun h => ?_⟩
        · have h' := h
          simp only [Bool.and_eq_true, Bool.not_eq_true', beq_eq_false_iff_ne, ne_eq] at h'
          exact ⟨h, by omega, by omega⟩
        · rw [if_pos (show startB big (ls.getD i []) k = true from h)] at hm1
          exact ⟨⟨by decide, by omega⟩, (k + 1, out2 ++ [((i : Int), (k : Int))]), ⟨by show k + 1 ≤ _; omega, by simp only [hm1, hy2, List.append_assoc, List.nil_append, List.cons_append]⟩, by show _ - (k + 1) < _; omega, subX_eq rfl (pureB_posL _), by simp, rfl⟩
        · rw [if_neg (show ¬ startB big (ls.getD i []) k = true from by rw [Bool.not_eq_true]; exact h)] at hm1
          exact ⟨(k + 1, out2), ⟨by show k + 1 ≤ _; omega, by simp only [hm1, hy2, List.append_assoc, List.nil_append, List.cons_append]⟩, by show _ - (k + 1) < _; omega, subX_eq rfl (pureB_posL _), rfl, rfl⟩
      · have hcf2 : decide ((k : Int) < ((ls.getD i []).length : Int)) = false := decide_eq_false (by omega)
        have hke : k = (ls.getD i []).length := by omega
        simp (maxSteps := 4000000) only [go_sem, reduceCtorEq, Nat.reduceEqDiff, tk9, kOf, pureB_posL, hcf2]
        refine ⟨(i + 1, out2), ⟨by show i + 1 ≤ _; omega, ?_⟩, by show _ - (i + 1) < _; omega, subX_eq rfl (pureB_posL _), rfl, by rw [wrap64 (by omega) (by omega)]; rfl⟩
        rw [hts, hy2, hke, hlm, List.append_assoc]
    | false =>
      have hlm : lineMarks true (startB big) i (ls.getD i []) = [] ++ marksIn (startB big) i (ls.getD i []) (ls.getD i []).length := by
        unfold lineMarks
        rw [hse]; rfl
      simp (maxSteps := 4000000) only [go_sem, reduceCtorEq, Nat.reduceEqDiff, tk9, dz9, tk22, kOf, hct, hse]
      refine ⟨by omega, ?_⟩
      refine loopH_intro (α := Nat × List (Int × Int)) (fun x => ([(0, .sl 1 (ls.map .str)), (1, .bool big), (4, .nls), (5, .own 0 2 x.2.length), (6, .int .i64 i), (7, .str (ls.getD i [])), (8, .int .i64 x.1)], [.arr 25 2 (x.2.map aPos)]))
        (fun x => x.1 ≤ (ls.getD i []).length ∧ x.2 = out ++ [] ++ marksIn (startB big) i (ls.getD i []) x.1) (fun x => (ls.getD i []).length - x.1) (0, out ++ []) ⟨by simp, by simp [marksIn]⟩ ?_ ?_
      · simp (maxSteps := 4000000) only [go_sem, reduceCtorEq, Nat.reduceEqDiff]
        first | exact subX_eq rfl (pureB_posL _) | exact ⟨subX_eq rfl (pureB_posL _), by simp⟩ | exact ⟨rfl, subX_eq rfl (pureB_posL _)⟩
      intro y hy
      obtain ⟨k, out2⟩ := y
      simp only at hy
      obtain ⟨hy1, hy2⟩ := hy
      have hml := marksIn_len (startB big) i (ls.getD i []) k
      have hol2 : out2.length ≤ 4295032832 + 65540 := by
        rw [hy2, List.length_append, List.length_append]
        have : ([] : List (Int × Int)).length ≤ 1 := by simp
        omega
      by_cases hk : k < (ls.getD i []).length
      · have hct2 : decide ((k : Int) < ((ls.getD i []).length : Int)) = true := decide_eq_true (by omega)
        have hm1 := marksIn_succ (startB big) i (ls.getD i []) k
        have hk1 : (IntKind.i64.wrap ((k : Int) - 1)) = (k : Int) - 1 := wrap64 (by omega) (by omega)
        have hk2 : ((k : Int) - 1).toNat = k - 1 := by omega
        have hk4 : IntKind.i64.wrap (((ls.getD i []).length : Int) - 1) = ((ls.getD i []).length : Int) - 1 := wrap64 (by omega) (by omega)
        have hk3 : (IntKind.i64.wrap ((k : Int) + 1)) = ((k + 1 : Nat) : Int) := by rw [wrap64 (by omega) (by omega)]; omega
        simp (maxSteps := 4000000) only [go_sem, Nat.reduceAdd, reduceCtorEq, Nat.reduceEqDiff, Nat.reducePow, Nat.reduceLeDiff, tk9, tk25, tz25, eb25, tk37, kOf, app1_pos2, hct2, hk1, hk2, hk3]
        refine ⟨by omega, fun h => ?_, fun h => ⟨h, fun h2 => by rw [h, h2]; rfl⟩, fun h => ?_, fun h => ?_⟩
        · have h' := h
          simp only [Bool.and_eq_true, Bool.not_eq_true', beq_eq_false_iff_ne, ne_eq] at h'
          exact ⟨h, by omega, by omega⟩
        · rw [if_pos (show startB big (ls.getD i []) k = true from h)] at hm1
          exact ⟨⟨by decide, by omega⟩, (k + 1, out2 ++ [((i : Int), (k : Int))]), ⟨by show k + 1 ≤ _; omega, by simp only [hm1, hy2, List.append_assoc, List.append_nil]⟩, by show _ - (k + 1) < _; omega, subX_eq rfl (pureB_posL _), by simp, rfl⟩
        · rw [if_neg (show ¬ startB big (ls.getD i []) k = true from by rw [Bool.not_eq_true]; exact h)] at hm1
          exact ⟨(k + 1, out2), ⟨by show k + 1 ≤ _; omega, by simp only [hm1, hy2, List.append_nil]⟩, by show _ - (k + 1) < _; omega, subX_eq rfl (pureB_posL _), rfl, rfl⟩
      · have hcf2 : decide ((k : Int) < ((ls.getD i []).length : Int)) = false := decide_eq_false (by omega)
        have hke : k = (ls.getD i []).length := by omega
        simp (maxSteps := 4000000) only [go_sem, reduceCtorEq, Nat.reduceEqDiff, tk9, kOf, pureB_posL, hcf2]
        refine ⟨(i + 1, out2), ⟨by show i + 1 ≤ _; omega, ?_⟩, by show _ - (i + 1) < _; omega, subX_eq rfl (pureB_posL _), rfl, by rw [wrap64 (by omega) (by omega)]; rfl⟩
        rw [hts, hy2, hke, hlm, List.append_assoc]
  · have hcf : decide ((i : Int) < (ls.length : Int)) = false := decide_eq_false (by omega)
    have hil : i = ls.length := by omega
    simp (maxSteps := 4000000) only [go_sem, reduceCtorEq, Nat.reduceEqDiff, tk22, kOf, pureB_posL, hcf]
    rw [hx2, hil]
end Go.Pg
