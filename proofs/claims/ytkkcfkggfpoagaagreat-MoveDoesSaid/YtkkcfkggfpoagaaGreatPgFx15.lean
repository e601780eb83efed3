/- The document's sentences. The document's brackets. The document's brackets: the one that belongs to one. The document's seeking in a line. -/
import Derived.Test.YtkkcfkggfpoagaaGreatPgBs
import Derived.Test.YtkkcfkggfpoagaaGreatPgFx8
import Derived.Test.YtkkcfkggfpoagaaGreatPgFx12
import Derived.Test.YtkkcfkggfpoagaaGreatPgFx14
import Derived.Test.YtkkcfkggfpoagaaGreatPgFx4
set_option linter.unusedVariables false
set_option linter.unusedSimpArgs false
namespace Go.Pg
open Go Go.Proofs

set_option maxHeartbeats 4000000 in
theorem calls_Rstop (s : List UInt8) (i : Nat) (h2 : s.length ≤ 65536) (h1 : i < s.length) : CallsR Tryz.prog 119 [.str s, .int .i64 i] [] (.bool (stopB s i)) [] := by
  refine callsR_of (mrg := true) (dyn := []) (CtrOK.cons ok_ROf (CtrOK.nil _)) mixed Tryz.func119 rfl (by simp [Tryz.ntmps119]) (by kernel_rfl) ?_
  rw [show Tryz.f119.results.toList = [.tmp 4] from by kernel_rfl]
  have w1 : IntKind.i64.wrap ((i : Int) + 1) = ((i + 1 : Nat) : Int) := by rw [wrap64 (by omega) (by omega)]; rfl
  have w2 : IntKind.i64.wrap ((s.length : Int) - 1) = (s.length : Int) - 1 := wrap64 (by omega) (by omega)
  have e1 : ((i : Int) == (s.length : Int) - 1) = (i + 1 == s.length) := by
    rw [Bool.eq_iff_iff, beq_iff_eq, beq_iff_eq]; omega
  have e2 := cls_blank0 (s.getD (i + 1) 0)
  unfold stopB isStop
  have b1 : (((s.getD i 0).toNat : Int) == 46) = (s.getD i 0 == 46) := byte_eq (s.getD i 0) 46
  have b2 : (((s.getD i 0).toNat : Int) == 33) = (s.getD i 0 == 33) := byte_eq (s.getD i 0) 33
  have b3 : (((s.getD i 0).toNat : Int) == 63) = (s.getD i 0 == 63) := byte_eq (s.getD i 0) 63
  generalize (s.getD i 0 == 46) = x1 at b1 ⊢
  generalize (s.getD i 0 == 33) = x2 at b2 ⊢
  generalize (s.getD i 0 == 63) = x3 at b3 ⊢
  cases x1 <;> cases x2 <;> cases x3
  all_goals cases e3 : (i + 1 == s.length)
  all_goals
    simp (maxSteps := 4000000) only [go_sem, reduceCtorEq, Nat.reduceEqDiff, tk9, kOf, w1, w2, e1, e2, e3, b1, b2, b3]
    (repeat' first | exact h1 | apply And.intro | rfl | omega | (simp only [beq_eq_false_iff_ne, ne_eq] at e3; omega))
theorem ok_Rstop : C1OK Tryz.prog 119 kStop := C1OK.by (by kernel_rfl) (fun d h => by
  obtain ⟨k, hk⟩ := Int.eq_ofNat_of_zero_le h.2.1
  have := calls_Rstop d.1 k h.1 (by have := h.2.2; omega)
  rw [show d.2.toNat = k by omega]
  have e : (lCons cStr (lOne (cInt .i64))).enc d = [.str d.1, .int .i64 k] := by show [AV.str d.1, AV.int .i64 d.2] = _; rw [hk]
  rw [e]; exact this) (fun _ => rfl) (fun _ => rfl)
set_option maxHeartbeats 4000000 in
theorem calls_Rblank (s : List UInt8) (h2 : s.length ≤ 65536) : CallsR Tryz.prog 120 [.str s] [] (.bool (!(solidF s 0).isSome)) [] := by
  refine callsR_of (mrg := true) (dyn := []) (CtrOK.cons ok_ROf (CtrOK.nil _)) mixed Tryz.func120 rfl (by simp [Tryz.ntmps120]) (by kernel_rfl) ?_
  rw [show Tryz.f120.results.toList = [.tmp 2] from by kernel_rfl]
  have hR : solidF s 0 = findUp (fun i => !blank (s.getD i 0)) (s.length - 0) 0 := rfl
  generalize solidF s 0 = R at hR ⊢
  simp (maxSteps := 4000000) only [go_sem, kOf]
  refine loopH_intro (α := Nat) (fun i => ([(0, .str s), (2, .bool false), (3, .int .i64 i)], [])) (fun i => i ≤ s.length ∧ R = findUp (fun i => !blank (s.getD i 0)) (s.length - i) i) (fun i => s.length - i) 0 ⟨Nat.zero_le _, hR⟩ ?_ ?_
  · simp (maxSteps := 4000000) only [go_sem, reduceCtorEq, Nat.reduceEqDiff]
    all_goals rfl
  rintro i ⟨hi, hR⟩
  by_cases hlt : i < s.length
  · have c1 : decide ((i : Int) < (s.length : Int)) = true := decide_eq_true (by omega)
    have w1 : IntKind.i64.wrap ((i : Int) + 1) = ((i + 1 : Nat) : Int) := by rw [wrap64 (by omega) (by omega)]; rfl
    rw [show s.length - i = (s.length - (i + 1)) + 1 by omega, findUp] at hR
    have hc := cls_blank (s.getD i 0)
    cases hg : blank (s.getD i 0) with
    | false =>
      rw [hg] at hR hc
      simp only [Bool.not_false, if_true] at hR
      subst hR
      simp (maxSteps := 4000000) only [go_sem, reduceCtorEq, Nat.reduceEqDiff, tk9, kOf, c1, hc]
      exact ⟨by omega, by omega⟩
    | true =>
      rw [hg] at hR hc
      simp only [Bool.not_true, Bool.false_eq_true, if_false] at hR
      simp (maxSteps := 4000000) only [go_sem, reduceCtorEq, Nat.reduceEqDiff, tk9, kOf, c1, w1, hc]
      exact ⟨⟨by omega, by omega⟩, i + 1, ⟨by omega, hR⟩, by omega, rfl⟩
  · have c1 : decide ((i : Int) < (s.length : Int)) = false := decide_eq_false (by omega)
    rw [show s.length - i = 0 by omega, findUp] at hR
    subst hR
    simp (maxSteps := 4000000) only [go_sem, reduceCtorEq, Nat.reduceEqDiff, tk9, kOf, c1]
def kRBlank : C1 := C1.by [.id] (lOne cStr) (fun d => d.length ≤ 65536) (fun d => .bool (!(solidF d 0).isSome)) (fun _ => [])
theorem ok_Rblank : C1OK Tryz.prog 120 kRBlank := C1OK.by (by kernel_rfl) (fun d h => calls_Rblank d h) (fun _ => rfl) (fun _ => rfl)

theorem stop_blank {s : List UInt8} {k : Nat} (h : blank (s.getD k 0) = true) : stopB s k = false := by
  unfold stopB isStop
  unfold blank at h
  rw [Bool.or_eq_true, beq_iff_eq, beq_iff_eq] at h
  rcases h with h | h <;> rw [h] <;> rfl
theorem sentTo_step (s : List UInt8) (o : Bool) (k : Nat) : sentTo s o (k + 1) = if blank (s.getD k 0) = true then sentTo s o k else (if (sentTo s o k).2 = true then (sentTo s o k).1 ++ [(k : Int)] else (sentTo s o k).1, stopB s k) := by
  rw [sentTo]
  cases hb : blank (s.getD k 0) with
  | true =>
    rw [stop_blank hb]
    simp
  | false =>
    cases (sentTo s o k).2 <;> simp
theorem sentTo_sorted (s : List UInt8) (o : Bool) : ∀ k, (sentTo s o k).1.Pairwise (· < ·) ∧ ∀ c ∈ (sentTo s o k).1, 0 ≤ c ∧ c < k
  | 0 => ⟨.nil, by simp [sentTo]⟩
  | k + 1 => by
    obtain ⟨h1, h2⟩ := sentTo_sorted s o k
    rw [sentTo]
    dsimp only
    split
    · refine ⟨List.pairwise_append.2 ⟨h1, .cons (by simp) .nil, ?_⟩, ?_⟩
      · intro a ha b hb
        rw [List.mem_singleton] at hb
        subst hb
        exact (h2 a ha).2
      · intro c hc
        rcases List.mem_append.1 hc with hc | hc
        · have := h2 c hc; omega
        · rw [List.mem_singleton] at hc; omega
    · exact ⟨h1, fun c hc => by have := h2 c hc; omega⟩
theorem sentLine_sorted (ls : Ls) (k : Nat) : (sentLine ls k).Pairwise (fun a b => less a b = true) ∧ ∀ q ∈ sentLine ls k, q.1 = k := by
  unfold sentLine
  split
  · split
    · exact ⟨.cons (by simp) .nil, by simp⟩
    · exact ⟨.nil, by simp⟩
  · obtain ⟨h1, h2⟩ := sentTo_sorted (ls.getD k []) (sentOpen ls k) (ls.getD k []).length
    refine ⟨List.pairwise_map.2 (h1.imp fun {a b} h => ?_), ?_⟩
    · unfold less
      rw [Bool.or_eq_true, Bool.and_eq_true, decide_eq_true_eq, beq_iff_eq, decide_eq_true_eq]
      exact .inr ⟨rfl, h⟩
    · intro q hq
      obtain ⟨c, _, rfl⟩ := List.mem_map.1 hq
      rfl
theorem flat_sorted (ls : Ls) : ∀ n, (flatTo (sentLine ls) n).Pairwise (fun a b => less a b = true) ∧ ∀ q ∈ flatTo (sentLine ls) n, q.1 < n
  | 0 => ⟨.nil, by simp [flatTo]⟩
  | n + 1 => by
    obtain ⟨h1, h2⟩ := flat_sorted ls n
    obtain ⟨h3, h4⟩ := sentLine_sorted ls n
    rw [flatTo_succ]
    refine ⟨List.pairwise_append.2 ⟨h1, h3, ?_⟩, ?_⟩
    · intro a ha b hb
      have e1 := h2 a ha
      have e2 := h4 b hb
      unfold less
      rw [Bool.or_eq_true, decide_eq_true_eq]
      exact .inl (by omega)
    · intro q hq
      rcases List.mem_append.1 hq with hq | hq
      · have := h2 q hq; omega
      · have := h4 q hq; omega
theorem sents_sorted (ls : Ls) : (sents ls).Pairwise (fun a b => less a b = true) := (flat_sorted ls _).1

theorem map_app1 (i : Nat) (l : List Int) (c : Int) : l.map (fun c => ((i : Int), c)) ++ [((i : Int), c)] = (l ++ [c]).map fun c => ((i : Int), c) := by simp
set_option maxRecDepth 20000 in
set_option maxHeartbeats 8000000 in
theorem calls_RSentences (ls : Ls) (hf : okText ls) : CallsR Tryz.prog 97 [.sl 1 (ls.map .str)] [] (.sl 2 ((sents ls).map aPos)) [] := by
  refine callsR_of (mrg := true) (dyn := []) (CtrOK.cons ok_ROf (CtrOK.cons ok_Rstop (CtrOK.cons ok_Rblank (CtrOK.nil _)))) mixed Tryz.func97 rfl (by simp [Tryz.ntmps97]) (by kernel_rfl) ?_
  rw [show Tryz.f97.results.toList = [.tmp 2] from by kernel_rfl]
  have hll := hf.1
  have hls := fits_getD hf
  unfold sents
  obtain ⟨fl, hfl⟩ : ∃ fl, fl = fun n => flatTo (sentLine ls) n := ⟨_, rfl⟩
  have fs : ∀ n, fl (n + 1) = fl n ++ sentLine ls n := fun n => by rw [hfl]; exact flatTo_succ _ _
  have fz : fl 0 = [] := by rw [hfl]; rfl
  have fln : ∀ n, (fl n).length ≤ n * 65536 := fun n => by rw [hfl]; exact flatTo_len (sentLine ls) 65536 (sentLine_len ls hf) n
  rw [show flatTo (sentLine ls) ls.length = fl ls.length by rw [hfl]]
  clear hfl
  simp (maxSteps := 4000000) only [go_sem]
  refine loopH_intro (α := Nat) (fun i => ([(0, .sl 1 (ls.map .str)), (2, .nls), (3, .own 0 2 (fl i).length), (4, .bool (sentOpen ls i)), (5, .int .i64 i)], [.arr 25 2 ((fl i).map aPos)]))
    (fun i => i ≤ ls.length) (fun i => ls.length - i) 0 (Nat.zero_le _) ?_ ?_
  · rw [fz]
    simp (maxSteps := 4000000) only [go_sem, reduceCtorEq, Nat.reduceEqDiff, sentOpen]
    all_goals first | rfl | exact ⟨rfl, rfl⟩ | (repeat' first | exact subX_eq rfl rfl | apply And.intro | rfl)
  intro i hi
  obtain ⟨out, hout⟩ : ∃ out, out = fl i := ⟨_, rfl⟩
  have hol := fln i
  have hmul : i * 65536 ≤ 65536 * 65536 := Nat.mul_le_mul (by omega) (by omega)
  have hfs := fs i
  rw [← hout] at hol hfs ⊢
  by_cases hlt : i < ls.length
  · have c1 : decide ((i : Int) < (ls.length : Int)) = true := decide_eq_true (by omega)
    have w1 : IntKind.i64.wrap ((i : Int) + 1) = ((i + 1 : Nat) : Int) := by rw [wrap64 (by omega) (by omega)]; rfl
    have w2 : IntKind.i64.wrap ((i : Int) - 1) = (i : Int) - 1 := wrap64 (by omega) (by omega)
    have hsl := hls i
    have hop : sentOpen ls (i + 1) = if (ls.getD i [] == []) = true then true else (sentTo (ls.getD i []) (sentOpen ls i) (ls.getD i []).length).2 && (solidF (ls.getD i []) 0).isSome := rfl
    have hsL : sentLine ls i = if (ls.getD i [] == []) = true then (if (i == 0 || !(ls.getD (i - 1) [] == [])) = true then [((i : Int), 0)] else []) else (sentTo (ls.getD i []) (sentOpen ls i) (ls.getD i []).length).1.map fun c => ((i : Int), c) := rfl
    obtain ⟨s, hs⟩ : ∃ s, s = ls.getD i [] := ⟨_, rfl⟩
    obtain ⟨o, ho⟩ : ∃ o, o = sentOpen ls i := ⟨_, rfl⟩
    rw [← hs, ← ho] at hop hsL
    rw [← hs] at hsl
    rw [← ho]
    by_cases hse : s = []
    · have d1 : (s == []) = true := beq_iff_eq.2 hse
      rw [d1, if_pos rfl] at hop hsL
      have hap := app1_pos out ((i : Int), 0)
      by_cases hz : i = 0
      · have d2 : ((i : Int) == 0) = true := by rw [hz]; rfl
        rw [if_pos (by rw [hz]; rfl)] at hsL
        rw [hsL] at hfs
        have hap := app1_pos out ((i : Int), 0)
        simp (maxSteps := 4000000) only [go_sem, Nat.reduceAdd, reduceCtorEq, Nat.reduceEqDiff, Nat.reducePow, Nat.reduceLeDiff, tk9, dz9, tk22, tk25, tz25, eb25, tk37, c1, w1, ←hs, d1, d2, hap, pureB_posL]
        refine ⟨⟨by omega, hlt⟩, ⟨by decide, by omega⟩, i + 1, by omega, by omega, ?_⟩
        rw [hfs, hop]
        (repeat' first | exact subX_eq rfl rfl | exact subX_eq rfl (pureB_posL _) | apply And.intro | rfl | (simp; done) | omega)
      · have d2 : ((i : Int) == 0) = false := beq_eq_false_iff_ne.2 (by omega)
        have e2 : ((i : Int) - 1).toNat = i - 1 := by omega
        cases d3 : (ls.getD (i - 1) [] == []) with
        | true =>
          rw [d3, if_neg (by simp; exact hz)] at hsL
          rw [hsL, List.append_nil] at hfs
          simp (maxSteps := 4000000) only [go_sem, reduceCtorEq, Nat.reduceEqDiff, tk9, dz9, tk22, c1, w1, w2, e2, ←hs, d1, d2, d3, pureB_posL]
          refine ⟨⟨by omega, hlt⟩, ⟨by omega, by omega⟩, i + 1, by omega, by omega, ?_⟩
          rw [hfs, hop]
          (repeat' first | exact subX_eq rfl rfl | exact subX_eq rfl (pureB_posL _) | apply And.intro | rfl | (simp; done) | omega)
        | false =>
          rw [d3, if_pos (by simp)] at hsL
          rw [hsL] at hfs
          simp (maxSteps := 4000000) only [go_sem, Nat.reduceAdd, reduceCtorEq, Nat.reduceEqDiff, Nat.reducePow, Nat.reduceLeDiff, tk9, dz9, tk22, tk25, tz25, eb25, tk37, c1, w1, w2, e2, ←hs, d1, d2, d3, hap, pureB_posL]
          refine ⟨⟨by omega, hlt⟩, ⟨by omega, by omega⟩, ⟨by decide, by omega⟩, i + 1, by omega, by omega, ?_⟩
          rw [hfs, hop]
          (repeat' first | exact subX_eq rfl rfl | exact subX_eq rfl (pureB_posL _) | apply And.intro | rfl | (simp; done) | omega)
    · have d1 : (s == []) = false := beq_eq_false_iff_ne.2 hse
      rw [d1, if_neg (by simp)] at hop hsL
      rw [hsL] at hfs
      obtain ⟨st, hst⟩ : ∃ st, st = fun k => sentTo s o k := ⟨_, rfl⟩
      have st0 : st 0 = ([], o) := by rw [hst]; rfl
      have stS : ∀ k, st (k + 1) = if blank (s.getD k 0) = true then st k else (if (st k).2 = true then (st k).1 ++ [(k : Int)] else (st k).1, stopB s k) := fun k => by rw [hst]; exact sentTo_step s o k
      have stL : ∀ k, (st k).1.length ≤ k := fun k => by rw [hst]; exact sentTo_len s o k
      rw [show sentTo s o s.length = st s.length by rw [hst]] at hop hfs
      clear hst
      simp (maxSteps := 4000000) only [go_sem, reduceCtorEq, Nat.reduceEqDiff, tk9, dz9, tk22, c1, ←hs, d1]
      refine ⟨⟨by omega, hlt⟩, ?_⟩
      refine loopH_intro (α := Nat) (fun k => ([(0, .sl 1 (ls.map .str)), (2, .nls), (3, .own 0 2 (out ++ (st k).1.map fun c => ((i : Int), c)).length), (4, .bool (st k).2), (5, .int .i64 i), (6, .str s), (7, .int .i64 k)], [.arr 25 2 ((out ++ (st k).1.map fun c => ((i : Int), c)).map aPos)]))
        (fun k => k ≤ s.length) (fun k => s.length - k) 0 (Nat.zero_le _) ?_ ?_
      · rw [st0]
        simp only [List.map_nil, List.append_nil]
        simp (maxSteps := 4000000) only [go_sem, reduceCtorEq, Nat.reduceEqDiff]
        (repeat' first | exact subX_eq rfl rfl | exact subX_eq rfl (pureB_posL _) | apply And.intro | rfl | omega)
      intro k hk
      have hsk := stS k
      have hlk := stL k
      obtain ⟨⟨l1, b1⟩, hstk⟩ : ∃ r, st k = r := ⟨_, rfl⟩
      rw [hstk] at hlk hsk ⊢
      dsimp only at hlk hsk ⊢
      obtain ⟨o2, ho2⟩ : ∃ o2, o2 = out ++ l1.map (fun c => ((i : Int), c)) := ⟨_, rfl⟩
      have hol2 : o2.length ≤ 4294967296 + 65536 := by rw [ho2, List.length_append, List.length_map]; omega
      rw [← ho2]
      by_cases hkl : k < s.length
      · have c2 : decide ((k : Int) < (s.length : Int)) = true := decide_eq_true (by omega)
        have w3 : IntKind.i64.wrap ((k : Int) + 1) = ((k + 1 : Nat) : Int) := by rw [wrap64 (by omega) (by omega)]; rfl
        have hcb := cls_blank0 (s.getD k 0)
        cases hb : blank (s.getD k 0) with
        | true =>
          rw [hb, if_pos rfl] at hsk
          rw [hb] at hcb
          simp (maxSteps := 4000000) only [go_sem, reduceCtorEq, Nat.reduceEqDiff, tk9, kOf, c2, w3, hcb, pureB_posL]
          refine ⟨⟨by omega, hkl⟩, k + 1, by omega, by omega, ?_⟩
          rw [hsk, ← ho2]
          (repeat' first | (dsimp only; rw [ho2, List.length_append, List.length_map]; done) | (simp only [ho2, List.length_append, List.length_map]; omega) | exact subX_eq rfl rfl | exact subX_eq rfl (pureB_posL _) | apply And.intro | rfl | omega)
        | false =>
          rw [hb, if_neg (by simp)] at hsk
          rw [hb] at hcb
          have hap := app1_pos o2 ((i : Int), (k : Int))
          have hma : o2 ++ [((i : Int), (k : Int))] = out ++ (l1 ++ [(k : Int)]).map (fun c => ((i : Int), c)) := by rw [ho2, List.append_assoc, map_app1]
          cases b1 with
          | true =>
            rw [if_pos rfl] at hsk
            simp (maxSteps := 4000000) only [go_sem, Nat.reduceAdd, reduceCtorEq, Nat.reduceEqDiff, Nat.reducePow, Nat.reduceLeDiff, tk9, tk25, tz25, eb25, tk37, kOf, kStop, c2, w3, hcb, hap]
            refine ⟨⟨by omega, hkl⟩, ⟨by decide, by omega⟩, ⟨by omega, by omega, hkl⟩, k + 1, by omega, by omega, ?_⟩
            rw [hsk, ← hma]
            (repeat' first | (simp only [ho2, List.length_append, List.length_map, List.length_cons, List.length_nil]; omega) | exact subX_eq rfl rfl | exact subX_eq rfl (pureB_posL _) | apply And.intro | rfl | (simp; done) | omega)
          | false =>
            rw [if_neg (by simp)] at hsk
            simp (maxSteps := 4000000) only [go_sem, reduceCtorEq, Nat.reduceEqDiff, tk9, kOf, kStop, c2, w3, hcb]
            refine ⟨⟨by omega, hkl⟩, ⟨by omega, by omega, hkl⟩, k + 1, by omega, by omega, ?_⟩
            rw [hsk, ← ho2]
            (repeat' first | (dsimp only; rw [ho2, List.length_append, List.length_map]; done) | (simp only [ho2, List.length_append, List.length_map]; omega) | exact subX_eq rfl rfl | exact subX_eq rfl (pureB_posL _) | apply And.intro | rfl | (simp; done) | omega)
      · have c2 : decide ((k : Int) < (s.length : Int)) = false := decide_eq_false (by omega)
        have hke : k = s.length := by omega
        subst hke
        rw [hstk] at hop hfs
        dsimp only at hop hfs
        rw [← ho2] at hfs
        cases hso : (solidF s 0).isSome with
        | true =>
          rw [hso, Bool.and_true] at hop
          simp (maxSteps := 4000000) only [go_sem, reduceCtorEq, Nat.reduceEqDiff, tk9, kRBlank, c2, w1, hso, pureB_posL]
          refine ⟨by omega, i + 1, by omega, by omega, ?_⟩
          rw [hfs, hop]
          (repeat' first | exact subX_eq rfl rfl | exact subX_eq rfl (pureB_posL _) | apply And.intro | rfl | omega)
        | false =>
          rw [hso, Bool.and_false] at hop
          simp (maxSteps := 4000000) only [go_sem, reduceCtorEq, Nat.reduceEqDiff, tk9, kRBlank, c2, w1, hso, pureB_posL]
          refine ⟨by omega, i + 1, by omega, by omega, ?_⟩
          rw [hfs, hop]
          (repeat' first | exact subX_eq rfl rfl | exact subX_eq rfl (pureB_posL _) | apply And.intro | rfl | omega)
  · have c1 : decide ((i : Int) < (ls.length : Int)) = false := decide_eq_false (by omega)
    have hil : i = ls.length := by omega
    subst hil
    simp (maxSteps := 4000000) only [go_sem, reduceCtorEq, Nat.reduceEqDiff, tk22, c1, pureB_posL]
    try rw [hout]
def kRSents : C1 := C1.by [.sl 1 []] (lOne cStrs) (fun d => okText d) (fun d => .sl 2 ((sents d).map aPos)) (fun _ => [])
theorem ok_RSentences : C1OK Tryz.prog 97 kRSents := C1OK.by (by kernel_rfl) (fun d h => calls_RSentences d h) (fun _ => rfl) (fun _ => rfl)

set_option maxRecDepth 20000 in
set_option maxHeartbeats 8000000 in
theorem calls_RSentNext (ls : Ls) (p : Int × Int) (n : Int) (op : Bool) (hf : okText ls) (hn9 : n ≤ 9223372036854775807) : CallsR Tryz.prog 64 [.sl 1 (ls.map .str), aPos p, .int .i64 n, .bool op] [] (aMove (sentNextP ls p n op)) [] := by
  obtain ⟨p1, p2⟩ := p
  refine callsR_of (mrg := true) (dyn := []) (CtrOK.cons ok_may (CtrOK.cons ok_none (CtrOK.cons ok_RSentences (CtrOK.cons ok_behind (CtrOK.cons ok_end (CtrOK.cons ok_RLess (CtrOK.cons ok_Rjump (CtrOK.nil _)))))))) mixed Tryz.func64 rfl (by simp [Tryz.ntmps64]) (by kernel_rfl) ?_
  rw [show Tryz.f64.results.toList = [.cell 8 49, .tmp 9] from by kernel_rfl]
  have hll := hf.1
  cases hm : may ls (p1, p2) n with
  | false =>
    rw [sentNextP, whenMay, if_neg (by rw [hm]; simp)]
    simp (maxSteps := 4000000) only [go_sem, Nat.reduceAdd, reduceCtorEq, Nat.reduceEqDiff, tk25, dz25, tk49, tz49, dz49, kMay, kNone, aPos, aMove, aMv, mNone, hm]
  | true =>
    rw [sentNextP, whenMay, if_pos hm]
    have hi := (may_iff _ _ _).1 hm
    dsimp only at hi
    have hsl := sents_len ls hf
    obtain ⟨l, hl⟩ : ∃ l, l = behind (sents ls) (p1, p2) false := ⟨_, rfl⟩
    have hll2 : l.length ≤ 4294967296 := by rw [hl]; exact Nat.le_trans (List.length_filter_le _ _) hsl
    have hz : 0 < ls.length ∧ ls.length ≤ 140737488355328 := ⟨by omega, by omega⟩
    rw [← hl]
    have w1 : IntKind.i64.wrap (n - 1) = n - 1 := wrap64 (by omega) (by omega)
    have he1 : endPos ls = ((ls.length : Int) - 1, ((ls.getD (ls.length - 1) []).length : Int)) := rfl
    obtain ⟨e, he⟩ : ∃ e : Int, e = ((ls.getD (ls.length - 1) []).length : Int) := ⟨_, rfl⟩
    rw [← he] at he1
    unfold sentNextL
    rw [he1]
    by_cases hn : n ≤ l.length
    · rw [if_pos hn]
      have c1 : ((l.length : Int) == n - 1) = false := beq_eq_false_iff_ne.2 (by omega)
      have c2 : decide (n > (l.length : Int)) = false := decide_eq_false (by omega)
      cases op
      all_goals
        simp (maxSteps := 4000000) only [go_sem, Nat.reduceAdd, reduceCtorEq, Nat.reduceEqDiff, tk25, tz25, dz25, tk37, tk49, tz49, dz49, kMay, kNone, kRSents, kBehind, kEnd, kLess, kRJump, decL_posL, aPos, aMove, aMv, jumpM, getD_pos, hm, ←hl, ←he, w1, c1, c2]
        (repeat' first | exact hf | exact hz | (show dynOrd _ _ = true; kernel_rfl) | apply And.intro | omega)
    · rw [if_neg hn]
      have c2 : decide (n > (l.length : Int)) = true := decide_eq_true (by omega)
      cases hop : op && n - (l.length : Int) == 1 with
      | true =>
        rw [Bool.and_eq_true, beq_iff_eq] at hop
        obtain ⟨rfl, h3⟩ := hop
        have c1 : ((l.length : Int) == n - 1) = true := beq_iff_eq.2 (by omega)
        cases hle : less (p1, p2) ((ls.length : Int) - 1, e) with
        | true =>
          rw [if_pos (by rfl)]
          simp (maxSteps := 4000000) only [go_sem, Nat.reduceAdd, reduceCtorEq, Nat.reduceEqDiff, tk25, tz25, dz25, tk37, tk49, tz49, dz49, kMay, kNone, kRSents, kBehind, kEnd, kLess, kRJump, decL_posL, aPos, aMove, aMv, jumpM, hm, ←hl, ←he, w1, c1, hle]
          (repeat' first | exact hf | exact hz | (show dynOrd _ _ = true; kernel_rfl) | apply And.intro | omega)
        | false =>
          rw [if_neg (by simp)]
          simp (maxSteps := 4000000) only [go_sem, Nat.reduceAdd, reduceCtorEq, Nat.reduceEqDiff, tk25, tz25, dz25, tk37, tk49, tz49, dz49, kMay, kNone, kRSents, kBehind, kEnd, kLess, kRJump, decL_posL, aPos, aMove, aMv, mNone, hm, ←hl, ←he, w1, c1, c2, hle]
          (repeat' first | exact hf | exact hz | (show dynOrd _ _ = true; kernel_rfl) | apply And.intro | omega)
      | false =>
        rw [Bool.false_and, if_neg (by simp)]
        cases op with
        | true =>
          rw [Bool.true_and, beq_eq_false_iff_ne] at hop
          have c1 : ((l.length : Int) == n - 1) = false := beq_eq_false_iff_ne.2 (by omega)
          simp (maxSteps := 4000000) only [go_sem, Nat.reduceAdd, reduceCtorEq, Nat.reduceEqDiff, tk25, tz25, dz25, tk37, tk49, tz49, dz49, kMay, kNone, kRSents, kBehind, kEnd, kLess, kRJump, decL_posL, aPos, aMove, aMv, mNone, hm, ←hl, ←he, w1, c1, c2]
          (repeat' first | exact hf | exact hz | (show dynOrd _ _ = true; kernel_rfl) | apply And.intro | omega)
        | false =>
          simp (maxSteps := 4000000) only [go_sem, Nat.reduceAdd, reduceCtorEq, Nat.reduceEqDiff, tk25, tz25, dz25, tk37, tk49, tz49, dz49, kMay, kNone, kRSents, kBehind, kEnd, kLess, kRJump, decL_posL, aPos, aMove, aMv, mNone, hm, ←hl, ←he, w1, c2]
          (repeat' first | exact hf | exact hz | (show dynOrd _ _ = true; kernel_rfl) | apply And.intro | omega)
set_option maxRecDepth 20000 in
set_option maxHeartbeats 8000000 in
theorem calls_RSentBack (ls : Ls) (p : Int × Int) (n : Int) (hf : okText ls) (hn9 : n ≤ 9223372036854775807) : CallsR Tryz.prog 65 [.sl 1 (ls.map .str), aPos p, .int .i64 n] [] (aMove (sentBackP ls p n)) [] := by
  obtain ⟨p1, p2⟩ := p
  refine callsR_of (mrg := true) (dyn := []) (CtrOK.cons ok_may (CtrOK.cons ok_none (CtrOK.cons ok_RSentences (CtrOK.cons ok_ahead (CtrOK.cons ok_Rjump (CtrOK.nil _)))))) mixed Tryz.func65 rfl (by simp [Tryz.ntmps65]) (by kernel_rfl) ?_
  rw [show Tryz.f65.results.toList = [.cell 6 49, .tmp 7] from by kernel_rfl]
  have hll := hf.1
  cases hm : may ls (p1, p2) n with
  | false =>
    rw [sentBackP, whenMay, if_neg (by rw [hm]; simp)]
    simp (maxSteps := 4000000) only [go_sem, Nat.reduceAdd, reduceCtorEq, Nat.reduceEqDiff, tk25, dz25, tk49, tz49, dz49, kMay, kNone, aPos, aMove, aMv, mNone, hm]
  | true =>
    rw [sentBackP, whenMay, if_pos hm]
    have hi := (may_iff _ _ _).1 hm
    dsimp only at hi
    have hsl := sents_len ls hf
    have hmb := mBack_nth (sents ls) (p1, p2) n 0 (sents_sorted ls) hi.1
    obtain ⟨l, hl⟩ : ∃ l, l = ahead (sents ls) (p1, p2) := ⟨_, rfl⟩
    have hll2 : l.length ≤ 4294967296 := by rw [hl]; exact Nat.le_trans (ahead_len _ _) hsl
    rw [← hl] at hmb
    have w1 : IntKind.i64.wrap (n - 1) = n - 1 := wrap64 (by omega) (by omega)
    have hq : sentBackL (sents ls) (p1, p2) n = if n > l.length then mNone else (jumpM (l.getD (n - 1).toNat (0, 0)), true) := by
      unfold sentBackL
      generalize wBack (sents ls) (p1, p2) n = r at hmb ⊢
      unfold mBack nth at hmb
      by_cases hn : n > l.length
      · rw [if_pos hn] at hmb ⊢
        split at hmb
        · exact absurd (congrArg Prod.snd hmb) (by simp [mTo, mNone])
        · next h => rw [if_neg h]
      · rw [if_neg hn] at hmb ⊢
        split at hmb
        · next h =>
          rw [if_pos h]
          have : r.1 = l.getD (n - 1).toNat (0, 0) := congrArg (fun x => x.1.1) hmb
          rw [this]
        · exact absurd (congrArg Prod.snd hmb) (by simp [mTo, mNone])
    rw [hq]
    by_cases hn : n > l.length
    · have c2 : decide (n > (l.length : Int)) = true := decide_eq_true hn
      rw [if_pos hn]
      simp (maxSteps := 4000000) only [go_sem, Nat.reduceAdd, reduceCtorEq, Nat.reduceEqDiff, tk25, dz25, tk37, tk49, tz49, dz49, kMay, kNone, kRSents, kAhead, kRJump, decL_posL, aPos, aMove, aMv, mNone, hm, ←hl, c2]
      (repeat' first | exact hf | (show dynOrd _ _ = true; kernel_rfl) | apply And.intro | omega)
    · have c2 : decide (n > (l.length : Int)) = false := decide_eq_false hn
      rw [if_neg hn]
      simp (maxSteps := 4000000) only [go_sem, Nat.reduceAdd, reduceCtorEq, Nat.reduceEqDiff, tk25, dz25, tk37, tk49, tz49, dz49, kMay, kNone, kRSents, kAhead, kRJump, decL_posL, aPos, aMove, aMv, jumpM, getD_pos, hm, ←hl, w1, c2]
      (repeat' first | exact hf | (show dynOrd _ _ = true; kernel_rfl) | apply And.intro | omega)
theorem ok_RSentNext : C1OK Tryz.prog 64 (kMvNB sentNextP) := C1OK.by (by kernel_rfl) (fun d h => calls_RSentNext d.1 d.2.1 d.2.2.1 d.2.2.2 h.1 h.2) (fun _ => rfl) (fun _ => rfl)
theorem ok_RSentBack : C1OK Tryz.prog 65 (kMvN sentBackP) := C1OK.by (by kernel_rfl) (fun d h => calls_RSentBack d.1 d.2.1 d.2.2 h.1 h.2) (fun _ => rfl) (fun _ => rfl)
end Go.Pg
namespace Go.Pg
open Go Go.Proofs

set_option maxHeartbeats 4000000 in
theorem calls_RKind (c : UInt8) : CallsR Tryz.prog 98 [byteA c] [] (aKind (kindF c)) [] := by
  refine callsR_of (mrg := true) (dyn := []) (CtrOK.nil _) mixed Tryz.func98 rfl (by simp [Tryz.ntmps98]) (by kernel_rfl) ?_
  rw [show Tryz.f98.results.toList = [.tmp 2, .tmp 3, .tmp 4, .tmp 5] from by kernel_rfl]
  by_cases h1 : c = 40
  · subst h1
    rw [show kindF 40 = (40, 41, true, true) by decide]
    simp (maxSteps := 4000000) only [go_sem, reduceCtorEq, Nat.reduceEqDiff, aKind, byteA, UInt8.reduceToNat]
    all_goals first | rfl | decide
  by_cases h2 : c = 41
  · subst h2
    rw [show kindF 41 = (40, 41, false, true) by decide]
    simp (maxSteps := 4000000) only [go_sem, reduceCtorEq, Nat.reduceEqDiff, Int.reduceBEq, aKind, byteA, UInt8.reduceToNat]
    all_goals first | rfl | decide
  by_cases h3 : c = 91
  · subst h3
    rw [show kindF 91 = (91, 93, true, true) by decide]
    simp (maxSteps := 4000000) only [go_sem, reduceCtorEq, Nat.reduceEqDiff, Int.reduceBEq, aKind, byteA, UInt8.reduceToNat]
    all_goals first | rfl | decide
  by_cases h4 : c = 93
  · subst h4
    rw [show kindF 93 = (91, 93, false, true) by decide]
    simp (maxSteps := 4000000) only [go_sem, reduceCtorEq, Nat.reduceEqDiff, Int.reduceBEq, aKind, byteA, UInt8.reduceToNat]
    all_goals first | rfl | decide
  by_cases h5 : c = 123
  · subst h5
    rw [show kindF 123 = (123, 125, true, true) by decide]
    simp (maxSteps := 4000000) only [go_sem, reduceCtorEq, Nat.reduceEqDiff, Int.reduceBEq, aKind, byteA, UInt8.reduceToNat]
    all_goals first | rfl | decide
  by_cases h6 : c = 125
  · subst h6
    rw [show kindF 125 = (123, 125, false, true) by decide]
    simp (maxSteps := 4000000) only [go_sem, reduceCtorEq, Nat.reduceEqDiff, Int.reduceBEq, aKind, byteA, UInt8.reduceToNat]
    all_goals first | rfl | decide
  have e1 := byte_lit c 40 40 rfl h1
  have e2 := byte_lit c 41 41 rfl h2
  have e3 := byte_lit c 91 91 rfl h3
  have e4 := byte_lit c 93 93 rfl h4
  have e5 := byte_lit c 123 123 rfl h5
  have e6 := byte_lit c 125 125 rfl h6
  have e : kindF c = (0, 0, false, false) := by
    unfold kindF
    rw [if_neg (by simp [h1, h2]), if_neg (by simp [h3, h4]), if_neg (by simp [h5, h6])]
  rw [e]
  simp (maxSteps := 4000000) only [go_sem, reduceCtorEq, Nat.reduceEqDiff, aKind, byteA, UInt8.reduceToNat, e1, e2, e3, e4, e5, e6]
  all_goals first | rfl | decide
theorem ok_RKind : C1OK Tryz.prog 98 kKind := C1OK.by (by kernel_rfl) (fun d _ => calls_RKind d) (fun _ => rfl) (fun _ => rfl)

/-- Where a step out of the text ends. -/
def outB (ls : Ls) (p : Int × Int) (back : Bool) : Int × Int := if back = true then (-1, -1) else ((ls.length : Int), if p.1 + 1 = ls.length then p.2 + 1 else 0)
def stepV (ls : Ls) (p : Int × Int) (back : Bool) : Int × Int := (nextB ls p back).getD (outB ls p back)
def aStepB (v : Int × Int) (b : Bool) : AV := .tuple [aPos v, .bool b]
set_option maxRecDepth 20000 in
set_option maxHeartbeats 8000000 in
theorem calls_Rstep (ls : Ls) (p : Int × Int) (back : Bool) (hf : okText ls) (hp : inByte ls p) :
    CallsR Tryz.prog 121 [.sl 1 (ls.map .str), aPos p, .bool back] [] (aStepB (stepV ls p back) (nextB ls p back).isSome) [] := by
  obtain ⟨p1, p2⟩ := p
  obtain ⟨h0, h1, h2, h3⟩ := hp
  dsimp only at h0 h1 h2 h3
  refine callsR_of (mrg := true) (dyn := []) (CtrOK.nil _) mixed Tryz.func121 rfl (by simp [Tryz.ntmps121]) (by kernel_rfl) ?_
  rw [show Tryz.f121.results.toList = [.cell 6 25, .tmp 7] from by kernel_rfl]
  obtain ⟨l, rfl⟩ := Int.eq_ofNat_of_zero_le h0
  have hll := hf.1
  rw [Int.toNat_natCast] at h3
  have h5 := fits_getD hf l
  unfold stepV
  cases back with
  | true =>
    have w1 : IntKind.i64.wrap (p2 - 1) = p2 - 1 := wrap64 (by omega) (by omega)
    have hR : nextB ls ((l : Int), p2) true = if p2 - 1 ≥ 0 then some ((l : Int), p2 - 1) else (findDn (full ls) l).map (lineEndB ls) := rfl
    generalize nextB ls ((l : Int), p2) true = R at hR ⊢
    rw [show outB ls ((l : Int), p2) true = (-1, -1) from rfl]
    simp (maxSteps := 4000000) only [go_sem, Nat.reduceAdd, reduceCtorEq, Nat.reduceEqDiff, tk3, tk25, tz25, dz25, aPos, w1]
    refine loopH_intro (α := Nat × Int) (fun x => ([(0, .sl 1 (ls.map .str)), (2, .bool true), (4, .ptr 0 2 1 0 0), (6, .ptr 1 2 1 0 0), (7, .bool false)], [.arr 25 2 [.agg [.int .i64 x.1, .int .i64 x.2]], .arr 25 2 [.agg [.int .i64 0, .int .i64 0]]]))
      (fun x => x.1 < ls.length ∧ -1 ≤ x.2 ∧ x.2 ≤ ((ls.getD x.1 []).length : Int) - 1 ∧ R = if x.2 ≥ 0 then some ((x.1 : Int), x.2) else (findDn (full ls) x.1).map (lineEndB ls)) (fun x => x.1) (l, p2 - 1) ⟨by dsimp only; omega, by dsimp only; omega, by dsimp only; omega, hR⟩ ?_ ?_
    · simp (maxSteps := 4000000) only [go_sem, reduceCtorEq, Nat.reduceEqDiff]
      (repeat' first | exact subX_eq rfl rfl | apply And.intro | decide | rfl)
    rintro ⟨i, c⟩ ⟨hi, hc1, hc2, hR⟩
    dsimp only at hi hc1 hc2 hR
    by_cases hc : c ≥ 0
    · have c1 : decide (c < 0) = false := decide_eq_false (by omega)
      have c2 : decide (c ≥ ((ls.getD i []).length : Int)) = false := decide_eq_false (by omega)
      rw [if_pos hc] at hR
      subst hR
      simp (maxSteps := 4000000) only [go_sem, Nat.reduceAdd, reduceCtorEq, Nat.reduceEqDiff, tk3, tk9, dz9, tk22, tk25, dz25, aPos, aStepB, c1, c2]
      (repeat' first | (show dynOrd _ _ = true; kernel_rfl) | apply And.intro | rfl | omega)
    · have c1 : decide (c < 0) = true := decide_eq_true (by omega)
      have hcm : c = -1 := by omega
      rw [if_neg hc] at hR
      cases i with
      | zero =>
        have w2 : IntKind.i64.wrap ((0 : Int) - 1) = -1 := rfl
        rw [findDn] at hR
        subst hR
        subst hcm
        simp (maxSteps := 4000000) only [go_sem, Nat.reduceAdd, reduceCtorEq, Nat.reduceEqDiff, Int.reduceToNat, Int.reduceLE, Int.reduceLT, Nat.reduceLeDiff, tk3, tk9, dz9, tk22, tk25, dz25, aPos, aStepB, w2]
        (repeat' first | (show dynOrd _ _ = true; kernel_rfl) | apply And.intro | rfl | omega)
      | succ i =>
        have w2 : IntKind.i64.wrap (((i + 1 : Nat) : Int) - 1) = (i : Int) := by rw [wrap64 (by omega) (by omega)]; omega
        have c2 : decide ((i : Int) < 0) = false := decide_eq_false (by omega)
        have c3 : decide ((i : Int) ≥ (ls.length : Int)) = false := decide_eq_false (by omega)
        have h6 := fits_getD hf i
        have w3 : IntKind.i64.wrap (((ls.getD i []).length : Int) - 1) = ((ls.getD i []).length : Int) - 1 := wrap64 (by omega) (by omega)
        rw [findDn] at hR
        have hR2 : R = if ((ls.getD i []).length : Int) - 1 ≥ 0 then some ((i : Int), ((ls.getD i []).length : Int) - 1) else (findDn (full ls) i).map (lineEndB ls) := by
          rw [hR]
          by_cases hfl : (ls.getD i []).length = 0
          · rw [if_neg (by simp only [full, bne_iff_ne, ne_eq, hfl]; simp), if_neg (by omega)]
          · rw [if_pos (by simp only [full, bne_iff_ne, ne_eq, hfl]; simp), if_pos (by omega)]; rfl
        simp (maxSteps := 4000000) only [go_sem, Nat.reduceAdd, reduceCtorEq, Nat.reduceEqDiff, Nat.reduceLeDiff, tk3, tk9, dz9, tk22, tk25, dz25, c1, w2, c2, c3, w3]
        (repeat' first | exact ⟨(i, _), ⟨by dsimp only; omega, by dsimp only; omega, by dsimp only; omega, hR2⟩, by dsimp only; omega, by decide, subX_eq rfl rfl, subX_eq rfl rfl⟩ | (show dynOrd _ _ = true; kernel_rfl) | apply And.intro | omega)
  | false =>
    have w1 : IntKind.i64.wrap (p2 + 1) = p2 + 1 := wrap64 (by omega) (by omega)
    have hR : nextB ls ((l : Int), p2) false = if p2 + 1 < (ls.getD l []).length then some ((l : Int), p2 + 1) else (findUp (full ls) (ls.length - (l + 1)) (l + 1)).map lineBegB := rfl
    generalize nextB ls ((l : Int), p2) false = R at hR ⊢
    rw [show outB ls ((l : Int), p2) false = ((ls.length : Int), if (l : Int) + 1 = ls.length then p2 + 1 else 0) from rfl]
    simp (maxSteps := 4000000) only [go_sem, Nat.reduceAdd, reduceCtorEq, Nat.reduceEqDiff, tk3, tk25, tz25, dz25, aPos, w1]
    refine loopH_intro (α := Nat × Int) (fun x => ([(0, .sl 1 (ls.map .str)), (2, .bool false), (4, .ptr 0 2 1 0 0), (6, .ptr 1 2 1 0 0), (7, .bool false)], [.arr 25 2 [.agg [.int .i64 x.1, .int .i64 x.2]], .arr 25 2 [.agg [.int .i64 0, .int .i64 0]]]))
      (fun x => l ≤ x.1 ∧ x.1 < ls.length ∧ x.2 = (if x.1 = l then p2 + 1 else 0) ∧ R = if x.2 < (ls.getD x.1 []).length then some ((x.1 : Int), x.2) else (findUp (full ls) (ls.length - (x.1 + 1)) (x.1 + 1)).map lineBegB) (fun x => ls.length - x.1) (l, p2 + 1) ⟨by dsimp only; omega, by dsimp only; omega, by dsimp only; rw [if_pos rfl], hR⟩ ?_ ?_
    · simp (maxSteps := 4000000) only [go_sem, reduceCtorEq, Nat.reduceEqDiff]
      (repeat' first | exact subX_eq rfl rfl | apply And.intro | decide | rfl)
    rintro ⟨i, c⟩ ⟨hil, hi, hce, hR⟩
    dsimp only at hil hi hce hR
    have hc1 : 0 ≤ c ∧ c ≤ 65537 := by rw [hce]; split <;> omega
    have c0 : decide (c < 0) = false := decide_eq_false (by omega)
    by_cases hc : c < (ls.getD i []).length
    · have c1 : decide (c ≥ ((ls.getD i []).length : Int)) = false := decide_eq_false (by omega)
      rw [if_pos hc] at hR
      subst hR
      simp (maxSteps := 4000000) only [go_sem, Nat.reduceAdd, reduceCtorEq, Nat.reduceEqDiff, tk3, tk9, dz9, tk22, tk25, dz25, aPos, aStepB, c0, c1]
      (repeat' first | (show dynOrd _ _ = true; kernel_rfl) | apply And.intro | rfl | omega)
    · have c1 : decide (c ≥ ((ls.getD i []).length : Int)) = true := decide_eq_true (by omega)
      have w2 : IntKind.i64.wrap ((i : Int) + 1) = ((i + 1 : Nat) : Int) := by rw [wrap64 (by omega) (by omega)]; rfl
      have c3 : decide (((i + 1 : Nat) : Int) < 0) = false := decide_eq_false (by omega)
      rw [if_neg hc] at hR
      by_cases he : i + 1 < ls.length
      · have c2 : decide (((i + 1 : Nat) : Int) ≥ (ls.length : Int)) = false := decide_eq_false (by omega)
        rw [show ls.length - (i + 1) = (ls.length - (i + 1 + 1)) + 1 by omega, findUp] at hR
        have hR2 : R = if (0 : Int) < (ls.getD (i + 1) []).length then some (((i + 1 : Nat) : Int), 0) else (findUp (full ls) (ls.length - (i + 1 + 1)) (i + 1 + 1)).map lineBegB := by
          rw [hR]
          by_cases hfl : (ls.getD (i + 1) []).length = 0
          · rw [if_neg (by simp only [full, bne_iff_ne, ne_eq, hfl]; simp), if_neg (by omega)]
          · rw [if_pos (by simp only [full, bne_iff_ne, ne_eq, hfl]; simp), if_pos (by omega)]; rfl
        simp (maxSteps := 4000000) only [go_sem, Nat.reduceAdd, reduceCtorEq, Nat.reduceEqDiff, Nat.reduceLeDiff, tk3, tk9, dz9, tk22, tk25, dz25, c0, c1, w2, c2, c3]
        (repeat' first | exact ⟨(i + 1, 0), ⟨by dsimp only; omega, by dsimp only; omega, by dsimp only; rw [if_neg (by omega)], hR2⟩, by dsimp only; omega, by decide, subX_eq rfl rfl, subX_eq rfl rfl⟩ | (show dynOrd _ _ = true; kernel_rfl) | apply And.intro | omega)
      · have c2 : decide (((i + 1 : Nat) : Int) ≥ (ls.length : Int)) = true := decide_eq_true (by omega)
        rw [show ls.length - (i + 1) = 0 by omega, findUp] at hR
        subst hR
        have hcc : (if (l : Int) + 1 = ls.length then p2 + 1 else 0) = c := by
          rw [hce]
          by_cases hq : i = l
          · rw [if_pos hq, if_pos (by omega)]
          · rw [if_neg hq, if_neg (by omega)]
        have hii : ((i + 1 : Nat) : Int) = (ls.length : Int) := by omega
        rw [hcc]
        simp (maxSteps := 4000000) only [go_sem, Nat.reduceAdd, reduceCtorEq, Nat.reduceEqDiff, Nat.reduceLeDiff, tk3, tk9, dz9, tk22, tk25, dz25, aPos, aStepB, c0, c1, w2, c2, c3]
        (repeat' first | exact hii | (show dynOrd _ _ = true; kernel_rfl) | apply And.intro | rfl | omega)
def kRStep : C1 := C1.by [.sl 1 [], .id, .id] (lCons cStrs (lCons cPos2 (lOne cBool))) (fun d => okText d.1 ∧ inByte d.1 d.2.1) (fun d => aStepB (stepV d.1 d.2.1 d.2.2) (nextB d.1 d.2.1 d.2.2).isSome) (fun _ => [])
theorem ok_Rstep : C1OK Tryz.prog 121 kRStep := C1OK.by (by kernel_rfl) (fun d h => calls_Rstep d.1 d.2.1 d.2.2 h.1 h.2) (fun _ => rfl) (fun _ => rfl)
end Go.Pg
namespace Go.Pg
open Go Go.Proofs

def sgn (o : Bool) (d : Int) : Int := if o = true then d else -d
theorem sgn_t (d : Int) : sgn true d = d := rfl
theorem sgn_f (d : Int) : sgn false d = -d := rfl
theorem kind_br {c op sh : UInt8} {opens : Bool} (h : (op, sh, opens, true) = kindF c) : ¬ op = sh ∧ deepS op sh opens c 0 = 1 := by
  unfold kindF at h
  split at h
  · next h1 => rcases h1 with rfl | rfl <;> (cases h; exact ⟨by decide, by decide⟩)
  · split at h
    · next h1 => rcases h1 with rfl | rfl <;> (cases h; exact ⟨by decide, by decide⟩)
    · split at h
      · next h1 => rcases h1 with rfl | rfl <;> (cases h; exact ⟨by decide, by decide⟩)
      · cases h

set_option maxRecDepth 20000 in
set_option maxHeartbeats 8000000 in
theorem calls_Rother (ls : Ls) (p : Int × Int) (hf : okText ls) (hp : inByte ls p) (hbr : (kindF (byteOf ls p)).2.2.2 = true) :
    CallsR Tryz.prog 99 [.sl 1 (ls.map .str), aPos p] [] (aOpt (otherP ls p)) [] := by
  refine callsR_of (mrg := true) (dyn := []) (CtrOK.cons ok_RKind (CtrOK.cons ok_Rstep (CtrOK.nil _))) mixed Tryz.func99 rfl (by simp [Tryz.ntmps99]) (by kernel_rfl) ?_
  rw [show Tryz.f99.results.toList = [.cell 4 25, .tmp 5] from by kernel_rfl]
  have hll := hf.1
  have hp0 := hp
  have hfu : fuelB ls ≤ 4295098370 := by unfold fuelB; omega
  unfold otherP
  have hb : byteOf ls p = (ls.getD p.1.toNat []).getD p.2.toNat 0 := rfl
  obtain ⟨kk, hk⟩ : ∃ kk, kk = kindF (byteOf ls p) := ⟨_, rfl⟩
  rw [← hk] at hbr ⊢
  obtain ⟨op, sh, opens, br⟩ := kk
  dsimp only at hbr ⊢
  subst hbr
  obtain ⟨hne, hd1⟩ := kind_br hk
  obtain ⟨R, hR⟩ : ∃ R, R = otherL ls op sh opens (fuelB ls) (nextB ls p (!opens)) 1 := ⟨_, rfl⟩
  rw [← hR]
  have hR0 : R = otherL ls op sh opens (fuelB ls + 1) (some p) 0 := by
    rw [otherL, hd1, if_neg (by decide)]
    exact hR
  clear hR hd1
  rw [hb] at hk
  have hrl := rankB_lt hf hp (!opens)
  obtain ⟨p1, p2⟩ := p
  obtain ⟨g1, g2, g3, g4⟩ := hp
  dsimp only at g1 g2 g3 g4 hk
  have h5 := fits_getD hf p1.toNat
  simp (maxSteps := 4000000) only [go_sem, Nat.reduceAdd, reduceCtorEq, Nat.reduceEqDiff, tk3, tk9, dz9, tk22, tk25, tz25, dz25, kKind, aKind, aPos, byteA, ←hk]
  refine ⟨⟨by omega, by omega⟩, ⟨by omega, by omega⟩, ?_⟩
  refine loopH_intro (α := Nat × Option (Int × Int) × Int × (Int × Int)) (fun x => ([(0, .sl 1 (ls.map .str)), (3, .ptr 0 2 1 0 0), (4, .ptr 1 2 1 0 0), (5, .bool false), (6, .int .u8 op.toNat), (7, .int .u8 sh.toNat), (8, .bool opens), (10, .int .i64 (sgn opens x.2.2.1)), (11, .ptr 2 2 1 0 0), (12, .bool x.2.1.isSome)], [.arr 25 2 [.agg [.int .i64 p1, .int .i64 p2]], .arr 25 2 [.agg [.int .i64 0, .int .i64 0]], .arr 25 2 [.agg [.int .i64 x.2.2.2.1, .int .i64 x.2.2.2.2]]]))
    (fun x => (∀ q, x.2.1 = some q → x.2.2.2 = q ∧ inByte ls q ∧ rankB ls (!opens) q < x.1) ∧ x.1 ≤ fuelB ls + 1 ∧ -((fuelB ls + 1 - x.1 : Nat) : Int) ≤ x.2.2.1 ∧ x.2.2.1 ≤ (fuelB ls + 1 - x.1 : Nat) ∧ R = otherL ls op sh opens x.1 x.2.1 x.2.2.1) (fun x => x.1) (fuelB ls + 1, some (p1, p2), 0, (p1, p2)) ⟨fun q h => by
      cases h
      exact ⟨rfl, hp0, by dsimp only; omega⟩, by dsimp only; omega, by dsimp only; omega, by dsimp only; omega, hR0⟩ ?_ ?_
  · cases opens
    all_goals
      simp (maxSteps := 4000000) only [go_sem, Nat.reduceAdd, reduceCtorEq, Nat.reduceEqDiff, sgn_t, sgn_f]
      (repeat' first | exact subX_eq rfl rfl | apply And.intro | decide | rfl)
  rintro ⟨k, qo, d, v⟩ ⟨hq, hk2, hd1, hd2, hR⟩
  dsimp only at hq hk2 hd1 hd2 hR
  cases qo with
  | none =>
    rw [otherL_none] at hR
    subst hR
    simp (maxSteps := 4000000) only [go_sem, Nat.reduceAdd, reduceCtorEq, Nat.reduceEqDiff, tk25, tz25, dz25, aOpt, aPos]
  | some q =>
    obtain ⟨rfl, hqi, hqr⟩ := hq q rfl
    obtain ⟨k, rfl⟩ : ∃ j, k = j + 1 := ⟨k - 1, by omega⟩
    rw [otherL] at hR
    have hbq : byteOf ls v = (ls.getD v.1.toNat []).getD v.2.toNat 0 := rfl
    have hqi0 := hqi
    have hnq := fun q' h => nextB_in (q' := q') (back := !opens) hf hqi h
    obtain ⟨ny, hny⟩ : ∃ ny, ny = nextB ls v (!opens) := ⟨_, rfl⟩
    obtain ⟨sv, hsv⟩ : ∃ sv, sv = stepV ls v (!opens) := ⟨_, rfl⟩
    have hsn : ∀ q', ny = some q' → sv = q' := fun q' h => by rw [hsv, stepV, ← hny, h]; rfl
    rw [← hny] at hnq hR
    obtain ⟨q1, q2⟩ := v
    obtain ⟨e1, e2, e3, e4⟩ := hqi
    dsimp only at e1 e2 e3 e4 hbq
    have h6 := fits_getD hf q1.toNat
    rw [hbq] at hR
    generalize hbv : (ls.getD q1.toNat []).getD q2.toNat 0 = bv at hR
    have b1 := beq_byte bv op
    have b2 := beq_byte bv sh
    obtain ⟨D, hD⟩ : ∃ D, D = deepS op sh opens bv d := ⟨_, rfl⟩
    rw [← hD] at hR
    unfold deepS at hD
    have w1 : IntKind.i64.wrap (d + 1) = d + 1 := wrap64 (by omega) (by omega)
    have w2 : IntKind.i64.wrap (d - 1) = d - 1 := wrap64 (by omega) (by omega)
    have w3 : IntKind.i64.wrap (-d + 1) = -d + 1 := wrap64 (by omega) (by omega)
    have w4 : IntKind.i64.wrap (-d - 1) = -d - 1 := wrap64 (by omega) (by omega)
    obtain ⟨s1, s2⟩ := sv
    cases hx1 : (bv == op) <;> cases hx2 : (bv == sh) <;> cases opens
    all_goals try (exfalso; rw [beq_iff_eq] at hx1 hx2; exact hne (hx1.symm.trans hx2))
    all_goals
      rw [hx1] at b1
      rw [hx2] at b2
      simp only [hx1, hx2, Bool.and_true, Bool.and_false, Bool.or_self, Bool.or_true, Bool.or_false, Bool.not_true, Bool.not_false, Bool.false_eq_true, if_true, if_false] at hD
      simp only [Bool.not_true, Bool.not_false] at hR hny hnq hqr hsv
      simp (maxSteps := 4000000) only [go_sem, Nat.reduceAdd, reduceCtorEq, Nat.reduceEqDiff, tk3, tk9, dz9, tk22, tk25, tz25, dz25, kKind, kRStep, aKind, aOpt, aStepB, aPos, byteA, hbv, b1, b2, ←hny, ←hsv, sgn_t, sgn_f, w1, w2, w3, w4]
      refine ⟨⟨e1, by omega⟩, ⟨e3, by omega⟩, fun hz => ?_, fun hz => ⟨⟨hf, hqi0⟩, (k, ny, D, s1, s2), ⟨fun q h => ⟨hsn q h, (hnq q h).1, by have := (hnq q h).2; dsimp only; omega⟩, by dsimp only; omega, by dsimp only; omega, by dsimp only; omega, ?_⟩, by dsimp only; omega, by decide, ⟨subX_eq rfl rfl, subX_eq rfl rfl, subX_eq rfl rfl⟩, by dsimp only; omega, rfl⟩⟩
      · rw [beq_iff_eq] at hz
        split at hR
        · rw [hR]
          exact ⟨⟨rfl, rfl⟩, rfl⟩
        · exfalso; omega
      · rw [beq_eq_false_iff_ne] at hz
        split at hR
        · exfalso; omega
        · exact hR
def kROther : C1 := C1.by [.sl 1 [], .id] (lCons cStrs (lOne cPos2)) (fun d => okText d.1 ∧ inByte d.1 d.2 ∧ (kindF (byteOf d.1 d.2)).2.2.2 = true) (fun d => aOpt (otherP d.1 d.2)) (fun _ => [])
theorem ok_Rother : C1OK Tryz.prog 99 kROther := C1OK.by (by kernel_rfl) (fun d h => calls_Rother d.1 d.2 h.1 h.2.1 h.2.2) (fun _ => rfl) (fun _ => rfl)

set_option maxRecDepth 20000 in
set_option maxHeartbeats 8000000 in
theorem calls_RMatch (ls : Ls) (p : Int × Int) (hf : okText ls) :
    CallsR Tryz.prog 66 [.sl 1 (ls.map .str), aPos p] [] (aMove (matchP ls p)) [] := by
  refine callsR_of (mrg := true) (dyn := []) (CtrOK.cons ok_may (CtrOK.cons ok_none (CtrOK.cons ok_RKind (CtrOK.cons ok_Rother (CtrOK.nil _))))) mixed Tryz.func66 rfl (by simp [Tryz.ntmps66]) (by kernel_rfl) ?_
  rw [show Tryz.f66.results.toList = [.cell 4 49, .tmp 5] from by kernel_rfl]
  obtain ⟨p1, p2⟩ := p
  unfold matchP whenMay
  have hpl : may ls (p1, p2) 1 = place ls p1 p2 := by unfold may; simp
  cases hm : place ls p1 p2 with
  | false =>
    rw [hm] at hpl
    rw [hpl, if_neg (by simp)]
    simp (maxSteps := 4000000) only [go_sem, Nat.reduceAdd, reduceCtorEq, Nat.reduceEqDiff, tk25, dz25, tk49, tz49, dz49, kMay, kNone, aPos, aMove, aMv, mNone, hpl]
  | true =>
    rw [hm] at hpl
    rw [hpl, if_pos rfl]
    obtain ⟨g1, g2, g3, g4⟩ := (place_iff _ _ _).1 hm
    obtain ⟨l, rfl⟩ := Int.eq_ofNat_of_zero_le g1
    obtain ⟨c, rfl⟩ := Int.eq_ofNat_of_zero_le g3
    rw [Int.toNat_natCast] at g2 g4
    have h5 := fits_getD hf l
    have hR : matchL ls ((l : Int), (c : Int)) = match findUp (fun i => (kindF ((ls.getD l []).getD i 0)).2.2.2) ((ls.getD l []).length - c) c with
      | some i => matchM (otherP ls (l, i))
      | none => mNone := rfl
    generalize matchL ls ((l : Int), (c : Int)) = R at hR ⊢
    obtain ⟨s, hs⟩ : ∃ s, s = ls.getD l [] := ⟨_, rfl⟩
    rw [← hs] at hR g4 h5
    simp (maxSteps := 4000000) only [go_sem, Nat.reduceAdd, reduceCtorEq, Nat.reduceEqDiff, tk3, tk9, dz9, tk22, tk25, dz25, tz49, kMay, aPos, hpl, ←hs]
    refine ⟨by omega, ?_⟩
    refine loopH_intro (α := Nat) (fun i => ([(0, .sl 1 (ls.map .str)), (3, .ptr 0 2 1 0 0), (4, .ptr 1 5 1 0 0), (5, .bool false), (6, .str s), (7, .int .i64 i)], [.arr 25 2 [.agg [.int .i64 l, .int .i64 c]], .arr 49 5 [.agg [.int .i64 0, .int .i64 0, .int .i64 0, .bool false, .int .i64 0]]]))
      (fun i => i ≤ s.length ∧ R = match findUp (fun i => (kindF (s.getD i 0)).2.2.2) (s.length - i) i with
        | some i => matchM (otherP ls (l, i))
        | none => mNone) (fun i => s.length - i) c ⟨by omega, hR⟩ ?_ ?_
    · simp (maxSteps := 4000000) only [go_sem, reduceCtorEq, Nat.reduceEqDiff]
      (repeat' first | exact subX_eq rfl rfl | apply And.intro | decide | rfl)
    rintro i ⟨hi, hR⟩
    by_cases hlt : i < s.length
    · have c1 : decide ((i : Int) < (s.length : Int)) = true := decide_eq_true (by omega)
      have w1 : IntKind.i64.wrap ((i : Int) + 1) = ((i + 1 : Nat) : Int) := by rw [wrap64 (by omega) (by omega)]; rfl
      rw [show s.length - i = (s.length - (i + 1)) + 1 by omega, findUp] at hR
      have hby : byteOf ls ((l : Int), (i : Int)) = s.getD i 0 := by unfold byteOf; dsimp only; rw [Int.toNat_natCast, Int.toNat_natCast, ← hs]
      obtain ⟨kk, hk⟩ : ∃ kk, kk = kindF (s.getD i 0) := ⟨_, rfl⟩
      rw [← hk] at hR
      obtain ⟨op, sh, opens, br⟩ := kk
      cases br with
      | true =>
        simp only [if_true] at hR
        have hin : inByte ls ((l : Int), (i : Int)) := ⟨g1, by dsimp only; omega, by dsimp only; omega, by dsimp only; rw [Int.toNat_natCast, ← hs]; omega⟩
        have hbr : (kindF (byteOf ls ((l : Int), (i : Int)))).2.2.2 = true := by rw [hby, ← hk]
        obtain ⟨o, ho⟩ : ∃ o, o = otherP ls ((l : Int), (i : Int)) := ⟨_, rfl⟩
        rw [← ho] at hR
        cases o with
        | none =>
          subst hR
          simp (maxSteps := 4000000) only [go_sem, Nat.reduceAdd, reduceCtorEq, Nat.reduceEqDiff, Nat.reduceLeDiff, tk3, tk9, tk25, tz25, dz25, tk49, dz49, kNone, kKind, kROther, aKind, aOpt, aPos, aMove, aMv, mNone, matchM, byteA, c1, ←hk, ←ho]
          (repeat' first | exact hf | exact hin | exact hbr | apply And.intro | omega)
        | some q =>
          subst hR
          simp (maxSteps := 4000000) only [go_sem, Nat.reduceAdd, reduceCtorEq, Nat.reduceEqDiff, Nat.reduceLeDiff, tk3, tk9, tk25, tz25, dz25, tk49, tz49, dz49, kNone, kKind, kROther, aKind, aOpt, aPos, aMove, aMv, mNone, matchM, byteA, c1, ←hk, ←ho]
          (repeat' first | exact hf | exact hin | exact hbr | apply And.intro | omega)
      | false =>
        simp only [Bool.false_eq_true, if_false] at hR
        simp (maxSteps := 4000000) only [go_sem, Nat.reduceAdd, reduceCtorEq, Nat.reduceEqDiff, tk9, kKind, kROther, aKind, aOpt, aPos, byteA, c1, w1, ←hk]
        refine ⟨by omega, i + 1, ⟨by omega, hR⟩, by omega, ?_⟩
        (repeat' first | exact subX_eq rfl rfl | apply And.intro | decide | rfl)
    · have c1 : decide ((i : Int) < (s.length : Int)) = false := decide_eq_false (by omega)
      rw [show s.length - i = 0 by omega, findUp] at hR
      subst hR
      simp (maxSteps := 4000000) only [go_sem, Nat.reduceAdd, reduceCtorEq, Nat.reduceEqDiff, tk9, tk49, dz49, kNone, aMove, aMv, mNone, c1]
theorem ok_RMatch : C1OK Tryz.prog 66 (kMv0 matchP) := C1OK.by (by kernel_rfl) (fun d h => calls_RMatch d.1 d.2 h) (fun _ => rfl) (fun _ => rfl)
end Go.Pg
namespace Go.Pg
open Go Go.Proofs

set_option maxRecDepth 20000 in
set_option maxHeartbeats 8000000 in
theorem calls_RSeekF (ls : Ls) (p1 p2 : Int) (key c : UInt8) (n wy b : Int) (hf : okText ls) (h4 : n ≤ 9223372036854775807) (hm : may ls (p1, p2) n = true)
    (D : (key = 102 ∧ wy = 1 ∧ b = 0) ∨ (key = 116 ∧ wy = 1 ∧ b = -1)) : CallsR Tryz.prog 50 [.sl 1 (ls.map .str), aPos (p1, p2), byteA key, byteA c, .int .i64 n] [] (aMove (seekTo (p1, p2) wy b (seekIn (ls.getD p1.toNat []) p2 false c n))) [] := by
  refine callsR_of (mrg := true) (dyn := []) (CtrOK.cons ok_may (CtrOK.cons ok_none (CtrOK.cons ok_to (CtrOK.nil _)))) mixed Tryz.func50 rfl (by simp [Tryz.ntmps50]) (by kernel_rfl) ?_
  rw [show Tryz.f50.results.toList = [.cell 10 49, .tmp 11] from by kernel_rfl]
  have hi := (may_iff _ _ _).1 hm
  dsimp only at hi
  obtain ⟨i1, i2, i3, i4, i5⟩ := hi
  have h6 := fits_getD hf p1.toNat
  obtain ⟨s, hs⟩ : ∃ s, s = ls.getD p1.toNat [] := ⟨_, rfl⟩
  rw [← hs] at h6 i5 ⊢
  obtain ⟨S, hS⟩ : ∃ S, S = seekIn s p2 false c n := ⟨_, rfl⟩
  rw [← hS]
  have hS0 : S = seekL c (1) (restF s p2 false 0) (p2 + 1 + ((0 : Nat) : Int)) n := by
    rw [hS]
    unfold seekIn restF
    simp only [Bool.false_eq_true, if_false, Nat.sub_zero, Nat.add_zero]
    rw [show p2 + 1 + ((0 : Nat) : Int) = p2 + 1 by omega, show (p2 + 1).toNat = p2.toNat + 1 by omega]
  clear hS
  have w0 : IntKind.i64.wrap (p2 + 1) = p2 + 1 + ((0 : Nat) : Int) := by rw [wrap64 (by omega) (by omega)]; omega
  rcases D with ⟨rfl, rfl, rfl⟩ | ⟨rfl, rfl, rfl⟩
  · simp (maxSteps := 4000000) only [go_sem, Nat.reduceAdd, reduceCtorEq, Nat.reduceEqDiff, tk3, tk9, dz9, tk22, tk25, dz25, tz49, kMay, aPos, byteA, hm, ←hs, UInt8.reduceToNat, w0]
    refine ⟨⟨i2, i3⟩, ?_⟩
    refine loopH_intro (α := Nat × Int × Int) (fun x => ([(0, .sl 1 (ls.map .str)), (2, .int .u8 102), (3, .int .u8 c.toNat), (4, .int .i64 x.2.1), (6, .ptr 0 2 1 0 0), (10, .ptr 1 5 1 0 0), (11, .bool false), (12, .str s), (13, .int .i64 x.2.2), (14, .int .i64 (p2 + 1 + ((x.1 : Nat) : Int)))], [.arr 25 2 [.agg [.int .i64 p1, .int .i64 p2]], .arr 49 5 [.agg [.int .i64 0, .int .i64 0, .int .i64 0, .bool false, .int .i64 0]]]))
      (fun x => (1 ≤ x.2.1 ∧ x.2.1 ≤ n ∧ x.1 ≤ s.length ∧ S = seekL c (1) (restF s p2 false x.1) (p2 + 1 + ((x.1 : Nat) : Int)) x.2.1) ∨ (x.2.1 = 0 ∧ S = x.2.2 ∧ 0 ≤ x.2.2 ∧ x.2.2 < (s.length : Int) ∧ x.1 ≤ s.length + 1)) (fun x => s.length + 2 - x.1) (0, n, -1) (.inl ⟨i1, by dsimp only; omega, Nat.zero_le _, hS0⟩) ?_ ?_
    · simp (maxSteps := 4000000) only [go_sem, reduceCtorEq, Nat.reduceEqDiff]
      (repeat' first | exact subX_eq rfl rfl | apply And.intro | decide | rfl)
    rintro ⟨j, m, at_⟩ hx
    dsimp only at hx
    rcases hx with ⟨x1, x2, x3, x4⟩ | ⟨rfl, hSe, x3, x4, x5⟩
    · have c2 : decide (m > 0) = true := decide_eq_true (by omega)
      by_cases hlt : p2 + 1 + (j : Int) < (s.length : Int)
      · have c1 : decide (p2 + 1 + (j : Int) < (s.length : Int)) = true := decide_eq_true (by omega)
        have w1 : IntKind.i64.wrap (p2 + 1 + (j : Int) + 1) = p2 + 1 + ((j + 1 : Nat) : Int) := by rw [wrap64 (by omega) (by omega)]; omega
        have w2 : IntKind.i64.wrap (m - 1) = m - 1 := wrap64 (by omega) (by omega)
        have hrc := restF_cons (s := s) (col := p2) (back := false) (i := j) i4 i5 (by unfold atF; simp; omega) (by unfold atF; simp; omega)
        have hat : atF p2 false j = p2 + 1 + (j : Int) := by unfold atF; simp
        rw [hat] at hrc
        obtain ⟨v, hv⟩ : ∃ v, v = s.getD (p2 + 1 + (j : Int)).toNat 0 := ⟨_, rfl⟩
        rw [← hv] at hrc
        rw [hrc, seekL] at x4
        have hbb : ((v.toNat : Int) == (c.toNat : Int)) = (v == c) := by rw [byte_eq, Bool.eq_iff_iff]; simp
        have hnx : p2 + 1 + (j : Int) + (1) = (p2 + 1 + ((j + 1 : Nat) : Int)) := by omega
        rw [hnx] at x4
        by_cases hvc : v = c
        · have c3 : (v == c) = true := beq_iff_eq.2 hvc
          rw [if_pos hvc] at x4
          simp (maxSteps := 4000000) only [go_sem, reduceCtorEq, Nat.reduceEqDiff, tk9, c1, c2, w1, w2, ←hv, hbb, c3]
          refine ⟨⟨by omega, by omega⟩, (j + 1, m - 1, p2 + 1 + (j : Int)), ?_, by dsimp only; omega, ?_⟩
          · dsimp only
            by_cases hm1 : m = 1
            · rw [if_pos hm1] at x4
              exact .inr ⟨by omega, x4, by omega, by omega, by omega⟩
            · rw [if_neg hm1] at x4
              exact .inl ⟨by omega, by omega, by omega, x4⟩
          · (repeat' first | exact subX_eq rfl rfl | apply And.intro | decide | rfl)
        · have c3 : (v == c) = false := beq_eq_false_iff_ne.2 hvc
          rw [if_neg hvc] at x4
          simp (maxSteps := 4000000) only [go_sem, reduceCtorEq, Nat.reduceEqDiff, tk9, c1, c2, w1, ←hv, hbb, c3]
          refine ⟨⟨by omega, by omega⟩, (j + 1, m, at_), .inl ⟨x1, x2, by dsimp only; omega, x4⟩, by dsimp only; omega, ?_⟩
          (repeat' first | exact subX_eq rfl rfl | apply And.intro | decide | rfl)
      · have c1 : decide (p2 + 1 + (j : Int) < (s.length : Int)) = false := decide_eq_false (by omega)
        rw [restF_nil i4 i5 (by unfold atF; simp; omega), seekL] at x4
        subst x4
        unfold seekTo
        rw [if_pos (by decide)]
        simp (maxSteps := 4000000) only [go_sem, Nat.reduceAdd, reduceCtorEq, Nat.reduceEqDiff, tk9, tk49, dz49, kNone, aMove, aMv, mNone, c1, c2]
    · have c3 : decide (at_ < 0) = false := decide_eq_false (by omega)
      rw [hSe]
      unfold seekTo
      rw [if_neg (by omega)]
      have w5 : IntKind.i64.wrap (at_ - 1) = at_ - 1 := wrap64 (by omega) (by omega)
      have w6 : IntKind.i64.wrap (at_ + 1) = at_ + 1 := wrap64 (by omega) (by omega)
      have e5 : at_ + -1 = at_ - 1 := by omega
      cases c1 : decide (p2 + 1 + (j : Int) < (s.length : Int))
      all_goals
        simp (maxSteps := 4000000) only [go_sem, Nat.reduceAdd, reduceCtorEq, Nat.reduceEqDiff, Nat.reduceLeDiff, tk3, tk9, tk25, dz25, tk49, tz49, dz49, kTo, aMove, aMv, mTo, c1, c3, Int.add_zero, gt_iff_lt, Int.lt_irrefl, decide_false]
        (repeat' first | exact subX_eq rfl rfl | apply And.intro | rfl | omega)
  · simp (maxSteps := 4000000) only [go_sem, Nat.reduceAdd, reduceCtorEq, Nat.reduceEqDiff, Int.reduceBEq, tk3, tk9, dz9, tk22, tk25, dz25, tz49, kMay, aPos, byteA, hm, ←hs, UInt8.reduceToNat, w0]
    refine ⟨⟨i2, i3⟩, ?_⟩
    refine loopH_intro (α := Nat × Int × Int) (fun x => ([(0, .sl 1 (ls.map .str)), (2, .int .u8 116), (3, .int .u8 c.toNat), (4, .int .i64 x.2.1), (6, .ptr 0 2 1 0 0), (10, .ptr 1 5 1 0 0), (11, .bool false), (12, .str s), (13, .int .i64 x.2.2), (14, .int .i64 (p2 + 1 + ((x.1 : Nat) : Int)))], [.arr 25 2 [.agg [.int .i64 p1, .int .i64 p2]], .arr 49 5 [.agg [.int .i64 0, .int .i64 0, .int .i64 0, .bool false, .int .i64 0]]]))
      (fun x => (1 ≤ x.2.1 ∧ x.2.1 ≤ n ∧ x.1 ≤ s.length ∧ S = seekL c (1) (restF s p2 false x.1) (p2 + 1 + ((x.1 : Nat) : Int)) x.2.1) ∨ (x.2.1 = 0 ∧ S = x.2.2 ∧ 0 ≤ x.2.2 ∧ x.2.2 < (s.length : Int) ∧ x.1 ≤ s.length + 1)) (fun x => s.length + 2 - x.1) (0, n, -1) (.inl ⟨i1, by dsimp only; omega, Nat.zero_le _, hS0⟩) ?_ ?_
    · simp (maxSteps := 4000000) only [go_sem, reduceCtorEq, Nat.reduceEqDiff]
      (repeat' first | exact subX_eq rfl rfl | apply And.intro | decide | rfl)
    rintro ⟨j, m, at_⟩ hx
    dsimp only at hx
    rcases hx with ⟨x1, x2, x3, x4⟩ | ⟨rfl, hSe, x3, x4, x5⟩
    · have c2 : decide (m > 0) = true := decide_eq_true (by omega)
      by_cases hlt : p2 + 1 + (j : Int) < (s.length : Int)
      · have c1 : decide (p2 + 1 + (j : Int) < (s.length : Int)) = true := decide_eq_true (by omega)
        have w1 : IntKind.i64.wrap (p2 + 1 + (j : Int) + 1) = p2 + 1 + ((j + 1 : Nat) : Int) := by rw [wrap64 (by omega) (by omega)]; omega
        have w2 : IntKind.i64.wrap (m - 1) = m - 1 := wrap64 (by omega) (by omega)
        have hrc := restF_cons (s := s) (col := p2) (back := false) (i := j) i4 i5 (by unfold atF; simp; omega) (by unfold atF; simp; omega)
        have hat : atF p2 false j = p2 + 1 + (j : Int) := by unfold atF; simp
        rw [hat] at hrc
        obtain ⟨v, hv⟩ : ∃ v, v = s.getD (p2 + 1 + (j : Int)).toNat 0 := ⟨_, rfl⟩
        rw [← hv] at hrc
        rw [hrc, seekL] at x4
        have hbb : ((v.toNat : Int) == (c.toNat : Int)) = (v == c) := by rw [byte_eq, Bool.eq_iff_iff]; simp
        have hnx : p2 + 1 + (j : Int) + (1) = (p2 + 1 + ((j + 1 : Nat) : Int)) := by omega
        rw [hnx] at x4
        by_cases hvc : v = c
        · have c3 : (v == c) = true := beq_iff_eq.2 hvc
          rw [if_pos hvc] at x4
          simp (maxSteps := 4000000) only [go_sem, reduceCtorEq, Nat.reduceEqDiff, tk9, c1, c2, w1, w2, ←hv, hbb, c3]
          refine ⟨⟨by omega, by omega⟩, (j + 1, m - 1, p2 + 1 + (j : Int)), ?_, by dsimp only; omega, ?_⟩
          · dsimp only
            by_cases hm1 : m = 1
            · rw [if_pos hm1] at x4
              exact .inr ⟨by omega, x4, by omega, by omega, by omega⟩
            · rw [if_neg hm1] at x4
              exact .inl ⟨by omega, by omega, by omega, x4⟩
          · (repeat' first | exact subX_eq rfl rfl | apply And.intro | decide | rfl)
        · have c3 : (v == c) = false := beq_eq_false_iff_ne.2 hvc
          rw [if_neg hvc] at x4
          simp (maxSteps := 4000000) only [go_sem, reduceCtorEq, Nat.reduceEqDiff, tk9, c1, c2, w1, ←hv, hbb, c3]
          refine ⟨⟨by omega, by omega⟩, (j + 1, m, at_), .inl ⟨x1, x2, by dsimp only; omega, x4⟩, by dsimp only; omega, ?_⟩
          (repeat' first | exact subX_eq rfl rfl | apply And.intro | decide | rfl)
      · have c1 : decide (p2 + 1 + (j : Int) < (s.length : Int)) = false := decide_eq_false (by omega)
        rw [restF_nil i4 i5 (by unfold atF; simp; omega), seekL] at x4
        subst x4
        unfold seekTo
        rw [if_pos (by decide)]
        simp (maxSteps := 4000000) only [go_sem, Nat.reduceAdd, reduceCtorEq, Nat.reduceEqDiff, tk9, tk49, dz49, kNone, aMove, aMv, mNone, c1, c2]
    · have c3 : decide (at_ < 0) = false := decide_eq_false (by omega)
      rw [hSe]
      unfold seekTo
      rw [if_neg (by omega)]
      have w5 : IntKind.i64.wrap (at_ - 1) = at_ - 1 := wrap64 (by omega) (by omega)
      have w6 : IntKind.i64.wrap (at_ + 1) = at_ + 1 := wrap64 (by omega) (by omega)
      have e5 : at_ + -1 = at_ - 1 := by omega
      cases c1 : decide (p2 + 1 + (j : Int) < (s.length : Int))
      all_goals
        simp (maxSteps := 4000000) only [go_sem, Nat.reduceAdd, reduceCtorEq, Nat.reduceEqDiff, Int.reduceBEq, Nat.reduceLeDiff, tk3, tk9, tk25, dz25, tk49, tz49, dz49, kTo, aMove, aMv, mTo, c1, c3, w5, e5, gt_iff_lt, Int.lt_irrefl, decide_false]
        (repeat' first | exact subX_eq rfl rfl | apply And.intro | rfl | omega)
set_option maxRecDepth 20000 in
set_option maxHeartbeats 8000000 in
theorem calls_RSeekB (ls : Ls) (p1 p2 : Int) (key c : UInt8) (n wy b : Int) (hf : okText ls) (h4 : n ≤ 9223372036854775807) (hm : may ls (p1, p2) n = true)
    (D : (key = 70 ∧ wy = 0 ∧ b = 0) ∨ (key = 84 ∧ wy = 0 ∧ b = 1)) : CallsR Tryz.prog 50 [.sl 1 (ls.map .str), aPos (p1, p2), byteA key, byteA c, .int .i64 n] [] (aMove (seekTo (p1, p2) wy b (seekIn (ls.getD p1.toNat []) p2 true c n))) [] := by
  refine callsR_of (mrg := true) (dyn := []) (CtrOK.cons ok_may (CtrOK.cons ok_none (CtrOK.cons ok_to (CtrOK.nil _)))) mixed Tryz.func50 rfl (by simp [Tryz.ntmps50]) (by kernel_rfl) ?_
  rw [show Tryz.f50.results.toList = [.cell 10 49, .tmp 11] from by kernel_rfl]
  have hi := (may_iff _ _ _).1 hm
  dsimp only at hi
  obtain ⟨i1, i2, i3, i4, i5⟩ := hi
  have h6 := fits_getD hf p1.toNat
  obtain ⟨s, hs⟩ : ∃ s, s = ls.getD p1.toNat [] := ⟨_, rfl⟩
  rw [← hs] at h6 i5 ⊢
  obtain ⟨S, hS⟩ : ∃ S, S = seekIn s p2 true c n := ⟨_, rfl⟩
  rw [← hS]
  have hS0 : S = seekL c (-1) (restF s p2 true 0) (p2 - 1 - ((0 : Nat) : Int)) n := by
    rw [hS]
    unfold seekIn restF
    simp only [if_true, Nat.sub_zero, Nat.add_zero]
    rw [show p2 - 1 - ((0 : Nat) : Int) = p2 - 1 by omega]
  clear hS
  have w0 : IntKind.i64.wrap (min p2 (s.length : Int) - 1) = p2 - 1 - ((0 : Nat) : Int) := by rw [wrap64 (by omega) (by omega)]; omega
  rcases D with ⟨rfl, rfl, rfl⟩ | ⟨rfl, rfl, rfl⟩
  · simp (maxSteps := 4000000) only [go_sem, Nat.reduceAdd, reduceCtorEq, Nat.reduceEqDiff, Int.reduceBEq, tk3, tk9, dz9, tk22, tk25, dz25, tz49, kMay, aPos, byteA, hm, ←hs, UInt8.reduceToNat, w0]
    refine ⟨⟨i2, i3⟩, ?_⟩
    refine loopH_intro (α := Nat × Int × Int) (fun x => ([(0, .sl 1 (ls.map .str)), (2, .int .u8 70), (3, .int .u8 c.toNat), (4, .int .i64 x.2.1), (6, .ptr 0 2 1 0 0), (10, .ptr 1 5 1 0 0), (11, .bool false), (12, .str s), (13, .int .i64 x.2.2), (15, .int .i64 (p2 - 1 - ((x.1 : Nat) : Int)))], [.arr 25 2 [.agg [.int .i64 p1, .int .i64 p2]], .arr 49 5 [.agg [.int .i64 0, .int .i64 0, .int .i64 0, .bool false, .int .i64 0]]]))
      (fun x => (1 ≤ x.2.1 ∧ x.2.1 ≤ n ∧ x.1 ≤ s.length ∧ S = seekL c (-1) (restF s p2 true x.1) (p2 - 1 - ((x.1 : Nat) : Int)) x.2.1) ∨ (x.2.1 = 0 ∧ S = x.2.2 ∧ 0 ≤ x.2.2 ∧ x.2.2 < (s.length : Int) ∧ x.1 ≤ s.length + 1)) (fun x => s.length + 2 - x.1) (0, n, -1) (.inl ⟨i1, by dsimp only; omega, Nat.zero_le _, hS0⟩) ?_ ?_
    · simp (maxSteps := 4000000) only [go_sem, reduceCtorEq, Nat.reduceEqDiff]
      (repeat' first | exact subX_eq rfl rfl | apply And.intro | decide | rfl)
    rintro ⟨j, m, at_⟩ hx
    dsimp only at hx
    rcases hx with ⟨x1, x2, x3, x4⟩ | ⟨rfl, hSe, x3, x4, x5⟩
    · have c2 : decide (m > 0) = true := decide_eq_true (by omega)
      by_cases hlt : 0 ≤ p2 - 1 - (j : Int)
      · have c1 : decide (p2 - 1 - (j : Int) ≥ 0) = true := decide_eq_true (by omega)
        have w1 : IntKind.i64.wrap (p2 - 1 - (j : Int) - 1) = p2 - 1 - ((j + 1 : Nat) : Int) := by rw [wrap64 (by omega) (by omega)]; omega
        have w2 : IntKind.i64.wrap (m - 1) = m - 1 := wrap64 (by omega) (by omega)
        have hrc := restF_cons (s := s) (col := p2) (back := true) (i := j) i4 i5 (by unfold atF; simp; omega) (by unfold atF; simp; omega)
        have hat : atF p2 true j = p2 - 1 - (j : Int) := by unfold atF; simp
        rw [hat] at hrc
        obtain ⟨v, hv⟩ : ∃ v, v = s.getD (p2 - 1 - (j : Int)).toNat 0 := ⟨_, rfl⟩
        rw [← hv] at hrc
        rw [hrc, seekL] at x4
        have hbb : ((v.toNat : Int) == (c.toNat : Int)) = (v == c) := by rw [byte_eq, Bool.eq_iff_iff]; simp
        have hnx : p2 - 1 - (j : Int) + (-1) = (p2 - 1 - ((j + 1 : Nat) : Int)) := by omega
        rw [hnx] at x4
        by_cases hvc : v = c
        · have c3 : (v == c) = true := beq_iff_eq.2 hvc
          rw [if_pos hvc] at x4
          simp (maxSteps := 4000000) only [go_sem, reduceCtorEq, Nat.reduceEqDiff, tk9, c1, c2, w1, w2, ←hv, hbb, c3]
          refine ⟨⟨by omega, by omega⟩, (j + 1, m - 1, p2 - 1 - (j : Int)), ?_, by dsimp only; omega, ?_⟩
          · dsimp only
            by_cases hm1 : m = 1
            · rw [if_pos hm1] at x4
              exact .inr ⟨by omega, x4, by omega, by omega, by omega⟩
            · rw [if_neg hm1] at x4
              exact .inl ⟨by omega, by omega, by omega, x4⟩
          · (repeat' first | exact subX_eq rfl rfl | apply And.intro | decide | rfl)
        · have c3 : (v == c) = false := beq_eq_false_iff_ne.2 hvc
          rw [if_neg hvc] at x4
          simp (maxSteps := 4000000) only [go_sem, reduceCtorEq, Nat.reduceEqDiff, tk9, c1, c2, w1, ←hv, hbb, c3]
          refine ⟨⟨by omega, by omega⟩, (j + 1, m, at_), .inl ⟨x1, x2, by dsimp only; omega, x4⟩, by dsimp only; omega, ?_⟩
          (repeat' first | exact subX_eq rfl rfl | apply And.intro | decide | rfl)
      · have c1 : decide (p2 - 1 - (j : Int) ≥ 0) = false := decide_eq_false (by omega)
        rw [restF_nil i4 i5 (by unfold atF; simp; omega), seekL] at x4
        subst x4
        unfold seekTo
        rw [if_pos (by decide)]
        simp (maxSteps := 4000000) only [go_sem, Nat.reduceAdd, reduceCtorEq, Nat.reduceEqDiff, tk49, dz49, kNone, aMove, aMv, mNone, c1, c2]
    · have c3 : decide (at_ < 0) = false := decide_eq_false (by omega)
      rw [hSe]
      unfold seekTo
      rw [if_neg (by omega)]
      have w5 : IntKind.i64.wrap (at_ - 1) = at_ - 1 := wrap64 (by omega) (by omega)
      have w6 : IntKind.i64.wrap (at_ + 1) = at_ + 1 := wrap64 (by omega) (by omega)
      have e5 : at_ + -1 = at_ - 1 := by omega
      cases c1 : decide (p2 - 1 - (j : Int) ≥ 0)
      all_goals
        simp (maxSteps := 4000000) only [go_sem, Nat.reduceAdd, reduceCtorEq, Nat.reduceEqDiff, Int.reduceBEq, tk3, tk25, dz25, tk49, tz49, dz49, kTo, aMove, aMv, mTo, c1, c3, Int.add_zero, gt_iff_lt, Int.lt_irrefl, decide_false]
        (repeat' first | exact subX_eq rfl rfl | apply And.intro | rfl | omega)
  · simp (maxSteps := 4000000) only [go_sem, Nat.reduceAdd, reduceCtorEq, Nat.reduceEqDiff, Int.reduceBEq, tk3, tk9, dz9, tk22, tk25, dz25, tz49, kMay, aPos, byteA, hm, ←hs, UInt8.reduceToNat, w0]
    refine ⟨⟨i2, i3⟩, ?_⟩
    refine loopH_intro (α := Nat × Int × Int) (fun x => ([(0, .sl 1 (ls.map .str)), (2, .int .u8 84), (3, .int .u8 c.toNat), (4, .int .i64 x.2.1), (6, .ptr 0 2 1 0 0), (10, .ptr 1 5 1 0 0), (11, .bool false), (12, .str s), (13, .int .i64 x.2.2), (15, .int .i64 (p2 - 1 - ((x.1 : Nat) : Int)))], [.arr 25 2 [.agg [.int .i64 p1, .int .i64 p2]], .arr 49 5 [.agg [.int .i64 0, .int .i64 0, .int .i64 0, .bool false, .int .i64 0]]]))
      (fun x => (1 ≤ x.2.1 ∧ x.2.1 ≤ n ∧ x.1 ≤ s.length ∧ S = seekL c (-1) (restF s p2 true x.1) (p2 - 1 - ((x.1 : Nat) : Int)) x.2.1) ∨ (x.2.1 = 0 ∧ S = x.2.2 ∧ 0 ≤ x.2.2 ∧ x.2.2 < (s.length : Int) ∧ x.1 ≤ s.length + 1)) (fun x => s.length + 2 - x.1) (0, n, -1) (.inl ⟨i1, by dsimp only; omega, Nat.zero_le _, hS0⟩) ?_ ?_
    · simp (maxSteps := 4000000) only [go_sem, reduceCtorEq, Nat.reduceEqDiff]
      (repeat' first | exact subX_eq rfl rfl | apply And.intro | decide | rfl)
    rintro ⟨j, m, at_⟩ hx
    dsimp only at hx
    rcases hx with ⟨x1, x2, x3, x4⟩ | ⟨rfl, hSe, x3, x4, x5⟩
    · have c2 : decide (m > 0) = true := decide_eq_true (by omega)
      by_cases hlt : 0 ≤ p2 - 1 - (j : Int)
      · have c1 : decide (p2 - 1 - (j : Int) ≥ 0) = true := decide_eq_true (by omega)
        have w1 : IntKind.i64.wrap (p2 - 1 - (j : Int) - 1) = p2 - 1 - ((j + 1 : Nat) : Int) := by rw [wrap64 (by omega) (by omega)]; omega
        have w2 : IntKind.i64.wrap (m - 1) = m - 1 := wrap64 (by omega) (by omega)
        have hrc := restF_cons (s := s) (col := p2) (back := true) (i := j) i4 i5 (by unfold atF; simp; omega) (by unfold atF; simp; omega)
        have hat : atF p2 true j = p2 - 1 - (j : Int) := by unfold atF; simp
        rw [hat] at hrc
        obtain ⟨v, hv⟩ : ∃ v, v = s.getD (p2 - 1 - (j : Int)).toNat 0 := ⟨_, rfl⟩
        rw [← hv] at hrc
        rw [hrc, seekL] at x4
        have hbb : ((v.toNat : Int) == (c.toNat : Int)) = (v == c) := by rw [byte_eq, Bool.eq_iff_iff]; simp
        have hnx : p2 - 1 - (j : Int) + (-1) = (p2 - 1 - ((j + 1 : Nat) : Int)) := by omega
        rw [hnx] at x4
        by_cases hvc : v = c
        · have c3 : (v == c) = true := beq_iff_eq.2 hvc
          rw [if_pos hvc] at x4
          simp (maxSteps := 4000000) only [go_sem, reduceCtorEq, Nat.reduceEqDiff, tk9, c1, c2, w1, w2, ←hv, hbb, c3]
          refine ⟨⟨by omega, by omega⟩, (j + 1, m - 1, p2 - 1 - (j : Int)), ?_, by dsimp only; omega, ?_⟩
          · dsimp only
            by_cases hm1 : m = 1
            · rw [if_pos hm1] at x4
              exact .inr ⟨by omega, x4, by omega, by omega, by omega⟩
            · rw [if_neg hm1] at x4
              exact .inl ⟨by omega, by omega, by omega, x4⟩
          · (repeat' first | exact subX_eq rfl rfl | apply And.intro | decide | rfl)
        · have c3 : (v == c) = false := beq_eq_false_iff_ne.2 hvc
          rw [if_neg hvc] at x4
          simp (maxSteps := 4000000) only [go_sem, reduceCtorEq, Nat.reduceEqDiff, tk9, c1, c2, w1, ←hv, hbb, c3]
          refine ⟨⟨by omega, by omega⟩, (j + 1, m, at_), .inl ⟨x1, x2, by dsimp only; omega, x4⟩, by dsimp only; omega, ?_⟩
          (repeat' first | exact subX_eq rfl rfl | apply And.intro | decide | rfl)
      · have c1 : decide (p2 - 1 - (j : Int) ≥ 0) = false := decide_eq_false (by omega)
        rw [restF_nil i4 i5 (by unfold atF; simp; omega), seekL] at x4
        subst x4
        unfold seekTo
        rw [if_pos (by decide)]
        simp (maxSteps := 4000000) only [go_sem, Nat.reduceAdd, reduceCtorEq, Nat.reduceEqDiff, tk49, dz49, kNone, aMove, aMv, mNone, c1, c2]
    · have c3 : decide (at_ < 0) = false := decide_eq_false (by omega)
      rw [hSe]
      unfold seekTo
      rw [if_neg (by omega)]
      have w5 : IntKind.i64.wrap (at_ - 1) = at_ - 1 := wrap64 (by omega) (by omega)
      have w6 : IntKind.i64.wrap (at_ + 1) = at_ + 1 := wrap64 (by omega) (by omega)
      have e5 : at_ + -1 = at_ - 1 := by omega
      cases c1 : decide (p2 - 1 - (j : Int) ≥ 0)
      all_goals
        simp (maxSteps := 4000000) only [go_sem, Nat.reduceAdd, reduceCtorEq, Nat.reduceEqDiff, Int.reduceBEq, Nat.reduceLeDiff, tk3, tk25, dz25, tk49, tz49, dz49, kTo, aMove, aMv, mTo, c1, c3, w6, gt_iff_lt, Int.lt_irrefl, decide_false]
        (repeat' first | exact subX_eq rfl rfl | apply And.intro | rfl | omega)
set_option maxHeartbeats 4000000 in
theorem calls_RSeek0 (ls : Ls) (p1 p2 : Int) (key c : UInt8) (n : Int) (hm : may ls (p1, p2) n = false) : CallsR Tryz.prog 50 [.sl 1 (ls.map .str), aPos (p1, p2), byteA key, byteA c, .int .i64 n] [] (aMove mNone) [] := by
  refine callsR_of (mrg := true) (dyn := []) (CtrOK.cons ok_may (CtrOK.cons ok_none (CtrOK.nil _))) mixed Tryz.func50 rfl (by simp [Tryz.ntmps50]) (by kernel_rfl) ?_
  rw [show Tryz.f50.results.toList = [.cell 10 49, .tmp 11] from by kernel_rfl]
  simp (maxSteps := 4000000) only [go_sem, Nat.reduceAdd, reduceCtorEq, Nat.reduceEqDiff, tk25, dz25, tk49, tz49, dz49, kMay, kNone, aPos, aMove, aMv, mNone, byteA, hm]
set_option maxHeartbeats 4000000 in
theorem calls_RSeekN (ls : Ls) (p1 p2 : Int) (key c : UInt8) (n : Int) (hm : may ls (p1, p2) n = true) (k1 : ¬ key = 102) (k2 : ¬ key = 116) (k3 : ¬ key = 70) (k4 : ¬ key = 84) : CallsR Tryz.prog 50 [.sl 1 (ls.map .str), aPos (p1, p2), byteA key, byteA c, .int .i64 n] [] (aMove mNone) [] := by
  refine callsR_of (mrg := true) (dyn := []) (CtrOK.cons ok_may (CtrOK.cons ok_none (CtrOK.cons ok_to (CtrOK.nil _)))) mixed Tryz.func50 rfl (by simp [Tryz.ntmps50]) (by kernel_rfl) ?_
  rw [show Tryz.f50.results.toList = [.cell 10 49, .tmp 11] from by kernel_rfl]
  have hi := (may_iff _ _ _).1 hm
  dsimp only at hi
  have c0 : decide (n > 0) = true := decide_eq_true (by omega)
  have b1 := byte_lit key 102 102 rfl k1
  have b2 := byte_lit key 116 116 rfl k2
  have b3 := byte_lit key 70 70 rfl k3
  have b4 := byte_lit key 84 84 rfl k4
  simp (maxSteps := 4000000) only [go_sem, Nat.reduceAdd, reduceCtorEq, Nat.reduceEqDiff, Int.reduceLT, tk3, tk9, dz9, tk22, tk25, dz25, tk49, tz49, dz49, kMay, kNone, aPos, aMove, aMv, mNone, byteA, hm, c0, b1, b2, b3, b4]
  exact ⟨hi.2.1, hi.2.2.1⟩
theorem calls_RSeek (ls : Ls) (p : Int × Int) (key c : UInt8) (n : Int) (hf : okText ls) (h4 : n ≤ 9223372036854775807) : CallsR Tryz.prog 50 [.sl 1 (ls.map .str), aPos p, byteA key, byteA c, .int .i64 n] [] (aMove (seekP ls p key c n)) [] := by
  obtain ⟨p1, p2⟩ := p
  unfold seekP whenMay
  cases hm : may ls (p1, p2) n with
  | false => rw [if_neg (by simp)]; exact calls_RSeek0 ls p1 p2 key c n hm
  | true =>
    rw [if_pos rfl]
    by_cases k1 : key = 102
    · rw [if_pos k1]; exact calls_RSeekF ls p1 p2 key c n 1 0 hf h4 hm (.inl ⟨k1, rfl, rfl⟩)
    rw [if_neg k1]
    by_cases k2 : key = 116
    · rw [if_pos k2]; exact calls_RSeekF ls p1 p2 key c n 1 (-1) hf h4 hm (.inr ⟨k2, rfl, rfl⟩)
    rw [if_neg k2]
    by_cases k3 : key = 70
    · rw [if_pos k3]; exact calls_RSeekB ls p1 p2 key c n 0 0 hf h4 hm (.inl ⟨k3, rfl, rfl⟩)
    rw [if_neg k3]
    by_cases k4 : key = 84
    · rw [if_pos k4]; exact calls_RSeekB ls p1 p2 key c n 0 1 hf h4 hm (.inr ⟨k4, rfl, rfl⟩)
    rw [if_neg k4]
    exact calls_RSeekN ls p1 p2 key c n hm k1 k2 k3 k4
theorem ok_RSeek : C1OK Tryz.prog 50 kSeek := C1OK.by (by kernel_rfl) (fun d h => calls_RSeek d.1 d.2.1 d.2.2.1 d.2.2.2.1 d.2.2.2.2 h.1 h.2) (fun _ => rfl) (fun _ => rfl)
end Go.Pg
