/- MoveDoes: what is remembered stays small. MoveSearches: n goes on as the last search went, N the other way, star searches the word. MoveDoes: any motion leads where the document says. -/
import Derived.Test.YtkkcfkggfpoagaaGreatPgBs
import Derived.Test.YtkkcfkggfpoagaaGreatPgFx23
import Derived.Test.YtkkcfkggfpoagaaGreatPgFx17
import Derived.Test.YtkkcfkggfpoagaaGreatPgFx16
set_option linter.unusedVariables false
set_option linter.unusedSimpArgs false
namespace Go.Pg
open Go Go.Proofs

/-- The pattern that is remembered is no longer than so. -/
def fOK (N : Nat) (r : Res) : Prop := r.2.2.2.2.2.2.2.1.length ≤ N
theorem fOK_ite {N : Nat} {c : Prop} [Decidable c] {a b : Res} (ha : fOK N a) (hb : fOK N b) : fOK N (if c then a else b) := by
  split
  · exact ha
  · exact hb
theorem fOK_pair {N : Nat} {r : Mv × Bool} {x : Cx} (h : x.2.2.2.2.2.2.1.length ≤ N) : fOK N (r, x) := h
theorem fOK_text {N : Nat} (x : Cx) (t : List UInt8) (r : Mv × Bool) (b : Bool) (h7 : x.2.2.2.2.2.2.1.length ≤ N) (ht : t.length ≤ N) : fOK N (r, setFB x (if t = [] then x.2.2.2.2.2.2.1 else t) b) := by
  show (if t = [] then x.2.2.2.2.2.2.1 else t).length ≤ N
  split
  · exact h7
  · exact ht
theorem fOK_searchA {N : Nat} (ls : Ls) (x : Cx) (m t : List UInt8) (n : Int) (h7 : x.2.2.2.2.2.2.1.length ≤ N) (ht : t.length ≤ N) (hw : (wordP ls (curOf x)).2.1.length ≤ N) : fOK N (searchA ls x m t n) := by
  unfold searchA
  exact fOK_ite (fOK_text x t _ _ h7 ht) <| fOK_ite (fOK_text x t _ _ h7 ht) <| fOK_ite (fOK_pair h7) <| fOK_ite (fOK_pair h7) <| fOK_ite (fOK_ite hw (fOK_pair h7)) (fOK_pair h7)
theorem fOK_textA {N : Nat} (ls : Ls) (x : Cx) (c : Cm) (n : Int) (o : Bool) (h7 : x.2.2.2.2.2.2.1.length ≤ N) (ht : c.2.2.2.2.2.length ≤ N) (hw : (wordP ls (curOf x)).2.1.length ≤ N) : fOK N (textA ls x c n o) := by
  unfold textA
  exact fOK_ite (fOK_pair h7) <| fOK_ite (fOK_pair h7) <| fOK_ite (fOK_pair h7) <| fOK_ite (fOK_pair h7) <| fOK_ite (fOK_pair h7) <| fOK_searchA ls x _ _ n h7 ht hw
theorem fOK_vertA {N : Nat} (ls : Ls) (x : Cx) (c : Cm) (n : Int) (o : Bool) (h7 : x.2.2.2.2.2.2.1.length ≤ N) (ht : c.2.2.2.2.2.length ≤ N) (hw : (wordP ls (curOf x)).2.1.length ≤ N) : fOK N (vertA ls x c n o) := by
  unfold vertA
  exact fOK_ite (fOK_pair h7) <| fOK_ite (fOK_pair h7) <| fOK_ite (fOK_pair h7) <| fOK_ite (fOK_pair h7) <| fOK_ite (fOK_pair h7) <| fOK_ite (fOK_pair h7) <| fOK_ite (fOK_pair h7) <| fOK_ite (fOK_pair h7) <| fOK_ite (fOK_pair h7) <| fOK_ite (fOK_pair h7) <| fOK_textA ls x c n o h7 ht hw
theorem fOK_wordA {N : Nat} (ls : Ls) (x : Cx) (c : Cm) (n : Int) (o : Bool) (h7 : x.2.2.2.2.2.2.1.length ≤ N) (ht : c.2.2.2.2.2.length ≤ N) (hw : (wordP ls (curOf x)).2.1.length ≤ N) : fOK N (wordA ls x c n o) := by
  unfold wordA
  exact fOK_ite (fOK_pair h7) <| fOK_ite (fOK_pair h7) <| fOK_ite (fOK_pair h7) <| fOK_ite (fOK_pair h7) <| fOK_ite (fOK_pair h7) <| fOK_ite (fOK_pair h7) <| fOK_ite (fOK_pair h7) <| fOK_ite (fOK_pair h7) <| fOK_vertA ls x c n o h7 ht hw
theorem fOK_lineA {N : Nat} (ls : Ls) (x : Cx) (c : Cm) (n : Int) (o : Bool) (h7 : x.2.2.2.2.2.2.1.length ≤ N) (ht : c.2.2.2.2.2.length ≤ N) (hw : (wordP ls (curOf x)).2.1.length ≤ N) : fOK N (lineA ls x c n o) := by
  unfold lineA
  exact fOK_ite (fOK_pair h7) <| fOK_ite (fOK_pair h7) <| fOK_ite (fOK_pair h7) <| fOK_ite (fOK_pair h7) <| fOK_ite (fOK_pair h7) <| fOK_ite (fOK_pair h7) <| fOK_ite (fOK_pair h7) <| fOK_ite (fOK_pair h7) <| fOK_ite (fOK_pair h7) <| fOK_ite (fOK_pair h7) <| fOK_ite (fOK_pair h7) <| fOK_ite (fOK_pair h7) <| fOK_wordA ls x c n o h7 ht hw
theorem find_small (ls : Ls) (x : Cx) (c : Cm) (op : Bool) (g : Option (Int × Int)) (hf : okText ls) (h7 : x.2.2.2.2.2.2.1.length ≤ 1099511627776) (ht : c.2.2.2.2.2.length ≤ 1099511627776) : (doM ls x c op g).2.2.2.2.2.2.2.1.length ≤ 1099511627776 := by
  have hw := word_len ls (curOf x) hf
  show fOK 1099511627776 (doL ls x c op g)
  unfold doL
  exact fOK_ite (fOK_pair h7) <| fOK_ite (fOK_pair h7) <| fOK_lineA ls x c _ op h7 ht hw
theorem restC_text (m : List UInt8) (cn : Int) : (restC m cn).2.2.2.2.2.length ≤ m.length := by
  unfold restC
  repeat' split
  all_goals simp
  all_goals omega
theorem restPre_len {m : List UInt8} (h : restPre m = true) : m.length ≤ 65536 := by
  unfold restPre at h
  rw [Bool.and_eq_true, decide_eq_true_eq] at h
  exact h.1
theorem tryC_text {k : List UInt8} (h : tryPre k = true) : (tryC k).2.2.2.2.2.length ≤ 1099511627776 := by
  have h1 := restC_text (k.drop (numR k 0 0).2) (numR k 0 0).1
  have h2 : restPre (k.drop (numR k 0 0).2) = true := by
    unfold tryPre at h
    simp only [Bool.and_eq_true] at h
    exact h.2.2.2.2.2.2.2
  have h3 := restPre_len h2
  unfold tryC
  omega
theorem restC_cnt (m : List UInt8) (cn : Int) : (restC m cn).2.1 = cn := by
  unfold restC
  repeat' split
  all_goals rfl
theorem tryC_cnt (k : List UInt8) : (tryC k).2.1 ≤ 9223372036854775807 := by
  unfold tryC
  rw [restC_cnt]
  have := numL_in (k.drop 0) 0 0 (by omega) (by omega)
  have h2 : (numR k 0 0).1 ≤ 9999 := this.2.1
  omega
end Go.Pg
namespace Go.Pg
open Go Go.Proofs

theorem okText_of {ls : Ls} (h : text ls = true) : okText ls := fits_mono (fits_text h) (by omega) (by omega)
end Go.Pg
namespace Go.Pg
open Go Go.Proofs

abbrev St := UInt8 × Int × Int
def aSt (s : St) : AV := .agg [byteA s.1, .int .i64 s.2.1, .int .i64 s.2.2]
theorem getD_st (l : List St) (i : Nat) : (l.map aSt).getD i (.agg [.int .u8 0, .int .i64 0, .int .i64 0]) = aSt (l.getD i (0, 0, 0)) := getD_map aSt l i (0, 0, 0)
theorem or_assoc6 (A B C D E F G : Prop) : (A ∨ B ∨ C ∨ D ∨ E ∨ F ∨ G) ↔ ((A ∨ B ∨ C ∨ D ∨ E ∨ F) ∨ G) := by
  constructor
  · rintro (h | h | h | h | h | h | h) <;> simp [h]
  · rintro ((h | h | h | h | h | h) | h) <;> simp [h]
abbrev mkD (x : Cx) (c : Cm) (m z : Mks) : AH := [.arr 27 8 [aCx x], .arr 29 6 [.agg (aCm c)], .arr 58 1 [.agg [.mp 3]], .mp (encE cByte cPos m), .arr 39 2 [.agg [.own 5 1 z.length, .own 6 2 z.length]], .arr 5 1 (ofBytes (zN z)), .arr 25 2 (aPs (zP z))]

set_option maxRecDepth 40000 in
set_option maxHeartbeats 40000000 in
theorem calls_MoveDoes (ls : Ls) (a b : Int) (x : Cx) (c : Cm) (ns : List UInt8) (l : List St) (op : Bool) (hs : ∀ i, (ls.getD i []).length ≤ 140737488355328) (ha : 0 ≤ a ∧ a < 65536) (hb : 0 ≤ b ∧ b < 65536) (hcn : c.2.1 ≤ 9223372036854775807)
    (hl1 : c.2.2.2.1.length ≤ 140737488355328) (hl2 : c.2.2.2.2.2.length ≤ 140737488355328) (hl3 : x.2.2.2.2.2.2.1.length ≤ 140737488355328) (hl4 : ns.length ≤ 140737488355328) (hl5 : l.length ≤ 140737488355328) :
    CallsR Tryz.prog 3 [.sl 1 (ls.map .str), .int .u16 a, .int .u16 b, aCx x, .agg (aCm c), .sl 1 (ofBytes ns), .sl 3 (l.map aSt), .bool op] [] (.bool true) [] := by
  refine callsR_of (mrg := true) (dyn := [9, 10, 27, 28]) (CtrOK.cons ok_known25 (CtrOK.cons ok_Text (CtrOK.cons ok_New (CtrOK.cons ok_Set (CtrOK.cons ok_Set13 (CtrOK.cons ok_SPlace (CtrOK.cons ok_Motion (CtrOK.cons ok_RTry (CtrOK.cons ok_DoM (CtrOK.cons ok_RDo (CtrOK.nil _))))))))))) mixed Tryz.func3 rfl (by simp [Tryz.ntmps3]) (by kernel_rfl) ?_
  rw [show Tryz.f3.results.toList = [.tmp 16] from by kernel_rfl]
  obtain ⟨x1, x2, x3, x4, x5, x6, x7, x8⟩ := x
  obtain ⟨rg, cn, opr, name, arg, text⟩ := c
  dsimp only at hcn hl1 hl2 hl3
  have D : (Go.Pg.text ls = false ∧ Go.Pg.text ls = false ∧ Go.Pg.text ls = false ∧ Go.Pg.text ls = false ∧ Go.Pg.text ls = false ∧ Go.Pg.text ls = false) ∨ (Go.Pg.text ls = true ∧ decide ((name.length : Int) > 5) = true ∧ decide ((name.length : Int) > 5) = true ∧ decide ((name.length : Int) > 5) = true ∧ decide ((name.length : Int) > 5) = true ∧ decide ((name.length : Int) > 5) = true) ∨ (Go.Pg.text ls = true ∧ decide ((name.length : Int) > 5) = false ∧ decide ((text.length : Int) > 60) = true ∧ decide ((text.length : Int) > 60) = true ∧ decide ((text.length : Int) > 60) = true ∧ decide ((text.length : Int) > 60) = true) ∨ (Go.Pg.text ls = true ∧ decide ((name.length : Int) > 5) = false ∧ decide ((text.length : Int) > 60) = false ∧ decide ((x7.length : Int) > 60) = true ∧ decide ((x7.length : Int) > 60) = true ∧ decide ((x7.length : Int) > 60) = true) ∨ (Go.Pg.text ls = true ∧ decide ((name.length : Int) > 5) = false ∧ decide ((text.length : Int) > 60) = false ∧ decide ((x7.length : Int) > 60) = false ∧ decide ((ns.length : Int) > 12) = true ∧ decide ((ns.length : Int) > 12) = true) ∨ (Go.Pg.text ls = true ∧ decide ((name.length : Int) > 5) = false ∧ decide ((text.length : Int) > 60) = false ∧ decide ((x7.length : Int) > 60) = false ∧ decide ((ns.length : Int) > 12) = false ∧ decide ((l.length : Int) > 10) = true) ∨ (Go.Pg.text ls = true ∧ decide ((name.length : Int) > 5) = false ∧ decide ((text.length : Int) > 60) = false ∧ decide ((x7.length : Int) > 60) = false ∧ decide ((ns.length : Int) > 12) = false ∧ decide ((l.length : Int) > 10) = false) := by
    cases h0 : Go.Pg.text ls with
    | false => exact .inl ⟨rfl, rfl, rfl, rfl, rfl, rfl⟩
    | true =>
      cases h1 : decide ((name.length : Int) > 5) with
      | true => exact .inr (.inl ⟨rfl, rfl, rfl, rfl, rfl, rfl⟩)
      | false =>
        cases h2 : decide ((text.length : Int) > 60) with
        | true => exact .inr (.inr (.inl ⟨rfl, rfl, rfl, rfl, rfl, rfl⟩))
        | false =>
          cases h3 : decide ((x7.length : Int) > 60) with
          | true => exact .inr (.inr (.inr (.inl ⟨rfl, rfl, rfl, rfl, rfl, rfl⟩)))
          | false =>
            cases h4 : decide ((ns.length : Int) > 12) with
            | true => exact .inr (.inr (.inr (.inr (.inl ⟨rfl, rfl, rfl, rfl, rfl, rfl⟩))))
            | false =>
              cases h5 : decide ((l.length : Int) > 10) with
              | true => exact .inr (.inr (.inr (.inr (.inr (.inl ⟨rfl, rfl, rfl, rfl, rfl, rfl⟩)))))
              | false => exact .inr (.inr (.inr (.inr (.inr (.inr ⟨rfl, rfl, rfl, rfl, rfl, rfl⟩)))))
  rw [or_assoc6] at D
  rcases D with D | ⟨b0, b1, b2, b3, b4, b5⟩
  · rcases D with ⟨b0, b1, b2, b3, b4, b5⟩ | ⟨b0, b1, b2, b3, b4, b5⟩ | ⟨b0, b1, b2, b3, b4, b5⟩ | ⟨b0, b1, b2, b3, b4, b5⟩ | ⟨b0, b1, b2, b3, b4, b5⟩ | ⟨b0, b1, b2, b3, b4, b5⟩
    all_goals
      simp (maxSteps := 4000000) only [go_sem, Nat.reduceAdd, reduceCtorEq, Nat.reduceEqDiff, Nat.reduceBEq, tk9, tk27, dz27, tk29, dz29, tk30, tk31, kKnown25, kText, kNew, kSet, kSet13, kSPlace, kMotion, kRTry, kDoM, kRDo, hMarks, hRef, mkH, rH', aMove, aMv, aPos, byteA, b0, b1, b2, b3, b4, b5]
      (repeat' first | exact hs | apply And.intro)
  have hft : okText ls := okText_of b0
  obtain ⟨hl0, _, hln⟩ := few_of_text b0
  have hsm : small ls := small_of hft
  have h7 : x7.length ≤ 60 := by have := of_decide_eq_false b3; omega
  have htx : text.length ≤ 60 := by have := of_decide_eq_false b2; omega
  have hns : ns.length ≤ 12 := by have := of_decide_eq_false b4; omega
  have hll : l.length ≤ 10 := by have := of_decide_eq_false b5; omega
  obtain ⟨p, hp⟩ : ∃ p, p = splace ls a b := ⟨_, rfl⟩
  obtain ⟨p1, p2⟩ := p
  simp (maxSteps := 4000000) only [go_sem, Nat.reduceAdd, reduceCtorEq, Nat.reduceEqDiff, Nat.reduceBEq, tk9, tk27, dz27, tk29, dz29, tk30, tk31, tk39, tz39, kKnown25, kText, kNew, kSet, kSet13, kSPlace, kMotion, kRTry, kDoM, kRDo, hMarks, hRef, mkH, rH', aMove, aMv, aPos, byteA, b0, b1, b2, b3, b4, b5]
  refine ⟨hs, ?_⟩
  refine loopH_intro (α := Nat × Mks × Mks) (fun s => ([(0, .sl 1 (ls.map .str)), (1, .int .u16 a), (2, .int .u16 b), (5, .sl 1 (ofBytes ns)), (6, .sl 3 (l.map aSt)), (7, .bool op), (11, .ptr 0 8 1 0 0), (12, .ptr 1 6 1 0 0), (16, .bool false), (17, .ptr 2 1 1 0 0), (18, .ptr 4 2 1 0 0), (19, .int .i64 s.1)], mkD (x1, x2, x3, x4, x5, x6, x7, x8) (rg, cn, opr, name, arg, text) s.2.1 s.2.2))
    (fun s => s.1 ≤ l.length ∧ Rm s.2.1 s.2.2 ∧ s.2.2.length ≤ s.1) (fun s => l.length - s.1) (0, [], []) ⟨Nat.zero_le _, Rm.nil, Nat.le_refl _⟩ ?_ ?_
  · simp (maxSteps := 4000000) only [go_sem, Nat.reduceAdd, reduceCtorEq, Nat.reduceEqDiff, byteA, mkD]
    (repeat' first | exact rfl | apply And.intro | exact subX_eq rfl (pureB_bytes _) | exact subX_eq rfl (pureB_aPs _) | exact subX_eq rfl rfl | decide | omega | apply subX_one)
    all_goals try simp (maxSteps := 4000000) only [go_sem]
  rintro ⟨i, m, z⟩ ⟨hi, hR, hz⟩
  dsimp only at hi hR hz
  by_cases hlt : i < l.length
  · have c1 : decide ((i : Int) < (l.length : Int)) = true := decide_eq_true (by omega)
    have w1 : IntKind.i64.wrap ((i : Int) + 1) = ((i + 1 : Nat) : Int) := by rw [wrap64 (by omega) (by omega)]; rfl
    obtain ⟨e, he⟩ : ∃ e, e = l.getD i (0, 0, 0) := ⟨_, rfl⟩
    obtain ⟨k, u, v⟩ := e
    have hzl := zSet_len k (u, v) z
    cases hok : nameOk k with
    | true =>
      have hst := rSet_z k (u, v) z hR.asc
      simp (maxSteps := 4000000) only [go_sem, Nat.reduceAdd, reduceCtorEq, Nat.reduceEqDiff, Nat.reduceSub, Nat.reduceBEq, tk5, tk25, tk31, tk42, dz42, kKnown25, kText, kNew, kSet, kSet13, kSPlace, kMotion, kRTry, kDoM, kRDo, hMarks, hRef, mkH, rH', cPos_dec, decE_pos, decL_aPs, renL_aPs, renL_bytes, length_aPs, pureB_aPs, aMove, aMv, aPos, byteA, c1, w1, getD_st, ←he, aSt, hok, hst]
      (repeat' first | (refine ⟨(i + 1, upd k (u, v) m, zSet k (u, v) z), ⟨by dsimp only; omega, hR.set k _, by dsimp only; omega⟩, by dsimp only; omega, ?_⟩) | (show dynOrd _ _ = true; kernel_rfl) | exact subX_eq rfl rfl | exact subX_eq rfl (pureB_bytes _) | exact subX_eq rfl (pureB_aPs _) | apply And.intro | rfl | omega | apply subX_one)
      all_goals try simp (maxSteps := 4000000) only [go_sem]
    | false =>
      simp (maxSteps := 4000000) only [go_sem, Nat.reduceAdd, reduceCtorEq, Nat.reduceEqDiff, Nat.reduceSub, Nat.reduceBEq, tk5, tk25, tk31, tk42, dz42, kKnown25, kText, kNew, kSet, kSet13, kSPlace, kMotion, kRTry, kDoM, kRDo, hMarks, hRef, mkH, rH', cPos_dec, decE_pos, decL_aPs, renL_aPs, renL_bytes, length_aPs, pureB_aPs, aMove, aMv, aPos, byteA, c1, w1, getD_st, ←he, aSt, hok]
      (repeat' first | (refine ⟨(i + 1, m, z), ⟨by dsimp only; omega, hR, by dsimp only; omega⟩, by dsimp only; omega, ?_⟩) | (show dynOrd _ _ = true; kernel_rfl) | exact subX_eq rfl rfl | exact subX_eq rfl (pureB_bytes _) | exact subX_eq rfl (pureB_aPs _) | apply And.intro | rfl | omega | apply subX_one)
      all_goals try simp (maxSteps := 4000000) only [go_sem]
  · have c1 : decide ((i : Int) < (l.length : Int)) = false := decide_eq_false (by omega)
    have hz1 : z.length ≤ 1000 := by omega
    have hzz : (zN z).length = (zP z).length := by rw [List.length_map, List.length_map]
    have hgg : ∀ k, rGet k (zN z) (zP z) = look1 k m := fun k => by rw [rGet_z, hR.get]
    simp (maxSteps := 4000000) only [go_sem, Nat.reduceAdd, reduceCtorEq, Nat.reduceEqDiff, Nat.reduceBEq, Nat.reduceLeDiff, tk3, tk4, tk5, tk9, tk25, tk27, dz27, tk31, tk44, tz44, dz44, kKnown25, kText, kNew, kSet, kSet13, kSPlace, kMotion, kRTry, kDoM, kRDo, hMarks, hRef, mkH, rH', aMove, aMv, aPos, byteA, c1, ←hp]
    refine ⟨⟨hl0, hsm, ha, hb⟩, ?_⟩
    refine loopH_intro (α := Nat × Cx) (fun s => ([(0, .sl 1 (ls.map .str)), (5, .sl 1 (ofBytes ns)), (7, .bool op), (11, .ptr 0 8 1 0 0), (12, .ptr 1 6 1 0 0), (16, .bool false), (17, .ptr 2 1 1 0 0), (18, .ptr 4 2 1 0 0), (20, .ptr 7 8 1 0 0), (21, .int .i64 s.1)], mkD s.2 (rg, cn, opr, name, arg, text) m z ++ [.arr 44 8 [aCx s.2]]))
      (fun s => s.1 ≤ ns.length + 1 ∧ s.2.2.2.2.2.2.2.1.length ≤ 1099511627776) (fun s => ns.length + 1 - s.1) (0, (p1, p2, x3, x4, x5, x6, x7, x8)) ⟨Nat.zero_le _, by dsimp only; omega⟩ ?_ ?_
    · simp (maxSteps := 4000000) only [go_sem, Nat.reduceAdd, reduceCtorEq, Nat.reduceEqDiff, pureB_aPs, byteA, mkD]
      (repeat' first | exact subX_eq rfl rfl | exact subX_eq rfl (pureB_bytes _) | exact subX_eq rfl (pureB_aPs _) | apply And.intro | rfl | omega | apply subX_one)
      all_goals try simp (maxSteps := 4000000) only [go_sem]
    rintro ⟨j, y⟩ ⟨hj, hy⟩
    dsimp only at hj hy
    by_cases hjl : j ≤ ns.length
    · have c2 : decide ((j : Int) ≤ (ns.length : Int)) = true := decide_eq_true (by omega)
      have w1 : IntKind.i64.wrap ((j : Int) + 1) = ((j + 1 : Nat) : Int) := by rw [wrap64 (by omega) (by omega)]; rfl
      by_cases hjn : j < ns.length
      · have c3 : decide ((j : Int) < (ns.length : Int)) = true := decide_eq_true (by omega)
        obtain ⟨k, hk⟩ : ∃ k, k = motK (ns.getD j 0) := ⟨_, rfl⟩
        have hpre : tryPre k = true := by rw [hk]; exact (mot_at _).2.2
        have hcl := tryC_cnt k
        have htl := tryC_text hpre
        obtain ⟨d, hd⟩ : ∃ d, d = tryC k := ⟨_, rfl⟩
        rw [← hd] at hcl htl
        have hfs := find_small ls y d op (look1 (nameM d.2.2.2.2.1) m) hft hy htl
        obtain ⟨d1, d2, d3, d4, d5, d6⟩ := d
        obtain ⟨y1, y2, y3, y4, y5, y6, y7, y8⟩ := y
        dsimp only at hcl htl hfs hy
        have hg1 := hgg (nameM d5)
        obtain ⟨g, hg⟩ : ∃ g, g = look1 (nameM d5) m := ⟨_, rfl⟩
        rw [← hg] at hfs hg1
        obtain ⟨R, hRR⟩ : ∃ R, R = doM ls (y1, y2, y3, y4, y5, y6, y7, y8) (d1, d2, d3, d4, d5, d6) op g := ⟨_, rfl⟩
        rw [← hRR] at hfs
        obtain ⟨⟨⟨⟨t1, t2⟩, way, jp, want⟩, ok⟩, v1, v2, v3, v4, v5, v6, v7, v8⟩ := R
        dsimp only at hfs
        cases ok with
        | false =>
          simp (maxSteps := 4000000) only [go_sem, Nat.reduceAdd, reduceCtorEq, Nat.reduceEqDiff, Nat.reduceSub, Nat.reduceBEq, Nat.reduceLeDiff, tk3, tk4, tk5, dz5, tk9, tk25, eq25, tk27, dz27, tk29, tz29, dz29, tk30, tk44, dz44, tk49, tz49, dz49, eq49, kKnown25, kText, kNew, kSet, kSet13, kSPlace, kMotion, kRTry, kDoM, kRDo, hMarks, hRef, mkH, rH', decE_pos, decL_aPs, renL_aPs, renL_bytes, length_aPs, pureB_aPs, aMove, aMv, aPos, byteA, c2, c3, w1, ←hk, ←hd, ←hg, hg1, ←hRR]
          (repeat' first | (refine ⟨(j + 1, (v1, v2, v3, v4, v5, v6, v7, v8)), ⟨by dsimp only; omega, hfs⟩, by dsimp only; omega, ?_⟩) | exact hft | exact hl0 | exact hcl | exact htl | exact hy | exact hz1 | exact hzz | exact hpre | (show dynOrd _ _ = true; kernel_rfl) | exact subX_eq rfl rfl | exact subX_eq rfl (pureB_bytes _) | exact subX_eq rfl (pureB_aPs _) | apply And.intro | rfl | omega | apply subX_one)
          all_goals try simp (maxSteps := 4000000) only [go_sem]
        | true =>
          simp (maxSteps := 4000000) only [go_sem, Nat.reduceAdd, reduceCtorEq, Nat.reduceEqDiff, Nat.reduceSub, Nat.reduceBEq, Nat.reduceLeDiff, tk3, tk4, tk5, dz5, tk9, tk25, eq25, tk27, dz27, tk29, tz29, dz29, tk30, tk44, dz44, tk49, tz49, dz49, eq49, kKnown25, kText, kNew, kSet, kSet13, kSPlace, kMotion, kRTry, kDoM, kRDo, hMarks, hRef, mkH, rH', decE_pos, decL_aPs, renL_aPs, renL_bytes, length_aPs, pureB_aPs, aMove, aMv, aPos, byteA, c2, c3, w1, ←hk, ←hd, ←hg, hg1, ←hRR]
          (repeat' first | (refine ⟨(j + 1, (t1, t2, want, v4, v5, v6, v7, v8)), ⟨by dsimp only; omega, hfs⟩, by dsimp only; omega, ?_⟩) | exact hft | exact hl0 | exact hcl | exact htl | exact hy | exact hz1 | exact hzz | exact hpre | (show dynOrd _ _ = true; kernel_rfl) | exact subX_eq rfl rfl | exact subX_eq rfl (pureB_bytes _) | exact subX_eq rfl (pureB_aPs _) | apply And.intro | rfl | omega | apply subX_one)
          all_goals try simp (maxSteps := 4000000) only [go_sem]
      · have c3 : decide ((j : Int) < (ns.length : Int)) = false := decide_eq_false (by omega)
        have hcl := hcn
        have htl : text.length ≤ 1099511627776 := by omega
        have hfs := find_small ls y (rg, cn, opr, name, arg, text) op (look1 (nameM arg) m) hft hy htl
        obtain ⟨y1, y2, y3, y4, y5, y6, y7, y8⟩ := y
        dsimp only at hfs hy
        have hg1 := hgg (nameM arg)
        obtain ⟨g, hg⟩ : ∃ g, g = look1 (nameM arg) m := ⟨_, rfl⟩
        rw [← hg] at hfs hg1
        obtain ⟨R, hRR⟩ : ∃ R, R = doM ls (y1, y2, y3, y4, y5, y6, y7, y8) (rg, cn, opr, name, arg, text) op g := ⟨_, rfl⟩
        rw [← hRR] at hfs
        obtain ⟨⟨⟨⟨t1, t2⟩, way, jp, want⟩, ok⟩, v1, v2, v3, v4, v5, v6, v7, v8⟩ := R
        dsimp only at hfs
        cases ok with
        | false =>
          simp (maxSteps := 4000000) only [go_sem, Nat.reduceAdd, reduceCtorEq, Nat.reduceEqDiff, Nat.reduceSub, Nat.reduceBEq, Nat.reduceLeDiff, tk3, tk4, tk5, tk9, tk25, eq25, tk27, dz27, tk29, tz29, dz29, tk30, tk44, dz44, tk49, tz49, dz49, eq49, kKnown25, kText, kNew, kSet, kSet13, kSPlace, kMotion, kRTry, kDoM, kRDo, hMarks, hRef, mkH, rH', decE_pos, decL_aPs, renL_aPs, renL_bytes, length_aPs, pureB_aPs, aMove, aMv, aPos, byteA, c2, c3, w1, ←hg, hg1, ←hRR]
          (repeat' first | (refine ⟨(j + 1, (v1, v2, v3, v4, v5, v6, v7, v8)), ⟨by dsimp only; omega, hfs⟩, by dsimp only; omega, ?_⟩) | exact hft | exact hl0 | exact hcl | exact htl | exact hy | exact hz1 | exact hzz | (show dynOrd _ _ = true; kernel_rfl) | exact subX_eq rfl rfl | exact subX_eq rfl (pureB_bytes _) | exact subX_eq rfl (pureB_aPs _) | apply And.intro | rfl | omega | apply subX_one)
          all_goals try simp (maxSteps := 4000000) only [go_sem]
        | true =>
          simp (maxSteps := 4000000) only [go_sem, Nat.reduceAdd, reduceCtorEq, Nat.reduceEqDiff, Nat.reduceSub, Nat.reduceBEq, Nat.reduceLeDiff, tk3, tk4, tk5, tk9, tk25, eq25, tk27, dz27, tk29, tz29, dz29, tk30, tk44, dz44, tk49, tz49, dz49, eq49, kKnown25, kText, kNew, kSet, kSet13, kSPlace, kMotion, kRTry, kDoM, kRDo, hMarks, hRef, mkH, rH', decE_pos, decL_aPs, renL_aPs, renL_bytes, length_aPs, pureB_aPs, aMove, aMv, aPos, byteA, c2, c3, w1, ←hg, hg1, ←hRR]
          (repeat' first | (refine ⟨(j + 1, (t1, t2, want, v4, v5, v6, v7, v8)), ⟨by dsimp only; omega, hfs⟩, by dsimp only; omega, ?_⟩) | exact hft | exact hl0 | exact hcl | exact htl | exact hy | exact hz1 | exact hzz | (show dynOrd _ _ = true; kernel_rfl) | exact subX_eq rfl rfl | exact subX_eq rfl (pureB_bytes _) | exact subX_eq rfl (pureB_aPs _) | apply And.intro | rfl | omega | apply subX_one)
          all_goals try simp (maxSteps := 4000000) only [go_sem]
    · have c2 : decide ((j : Int) ≤ (ns.length : Int)) = false := decide_eq_false (by omega)
      simp (maxSteps := 4000000) only [go_sem, reduceCtorEq, Nat.reduceEqDiff, Nat.reduceBEq, tk30, kKnown25, kText, kNew, kSet, kSet13, kSPlace, kMotion, kRTry, kDoM, kRDo, hMarks, hRef, mkH, rH', aMove, aMv, aPos, c2]
end Go.Pg
