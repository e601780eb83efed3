/- A motion, by its name: where there are no marks. Marks: made, set, asked. Searching: the document's. -/
import Derived.Test.YtkkcfkggfpoagaaGreatPgBs
import Derived.Test.YtkkcfkggfpoagaaGreatPgFx10
import Derived.Test.YtkkcfkggfpoagaaGreatPgFx0
import Derived.Test.YtkkcfkggfpoagaaGreatPgHcd
import Derived.Test.YtkkcfkggfpoagaaGreatPgLst
import Derived.Test.YtkkcfkggfpoagaaGreatPgFx7
set_option linter.unusedVariables false
set_option linter.unusedSimpArgs false
namespace Go.Pg
open Go Go.Proofs

def cNpt : Cd Unit where
  enc _ := .npt
  dec
    | .npt => some ()
    | _ => none
  ok v a h := by split at h <;> cases h; rfl
theorem cNpt_dec : cNpt.dec .npt = some () := (rfl)
def kClamp : C1 := C1.by [.sl 1 [], .id, .id] (lCons cStrs (lCons cPos2 (lOne cBool))) (fun d => small d.1) (fun d => aPos (clampP d.1 d.2.1 d.2.2)) (fun _ => [])
theorem ok_Clamp : C1OK Tryz.prog 25 kClamp := C1OK.by (by kernel_rfl) (fun d h => calls_Clamp d.1 d.2.1 d.2.2 h) (fun _ => rfl) (fun _ => rfl)
theorem small_of {ls : Ls} (hf : okText ls) : small ls := fits_small hf (by omega) (by omega)

set_option maxHeartbeats 4000000 in
theorem calls_markN (ls : Ls) (x : Cx) (c : Cm) (n : Int) (op : Bool) : CallsR Tryz.prog 23 [aAsk ls c n op, .npt] (cxH x) (aMove mNone) (cxH x) := by
  refine callsR_of (mrg := true) (dyn := []) (CtrOK.nil _) mixed Tryz.func23 rfl (by simp [Tryz.ntmps23]) (by kernel_rfl) ?_
  rw [show Tryz.f23.results.toList = [.cell 4 49, .tmp 5] from by kernel_rfl]
  obtain ⟨rg, cn, opr, name, arg, text⟩ := c
  by_cases h : arg = 39
  · subst h
    simp (maxSteps := 4000000) only [go_sem, Nat.reduceAdd, reduceCtorEq, Nat.reduceEqDiff, tk5, tk29, pt34, tk49, tz49, dz49, tk68, dz68, aMove, aMv, mNone, byteA, UInt8.reduceToNat]
    (repeat' first | (show dynOrd _ _ = true; kernel_rfl) | exact subX_eq rfl rfl | exact trivial | apply And.intro | rfl | omega)
  · have c1 := byte_lit arg 39 39 rfl h
    simp (maxSteps := 4000000) only [go_sem, Nat.reduceAdd, reduceCtorEq, Nat.reduceEqDiff, tk5, tk29, pt34, tk49, tz49, dz49, tk68, dz68, aMove, aMv, mNone, c1]
    (repeat' first | (show dynOrd _ _ = true; kernel_rfl) | exact subX_eq rfl rfl | exact trivial | apply And.intro | rfl | omega)
def kMarkN : C1 := C1.mby (hCons (hAgg lAskd) (hCons (hP .id cNpt) hNil)) (fun _ => True) (fun _ => aMove mNone) (fun d => cxH d.1.2.1)
theorem ok_markN : C1OK Tryz.prog 23 kMarkN := C1OK.mby (by kernel_rfl) (fun d _ => calls_markN d.1.1 d.1.2.1 (d.1.2.2.1, d.1.2.2.2.1, d.1.2.2.2.2.1, d.1.2.2.2.2.2.1, d.1.2.2.2.2.2.2.1, d.1.2.2.2.2.2.2.2.1) d.1.2.2.2.2.2.2.2.2.1 d.1.2.2.2.2.2.2.2.2.2.1) (fun _ _ => Nat.le_refl _)

abbrev lCm : CdL Cm := lCons cByte (lCons (cInt .i64) (lCons cStr (lCons cStr (lCons cByte (lOne cStr)))))
/-- A motion's end: brought into the text, its column wanted. -/
def doFin (ls : Ls) (op : Bool) (r : Mv × Bool) : Mv × Bool :=
  if r.2 = true then ((clampP ls r.1.1 op, r.1.2.1, r.1.2.2.1, if r.1.2.2.2 = -1 then (clampP ls r.1.1 op).2 else r.1.2.2.2), true) else mNone
def cntF (cn : Int) : Int := if cn = 0 then 1 else cn
def doN (ls : Ls) (x : Cx) (c : Cm) (op : Bool) : Res :=
  if ls.length = 0 ∨ c.2.2.2.1 = [39] ∨ c.2.2.2.1 = [96] then (mNone, x)
  else (doFin ls op (lineA ls x c (cntF c.2.1) op).1, (lineA ls x c (cntF c.2.1) op).2)
set_option maxRecDepth 20000 in
set_option maxHeartbeats 8000000 in
theorem calls_DoN (ls : Ls) (x : Cx) (c : Cm) (op : Bool) (hf : okText ls) (hcn : c.2.1 ≤ 9223372036854775807) : CallsR Tryz.prog 12 [.sl 1 (ls.map .str), .ptr 0 8 1 0 0, .agg (aCm c), .bool op, .npt] (cxH x) (aMove (doN ls x c op).1) (cxH (doN ls x c op).2) := by
  refine callsR_of (mrg := true) (dyn := []) (CtrOK.cons ok_markN (CtrOK.cons ok_lineA (CtrOK.cons ok_Clamp (CtrOK.nil _)))) mixed Tryz.func12 rfl (by simp [Tryz.ntmps12]) (by kernel_rfl) ?_
  rw [show Tryz.f12.results.toList = [.cell 10 49, .tmp 11] from by kernel_rfl]
  have hsm := small_of hf
  obtain ⟨rg, cn, opr, name, arg, text⟩ := c
  dsimp only at hcn
  have hfin : ∀ k, k = cntF cn → k ≤ 9223372036854775807 := by intro k hk; rw [hk]; unfold cntF; split <;> omega
  have hcc : (cn = 0 → cntF cn = 1) ∧ (¬ cn = 0 → cntF cn = cn) := by unfold cntF; constructor <;> intro h <;> simp [h]
  obtain ⟨k, hk⟩ : ∃ k, k = cntF cn := ⟨_, rfl⟩
  have hkn := hfin k hk
  unfold doN
  dsimp only
  rw [← hk] at hcc ⊢
  have hll := hf.1
  by_cases hg : ls.length = 0 ∨ name = [39] ∨ name = [96]
  · rw [if_pos hg]
    by_cases hl0 : ls.length = 0
    · have g1 : ((ls.length : Int) == 0) = true := by rw [hl0]; rfl
      by_cases hc0 : cn = 0
      · have c0 : (cn == 0) = true := beq_iff_eq.2 hc0
        simp (maxSteps := 4000000) only [go_sem, Nat.reduceAdd, reduceCtorEq, Nat.reduceEqDiff, Nat.reduceLeDiff, tk3, tk22, tk29, dz29, tk49, tz49, dz49, tk68, tz68, dz68, kMarkN, kLineA, kClamp, aMove, aMv, mNone, aPos, c0, g1]
        (repeat' first | exact hf | exact hcn | exact hkn | exact hsm | exact ⟨hf, hcn⟩ | (show dynOrd _ _ = true; kernel_rfl) | exact subX_eq rfl rfl | exact trivial | apply And.intro | rfl | omega)
      · have c0 : (cn == 0) = false := beq_eq_false_iff_ne.2 hc0
        simp (maxSteps := 4000000) only [go_sem, Nat.reduceAdd, reduceCtorEq, Nat.reduceEqDiff, Nat.reduceLeDiff, tk3, tk22, tk29, dz29, tk49, tz49, dz49, tk68, tz68, dz68, kMarkN, kLineA, kClamp, aMove, aMv, mNone, aPos, c0, g1]
        (repeat' first | exact hf | exact hcn | exact hkn | exact hsm | exact ⟨hf, hcn⟩ | (show dynOrd _ _ = true; kernel_rfl) | exact subX_eq rfl rfl | exact trivial | apply And.intro | rfl | omega)
    · have g1 : ((ls.length : Int) == 0) = false := by rw [beq_eq_false_iff_ne]; omega
      have hg : name = [39] ∨ name = [96] := hg.elim (fun h => absurd h hl0) id
      rcases hg with hg | hg
      · subst hg
        by_cases hc0 : cn = 0
        · have c0 : (cn == 0) = true := beq_iff_eq.2 hc0
          simp (maxSteps := 4000000) only [go_sem, Nat.reduceAdd, reduceCtorEq, Nat.reduceEqDiff, Nat.reduceLeDiff, tk3, tk9, tk22, tk29, dz29, tk49, tz49, dz49, tk68, tz68, dz68, kMarkN, kLineA, kClamp, aMove, aMv, mNone, aPos, cNpt_dec, c0, g1]
          (repeat' first | exact hf | exact hcn | exact hkn | exact hsm | exact ⟨hf, hcn⟩ | (show dynOrd _ _ = true; kernel_rfl) | exact subX_eq rfl rfl | exact trivial | apply And.intro | rfl | omega)
        · have c0 : (cn == 0) = false := beq_eq_false_iff_ne.2 hc0
          simp (maxSteps := 4000000) only [go_sem, Nat.reduceAdd, reduceCtorEq, Nat.reduceEqDiff, Nat.reduceLeDiff, tk3, tk9, tk22, tk29, dz29, tk49, tz49, dz49, tk68, tz68, dz68, kMarkN, kLineA, kClamp, aMove, aMv, mNone, aPos, cNpt_dec, c0, g1]
          (repeat' first | exact hf | exact hcn | exact hkn | exact hsm | exact ⟨hf, hcn⟩ | (show dynOrd _ _ = true; kernel_rfl) | exact subX_eq rfl rfl | exact trivial | apply And.intro | rfl | omega)
      · subst hg
        have hq : (([96] : List UInt8) == [39]) = false := rfl
        by_cases hc0 : cn = 0
        · have c0 : (cn == 0) = true := beq_iff_eq.2 hc0
          simp (maxSteps := 4000000) only [go_sem, Nat.reduceAdd, reduceCtorEq, Nat.reduceEqDiff, Nat.reduceLeDiff, tk3, tk9, tk22, tk29, dz29, tk49, tz49, dz49, tk68, tz68, dz68, kMarkN, kLineA, kClamp, aMove, aMv, mNone, aPos, cNpt_dec, c0, g1, hq]
          (repeat' first | exact hf | exact hcn | exact hkn | exact hsm | exact ⟨hf, hcn⟩ | (show dynOrd _ _ = true; kernel_rfl) | exact subX_eq rfl rfl | exact trivial | apply And.intro | rfl | omega)
        · have c0 : (cn == 0) = false := beq_eq_false_iff_ne.2 hc0
          simp (maxSteps := 4000000) only [go_sem, Nat.reduceAdd, reduceCtorEq, Nat.reduceEqDiff, Nat.reduceLeDiff, tk3, tk9, tk22, tk29, dz29, tk49, tz49, dz49, tk68, tz68, dz68, kMarkN, kLineA, kClamp, aMove, aMv, mNone, aPos, cNpt_dec, c0, g1, hq]
          (repeat' first | exact hf | exact hcn | exact hkn | exact hsm | exact ⟨hf, hcn⟩ | (show dynOrd _ _ = true; kernel_rfl) | exact subX_eq rfl rfl | exact trivial | apply And.intro | rfl | omega)
  · rw [if_neg hg]
    have g1 : ((ls.length : Int) == 0) = false := by rw [beq_eq_false_iff_ne]; intro h; exact hg (.inl (by omega))
    have g2 := str_ne (fun h => hg (.inr (.inl h)))
    have g3 := str_ne (fun h => hg (.inr (.inr h)))
    obtain ⟨r, hr⟩ : ∃ r, r = lineA ls x (rg, cn, opr, name, arg, text) k op := ⟨_, rfl⟩
    rw [← hr]
    obtain ⟨⟨⟨⟨t1, t2⟩, way, jp, want⟩, ok⟩, y⟩ := r
    obtain ⟨x1, x2, w, t, ky, kc, fd, bk⟩ := x
    unfold doFin
    dsimp only
    by_cases hc0 : cn = 0
    · have c0 : (cn == 0) = true := beq_iff_eq.2 hc0
      have hk1 := hcc.1 hc0
      subst hk1
      cases ok with
      | false =>
        rw [if_neg (by simp)]
        simp (maxSteps := 4000000) only [go_sem, Nat.reduceAdd, reduceCtorEq, Nat.reduceEqDiff, Int.reduceLE, Nat.reduceLeDiff, tk3, tk9, tk22, tk29, dz29, tk49, tz49, dz49, tk68, tz68, dz68, kMarkN, kLineA, kClamp, aMove, aMv, mNone, aPos, c0, g1, g2, g3, ←hr]
        (repeat' first | exact hf | exact hcn | exact hkn | exact hsm | exact ⟨hf, hcn⟩ | (show dynOrd _ _ = true; kernel_rfl) | exact subX_eq rfl rfl | exact trivial | apply And.intro | rfl | omega)
      | true =>
        rw [if_pos rfl]
        obtain ⟨q, hq⟩ : ∃ q, q = clampP ls (t1, t2) op := ⟨_, rfl⟩
        rw [← hq]
        obtain ⟨q1, q2⟩ := q
        by_cases hw : want = -1
        · have cw : (want == -1) = true := beq_iff_eq.2 hw
          rw [if_pos hw]
          simp (maxSteps := 4000000) only [go_sem, Nat.reduceAdd, reduceCtorEq, Nat.reduceEqDiff, Int.reduceLE, Nat.reduceLeDiff, tk3, tk9, tk22, tk25, tk29, dz29, tk49, tz49, dz49, tk68, tz68, dz68, kMarkN, kLineA, kClamp, aMove, aMv, mNone, aPos, c0, g1, g2, g3, ←hr, ←hq, cw]
          (repeat' first | exact hf | exact hcn | exact hkn | exact hsm | exact ⟨hf, hcn⟩ | (show dynOrd _ _ = true; kernel_rfl) | exact subX_eq rfl rfl | exact trivial | apply And.intro | rfl | omega)
        · have cw : (want == -1) = false := beq_eq_false_iff_ne.2 hw
          rw [if_neg hw]
          simp (maxSteps := 4000000) only [go_sem, Nat.reduceAdd, reduceCtorEq, Nat.reduceEqDiff, Int.reduceLE, Nat.reduceLeDiff, tk3, tk9, tk22, tk25, tk29, dz29, tk49, tz49, dz49, tk68, tz68, dz68, kMarkN, kLineA, kClamp, aMove, aMv, mNone, aPos, c0, g1, g2, g3, ←hr, ←hq, cw]
          (repeat' first | exact hf | exact hcn | exact hkn | exact hsm | exact ⟨hf, hcn⟩ | (show dynOrd _ _ = true; kernel_rfl) | exact subX_eq rfl rfl | exact trivial | apply And.intro | rfl | omega)
    · have c0 : (cn == 0) = false := beq_eq_false_iff_ne.2 hc0
      have hk1 := hcc.2 hc0
      subst hk1
      cases ok with
      | false =>
        rw [if_neg (by simp)]
        simp (maxSteps := 4000000) only [go_sem, Nat.reduceAdd, reduceCtorEq, Nat.reduceEqDiff, Nat.reduceLeDiff, tk3, tk9, tk22, tk29, dz29, tk49, tz49, dz49, tk68, tz68, dz68, kMarkN, kLineA, kClamp, aMove, aMv, mNone, aPos, c0, g1, g2, g3, ←hr]
        (repeat' first | exact hf | exact hcn | exact hkn | exact hsm | exact ⟨hf, hcn⟩ | (show dynOrd _ _ = true; kernel_rfl) | exact subX_eq rfl rfl | exact trivial | apply And.intro | rfl | omega)
      | true =>
        rw [if_pos rfl]
        obtain ⟨q, hq⟩ : ∃ q, q = clampP ls (t1, t2) op := ⟨_, rfl⟩
        rw [← hq]
        obtain ⟨q1, q2⟩ := q
        by_cases hw : want = -1
        · have cw : (want == -1) = true := beq_iff_eq.2 hw
          rw [if_pos hw]
          simp (maxSteps := 4000000) only [go_sem, Nat.reduceAdd, reduceCtorEq, Nat.reduceEqDiff, Nat.reduceLeDiff, tk3, tk9, tk22, tk25, tk29, dz29, tk49, tz49, dz49, tk68, tz68, dz68, kMarkN, kLineA, kClamp, aMove, aMv, mNone, aPos, c0, g1, g2, g3, ←hr, ←hq, cw]
          (repeat' first | exact hf | exact hcn | exact hkn | exact hsm | exact ⟨hf, hcn⟩ | (show dynOrd _ _ = true; kernel_rfl) | exact subX_eq rfl rfl | exact trivial | apply And.intro | rfl | omega)
        · have cw : (want == -1) = false := beq_eq_false_iff_ne.2 hw
          rw [if_neg hw]
          simp (maxSteps := 4000000) only [go_sem, Nat.reduceAdd, reduceCtorEq, Nat.reduceEqDiff, Nat.reduceLeDiff, tk3, tk9, tk22, tk25, tk29, dz29, tk49, tz49, dz49, tk68, tz68, dz68, kMarkN, kLineA, kClamp, aMove, aMv, mNone, aPos, c0, g1, g2, g3, ←hr, ←hq, cw]
          (repeat' first | exact hf | exact hcn | exact hkn | exact hsm | exact ⟨hf, hcn⟩ | (show dynOrd _ _ = true; kernel_rfl) | exact subX_eq rfl rfl | exact trivial | apply And.intro | rfl | omega)
def kDoN : C1 := C1.mby (hCons (hP (.sl 1 []) cStrs) (hCons hCx (hCons (hP .id (cAgg lCm)) (hCons (hP .id cBool) (hCons (hP .id cNpt) hNil))))) (fun d => okText d.1 ∧ d.2.2.1.2.1 ≤ 9223372036854775807)
  (fun d => aMove (doN d.1 d.2.1 d.2.2.1 d.2.2.2.1).1) (fun d => cxH (doN d.1 d.2.1 d.2.2.1 d.2.2.2.1).2)
theorem ok_DoN : C1OK Tryz.prog 12 kDoN := C1OK.mby (by kernel_rfl) (fun d h => calls_DoN d.1 d.2.1 d.2.2.1 d.2.2.2.1 h.1 h.2) (fun _ _ => Nat.le_refl _)
end Go.Pg
namespace Go.Pg
open Go Go.Proofs

theorem subX_one {H : AH} {F : List Nat} {pick : List (Option Nat)} {x y : AV} (h : subL (subV H F pick 8) x.cells y.cells) : subX H F pick [x] [y] := .inr ⟨h, trivial⟩

def cPos : Cd (Int × Int) := cAgg (lCons (cInt .i64) (lOne (cInt .i64)))
theorem cPos_dec (a b : Int) : cPos.dec (.agg [.int .i64 a, .int .i64 b]) = some (a, b) := by simp [cPos, cAgg, lCons, lOne, cInt, dec2]
theorem cPos_ed (p : Int × Int) : cPos.dec (cPos.enc p) = some p := by obtain ⟨a, b⟩ := p; exact cPos_dec a b
theorem cByte_ed (b : UInt8) : cByte.dec (cByte.enc b) = some b := cByte_dec b
theorem setE_pos (k : UInt8) (a b : Int) (l : List (UInt8 × (Int × Int))) : setE (.int .u8 k.toNat) (.agg [.int .i64 a, .int .i64 b]) (encE cByte cPos l) = encE cByte cPos (upd k (a, b) l) := setE_byte cPos k (a, b) l
theorem findD_pos (k : UInt8) (l : List (UInt8 × (Int × Int))) : ((look1 k l).map cPos.enc).getD (.agg [.int .i64 0, .int .i64 0]) = .agg [.int .i64 ((look1 k l).getD (0, 0)).1, .int .i64 ((look1 k l).getD (0, 0)).2] := by
  cases look1 k l <;> rfl
theorem isSome_pos (k : UInt8) (l : List (UInt8 × (Int × Int))) : ((look1 k l).map cPos.enc).isSome = (look1 k l).isSome := by
  cases look1 k l <;> rfl
theorem decE_pos (l : List (UInt8 × (Int × Int))) : decE cByte cPos (encE cByte cPos l) = some l := decE_enc cByte cPos cByte_ed cPos_ed l

abbrev Mks := List (UInt8 × (Int × Int))
def hMarks : HC (Mks × Unit) := hPtr 58 1 (hCons (hMp cByte cPos) hNil)
abbrev mkH (l : Mks) : AH := [.arr 58 1 [.agg [.mp 1]], .mp (encE cByte cPos l)]

set_option maxHeartbeats 4000000 in
theorem calls_New : CallsR Tryz.prog 6 [] [] (.ptr 0 1 1 0 0) (mkH []) := by
  refine callsR_of (mrg := true) (dyn := []) (CtrOK.nil _) mixed Tryz.func6 rfl (by simp [Tryz.ntmps6]) (by kernel_rfl) ?_
  rw [show Tryz.f6.results.toList = [.tmp 0] from by kernel_rfl]
  simp (maxSteps := 4000000) only [go_sem, reduceCtorEq, Nat.reduceEqDiff, tk58, tz58]
  refine ⟨by decide, subX_one ?_⟩
  simp (maxSteps := 4000000) only [go_sem]
def kNew : C1 := C1.mby hNil (fun _ => True) (fun _ => .ptr 0 1 1 0 0) (fun _ => mkH [])
theorem ok_New : C1OK Tryz.prog 6 kNew := C1OK.mby (by kernel_rfl) (fun _ _ => calls_New) (fun _ _ => Nat.zero_le _)

def nameOk (b : UInt8) : Bool := b == 96 || (decide (97 ≤ b.toNat) && decide (b.toNat ≤ 122))

theorem nameOk_eq (b : UInt8) : ((b.toNat : Int) != 96 && (decide ((b.toNat : Int) < 97) || decide ((b.toNat : Int) > 122))) = !nameOk b := by
  have h1 : ((b.toNat : Int) != 96) = !(b == 96) := by
    rw [Bool.eq_iff_iff]
    simp only [bne_iff_ne, ne_eq, Bool.not_eq_true', beq_eq_false_iff_ne]
    constructor
    · intro h e; subst e; exact h rfl
    · intro h e; exact h (UInt8.toNat_inj.1 (by have : b.toNat = 96 := by omega
                                                rw [this]; rfl))
  have h2 : decide ((b.toNat : Int) < 97) = !decide (97 ≤ b.toNat) := by rw [Bool.eq_iff_iff]; simp; omega
  have h3 : decide ((b.toNat : Int) > 122) = !decide (b.toNat ≤ 122) := by rw [Bool.eq_iff_iff]; simp; omega
  rw [h1, h2, h3, nameOk]
  cases (b == 96) <;> cases decide (97 ≤ b.toNat) <;> cases decide (b.toNat ≤ 122) <;> rfl

set_option maxHeartbeats 4000000 in
theorem calls_Set (l : Mks) (b : UInt8) (p : Int × Int) : CallsR Tryz.prog 7 [.ptr 0 1 1 0 0, .int .u8 b.toNat, .agg [.int .i64 p.1, .int .i64 p.2]] (mkH l)
    (.bool (nameOk b)) (mkH (if nameOk b = true then upd b p l else l)) := by
  refine callsR_of (mrg := true) (dyn := []) (CtrOK.nil _) mixed Tryz.func7 rfl (by simp [Tryz.ntmps7]) (by kernel_rfl) ?_
  rw [show Tryz.f7.results.toList = [.tmp 6] from by kernel_rfl]
  simp (maxSteps := 4000000) only [go_sem, Nat.reduceAdd, reduceCtorEq, Nat.reduceEqDiff, Nat.reduceLT, tk25, dz25, tk56, mt56, tk58, dz58, setE_pos, nameOk_eq]
  refine ⟨fun h => ⟨h, fun h2 => by simp [h]; omega⟩, fun h => ⟨by decide, ⟨subX_one ?_, by rw [h]; rfl⟩, h.symm⟩, fun h => ⟨by decide, ⟨subX_one ?_, by rw [if_pos (by simpa using h)]⟩, by simpa using h⟩⟩
  all_goals simp (maxSteps := 4000000) only [go_sem]
def kSet : C1 := C1.mby (hCons hMarks (hCons (hP .id cByte) (hCons (hP .id cPos) hNil))) (fun _ => True) (fun d => .bool (nameOk d.2.1)) (fun d => mkH (if nameOk d.2.1 = true then upd d.2.1 d.2.2.1 d.1.1 else d.1.1))
theorem ok_Set : C1OK Tryz.prog 7 kSet := C1OK.mby (by kernel_rfl) (fun d _ => calls_Set d.1.1 d.2.1 d.2.2.1) (fun _ _ => Nat.le_refl _)

set_option maxHeartbeats 4000000 in
theorem calls_Get (l : Mks) (b : UInt8) : CallsR Tryz.prog 33 [.ptr 0 1 1 0 0, .int .u8 b.toNat] (mkH l)
    (.tuple [.agg [.int .i64 ((look1 b l).getD (0, 0)).1, .int .i64 ((look1 b l).getD (0, 0)).2], .bool (look1 b l).isSome]) (mkH l) := by
  refine callsR_of (mrg := true) (dyn := []) (CtrOK.nil _) mixed Tryz.func33 rfl (by simp [Tryz.ntmps33]) (by kernel_rfl) ?_
  rw [show Tryz.f33.results.toList = [.cell 4 25, .tmp 5] from by kernel_rfl]
  simp (maxSteps := 4000000) only [go_sem, Nat.reduceAdd, reduceCtorEq, Nat.reduceEqDiff, Nat.reduceLT, tk25, tz25, dz25, tk56, mt56, tk58, dz58, findD_pos, isSome_pos]
  refine ⟨by decide, subX_one ?_⟩
  simp (maxSteps := 4000000) only [go_sem]
def kGet : C1 := C1.mby (hCons hMarks (hCons (hP .id cByte) hNil)) (fun _ => True) (fun d => .tuple [.agg [.int .i64 ((look1 d.2.1 d.1.1).getD (0, 0)).1, .int .i64 ((look1 d.2.1 d.1.1).getD (0, 0)).2], .bool (look1 d.2.1 d.1.1).isSome]) (fun d => mkH d.1.1)
theorem ok_Get : C1OK Tryz.prog 33 kGet := C1OK.mby (by kernel_rfl) (fun d _ => calls_Get d.1.1 d.2.1) (fun _ _ => Nat.le_refl _)

/-! ### Where a line is behind a change -/
end Go.Pg
namespace Go.Pg
open Go Go.Proofs

theorem calls_capped (n : Int) : CallsR Tryz.prog 86 [.int .i64 n] [] (.int .i64 (min n 1073741824)) [] := by
  refine callsR_of (mrg := true) (dyn := []) (CtrOK.nil _) mixed Tryz.func86 rfl (by simp [Tryz.ntmps86]) (by kernel_rfl) ?_
  rw [show Tryz.f86.results.toList = [.tmp 2] from by kernel_rfl]
  simp (maxSteps := 4000000) only [go_sem, reduceCtorEq, Nat.reduceEqDiff]
def kCapped : C1 := C1.by [.id] (lOne (cInt .i64)) (fun _ => True) (fun d => .int .i64 (min d 1073741824)) (fun _ => [])
theorem ok_capped : C1OK Tryz.prog 86 kCapped := C1OK.by (by kernel_rfl) (fun d _ => calls_capped d) (fun _ => rfl) (fun _ => rfl)
theorem calls_Rjump (p : Int × Int) : CallsR Tryz.prog 96 [aPos p] [] (aMove (jumpM p, true)) [] := by
  refine callsR_of (mrg := true) (dyn := []) (CtrOK.nil _) mixed Tryz.func96 rfl (by simp [Tryz.ntmps96]) (by kernel_rfl) ?_
  rw [show Tryz.f96.results.toList = [.cell 2 49, .tmp 3] from by kernel_rfl]
  simp (maxSteps := 4000000) only [go_sem, Nat.reduceAdd, reduceCtorEq, Nat.reduceEqDiff, Nat.reduceLeDiff, tk25, dz25, tk49, tz49, dz49, aPos, aMove, aMv, jumpM]
def kRJump : C1 := C1.by [.id] (lOne cPos2) (fun _ => True) (fun d => aMove (jumpM d, true)) (fun _ => [])
theorem ok_Rjump : C1OK Tryz.prog 96 kRJump := C1OK.by (by kernel_rfl) (fun d _ => calls_Rjump d) (fun _ => rfl) (fun _ => rfl)

theorem hitB_end (p s : List UInt8) (k : Nat) (hp : 0 < p.length) (h : s.length < k + p.length) : hitB p s k = false := by
  unfold hitB prefB
  rw [decide_eq_false (by rw [List.length_drop]; omega), Bool.false_and]
theorem marksIn_end (p : List UInt8) (l : Nat) (s : List UInt8) (k : Nat) (hp : 0 < p.length) (h : s.length < k + p.length) (hk : k ≤ s.length) : marksIn (hitB p) l s s.length = marksIn (hitB p) l s k := by
  have : ∀ m, k + m ≤ s.length → marksIn (hitB p) l s (k + m) = marksIn (hitB p) l s k := by
    intro m
    induction m with
    | zero => intro _; rfl
    | succ m ih =>
      intro hm
      rw [show k + (m + 1) = (k + m) + 1 by omega, marksIn_succ, if_neg (by rw [hitB_end p s _ hp (by omega)]; simp)]
      exact ih (by omega)
  have := this (s.length - k) (by omega)
  rwa [show k + (s.length - k) = s.length by omega] at this
theorem hitB_cut (p s : List UInt8) (k : Nat) (h : k + p.length ≤ s.length) : (cutL s k (k + p.length) == p) = hitB p s k := by
  unfold hitB prefB cutL
  rw [decide_eq_true (by rw [List.length_drop]; omega), Bool.true_and, Nat.add_sub_cancel_left]

set_option maxRecDepth 20000 in
set_option maxHeartbeats 8000000 in
theorem calls_RAll (ls : Ls) (p : List UInt8) (hf : okText ls) (hpl : p.length ≤ 1099511627776) : CallsR Tryz.prog 100 [.sl 1 (ls.map .str), .str p] [] (.sl 2 ((hits p ls).map aPos)) [] := by
  refine callsR_of (mrg := true) (dyn := []) (CtrOK.nil _) mixed Tryz.func100 rfl (by simp [Tryz.ntmps100]) (by kernel_rfl) ?_
  rw [show Tryz.f100.results.toList = [.tmp 4] from by kernel_rfl]
  have hll := hf.1
  have hls := fits_getD hf
  cases hp : (p == []) with
  | true =>
    rw [hits, hp, if_pos rfl]
    simp (maxSteps := 4000000) only [go_sem]
    refine loopH_intro (α := Unit) (fun _ => ([(0, .sl 1 (ls.map .str)), (1, .str p), (4, .nls), (5, .nls), (6, .int .i64 0)], [])) (fun _ => True) (fun _ => 0) () trivial ?_ ?_
    · simp (maxSteps := 4000000) only [go_sem, reduceCtorEq, Nat.reduceEqDiff]
    intro _ _
    simp (maxSteps := 4000000) only [go_sem, reduceCtorEq, Nat.reduceEqDiff, tk22, hp]
  | false =>
    rw [hits, hp, if_neg (by simp)]
    have hp0 : 0 < p.length := List.length_pos_iff.2 (beq_eq_false_iff_ne.1 hp)
    simp (maxSteps := 4000000) only [go_sem]
    refine loopH_intro (α := Nat × List (Int × Int)) (fun x => ([(0, .sl 1 (ls.map .str)), (1, .str p), (4, .nls), (5, .own 0 2 x.2.length), (6, .int .i64 x.1)], [.arr 25 2 (x.2.map aPos)]))
      (fun x => x.1 ≤ ls.length ∧ x.2 = marksTo false (hitB p) ls x.1) (fun x => ls.length - x.1) (0, []) ⟨by simp, by simp [marksTo]⟩ ?_ ?_
    · simp (maxSteps := 4000000) only [go_sem, reduceCtorEq, Nat.reduceEqDiff]
    rintro ⟨i, out⟩ ⟨hx1, hx2⟩
    dsimp only at hx1 hx2
    have hol := marksTo_len false (hitB p) ls 65536 hls i
    rw [← hx2] at hol
    have hmul : i * (65536 + 1) ≤ 65536 * 65537 := Nat.mul_le_mul (by omega) (by omega)
    by_cases hi : i < ls.length
    · have c1 : decide ((i : Int) < (ls.length : Int)) = true := decide_eq_true (by omega)
      have hsl := hls i
      have hts := marksTo_succ false (hitB p) ls i
      rw [← hx2] at hts
      have hlm : lineMarks false (hitB p) i (ls.getD i []) = marksIn (hitB p) i (ls.getD i []) (ls.getD i []).length := by unfold lineMarks; simp
      have w1 : IntKind.i64.wrap ((i : Int) + 1) = ((i + 1 : Nat) : Int) := by rw [wrap64 (by omega) (by omega)]; rfl
      simp (maxSteps := 4000000) only [go_sem, reduceCtorEq, Nat.reduceEqDiff, tk22, hp, c1]
      refine loopH_intro (α := Nat × List (Int × Int)) (fun x => ([(0, .sl 1 (ls.map .str)), (1, .str p), (4, .nls), (5, .own 0 2 x.2.length), (6, .int .i64 i), (7, .int .i64 x.1)], [.arr 25 2 (x.2.map aPos)]))
        (fun x => x.1 ≤ (ls.getD i []).length ∧ x.2 = out ++ marksIn (hitB p) i (ls.getD i []) x.1) (fun x => (ls.getD i []).length - x.1) (0, out) ⟨by simp, by simp [marksIn]⟩ ?_ ?_
      · simp (maxSteps := 4000000) only [go_sem, reduceCtorEq, Nat.reduceEqDiff]
        exact subX_eq rfl (pureB_posL _)
      rintro ⟨k, out2⟩ ⟨hk1, hk2⟩
      dsimp only at hk1 hk2
      have hml := marksIn_len (hitB p) i (ls.getD i []) k
      have hol2 : out2.length ≤ 4295032832 + 65540 := by rw [hk2, List.length_append]; omega
      have w2 : IntKind.i64.wrap ((k : Int) + (p.length : Int)) = ((k + p.length : Nat) : Int) := by rw [wrap64 (by omega) (by omega)]; omega
      by_cases hk : k + p.length ≤ (ls.getD i []).length
      · have c2 : decide (((k + p.length : Nat) : Int) ≤ ((ls.getD i []).length : Int)) = true := decide_eq_true (by omega)
        have w3 : IntKind.i64.wrap ((k : Int) + 1) = ((k + 1 : Nat) : Int) := by rw [wrap64 (by omega) (by omega)]; rfl
        have hm1 := marksIn_succ (hitB p) i (ls.getD i []) k
        have hcut := hitB_cut p (ls.getD i []) k hk
        unfold cutL at hcut
        have hap := app1_pos2 out2 (i : Int) (k : Int)
        cases hg : hitB p (ls.getD i []) k with
        | true =>
          rw [hg] at hcut
          rw [if_pos hg] at hm1
          simp (maxSteps := 4000000) only [go_sem, Nat.reduceAdd, reduceCtorEq, Nat.reduceEqDiff, Nat.reducePow, Nat.reduceLeDiff, tk9, dz9, tk22, tk25, tz25, eb25, tk37, w2, c2, w3, hcut, hap]
          exact ⟨⟨by omega, hi⟩, ⟨by omega, hi⟩, ⟨by omega, by omega, by omega⟩, ⟨by decide, by omega⟩, (k + 1, out2 ++ [((i : Int), (k : Int))]), ⟨by dsimp only; omega, by dsimp only; rw [hm1, hk2, List.append_assoc]⟩, by dsimp only; omega, subX_eq rfl (pureB_posL _), by simp, rfl⟩
        | false =>
          rw [hg] at hcut
          rw [if_neg (by rw [hg]; simp)] at hm1
          simp (maxSteps := 4000000) only [go_sem, reduceCtorEq, Nat.reduceEqDiff, tk9, dz9, tk22, w2, c2, w3, hcut]
          exact ⟨⟨by omega, hi⟩, ⟨by omega, hi⟩, ⟨by omega, by omega, by omega⟩, (k + 1, out2), ⟨by dsimp only; omega, by dsimp only; rw [hm1, hk2]⟩, by dsimp only; omega, subX_eq rfl (pureB_posL _), rfl, rfl⟩
      · have c2 : decide (((k + p.length : Nat) : Int) ≤ ((ls.getD i []).length : Int)) = false := decide_eq_false (by omega)
        have hme := marksIn_end p i (ls.getD i []) k hp0 (by omega) hk1
        simp (maxSteps := 4000000) only [go_sem, reduceCtorEq, Nat.reduceEqDiff, tk9, dz9, tk22, w2, c2, w1, pureB_posL]
        exact ⟨⟨by omega, hi⟩, (i + 1, out2), ⟨by dsimp only; omega, by dsimp only; rw [hts, hlm, hme, hk2]⟩, by dsimp only; omega, subX_eq rfl (pureB_posL _), rfl, rfl⟩
    · have c1 : decide ((i : Int) < (ls.length : Int)) = false := decide_eq_false (by omega)
      have hil : i = ls.length := by omega
      subst hil
      simp (maxSteps := 4000000) only [go_sem, reduceCtorEq, Nat.reduceEqDiff, tk22, c1, pureB_posL]
      rw [hx2]
set_option maxHeartbeats 4000000 in
theorem calls_behindO (l : List (Int × Int)) (p : Int × Int) (same : Bool) (hb : l.length ≤ 1099511627776) : CallsR Tryz.prog 88 [.sl 2 (l.map aPos), aPos p, .bool same] [] (.own 0 2 (behind l p same).length) [.arr 25 2 ((behind l p same).map aPos)] := by
  obtain ⟨p1, p2⟩ := p
  refine callsR_of (mrg := true) (dyn := []) (CtrOK.cons ok_RLess (CtrOK.nil _)) mixed Tryz.func88 rfl (by simp [Tryz.ntmps88]) (by kernel_rfl) ?_
  rw [show Tryz.f88.results.toList = [.tmp 6] from by kernel_rfl]
  simp (maxSteps := 4000000) only [go_sem, Nat.reduceAdd, reduceCtorEq, Nat.reduceEqDiff, aPos, kLess]
  refine loopH_intro (α := Nat × List (Int × Int)) (fun x => ([(0, .sl 2 (l.map aPos)), (2, .bool same), (4, .ptr 0 2 1 0 0), (6, .nls), (7, .own 1 2 x.2.length), (8, .int .i64 x.1)], [.arr 25 2 [.agg [.int .i64 p1, .int .i64 p2]], .arr 25 2 (x.2.map aPos)]))
    (fun x => x.1 ≤ l.length ∧ x.2 = (l.take x.1).filter (isBehind (p1, p2) same)) (fun x => l.length - x.1) (0, []) ⟨by simp, by simp⟩ ?_ ?_
  · simp (maxSteps := 4000000) only [go_sem, reduceCtorEq, Nat.reduceEqDiff]
    exact ⟨rfl, subX_eq rfl rfl⟩
  · intro x hx
    obtain ⟨i, out⟩ := x
    simp only at hx
    obtain ⟨hx1, hx2⟩ := hx
    have hol : out.length ≤ i := by rw [hx2]; exact Nat.le_trans (List.length_filter_le _ _) (by rw [List.length_take]; omega)
    by_cases hi : i < l.length
    · have hct : decide ((i : Int) < (l.length : Int)) = true := decide_eq_true (by omega)
      have hf := filter_take (isBehind (p1, p2) same) l i (0, 0) hi
      simp (maxSteps := 4000000) only [go_sem, Nat.reduceAdd, reduceCtorEq, Nat.reduceEqDiff, Nat.reducePow, Nat.reduceLeDiff, tk25, dz25, eb25, eq25, tk37, aPos, kLess, getD_pos, app1_pos, hct]
      refine ⟨by omega, fun h => ⟨h, by omega, by omega⟩, fun h => ⟨h, fun h2 => by rw [h, h2]; rfl⟩, fun h => ?_, fun h => ?_⟩
      · rw [if_pos (show isBehind (p1, p2) same (l.getD i (0, 0)) = true from h)] at hf
        exact ⟨by omega, ⟨by decide, by omega⟩, (i + 1, out ++ [l.getD i (0, 0)]), ⟨by show i + 1 ≤ _; omega, by rw [hf, hx2]⟩, by show _ - (i + 1) < _; omega, rfl, ⟨subX_eq rfl rfl, subX_eq rfl (pureB_posL _)⟩, by simp, by rw [wrap64 (by omega) (by omega)]; rfl⟩
      · rw [if_neg (show ¬ isBehind (p1, p2) same (l.getD i (0, 0)) = true from by rw [Bool.not_eq_true]; exact h)] at hf
        exact ⟨(i + 1, out), ⟨by show i + 1 ≤ _; omega, by rw [hf, hx2]⟩, by show _ - (i + 1) < _; omega, rfl, ⟨subX_eq rfl rfl, subX_eq rfl (pureB_posL _)⟩, rfl, by rw [wrap64 (by omega) (by omega)]; rfl⟩
    · have hcf : decide ((i : Int) < (l.length : Int)) = false := decide_eq_false (by omega)
      simp (maxSteps := 4000000) only [go_sem, reduceCtorEq, Nat.reduceEqDiff, tk37, kLess, hcf]
      rw [List.take_of_length_le (by omega)] at hx2
      have hx3 : out = behind l (p1, p2) same := hx2
      rw [← hx3]
      exact ⟨subX_eq rfl (pureB_posL _), rfl⟩

set_option maxHeartbeats 4000000 in
theorem calls_aheadO (l : List (Int × Int)) (p : Int × Int) (hb : l.length ≤ 1099511627776) : CallsR Tryz.prog 93 [.sl 2 (l.map aPos), aPos p] [] (.own 0 2 (ahead l p).length) [.arr 25 2 ((ahead l p).map aPos)] := by
  obtain ⟨p1, p2⟩ := p
  refine callsR_of (mrg := true) (dyn := []) (CtrOK.cons ok_RLess (CtrOK.nil _)) mixed Tryz.func93 rfl (by simp [Tryz.ntmps93]) (by kernel_rfl) ?_
  rw [show Tryz.f93.results.toList = [.tmp 4] from by kernel_rfl]
  simp (maxSteps := 4000000) only [go_sem, Nat.reduceAdd, reduceCtorEq, Nat.reduceEqDiff, tk37, aPos, kLess]
  have w0 : IntKind.i64.wrap ((l.length : Int) - 1) = (l.length : Int) - 1 := wrap64 (by omega) (by omega)
  rw [w0]
  refine loopH_intro (α := Nat × List (Int × Int)) (fun x => ([(0, .sl 2 (l.map aPos)), (3, .ptr 0 2 1 0 0), (4, .nls), (5, .own 1 2 x.2.length), (6, .int .i64 ((l.length : Int) - 1 - x.1))], [.arr 25 2 [.agg [.int .i64 p1, .int .i64 p2]], .arr 25 2 (x.2.map aPos)]))
    (fun x => x.1 ≤ l.length ∧ x.2 = (l.reverse.take x.1).filter (fun q => less q (p1, p2))) (fun x => l.length - x.1) (0, []) ⟨by simp, by simp⟩ ?_ ?_
  · simp (maxSteps := 4000000) only [go_sem, reduceCtorEq, Nat.reduceEqDiff]
    exact ⟨rfl, subX_eq rfl rfl, by omega⟩
  · intro x hx
    obtain ⟨i, out⟩ := x
    simp only at hx
    obtain ⟨hx1, hx2⟩ := hx
    have hol : out.length ≤ i := by rw [hx2]; exact Nat.le_trans (List.length_filter_le _ _) (by rw [List.length_take]; omega)
    by_cases hi : i < l.length
    · have hct : decide ((l.length : Int) - 1 - (i : Int) ≥ 0) = true := decide_eq_true (by omega)
      have hf := filter_take (fun q => less q (p1, p2)) l.reverse i (0, 0) (by simpa using hi)
      rw [getD_rev l i (0, 0) hi] at hf
      have htn : ((l.length : Int) - 1 - (i : Int)).toNat = l.length - 1 - i := by omega
      simp (maxSteps := 4000000) only [go_sem, Nat.reduceAdd, reduceCtorEq, Nat.reduceEqDiff, Nat.reducePow, Nat.reduceLeDiff, tk25, dz25, eb25, tk37, aPos, kLess, getD_pos, app1_pos, hct, htn]
      refine ⟨by omega, fun h => ?_, fun h => ?_⟩
      · rw [if_pos (show less (l.getD (l.length - 1 - i) (0, 0)) (p1, p2) = true from h)] at hf
        exact ⟨by omega, ⟨by decide, by omega⟩, (i + 1, out ++ [l.getD (l.length - 1 - i) (0, 0)]), ⟨by show i + 1 ≤ _; omega, by rw [hf, hx2]⟩, by show _ - (i + 1) < _; omega, rfl, ⟨subX_eq rfl rfl, subX_eq rfl (pureB_posL _)⟩, by simp, by rw [wrap64 (by omega) (by omega)]; show (l.length : Int) - 1 - i - 1 = (l.length : Int) - 1 - ((i + 1 : Nat) : Int); omega⟩
      · rw [if_neg (show ¬ less (l.getD (l.length - 1 - i) (0, 0)) (p1, p2) = true from by rw [Bool.not_eq_true]; exact h)] at hf
        exact ⟨(i + 1, out), ⟨by show i + 1 ≤ _; omega, by rw [hf, hx2]⟩, by show _ - (i + 1) < _; omega, rfl, ⟨subX_eq rfl rfl, subX_eq rfl (pureB_posL _)⟩, rfl, by rw [wrap64 (by omega) (by omega)]; show (l.length : Int) - 1 - i - 1 = (l.length : Int) - 1 - ((i + 1 : Nat) : Int); omega⟩
    · have hcf : decide ((l.length : Int) - 1 - (i : Int) ≥ 0) = false := decide_eq_false (by omega)
      simp (maxSteps := 4000000) only [go_sem, reduceCtorEq, Nat.reduceEqDiff, kLess, hcf]
      rw [List.take_of_length_le (by simp; omega)] at hx2
      have hx3 : out = ahead l (p1, p2) := hx2
      rw [← hx3]
      exact ⟨subX_eq rfl (pureB_posL _), rfl⟩
def kRAll : C1 := C1.by [.sl 1 [], .id] (lCons cStrs (lOne cStr)) (fun d => okText d.1 ∧ d.2.length ≤ 1099511627776) (fun d => .sl 2 ((hits d.2 d.1).map aPos)) (fun _ => [])
theorem ok_RAll : C1OK Tryz.prog 100 kRAll := C1OK.by (by kernel_rfl) (fun d h => calls_RAll d.1 d.2 h.1 h.2) (fun _ => rfl) (fun _ => rfl)
def kBehindO : C1 := C1.by [.sl 2 [], .id, .id] (lCons (cSl 2 cPos2) (lCons cPos2 (lOne cBool))) (fun d => d.1.length ≤ 1099511627776) (fun d => .own 0 2 (behind d.1 d.2.1 d.2.2).length) (fun d => [.arr 25 2 ((behind d.1 d.2.1 d.2.2).map aPos)])
theorem ok_behindO : C1OK Tryz.prog 88 kBehindO := C1OK.by (by kernel_rfl) (fun d h => calls_behindO d.1 d.2.1 d.2.2 h) (fun _ => rfl) (fun _ => by simp only [List.all_cons, List.all_nil, okObj, pureB_posL, Bool.and_self])
def kAheadO : C1 := C1.by [.sl 2 [], .id] (lCons (cSl 2 cPos2) (lOne cPos2)) (fun d => d.1.length ≤ 1099511627776) (fun d => .own 0 2 (ahead d.1 d.2).length) (fun d => [.arr 25 2 ((ahead d.1 d.2).map aPos)])
theorem ok_aheadO : C1OK Tryz.prog 93 kAheadO := C1OK.by (by kernel_rfl) (fun d h => calls_aheadO d.1 d.2 h) (fun _ => rfl) (fun _ => by simp only [List.all_cons, List.all_nil, okObj, pureB_posL, Bool.and_self])
end Go.Pg
