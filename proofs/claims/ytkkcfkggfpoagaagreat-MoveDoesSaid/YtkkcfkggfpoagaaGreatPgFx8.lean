/- Brackets: the other one; the motion. Motions by sentences: the program's. A motion by its name: what searches. -/
import Derived.Test.YtkkcfkggfpoagaaGreatPgBs
import Derived.Test.YtkkcfkggfpoagaaGreatPgFx7
import Derived.Test.YtkkcfkggfpoagaaGreatPgFx6
import Derived.Test.YtkkcfkggfpoagaaGreatPgFx2
import Derived.Test.YtkkcfkggfpoagaaGreatPgHcd
set_option linter.unusedVariables false
set_option linter.unusedSimpArgs false
namespace Go.Pg
open Go Go.Proofs

def inByte (ls : Ls) (q : Int × Int) : Prop := 0 ≤ q.1 ∧ q.1 < ls.length ∧ 0 ≤ q.2 ∧ q.2 < (ls.getD q.1.toNat []).length
def byteOf (ls : Ls) (q : Int × Int) : UInt8 := (ls.getD q.1.toNat []).getD q.2.toNat 0
def rankB (ls : Ls) (back : Bool) (q : Int × Int) : Nat := if back = true then q.1.toNat * 65537 + q.2.toNat else (ls.length - q.1.toNat) * 65537 + (65536 - q.2.toNat)
theorem nextB_in {ls : Ls} (hf : okText ls) {q q' : Int × Int} {back : Bool} (hq : inByte ls q) (h : nextB ls q back = some q') : inByte ls q' ∧ rankB ls back q' < rankB ls back q := by
  obtain ⟨q1, q2⟩ := q
  obtain ⟨h1, h2, h3, h4⟩ := hq
  dsimp only at h1 h2 h3 h4
  obtain ⟨l, rfl⟩ := Int.eq_ofNat_of_zero_le h1
  obtain ⟨c, rfl⟩ := Int.eq_ofNat_of_zero_le h3
  rw [Int.toNat_natCast] at h4
  have h5 := fits_getD hf l
  unfold nextB at h
  unfold rankB
  cases back with
  | true =>
    simp only [if_true, Int.toNat_natCast] at h ⊢
    split at h
    · cases h
      refine ⟨⟨h1, h2, by dsimp only; omega, by dsimp only; rw [Int.toNat_natCast]; omega⟩, ?_⟩
      dsimp only; rw [Int.toNat_natCast]; omega
    · cases hd : findDn (full ls) l with
      | none => rw [hd] at h; cases h
      | some j =>
        rw [hd] at h
        cases h
        obtain ⟨g1, g2⟩ := findDn_some hd
        have g3 := fits_getD hf j
        simp only [full, bne_iff_ne, ne_eq] at g2
        unfold lineEndB
        refine ⟨⟨by dsimp only; omega, by dsimp only; omega, by dsimp only; omega, by dsimp only; rw [Int.toNat_natCast]; omega⟩, ?_⟩
        dsimp only; rw [Int.toNat_natCast]; omega
  | false =>
    simp only [Bool.false_eq_true, if_false, Int.toNat_natCast] at h ⊢
    split at h
    · cases h
      refine ⟨⟨h1, h2, by dsimp only; omega, by dsimp only; rw [Int.toNat_natCast]; omega⟩, ?_⟩
      dsimp only; rw [Int.toNat_natCast]; omega
    · cases hd : findUp (full ls) (ls.length - (l + 1)) (l + 1) with
      | none => rw [hd] at h; cases h
      | some j =>
        rw [hd] at h
        cases h
        obtain ⟨g1, g2, g3⟩ := findUp_some hd
        simp only [full, bne_iff_ne, ne_eq] at g3
        unfold lineBegB
        refine ⟨⟨by dsimp only; omega, by dsimp only; omega, by dsimp only; omega, by dsimp only; rw [Int.toNat_natCast]; omega⟩, ?_⟩
        dsimp only; rw [Int.toNat_natCast]; omega

def deepS (op sh : UInt8) (opens : Bool) (c : UInt8) (d : Int) : Int :=
  if ((c == op) && opens || (c == sh) && !opens) = true then d + 1 else if (c == op || c == sh) = true then d - 1 else d
def otherL (ls : Ls) (op sh : UInt8) (opens : Bool) : Nat → Option (Int × Int) → Int → Option (Int × Int)
  | 0, _, _ => none
  | _ + 1, none, _ => none
  | k + 1, some q, d => if deepS op sh opens (byteOf ls q) d = 0 then some q else otherL ls op sh opens k (nextB ls q (!opens)) (deepS op sh opens (byteOf ls q) d)
theorem otherL_none (ls : Ls) (op sh : UInt8) (opens : Bool) (k : Nat) (d : Int) : otherL ls op sh opens k none d = none := by cases k <;> rfl
def fuelB (ls : Ls) : Nat := (ls.length + 1) * 65537 + 1
def otherP (ls : Ls) (p : Int × Int) : Option (Int × Int) :=
  otherL ls (kindF (byteOf ls p)).1 (kindF (byteOf ls p)).2.1 (kindF (byteOf ls p)).2.2.1 (fuelB ls) (nextB ls p (!(kindF (byteOf ls p)).2.2.1)) 1
theorem rankB_lt {ls : Ls} {q : Int × Int} (hf : okText ls) (hq : inByte ls q) (back : Bool) : rankB ls back q + 1 < fuelB ls := by
  obtain ⟨q1, q2⟩ := q
  obtain ⟨h1, h2, h3, h4⟩ := hq
  dsimp only at h1 h2 h3 h4
  have h5 := fits_getD hf q1.toNat
  unfold rankB fuelB
  cases back with
  | true => simp only [if_true]; omega
  | false => simp only [Bool.false_eq_true, if_false]; omega
theorem beq_byte (a b : UInt8) : ((a.toNat : Int) == (b.toNat : Int)) = (a == b) := by
  rw [byte_eq, Bool.eq_iff_iff]; simp

set_option maxRecDepth 20000 in
set_option maxHeartbeats 8000000 in
theorem calls_other (ls : Ls) (p : Int × Int) (hf : okText ls) (hp : inByte ls p) :
    CallsR Tryz.prog 142 [.sl 1 (ls.map .str), aPos p] [] (aOpt (otherP ls p)) [] := by
  refine callsR_of (mrg := true) (dyn := []) (CtrOK.cons ok_Kind (CtrOK.cons ok_bnext (CtrOK.nil _))) mixed Tryz.func142 rfl (by simp [Tryz.ntmps142]) (by kernel_rfl) ?_
  rw [show Tryz.f142.results.toList = [.cell 4 25, .tmp 5] from by kernel_rfl]
  have hll := hf.1
  have hp0 := hp
  have hfu : fuelB ls ≤ 4295098370 := by unfold fuelB; omega
  unfold otherP
  have hb : byteOf ls p = (ls.getD p.1.toNat []).getD p.2.toNat 0 := rfl
  obtain ⟨kk, hk⟩ : ∃ kk, kk = kindF (byteOf ls p) := ⟨_, rfl⟩
  rw [← hk]
  obtain ⟨op, sh, opens, br⟩ := kk
  dsimp only
  rw [hb] at hk
  obtain ⟨nx, hnx⟩ : ∃ nx, nx = nextB ls p (!opens) := ⟨_, rfl⟩
  rw [← hnx]
  have hin0 : ∀ q, nx = some q → inByte ls q := fun q h => (nextB_in hf hp (hnx.symm.trans h)).1
  obtain ⟨p1, p2⟩ := p
  obtain ⟨g1, g2, g3, g4⟩ := hp
  dsimp only at g1 g2 g3 g4 hk
  have h5 := fits_getD hf p1.toNat
  obtain ⟨R, hR⟩ : ∃ R, R = otherL ls op sh opens (fuelB ls) nx 1 := ⟨_, rfl⟩
  rw [← hR]
  simp (maxSteps := 4000000) only [go_sem, Nat.reduceAdd, reduceCtorEq, Nat.reduceEqDiff, tk3, tk9, dz9, tk22, tk25, tz25, dz25, kKind, kBNext, aKind, aOpt, aPos, byteA, ←hk, ←hnx]
  refine ⟨⟨by omega, by omega⟩, ⟨by omega, by omega⟩, ⟨hf, by omega, by omega, by omega, by omega⟩, ?_⟩
  refine loopH_intro (α := Nat × Option (Int × Int) × Int) (fun x => ([(0, .sl 1 (ls.map .str)), (3, .ptr 0 2 1 0 0), (4, .ptr 1 2 1 0 0), (5, .bool false), (6, .int .u8 op.toNat), (7, .int .u8 sh.toNat), (8, .bool opens), (10, .int .i64 x.2.2), (11, .ptr 2 2 1 0 0), (12, .bool x.2.1.isSome)], [.arr 25 2 [.agg [.int .i64 p1, .int .i64 p2]], .arr 25 2 [.agg [.int .i64 0, .int .i64 0]], .arr 25 2 [.agg [.int .i64 (x.2.1.getD (0, 0)).1, .int .i64 (x.2.1.getD (0, 0)).2]]]))
    (fun x => (∀ q, x.2.1 = some q → inByte ls q ∧ rankB ls (!opens) q < x.1) ∧ x.1 ≤ fuelB ls ∧ -((fuelB ls - x.1 : Nat) : Int) - 1 ≤ x.2.2 ∧ x.2.2 ≤ (fuelB ls - x.1 : Nat) + 1 ∧ R = otherL ls op sh opens x.1 x.2.1 x.2.2) (fun x => x.1) (fuelB ls, nx, 1) ⟨fun q h => ⟨hin0 q h, by have := rankB_lt hf (hin0 q h) (!opens); dsimp only; omega⟩, by dsimp only; omega, by dsimp only; omega, by dsimp only; omega, hR⟩ ?_ ?_
  · simp (maxSteps := 4000000) only [go_sem, Nat.reduceAdd, reduceCtorEq, Nat.reduceEqDiff]
    exact ⟨by decide, subX_eq rfl rfl, subX_eq rfl rfl, subX_eq rfl rfl⟩
  rintro ⟨k, qo, d⟩ ⟨hq, hk2, hd1, hd2, hR⟩
  dsimp only at hq hk2 hd1 hd2 hR
  cases qo with
  | none =>
    rw [otherL_none] at hR
    subst hR
    simp (maxSteps := 4000000) only [go_sem, Nat.reduceAdd, reduceCtorEq, Nat.reduceEqDiff, tk25, tz25, dz25, kKind, kBNext, aKind, aOpt, aPos, byteA]
  | some q =>
    obtain ⟨hqi, hqr⟩ := hq q rfl
    obtain ⟨k, rfl⟩ : ∃ j, k = j + 1 := ⟨k - 1, by omega⟩
    rw [otherL] at hR
    have hbq : byteOf ls q = (ls.getD q.1.toNat []).getD q.2.toNat 0 := rfl
    have hnq := fun q' h => nextB_in (q' := q') (back := !opens) hf hqi h
    obtain ⟨ny, hny⟩ : ∃ ny, ny = nextB ls q (!opens) := ⟨_, rfl⟩
    rw [← hny] at hnq hR
    obtain ⟨q1, q2⟩ := q
    obtain ⟨e1, e2, e3, e4⟩ := hqi
    dsimp only at e1 e2 e3 e4 hbq
    have h6 := fits_getD hf q1.toNat
    rw [hbq] at hR
    generalize hbv : (ls.getD q1.toNat []).getD q2.toNat 0 = bv at hR
    have b1 := beq_byte bv op
    have b2 := beq_byte bv sh
    unfold deepS at hR
    have w1 : IntKind.i64.wrap (d + 1) = d + 1 := wrap64 (by omega) (by omega)
    have w2 : IntKind.i64.wrap (d - 1) = d - 1 := wrap64 (by omega) (by omega)
    cases hx1 : (bv == op) <;> cases hx2 : (bv == sh) <;> cases opens
    all_goals
      rw [hx1] at b1
      rw [hx2] at b2
      simp only [hx1, hx2, Bool.and_true, Bool.and_false, Bool.or_self, Bool.or_true, Bool.or_false, Bool.not_true, Bool.not_false, Bool.false_eq_true, if_true, if_false] at hR
      simp only [Bool.not_true, Bool.not_false] at hny hnq hqr
      simp (maxSteps := 4000000) only [go_sem, Nat.reduceAdd, reduceCtorEq, Nat.reduceEqDiff, tk3, tk9, dz9, tk22, tk25, tz25, dz25, kKind, kBNext, aKind, aOpt, aPos, byteA, hbv, b1, b2, ←hny, w1, w2]
      refine ⟨⟨e1, by omega⟩, ⟨e3, by omega⟩, fun hz => ?_, fun hz => ⟨⟨hf, e1, e2, e3, by omega⟩, (k, ny, _), ⟨fun q h => ⟨(hnq q h).1, by have := (hnq q h).2; dsimp only; omega⟩, by dsimp only; omega, ?_, ?_, ?_⟩, by dsimp only; omega, by decide, ⟨subX_eq rfl rfl, subX_eq rfl rfl, subX_eq rfl rfl⟩, rfl, rfl⟩⟩
      · rw [beq_iff_eq] at hz
        rw [if_pos hz] at hR
        rw [hR]
        exact ⟨⟨rfl, rfl⟩, rfl⟩
      · dsimp only; omega
      · dsimp only; omega
      · rw [beq_eq_false_iff_ne] at hz
        rw [if_neg hz] at hR
        exact hR
def kOther : C1 := C1.by [.sl 1 [], .id] (lCons cStrs (lOne cPos2)) (fun d => okText d.1 ∧ inByte d.1 d.2) (fun d => aOpt (otherP d.1 d.2)) (fun _ => [])
theorem ok_other : C1OK Tryz.prog 142 kOther := C1OK.by (by kernel_rfl) (fun d h => calls_other d.1 d.2 h.1 h.2) (fun _ => rfl) (fun _ => rfl)

def matchM (r : Option (Int × Int)) : Mv × Bool := match r with
  | some q => ((q, 1, true, -1), true)
  | none => mNone
def matchL (ls : Ls) (p : Int × Int) : Mv × Bool := match findUp (fun i => (kindF ((ls.getD p.1.toNat []).getD i 0)).2.2.2) ((ls.getD p.1.toNat []).length - p.2.toNat) p.2.toNat with
  | some i => matchM (otherP ls (p.1, i))
  | none => mNone
def matchP (ls : Ls) (p : Int × Int) : Mv × Bool := whenMay ls p 1 (matchL ls p)
set_option maxRecDepth 20000 in
set_option maxHeartbeats 8000000 in
theorem calls_Match (ls : Ls) (p : Int × Int) (hf : okText ls) :
    CallsR Tryz.prog 132 [.sl 1 (ls.map .str), aPos p] [] (aMove (matchP ls p)) [] := by
  refine callsR_of (mrg := true) (dyn := []) (CtrOK.cons ok_CPlace (CtrOK.cons ok_Kind (CtrOK.cons ok_other (CtrOK.nil _)))) mixed Tryz.func132 rfl (by simp [Tryz.ntmps132]) (by kernel_rfl) ?_
  rw [show Tryz.f132.results.toList = [.cell 4 49, .tmp 5] from by kernel_rfl]
  obtain ⟨p1, p2⟩ := p
  unfold matchP whenMay
  have hpl : may ls (p1, p2) 1 = place ls p1 p2 := by unfold may; simp
  rw [hpl]
  cases hm : place ls p1 p2 with
  | false =>
    rw [if_neg (by simp)]
    simp (maxSteps := 4000000) only [go_sem, Nat.reduceAdd, reduceCtorEq, Nat.reduceEqDiff, tk25, dz25, tk49, tz49, dz49, kRPlace, aPos, aMove, aMv, mNone, hm]
  | true =>
    rw [if_pos rfl]
    obtain ⟨g1, g2, g3, g4⟩ := (place_iff _ _ _).1 hm
    obtain ⟨l, rfl⟩ := Int.eq_ofNat_of_zero_le g1
    obtain ⟨c, rfl⟩ := Int.eq_ofNat_of_zero_le g3
    rw [Int.toNat_natCast] at g2 g4
    have h5 := fits_getD hf l
    have hR : matchL ls ((l : Int), (c : Int)) = match findUp (fun i => (kindF ((ls.getD l []).getD i 0)).2.2.2) ((ls.getD l []).length - c) c with
      | some i => matchM (otherP ls (l, i))
      | none => mNone := rfl
    generalize matchL ls ((l : Int), (c : Int)) = R at hR ⊢
    obtain ⟨s, hs⟩ : ∃ s, s = ls.getD l [] := ⟨_, rfl⟩
    rw [← hs] at hR g4 h5
    simp (maxSteps := 4000000) only [go_sem, Nat.reduceAdd, reduceCtorEq, Nat.reduceEqDiff, tk3, tk9, dz9, tk22, tk25, dz25, tz49, kRPlace, aPos, hm, ←hs]
    refine ⟨by omega, ?_⟩
    refine loopH_intro (α := Nat) (fun i => ([(0, .sl 1 (ls.map .str)), (3, .ptr 0 2 1 0 0), (4, .ptr 1 5 1 0 0), (5, .bool false), (6, .str s)], [.arr 25 2 [.agg [.int .i64 l, .int .i64 i]], .arr 49 5 [.agg [.int .i64 0, .int .i64 0, .int .i64 0, .bool false, .int .i64 0]]]))
      (fun i => i ≤ s.length ∧ R = match findUp (fun i => (kindF (s.getD i 0)).2.2.2) (s.length - i) i with
        | some i => matchM (otherP ls (l, i))
        | none => mNone) (fun i => s.length - i) c ⟨by omega, hR⟩ ?_ ?_
    · simp (maxSteps := 4000000) only [go_sem, reduceCtorEq, Nat.reduceEqDiff]
      exact ⟨by decide, subX_eq rfl rfl, subX_eq rfl rfl⟩
    rintro i ⟨hi, hR⟩
    by_cases hlt : i < s.length
    · have c1 : decide ((i : Int) < (s.length : Int)) = true := decide_eq_true (by omega)
      have w1 : IntKind.i64.wrap ((i : Int) + 1) = ((i + 1 : Nat) : Int) := by rw [wrap64 (by omega) (by omega)]; rfl
      rw [show s.length - i = (s.length - (i + 1)) + 1 by omega, findUp] at hR
      obtain ⟨kk, hk⟩ : ∃ kk, kk = kindF (s.getD i 0) := ⟨_, rfl⟩
      rw [← hk] at hR
      obtain ⟨op, sh, opens, br⟩ := kk
      cases br with
      | true =>
        simp only [if_true] at hR
        have hin : inByte ls ((l : Int), (i : Int)) := ⟨g1, by dsimp only; omega, by dsimp only; omega, by dsimp only; rw [Int.toNat_natCast, ← hs]; omega⟩
        obtain ⟨o, ho⟩ : ∃ o, o = otherP ls ((l : Int), (i : Int)) := ⟨_, rfl⟩
        rw [← ho] at hR
        cases o with
        | none =>
          subst hR
          simp (maxSteps := 4000000) only [go_sem, Nat.reduceAdd, reduceCtorEq, Nat.reduceEqDiff, tk3, tk9, tk25, tz25, dz25, tk49, tz49, dz49, kKind, kOther, aKind, aOpt, aPos, aMove, aMv, mNone, matchM, byteA, c1, ←hk, ←ho]
          exact ⟨by omega, hf, hin⟩
        | some q =>
          subst hR
          simp (maxSteps := 4000000) only [go_sem, Nat.reduceAdd, reduceCtorEq, Nat.reduceEqDiff, Nat.reduceLeDiff, tk3, tk9, tk25, tz25, dz25, tk49, tz49, dz49, kKind, kOther, aKind, aOpt, aPos, aMove, aMv, matchM, byteA, c1, ←hk, ←ho]
          exact ⟨by omega, hf, hin⟩
      | false =>
        simp only [Bool.false_eq_true, if_false] at hR
        simp (maxSteps := 4000000) only [go_sem, Nat.reduceAdd, reduceCtorEq, Nat.reduceEqDiff, tk3, tk9, tk25, dz25, tk49, tz49, dz49, kKind, kOther, aKind, aOpt, aPos, byteA, c1, w1, ←hk]
        exact ⟨by omega, i + 1, ⟨by omega, hR⟩, by omega, by decide, subX_eq rfl rfl, subX_eq rfl rfl⟩
    · have c1 : decide ((i : Int) < (s.length : Int)) = false := decide_eq_false (by omega)
      rw [show s.length - i = 0 by omega, findUp] at hR
      subst hR
      simp (maxSteps := 4000000) only [go_sem, Nat.reduceAdd, reduceCtorEq, Nat.reduceEqDiff, tk3, tk9, tk25, dz25, tk49, tz49, dz49, aMove, aMv, mNone, c1]
theorem ok_Match : C1OK Tryz.prog 132 (kMv0 matchP) := C1OK.by (by kernel_rfl) (fun d h => calls_Match d.1 d.2 h) (fun _ => rfl) (fun _ => rfl)
end Go.Pg
namespace Go.Pg
open Go Go.Proofs

theorem sentLine_len (ls : Ls) (hf : okText ls) (k : Nat) : (sentLine ls k).length ≤ 65536 := by
  unfold sentLine
  split
  · split <;> simp
  · rw [List.length_map]
    exact Nat.le_trans (sentTo_len _ _ _) (fits_getD hf k)
theorem sents_len (ls : Ls) (hf : okText ls) : (sents ls).length ≤ 4294967296 := by
  have h1 := flatTo_len (sentLine ls) 65536 (sentLine_len ls hf) ls.length
  have h2 : ls.length * 65536 ≤ 65536 * 65536 := Nat.mul_le_mul hf.1 (by omega)
  show (flatTo (sentLine ls) ls.length).length ≤ _
  omega

def sentNextL (ls : Ls) (p : Int × Int) (n : Int) (op : Bool) (l : List (Int × Int)) : Mv × Bool :=
  if n ≤ l.length then (jumpM (l.getD (n - 1).toNat (0, 0)), true)
  else if (op && (n - l.length == 1) && less p (endPos ls)) = true then (jumpM (endPos ls), true) else mNone
def sentNextP (ls : Ls) (p : Int × Int) (n : Int) (op : Bool) : Mv × Bool := whenMay ls p n (sentNextL ls p n op (behind (sents ls) p false))

theorem getD_of {α : Type} {l : List α} {k : Nat} {q d : α} (h : l[k]? = some q) : l.getD k d = q := by
  rw [List.getD_eq_getElem?_getD, h]; rfl

set_option maxRecDepth 20000 in
set_option maxHeartbeats 8000000 in
theorem calls_SentNext (ls : Ls) (p : Int × Int) (n : Int) (op : Bool) (hf : okText ls) (hn9 : n ≤ 9223372036854775807) : CallsR Tryz.prog 131 [.sl 1 (ls.map .str), aPos p, .int .i64 n, .bool op] [] (aMove (sentNextP ls p n op)) [] := by
  obtain ⟨p1, p2⟩ := p
  refine callsR_of (mrg := true) (dyn := []) (CtrOK.cons ok_pfails (CtrOK.cons ok_SentsF (CtrOK.cons ok_sents1 (CtrOK.cons ok_Less (CtrOK.cons ok_pjump (CtrOK.nil _)))))) mixed Tryz.func131 rfl (by simp [Tryz.ntmps131]) (by kernel_rfl) ?_
  rw [show Tryz.f131.results.toList = [.cell 8 49, .cell 9 4] from by kernel_rfl]
  cases hm : may ls (p1, p2) n with
  | false =>
    rw [sentNextP, whenMay, if_neg (by rw [hm]; simp)]
    simp (maxSteps := 4000000) only [go_sem, Nat.reduceAdd, reduceCtorEq, Nat.reduceEqDiff, tk3, dz3, tk4, tz4, dz4, tk25, dz25, tk49, tz49, dz49, kCFails, aPos, aMove, aMv, mNone, hm]
  | true =>
    rw [sentNextP, whenMay, if_pos hm]
    have hi := (may_iff _ _ _).1 hm
    dsimp only at hi
    have hll := hf.1
    have hsl := sents_len ls hf
    simp (maxSteps := 4000000) only [go_sem, Nat.reduceAdd, reduceCtorEq, Nat.reduceEqDiff, tk3, dz3, tz4, tk25, dz25, tz49, kCFails, kSentsF, aSent, kSents1, kLess, kPJump, aPos, aMv, hm]
    refine ⟨hf, ?_⟩
    generalize hM : sents ls = M at hsl ⊢
    rw [mark_eq]
    refine rangG_intro M (fun p => [aPos p]) (0, 0) [(0, .sl 1 (ls.map .str)), (3, .bool op), (5, .ptr 0 2 1 0 0), (6, .ptr 1 1 1 0 0), (8, .ptr 2 5 1 0 0), (9, .ptr 3 1 1 0 0)]
      [.arr 25 2 [.agg [.int .i64 p1, .int .i64 p2]], .arr 3 1 [.int .i64 n], .arr 49 5 [.agg [.int .i64 0, .int .i64 0, .int .i64 0, .bool false, .int .i64 0]], .arr 4 1 [.bool false]]
      (fun k => ([(0, .sl 1 (ls.map .str)), (3, .bool op), (5, .ptr 0 2 1 0 0), (6, .ptr 1 1 1 0 0), (8, .ptr 2 5 1 0 0), (9, .ptr 3 1 1 0 0)], [.arr 25 2 [.agg [.int .i64 p1, .int .i64 p2]], .arr 3 1 [.int .i64 (n - (behind (M.take k) (p1, p2) false).length)], .arr 49 5 [.agg [.int .i64 0, .int .i64 0, .int .i64 0, .bool false, .int .i64 0]], .arr 4 1 [.bool false]]))
      (fun k => ((behind (M.take k) (p1, p2) false).length : Int) < n) rfl ?_ ?_ ?_ (fun _ => rfl) ?_ ?_
    · simp (maxSteps := 4000000) only [go_sem, Nat.reduceAdd, reduceCtorEq, Nat.reduceEqDiff]
      exact ⟨by decide, subX_eq rfl rfl, subX_eq rfl rfl, subX_eq rfl rfl, subX_eq rfl rfl⟩
    · simp (maxSteps := 4000000) only [go_sem, Nat.reduceAdd, reduceCtorEq, Nat.reduceEqDiff, Nat.reduceLT]
      exact ⟨by decide, subX_eq rfl rfl, subX_eq (by simp [behind]) rfl, subX_eq rfl rfl, subX_eq rfl rfl⟩
    · show ((behind [] (p1, p2) false).length : Int) < n
      simp only [behind, List.filter_nil, List.length_nil]
      omega
    · intro k hk hpk
      have hpk : ((behind (M.take k) (p1, p2) false).length : Int) < n := hpk
      have hsu := behind_succ M (p1, p2) false k hk
      have hw : IntKind.i64.wrap (n - (behind (M.take k) (p1, p2) false).length - 1) = n - (behind (M.take k) (p1, p2) false).length - 1 := wrap64 (by omega) (by omega)
      have hbe : isBehind (p1, p2) false (M.getD k (0, 0)) = less (p1, p2) (M.getD k (0, 0)) := by unfold isBehind; simp
      cases hb : less (p1, p2) (M.getD k (0, 0)) with
      | true =>
        rw [hb] at hbe
        have hat := behind_at M (p1, p2) false k hk hbe
        rw [if_pos hbe] at hsu
        by_cases hn : n - (behind (M.take k) (p1, p2) false).length - 1 = 0
        · have hct : (n - ((behind (M.take k) (p1, p2) false).length : Int) - 1 == 0) = true := by rw [hn]; rfl
          have hlt := (List.getElem?_eq_some_iff.1 hat).1
          have e : sentNextL ls (p1, p2) n op (behind M (p1, p2) false) = (jumpM (M.getD k (0, 0)), true) := by
            unfold sentNextL
            rw [if_pos (by omega), show (n - 1).toNat = (behind (M.take k) (p1, p2) false).length by omega, getD_of hat]
          rw [e]
          simp (maxSteps := 4000000) only [go_sem, Nat.reduceAdd, reduceCtorEq, Nat.reduceEqDiff, tk3, dz3, tk4, dz4, tk25, tz25, dz25, tk49, dz49, aPos_def, aMove, aMv, jumpM, hb, hw, hct]
        · have hct : (n - ((behind (M.take k) (p1, p2) false).length : Int) - 1 == 0) = false := by rw [beq_eq_false_iff_ne]; exact hn
          simp (maxSteps := 4000000) only [go_sem, Nat.reduceAdd, reduceCtorEq, Nat.reduceEqDiff, Nat.reduceLT, tk3, dz3, tk25, tz25, dz25, aPos_def, jumpM, hb, hw, hct]
          exact ⟨by rw [hsu, List.length_append, List.length_singleton]; omega, by decide, subX_eq rfl rfl, subX_eq (by rw [hsu, List.length_append, List.length_singleton]; congr 2; omega) rfl, subX_eq rfl rfl, subX_eq rfl rfl⟩
      | false =>
        rw [hb] at hbe
        rw [if_neg (by rw [hbe]; simp)] at hsu
        simp (maxSteps := 4000000) only [go_sem, Nat.reduceAdd, reduceCtorEq, Nat.reduceEqDiff, Nat.reduceLT, Nat.reduceLeDiff, tk3, dz3, tk4, dz4, tk9, dz9, tk22, tk25, tz25, dz25, tk49, tz49, dz49, kCFails, kSentsF, aSent, kSents1, kLess, kPJump, aPos_def, aMove, aMv, jumpM, hb]
        exact ⟨by rw [hsu]; exact hpk, by decide, subX_eq rfl rfl, subX_eq (by rw [hsu]) rfl, subX_eq rfl rfl, subX_eq rfl rfl⟩
    · intro hpk
      have hpk : ((behind (M.take M.length) (p1, p2) false).length : Int) < n := hpk
      rw [List.take_of_length_le (Nat.le_refl M.length)] at hpk ⊢
      generalize hB : behind M (p1, p2) false = B at hpk ⊢
      have w1 : IntKind.i64.wrap ((ls.length : Int) - 1) = (ls.length : Int) - 1 := wrap64 (by omega) (by omega)
      have e1 : ((ls.length : Int) - 1).toNat = ls.length - 1 := by omega
      have e2 : endPos ls = ((ls.length : Int) - 1, ((ls.getD (ls.length - 1) []).length : Int)) := rfl
      rw [sentNextL, if_neg (by omega), e2]
      cases hc1 : (n - (B.length : Int) == 1) <;> cases hc2 : less (p1, p2) ((ls.length : Int) - 1, ((ls.getD (ls.length - 1) []).length : Int)) <;> cases op
      all_goals
        simp (maxSteps := 4000000) only [go_sem, Nat.reduceAdd, reduceCtorEq, Nat.reduceEqDiff, Nat.reduceLeDiff, tk3, dz3, tk4, dz4, tk9, dz9, tk22, tk25, tz25, dz25, tk49, tz49, dz49, kCFails, kSentsF, aSent, kSents1, kLess, kPJump, aPos_def, aMove, aMv, mNone, jumpM, w1, e1, hc1, hc2, bne]
        exact ⟨by omega, by omega⟩
theorem ok_SentNext : C1OK Tryz.prog 131 (kMvNB sentNextP) := C1OK.by (by kernel_rfl) (fun d h => calls_SentNext d.1 d.2.1 d.2.2.1 d.2.2.2 h.1 h.2) (fun _ => rfl) (fun _ => rfl)

def sentBackL (M : List (Int × Int)) (p : Int × Int) (n : Int) : Mv × Bool := if (wBack M p n).2 = true then (jumpM (wBack M p n).1, true) else mNone
def sentBackP (ls : Ls) (p : Int × Int) (n : Int) : Mv × Bool := whenMay ls p n (sentBackL (sents ls) p n)
set_option maxRecDepth 20000 in
set_option maxHeartbeats 8000000 in
theorem calls_SentBack (ls : Ls) (p : Int × Int) (n : Int) (hf : okText ls) : CallsR Tryz.prog 130 [.sl 1 (ls.map .str), aPos p, .int .i64 n] [] (aMove (sentBackP ls p n)) [] := by
  obtain ⟨p1, p2⟩ := p
  refine callsR_of (mrg := true) (dyn := []) (CtrOK.cons ok_pfails (CtrOK.cons ok_SentsF (CtrOK.cons ok_sents1 (CtrOK.cons ok_Less (CtrOK.cons ok_pjump (CtrOK.nil _)))))) mixed Tryz.func130 rfl (by simp [Tryz.ntmps130]) (by kernel_rfl) ?_
  rw [show Tryz.f130.results.toList = [.cell 6 49, .tmp 7] from by kernel_rfl]
  cases hm : may ls (p1, p2) n with
  | false =>
    rw [sentBackP, whenMay, if_neg (by rw [hm]; simp)]
    simp (maxSteps := 4000000) only [go_sem, Nat.reduceAdd, reduceCtorEq, Nat.reduceEqDiff, tk25, dz25, tk49, tz49, dz49, kCFails, aPos, aMove, aMv, mNone, hm]
  | true =>
    rw [sentBackP, whenMay, if_pos hm]
    have h1 : 1 ≤ n := ((may_iff _ _ _).1 hm).1
    have hml := sents_len ls hf
    simp (maxSteps := 4000000) only [go_sem, Nat.reduceAdd, reduceCtorEq, Nat.reduceEqDiff, tk25, dz25, tz37, tz49, kCFails, kSentsF, aSent, kSents1, kLess, kPJump, aPos, aMv, hm]
    refine ⟨hf, ?_⟩
    generalize hM : sents ls = M at hml ⊢
    have hend : ∀ k, tw M (p1, p2) = M.take k → k ≤ M.length → (n > (k : Int) → sentBackL M (p1, p2) n = mNone) ∧ (n ≤ (k : Int) → sentBackL M (p1, p2) n = (jumpM ((M.take k).getD (k - n.toNat) (0, 0)), true)) := by
      intro k hk hkl
      have hl : (tw M (p1, p2)).length = k := by rw [hk, List.length_take]; omega
      have e : wBack M (p1, p2) n = if n > (k : Int) then ((0, 0), false) else ((M.take k).getD (k - n.toNat) (0, 0), true) := by
        unfold wBack; rw [hl, hk]
      unfold sentBackL
      exact ⟨fun h => by rw [e, if_pos h]; rfl, fun h => by rw [e, if_neg (show ¬ n > (k : Int) by omega)]; rfl⟩
    rw [mark_eq]
    refine rangG_intro M (fun p => [aPos p]) (0, 0) [(2, .int .i64 n), (4, .ptr 0 2 1 0 0), (6, .ptr 1 5 1 0 0), (8, .ptr 2 1 1 0 0)] [.arr 25 2 [.agg [.int .i64 p1, .int .i64 p2]], .arr 49 5 [.agg [.int .i64 0, .int .i64 0, .int .i64 0, .bool false, .int .i64 0]], .arr 37 1 [.nls]]
      (fun k => ([(2, .int .i64 n), (4, .ptr 0 2 1 0 0), (6, .ptr 1 5 1 0 0), (8, .ptr 2 1 1 0 0)], [.arr 25 2 [.agg [.int .i64 p1, .int .i64 p2]], .arr 49 5 [.agg [.int .i64 0, .int .i64 0, .int .i64 0, .bool false, .int .i64 0]], .arr 37 1 [.own 3 2 k], .arr 25 2 ((M.take k).map aPos)])) (fun k => (M.take k).all (fun q => less q (p1, p2)) = true) rfl ?_ ?_ (by simp) (fun _ => rfl) ?_ ?_
    · simp (maxSteps := 4000000) only [go_sem, Nat.reduceAdd, reduceCtorEq, Nat.reduceEqDiff]
      exact ⟨by decide, subX_eq rfl rfl, subX_eq rfl rfl, subX_eq rfl rfl⟩
    · simp (maxSteps := 4000000) only [go_sem, Nat.reduceAdd, reduceCtorEq, Nat.reduceEqDiff, Nat.reduceLT]
      exact ⟨by decide, subX_eq rfl rfl, subX_eq rfl rfl, subX_nls rfl⟩
    · intro k hk hpk
      have hpk : (M.take k).all (fun q => less q (p1, p2)) = true := hpk
      have hrl : (M.take k).length = k := by rw [List.length_take]; omega
      have hap := app1_pos (M.take k) (M.getD k (0, 0))
      rw [← take_succ_getD M k (0, 0) hk] at hap
      have hrl2 : (M.take (k + 1)).length = k + 1 := by rw [List.length_take]; omega
      cases hb : less (M.getD k (0, 0)) (p1, p2) with
      | true =>
        have hall : (M.take (k + 1)).all (fun q => less q (p1, p2)) = true := by
          rw [take_succ_getD M k (0, 0) hk, List.all_append, hpk]
          simp only [List.all_cons, List.all_nil, hb]; rfl
        simp (maxSteps := 4000000) only [go_sem, Nat.reduceAdd, reduceCtorEq, Nat.reduceEqDiff, Nat.reduceLT, Nat.reducePow, Nat.reduceLeDiff, tk25, tz25, dz25, eb25, tk37, dz37, hrl, hap, hb, pureB_posL, aPos_def]
        exact ⟨⟨by decide, by omega⟩, hall, by decide, subX_eq rfl rfl, subX_eq rfl rfl, subX_own rfl rfl, subX_eq rfl (pureB_posL _)⟩
      | false =>
        have hfin := hend k (tw_stop _ M k hk hpk hb) (by omega)
        by_cases hn : n > (k : Int)
        · have hct : decide (n > (k : Int)) = true := decide_eq_true hn
          rw [hfin.1 hn]
          simp (maxSteps := 4000000) only [go_sem, Nat.reduceAdd, reduceCtorEq, Nat.reduceEqDiff, Nat.reduceLT, tk25, tz25, dz25, tk37, dz37, tk49, tz49, dz49, kLess, kPJump, aMove, aMv, mNone, hb, hct, pureB_posL, aPos_def]
        · have hct : decide (n > (k : Int)) = false := decide_eq_false hn
          have hw : IntKind.i64.wrap ((k : Int) - n) = ((k - n.toNat : Nat) : Int) := by rw [wrap64 (by omega) (by omega)]; omega
          rw [hfin.2 (by omega)]
          simp (maxSteps := 4000000) only [go_sem, Nat.reduceAdd, reduceCtorEq, Nat.reduceEqDiff, Nat.reduceLT, tk25, tz25, dz25, tk37, dz37, tk49, dz49, kLess, kPJump, aMove, aMv, jumpM, hrl, hb, hct, hw, getD_pos, pureB_posL, aPos_def]
          exact ⟨by omega, by omega⟩
    · intro hpk
      have hpk : (M.take M.length).all (fun q => less q (p1, p2)) = true := hpk
      rw [List.take_of_length_le (Nat.le_refl M.length)] at hpk ⊢
      have hfin := hend M.length (by rw [List.take_of_length_le (Nat.le_refl M.length)]; exact tw_all _ M hpk) (Nat.le_refl _)
      rw [List.take_of_length_le (Nat.le_refl M.length)] at hfin
      by_cases hn : n > (M.length : Int)
      · have hct : decide (n > (M.length : Int)) = true := decide_eq_true hn
        rw [hfin.1 hn]
        simp (maxSteps := 4000000) only [go_sem, Nat.reduceAdd, Nat.reduceEqDiff, tk37, dz37, tk49, tz49, dz49, kLess, kPJump, aMove, aMv, mNone, hct]
      · have hct : decide (n > (M.length : Int)) = false := decide_eq_false hn
        have hw : IntKind.i64.wrap ((M.length : Int) - n) = ((M.length - n.toNat : Nat) : Int) := by rw [wrap64 (by omega) (by omega)]; omega
        rw [hfin.2 (by omega)]
        simp (maxSteps := 4000000) only [go_sem, Nat.reduceAdd, Nat.reduceEqDiff, tk25, dz25, tk37, dz37, tk49, dz49, kLess, kPJump, aMove, aMv, jumpM, hct, hw, getD_pos, aPos_def]
        exact ⟨by omega, by omega⟩
theorem ok_SentBack : C1OK Tryz.prog 130 (kMvN sentBackP) := C1OK.by (by kernel_rfl) (fun d h => calls_SentBack d.1 d.2.1 d.2.2 h.1) (fun _ => rfl) (fun _ => rfl)
end Go.Pg
namespace Go.Pg
open Go Go.Proofs

/-- What a motion knows: the cursor, the column wanted, the window's first line; the seeking key, its byte; the pattern, whether it was searched back. -/
abbrev Cx := Int × Int × Int × Int × UInt8 × UInt8 × List UInt8 × Bool
abbrev lCx : CdL Cx := lCons (cInt .i64) (lCons (cInt .i64) (lCons (cInt .i64) (lCons (cInt .i64) (lCons cByte (lCons cByte (lCons cStr (lOne cBool)))))))
abbrev aCx (x : Cx) : AV := .agg [.int .i64 x.1, .int .i64 x.2.1, .int .i64 x.2.2.1, .int .i64 x.2.2.2.1, byteA x.2.2.2.2.1, byteA x.2.2.2.2.2.1, .str x.2.2.2.2.2.2.1, .bool x.2.2.2.2.2.2.2]
abbrev hCx : HC Cx := hBox 27 8 (hP .id (cAgg lCx))
/-- A command: its register, count, operator, name, byte, text. -/
abbrev Cm := UInt8 × Int × List UInt8 × List UInt8 × UInt8 × List UInt8
abbrev aCm (c : Cm) : List AV := [byteA c.1, .int .i64 c.2.1, .str c.2.2.1, .str c.2.2.2.1, byteA c.2.2.2.2.1, .str c.2.2.2.2.2]
abbrev aAsk (ls : Ls) (c : Cm) (n : Int) (op : Bool) : AV := .agg ([.sl 1 (ls.map .str), .ptr 0 8 1 0 0] ++ aCm c ++ [.int .i64 n, .bool op])
abbrev lAskd : HL (Ls × Cx × UInt8 × Int × List UInt8 × List UInt8 × UInt8 × List UInt8 × Int × Bool × Unit) :=
  hCons (hP (.sl 1 []) cStrs) (hCons hCx (hCons (hP .id cByte) (hCons (hP .id (cInt .i64)) (hCons (hP .id cStr) (hCons (hP .id cStr) (hCons (hP .id cByte) (hCons (hP .id cStr) (hCons (hP .id (cInt .i64)) (hCons (hP .id cBool) hNil)))))))))
abbrev cxH (x : Cx) : AH := [.arr 27 8 [aCx x]]
abbrev Res := (Mv × Bool) × Cx
def curOf (x : Cx) : Int × Int := (x.1, x.2.1)
def setFB (x : Cx) (f : List UInt8) (b : Bool) : Cx := (x.1, x.2.1, x.2.2.1, x.2.2.2.1, x.2.2.2.2.1, x.2.2.2.2.2.1, f, b)
def searchA (ls : Ls) (x : Cx) (name text : List UInt8) (n : Int) : Res :=
  if name = [47] then (searchP ls (curOf x) (if text = [] then x.2.2.2.2.2.2.1 else text) false n, setFB x (if text = [] then x.2.2.2.2.2.2.1 else text) false)
  else if name = [63] then (searchP ls (curOf x) (if text = [] then x.2.2.2.2.2.2.1 else text) true n, setFB x (if text = [] then x.2.2.2.2.2.2.1 else text) true)
  else if name = [110] then (searchP ls (curOf x) x.2.2.2.2.2.2.1 x.2.2.2.2.2.2.2 n, x)
  else if name = [78] then (searchP ls (curOf x) x.2.2.2.2.2.2.1 (!x.2.2.2.2.2.2.2) n, x)
  else if name = [42] ∨ name = [35] then (if (wordP ls (curOf x)).2.2 = true then (searchP ls (wordP ls (curOf x)).1 (wordP ls (curOf x)).2.1 (name == [35]) n, setFB x (wordP ls (curOf x)).2.1 (name == [35])) else (mNone, x))
  else (mNone, x)
theorem lt47_63 : (([47] : List UInt8) == [63]) = false := rfl
theorem lt63_47 : (([63] : List UInt8) == [47]) = false := rfl
theorem lt110_47 : (([110] : List UInt8) == [47]) = false := rfl
theorem lt110_63 : (([110] : List UInt8) == [63]) = false := rfl
theorem lt78_47 : (([78] : List UInt8) == [47]) = false := rfl
theorem lt78_63 : (([78] : List UInt8) == [63]) = false := rfl
theorem lt78_110 : (([78] : List UInt8) == [110]) = false := rfl
theorem lt42_47 : (([42] : List UInt8) == [47]) = false := rfl
theorem lt42_63 : (([42] : List UInt8) == [63]) = false := rfl
theorem lt42_110 : (([42] : List UInt8) == [110]) = false := rfl
theorem lt42_78 : (([42] : List UInt8) == [78]) = false := rfl
theorem lt42_35 : (([42] : List UInt8) == [35]) = false := rfl
theorem lt35_47 : (([35] : List UInt8) == [47]) = false := rfl
theorem lt35_63 : (([35] : List UInt8) == [63]) = false := rfl
theorem lt35_110 : (([35] : List UInt8) == [110]) = false := rfl
theorem lt35_78 : (([35] : List UInt8) == [78]) = false := rfl
theorem lt35_42 : (([35] : List UInt8) == [42]) = false := rfl
theorem str_ne {s : List UInt8} {t : List UInt8} (h : ¬ s = t) : (s == t) = false := beq_eq_false_iff_ne.2 h

set_option maxRecDepth 20000 in
set_option maxHeartbeats 8000000 in
theorem calls_search (ls : Ls) (x : Cx) (c : Cm) (n : Int) (op : Bool) (hf : okText ls) : CallsR Tryz.prog 133 [aAsk ls c n op] (cxH x) (aMove (searchA ls x c.2.2.2.1 c.2.2.2.2.2 n).1) (cxH (searchA ls x c.2.2.2.1 c.2.2.2.2.2 n).2) := by
  refine callsR_of (mrg := true) (dyn := [1]) (CtrOK.cons ok_Word (CtrOK.cons ok_Search (CtrOK.nil _))) mixed Tryz.func133 rfl (by simp [Tryz.ntmps133]) (by kernel_rfl) ?_
  rw [show Tryz.f133.results.toList = [.cell 2 49, .tmp 3] from by kernel_rfl]
  obtain ⟨x1, x2, w, t, ky, kc, fd, bk⟩ := x
  obtain ⟨rg, cn, opr, name, arg, text⟩ := c
  unfold searchA curOf setFB
  dsimp only
  by_cases h47 : name = [47]
  · subst h47
    rw [if_pos rfl]
    by_cases ht : text = []
    · subst ht
      rw [if_pos rfl]
      simp (maxSteps := 4000000) only [go_sem, Nat.reduceAdd, reduceCtorEq, Nat.reduceEqDiff, Nat.reduceBEq, Nat.reduceLeDiff, tk3, tk4, tk9, tk22, tk25, tz25, dz25, tk27, dz27, tk29, tk49, tz49, dz49, tk52, tk68, dz68, kWord, kSearch, aWd, aPos, aMove, aMv, lt47_63]
      (repeat' first | exact hf | exact hn | exact ⟨hf, hn⟩ | (show dynOrd _ _ = true; kernel_rfl) | exact subX_eq rfl rfl | exact trivial | apply And.intro | rfl | omega)
    · have e0 := str_ne ht
      rw [if_neg ht]
      simp (maxSteps := 4000000) only [go_sem, Nat.reduceAdd, reduceCtorEq, Nat.reduceEqDiff, Nat.reduceBEq, Nat.reduceLeDiff, tk3, tk4, tk9, tk22, tk25, tz25, dz25, tk27, dz27, tk29, tk49, tz49, dz49, tk52, tk68, dz68, kWord, kSearch, aWd, aPos, aMove, aMv, e0, lt47_63]
      (repeat' first | exact hf | exact hn | exact ⟨hf, hn⟩ | (show dynOrd _ _ = true; kernel_rfl) | exact subX_eq rfl rfl | exact trivial | apply And.intro | rfl | omega)
  by_cases h63 : name = [63]
  · subst h63
    rw [if_neg (by decide), if_pos rfl]
    by_cases ht : text = []
    · subst ht
      rw [if_pos rfl]
      simp (maxSteps := 4000000) only [go_sem, Nat.reduceAdd, reduceCtorEq, Nat.reduceEqDiff, Nat.reduceBEq, Nat.reduceLeDiff, tk3, tk4, tk9, tk22, tk25, tz25, dz25, tk27, dz27, tk29, tk49, tz49, dz49, tk52, tk68, dz68, kWord, kSearch, aWd, aPos, aMove, aMv, lt63_47]
      (repeat' first | exact hf | exact hn | exact ⟨hf, hn⟩ | (show dynOrd _ _ = true; kernel_rfl) | exact subX_eq rfl rfl | exact trivial | apply And.intro | rfl | omega)
    · have e0 := str_ne ht
      rw [if_neg ht]
      simp (maxSteps := 4000000) only [go_sem, Nat.reduceAdd, reduceCtorEq, Nat.reduceEqDiff, Nat.reduceBEq, Nat.reduceLeDiff, tk3, tk4, tk9, tk22, tk25, tz25, dz25, tk27, dz27, tk29, tk49, tz49, dz49, tk52, tk68, dz68, kWord, kSearch, aWd, aPos, aMove, aMv, e0, lt63_47]
      (repeat' first | exact hf | exact hn | exact ⟨hf, hn⟩ | (show dynOrd _ _ = true; kernel_rfl) | exact subX_eq rfl rfl | exact trivial | apply And.intro | rfl | omega)
  by_cases h110 : name = [110]
  · subst h110
    rw [if_neg (by decide), if_neg (by decide), if_pos rfl]
    simp (maxSteps := 4000000) only [go_sem, Nat.reduceAdd, reduceCtorEq, Nat.reduceEqDiff, Nat.reduceBEq, Nat.reduceLeDiff, tk3, tk4, tk9, tk22, tk25, tz25, dz25, tk27, dz27, tk29, tk49, tz49, dz49, tk52, tk68, dz68, kWord, kSearch, aWd, aPos, aMove, aMv, lt110_47, lt110_63]
    (repeat' first | exact hf | exact hn | exact ⟨hf, hn⟩ | (show dynOrd _ _ = true; kernel_rfl) | exact subX_eq rfl rfl | exact trivial | apply And.intro | rfl | omega)
  by_cases h78 : name = [78]
  · subst h78
    rw [if_neg (by decide), if_neg (by decide), if_neg (by decide), if_pos rfl]
    simp (maxSteps := 4000000) only [go_sem, Nat.reduceAdd, reduceCtorEq, Nat.reduceEqDiff, Nat.reduceBEq, Nat.reduceLeDiff, tk3, tk4, tk9, tk22, tk25, tz25, dz25, tk27, dz27, tk29, tk49, tz49, dz49, tk52, tk68, dz68, kWord, kSearch, aWd, aPos, aMove, aMv, lt78_47, lt78_63, lt78_110]
    (repeat' first | exact hf | exact hn | exact ⟨hf, hn⟩ | (show dynOrd _ _ = true; kernel_rfl) | exact subX_eq rfl rfl | exact trivial | apply And.intro | rfl | omega)
  by_cases hw : name = [42] ∨ name = [35]
  · rw [if_neg h47, if_neg h63, if_neg h110, if_neg h78, if_pos hw]
    obtain ⟨wd, hwd⟩ : ∃ wd, wd = wordP ls (x1, x2) := ⟨_, rfl⟩
    rw [← hwd]
    obtain ⟨⟨q1, q2⟩, wt, ok⟩ := wd
    rcases hw with hw | hw
    · subst hw
      cases ok
      · rw [if_neg (by simp)]
        simp (maxSteps := 4000000) only [go_sem, Nat.reduceAdd, reduceCtorEq, Nat.reduceEqDiff, Nat.reduceBEq, Nat.reduceLeDiff, tk4, tk9, tk22, tk25, tz25, dz25, tk27, dz27, tk29, tk49, tz49, dz49, tk52, tk68, dz68, kWord, kSearch, aWd, aPos, aMove, aMv, mNone, ←hwd, lt42_47, lt42_63, lt42_110, lt42_78]
        (repeat' first | exact hf | exact hn | exact ⟨hf, hn⟩ | (show dynOrd _ _ = true; kernel_rfl) | exact subX_eq rfl rfl | exact trivial | apply And.intro | rfl | omega)
      · rw [if_pos rfl]
        simp (maxSteps := 4000000) only [go_sem, Nat.reduceAdd, reduceCtorEq, Nat.reduceEqDiff, Nat.reduceBEq, Nat.reduceLeDiff, tk3, tk4, tk9, tk22, tk25, tz25, dz25, tk27, dz27, tk29, tk49, tz49, dz49, tk52, tk68, dz68, kWord, kSearch, aWd, aPos, aMove, aMv, ←hwd, lt42_47, lt42_63, lt42_110, lt42_78, lt42_35]
        (repeat' first | exact hf | exact hn | exact ⟨hf, hn⟩ | (show dynOrd _ _ = true; kernel_rfl) | exact subX_eq rfl rfl | exact trivial | apply And.intro | rfl | omega)
    · subst hw
      cases ok
      · rw [if_neg (by simp)]
        simp (maxSteps := 4000000) only [go_sem, Nat.reduceAdd, reduceCtorEq, Nat.reduceEqDiff, Nat.reduceBEq, Nat.reduceLeDiff, tk4, tk9, tk22, tk25, tz25, dz25, tk27, dz27, tk29, tk49, tz49, dz49, tk52, tk68, dz68, kWord, kSearch, aWd, aPos, aMove, aMv, mNone, ←hwd, lt35_47, lt35_63, lt35_110, lt35_78, lt35_42]
        (repeat' first | exact hf | exact hn | exact ⟨hf, hn⟩ | (show dynOrd _ _ = true; kernel_rfl) | exact subX_eq rfl rfl | exact trivial | apply And.intro | rfl | omega)
      · rw [if_pos rfl]
        simp (maxSteps := 4000000) only [go_sem, Nat.reduceAdd, reduceCtorEq, Nat.reduceEqDiff, Nat.reduceBEq, Nat.reduceLeDiff, tk3, tk4, tk9, tk22, tk25, tz25, dz25, tk27, dz27, tk29, tk49, tz49, dz49, tk52, tk68, dz68, kWord, kSearch, aWd, aPos, aMove, aMv, ←hwd, lt35_47, lt35_63, lt35_110, lt35_78, lt35_42]
        (repeat' first | exact hf | exact hn | exact ⟨hf, hn⟩ | (show dynOrd _ _ = true; kernel_rfl) | exact subX_eq rfl rfl | exact trivial | apply And.intro | rfl | omega)
  · have e1 := str_ne h47
    have e2 := str_ne h63
    have e3 := str_ne h110
    have e4 := str_ne h78
    have e5 := str_ne (fun h => hw (.inl h))
    have e6 := str_ne (fun h => hw (.inr h))
    rw [if_neg h47, if_neg h63, if_neg h110, if_neg h78, if_neg hw]
    simp (maxSteps := 4000000) only [go_sem, Nat.reduceAdd, reduceCtorEq, Nat.reduceEqDiff, Nat.reduceBEq, Nat.reduceLeDiff, tk4, tk9, tk25, tz25, dz25, tk27, dz27, tk29, tk49, tz49, dz49, tk52, tk68, dz68, kWord, kSearch, aWd, aPos, aMove, aMv, mNone, e1, e2, e3, e4, e5, e6]
    (repeat' first | exact hf | exact hn | exact ⟨hf, hn⟩ | (show dynOrd _ _ = true; kernel_rfl) | exact subX_eq rfl rfl | exact trivial | apply And.intro | rfl | omega)
def kSearchA : C1 := C1.mby (hCons (hAgg lAskd) hNil) (fun d => okText d.1.1 ∧ d.1.2.2.2.2.2.2.2.2.1 ≤ 9223372036854775807)
  (fun d => aMove (searchA d.1.1 d.1.2.1 d.1.2.2.2.2.2.1 d.1.2.2.2.2.2.2.2.1 d.1.2.2.2.2.2.2.2.2.1).1) (fun d => cxH (searchA d.1.1 d.1.2.1 d.1.2.2.2.2.2.1 d.1.2.2.2.2.2.2.2.1 d.1.2.2.2.2.2.2.2.2.1).2)
theorem ok_search : C1OK Tryz.prog 133 kSearchA := C1OK.mby (by kernel_rfl) (fun d h => calls_search d.1.1 d.1.2.1 (d.1.2.2.1, d.1.2.2.2.1, d.1.2.2.2.2.1, d.1.2.2.2.2.2.1, d.1.2.2.2.2.2.2.1, d.1.2.2.2.2.2.2.2.1) d.1.2.2.2.2.2.2.2.2.1 d.1.2.2.2.2.2.2.2.2.2.1 h.1) (fun _ _ => Nat.le_refl _)
end Go.Pg
