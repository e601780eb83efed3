/- Chapter 35: lines that may be asked; strings.Join; states are compared; a state's text. Chapter 35: PlaySame. Chapter 35: a state as an argument; PlaySame, whatever the state. -/
import Derived.Test.YtddkekepoimcpaaGreatDoorPgFx2
import Derived.Test.YtddkekepoimcpaaGreatDoorPgShfj
import Derived.Test.YtddkekepoimcpaaGreatDoorPgLib
import Derived.Test.YtddkekepoimcpaaGreatDoorPgOpn
set_option linter.unusedVariables false
set_option linter.unusedSimpArgs false
namespace Go.Pg
open Go Go.Proofs Go.RowKit

def total (ls : LsR) : Nat := (ls.map List.length).sum
def light (ls : LsR) : Bool := decide (ls.length ≤ 40) && decide (total ls ≤ 1200) && ls.all fun s => s.all fun b => b != 10
theorem take_succ_getD {α : Type} (l : List α) (i : Nat) (d : α) (h : i < l.length) : l.take (i + 1) = l.take i ++ [l.getD i d] := by
  rw [List.take_succ_eq_append_getElem h, List.getD_eq_getElem?_getD, List.getElem?_eq_getElem h]; rfl
theorem total_take (ls : LsR) (i : Nat) (h : i < ls.length) : total (ls.take (i + 1)) = total (ls.take i) + (ls.getD i []).length := by
  rw [take_succ_getD ls i [] h]; simp [total]
theorem total_take_le (ls : LsR) (i : Nat) : total (ls.take i) ≤ total ls := by
  have h := List.take_append_drop i ls
  have : total ls = total (ls.take i) + total (ls.drop i) := by
    conv => lhs; rw [← h]
    simp only [total, List.map_append, List.sum_append]
  omega
theorem not_light (ls : LsR) (i : Nat) (h : 1200 < total (ls.take i)) : light ls = false := by
  have := total_take_le ls i
  simp only [light, Bool.and_eq_false_imp, Bool.and_eq_true, decide_eq_true_eq]
  omega
theorem not_light_at (ls : LsR) (i k : Nat) (hi : i < ls.length) (hk : k < (ls.getD i []).length) (h : (ls.getD i []).getD k 0 = 10) : light ls = false := by
  rw [Bool.eq_false_iff]
  intro hl
  simp only [light, Bool.and_eq_true, List.all_eq_true] at hl
  have h1 := hl.2 (ls.getD i []) (by rw [List.getD_eq_getElem?_getD, List.getElem?_eq_getElem hi]; simp) ((ls.getD i []).getD k 0) (by
    generalize ls.getD i [] = s at hk
    rw [List.getD_eq_getElem?_getD, List.getElem?_eq_getElem hk]; simp)
  rw [h] at h1
  cases h1

theorem calls_Light (ls : LsR) (hs : ∀ i, (ls.getD i []).length ≤ 140737488355328) : CallsR Tryz.prog 5 [.sl 1 (ls.map .str)] [] (.bool (light ls)) [] := by
  refine callsR_of (mrg := true) (dyn := []) (CtrOK.nil _) mixed Tryz.func5 rfl (by simp [Tryz.ntmps5, AV.cells]) (by kernel_rfl) ?_
  rw [show Tryz.f5.results.toList = [.tmp 2] from by kernel_rfl]
  simp (maxSteps := 4000000) only [go_sem, Int.reduceBEq, Int.reduceBNe, Int.reduceLE, Int.reduceLT, Int.reduceToNat, Nat.reduceAdd, Nat.reduceBEq, Nat.reduceBNe, Nat.reduceEqDiff, Nat.reduceLT, Nat.reduceLeDiff, Nat.reduceMul, Nat.reducePow, Nat.reduceSub, UInt8.reduceOfNat, reduceCtorEq, reduceIte]
  refine ⟨fun h => ?_, fun h0 => ?_⟩
  · symm
    simp only [light, Bool.and_eq_false_imp, Bool.and_eq_true, decide_eq_true_eq]
    omega
  refine loopH_intro (α := Nat) (fun i => ([(0, .sl 1 (ls.map .str)), (2, .bool false), (3, .int .i64 (total (ls.take i))), (4, .int .i64 i)], [])) (fun i => i ≤ ls.length ∧ total (ls.take i) ≤ 1200 ∧ (ls.take i).all (fun s => s.all fun b => b != 10)) (fun i => ls.length - i) 0 ?_ ?_ ?_
  · simp [total]
  · simp (maxSteps := 4000000) only [go_sem, Int.reduceBEq, Int.reduceBNe, Int.reduceLE, Int.reduceLT, Int.reduceToNat, Nat.reduceAdd, Nat.reduceBEq, Nat.reduceBNe, Nat.reduceEqDiff, Nat.reduceLT, Nat.reduceLeDiff, Nat.reduceMul, Nat.reducePow, Nat.reduceSub, UInt8.reduceOfNat, reduceCtorEq, reduceIte]
    all_goals simp [total]
  · intro i hi
    simp (maxSteps := 4000000) only [go_sem, Int.reduceBEq, Int.reduceBNe, Int.reduceLE, Int.reduceLT, Int.reduceToNat, Nat.reduceAdd, Nat.reduceBEq, Nat.reduceBNe, Nat.reduceEqDiff, Nat.reduceLT, Nat.reduceLeDiff, Nat.reduceMul, Nat.reducePow, Nat.reduceSub, UInt8.reduceOfNat, reduceCtorEq, reduceIte]
    have h3 := hs i
    have h4 := total_take ls i
    refine ⟨fun h => ⟨by omega, fun h2 => ?_, fun h2 => ?_⟩, fun h => ?_⟩
    · rw [wrap64 (by omega) (by omega)] at h2
      symm
      exact not_light ls (i + 1) (by omega)
    · rw [wrap64 (by omega) (by omega)] at h2
      refine loopH_intro (α := Nat) (fun k => ([(0, .sl 1 (ls.map .str)), (2, .bool false), (3, .int .i64 (total (ls.take (i + 1)))), (4, .int .i64 i), (5, .int .i64 k)], [])) (fun k => k ≤ (ls.getD i []).length ∧ ((ls.getD i []).take k).all (fun b => b != 10)) (fun k => (ls.getD i []).length - k) 0 ?_ ?_ ?_
      · simp
      · simp (maxSteps := 4000000) only [go_sem, Int.reduceBEq, Int.reduceBNe, Int.reduceLE, Int.reduceLT, Int.reduceToNat, Nat.reduceAdd, Nat.reduceBEq, Nat.reduceBNe, Nat.reduceEqDiff, Nat.reduceLT, Nat.reduceLeDiff, Nat.reduceMul, Nat.reducePow, Nat.reduceSub, UInt8.reduceOfNat, reduceCtorEq, reduceIte]
        rw [wrap64 (by omega) (by omega)]
        omega
      · intro k hk
        simp (maxSteps := 4000000) only [go_sem, Int.reduceBEq, Int.reduceBNe, Int.reduceLE, Int.reduceLT, Int.reduceToNat, Nat.reduceAdd, Nat.reduceBEq, Nat.reduceBNe, Nat.reduceEqDiff, Nat.reduceLT, Nat.reduceLeDiff, Nat.reduceMul, Nat.reducePow, Nat.reduceSub, UInt8.reduceOfNat, reduceCtorEq, reduceIte]
        refine ⟨by omega, fun h5 => ⟨by omega, by omega, fun h6 => ?_, fun h6 => ⟨k + 1, ⟨by omega, ?_⟩, by omega, by rw [wrap64 (by omega) (by omega)]; omega⟩⟩, fun h5 => ⟨i + 1, ⟨by omega, by omega, ?_⟩, by omega, rfl, by rw [wrap64 (by omega) (by omega)]; omega⟩⟩
        · symm
          refine not_light_at ls i k (by omega) (by omega) ?_
          have h7 : ((ls.getD i []).getD k 0).toNat = 10 := by have := eq_of_beq h6; omega
          exact UInt8.toNat_inj.1 h7
        · rw [take_succ_getD _ k 0 (by omega), List.all_append, hk.2]
          simp only [List.all_cons, List.all_nil, Bool.and_true, Bool.true_and, bne_iff_ne, ne_eq]
          intro h7
          rw [h7] at h6
          exact absurd h6 (by decide)
        · have h8 : k = (ls.getD i []).length := by omega
          have h9 := hk.2
          rw [h8, List.take_length] at h9
          rw [take_succ_getD _ i [] (by omega), List.all_append, hi.2.2]
          simp only [List.all_cons, List.all_nil, h9, Bool.and_self]
    · have : i = ls.length := by omega
      subst this
      rw [List.take_length] at hi
      symm
      have h1 : ls.length ≤ 40 := by omega
      simp [light, hi, h1]

def kLight : C1 := C1.by [.sl 1 []] (lOne cStrs) (fun d => ∀ i, (d.getD i []).length ≤ 140737488355328) (fun d => .bool (light d)) (fun _ => [])
theorem ok_Light : C1OK Tryz.prog 5 kLight := C1OK.by (by kernel_rfl) (fun d h => calls_Light d h) (fun _ => rfl) (fun _ => rfl)


/-! ### strings.Join -/
theorem calls_Join (l : LsR) (sep : List UInt8) (h1 : l.length ≤ 140737488355328) (h2 : (Lib.join l sep).length ≤ 140737488355328) :
    CallsR Tryz.prog 16 [.sl 1 (l.map .str), .str sep] [] (.str (Lib.join l sep)) [] := by
  refine callsR_below fun E vals hv => ?_
  obtain ⟨u, v, rfl, k1, k2⟩ := hv.two
  obtain ⟨S, rfl, hS⟩ : ∃ S : ByteArray, v = .string S ∧ S.data.toList = sep := by
    generalize hx : AV.str sep = x at k2
    cases k2 with
    | str S => exact ⟨S, rfl, (AV.str.inj hx).symm⟩
    | _ => cases hx
  generalize hx : AV.sl 1 (l.map .str) = x at k1
  cases k1 with
  | sl _ vs a cap f c1 c2 c3 =>
    obtain ⟨rfl, rfl⟩ := AV.sl.inj hx
    have hlen : (l.map AV.str).length = l.length := List.length_map ..
    rw [hlen] at c1 ⊢
    cases l with
    | nil =>
      refine (Tryz.strings_Join_none a cap S E.W).mono fun e W' ⟨g1, g2⟩ => ?_
      subst g2
      exact ⟨⟨_, g1, fun E' => .str ⟨#[]⟩⟩, Below.refl _ _⟩
    | cons s r =>
      obtain ⟨_, b, o, rfl, hst, _⟩ := c2 0 (.str s) rfl
      have hcell : ∀ (j : Nat) x, ((s :: r).map fun t : List UInt8 => (⟨t.toArray⟩ : ByteArray))[j]? = some x → E.W.cell? ⟨b, o + j, none⟩ = some (.string x) := by
        intro j x hj
        rw [List.getElem?_map] at hj
        cases ht : (s :: r)[j]? with
        | none => rw [ht] at hj; cases hj
        | some t =>
          rw [ht] at hj
          cases hj
          have hm : ((s :: r).map AV.str)[j]? = some (.str t) := by rw [List.getElem?_map, ht]; rfl
          obtain ⟨_, b2, o2, e2, _, hc⟩ := c2 j _ hm
          cases e2
          have hcc := hc 0 (by omega)
          have hvp := c3 j _ 0 (.str t) hm rfl
          generalize hf : f j 0 = fv at hvp hcc
          generalize hy : AV.str t = y at hvp
          cases hvp with
          | str T =>
            have : t = T.data.toList := AV.str.inj hy
            subst this
            simpa using hcc
          | _ => cases hy
      have hbk : b < E.W.heap.size := by
        have := hcell 0 ⟨s.toArray⟩ rfl
        unfold World.cell? at this
        rcases Nat.lt_or_ge b E.W.heap.size with h | h
        · exact h
        · rw [Array.getElem?_eq_none (by simpa using h)] at this
          simp at this
      have hmm : ((s :: r).map fun t : List UInt8 => (⟨t.toArray⟩ : ByteArray)).map (fun x => x.data.toList) = s :: r := by simp [Function.comp_def]
      have hxl : ((s :: r).map fun t : List UInt8 => (⟨t.toArray⟩ : ByteArray)).length = (s :: r).length := List.length_map ..
      have hj := Tryz.strings_Join b o cap ((s :: r).map fun t : List UInt8 => (⟨t.toArray⟩ : ByteArray)) S E.W hcell hbk (by rw [hxl]; exact h1) (by rw [hxl]; exact c1) (by rw [hmm, hS]; exact h2)
      rw [hxl, hmm, hS] at hj
      refine hj.mono fun e W' ⟨g1, g2⟩ => ⟨⟨_, g1, fun E' => ?_⟩, g2⟩
      have := VR.str (E := E') ⟨(Lib.join (s :: r) sep).toArray⟩
      simpa using this
  | _ => cases hx
def kJoin : C1 := C1.by [.sl 1 [], .id] (lCons cStrs (lOne cStr)) (fun d => d.1.length ≤ 140737488355328 ∧ (Lib.join d.1 d.2).length ≤ 140737488355328) (fun d => .str (Lib.join d.1 d.2)) (fun _ => [])
theorem ok_Join : C1OK Tryz.prog 16 kJoin := C1OK.by (by kernel_rfl) (fun d h => calls_Join d.1 d.2 h.1 h.2) (fun _ => rfl) (fun _ => rfl)

/-- Lines as a text. -/
def textOf (l : LsR) : List UInt8 := (l.map (· ++ [10])).flatten
theorem textOf_join (l : LsR) (h : l ≠ []) : Lib.join l [10] ++ [10] = textOf l := by
  cases l with
  | nil => exact absurd rfl h
  | cons s r =>
    rw [Lib.join_cons]
    clear h
    induction r generalizing s with
    | nil => simp [Lib.joinTail, textOf]
    | cons t r ih =>
      have := ih t
      simp only [Lib.joinTail, textOf, List.map_cons, List.flatten_cons, List.append_assoc] at this ⊢
      rw [← this]
theorem textOf_take (l : LsR) (i : Nat) (h : i < l.length) : textOf (l.take (i + 1)) = textOf (l.take i) ++ l.getD i [] ++ [10] := by
  have e : l.take (i + 1) = l.take i ++ [l.getD i []] := by
    rw [List.take_succ_eq_append_getElem h, List.getD_eq_getElem?_getD, List.getElem?_eq_getElem h]; rfl
  rw [e]
  simp [textOf]
theorem textOf_len (l : LsR) : ((textOf l).length : Int) = lsz l := by
  induction l with
  | nil => rfl
  | cons s r ih =>
    rw [lsz_cons, ← ih]
    simp only [textOf, List.map_cons, List.flatten_cons, List.length_append, List.length_cons, List.length_nil]
    omega
theorem join_len (l : LsR) : ((Lib.join l [10]).length : Int) ≤ lsz l := by
  by_cases h : l = []
  · subst h; exact Int.le_refl _
  · have := congrArg List.length (textOf_join l h)
    have h2 := textOf_len l
    simp only [List.length_append, List.length_cons, List.length_nil] at this
    omega

/-! ### States -/
structure StV where
  lines : LsR
  c1 : Int
  c2 : Int
  want : Int
  mode : Int
  a1 : Int
  a2 : Int
  bell : Bool
  top : Int
  names : List UInt8
  regs : List RgN
  marked : List UInt8
  marks : List PoV
  jumps : List PoV
  jump : Int
  record : Int
def aSt (s : StV) : AV := .agg [.sl 1 (s.lines.map .str), .int .i64 s.c1, .int .i64 s.c2, .int .i64 s.want, .int .i64 s.mode, .int .i64 s.a1, .int .i64 s.a2, .bool s.bell, .int .i64 s.top,
  .sl 1 (ofBytes s.names), .sl 2 (s.regs.map aRgN), .sl 1 (ofBytes s.marked), .sl 2 (s.marks.map aPo), .sl 2 (s.jumps.map aPo), .int .i64 s.jump, .int .u8 s.record]
def mkSt (o0 : Option LsR) (c1 c2 want mode a1 a2 : Int) (bell : Bool) (top : Int) (o1 : Option (List UInt8)) (o2 : Option (List RgN)) (o3 : Option (List UInt8)) (o4 o5 : Option (List PoV)) (jump record : Int) : Option StV :=
  match o0, o1, o2, o3, o4, o5 with
  | some l0, some l1, some l2, some l3, some l4, some l5 => some ⟨l0, c1, c2, want, mode, a1, a2, bell, top, l1, l2, l3, l4, l5, jump, record⟩
  | _, _, _, _, _, _ => none
def cSt : Cd StV where
  enc := aSt
  dec
    | .agg [.sl 1 v0, .int .i64 c1, .int .i64 c2, .int .i64 want, .int .i64 mode, .int .i64 a1, .int .i64 a2, .bool bell, .int .i64 top, .sl 1 v1, .sl 2 v2, .sl 1 v3, .sl 2 v4, .sl 2 v5, .int .i64 jump, .int .u8 record] =>
      mkSt (decL cStr.dec v0) c1 c2 want mode a1 a2 bell top (decL cByte.dec v1) (decL cRgN.dec v2) (decL cByte.dec v3) (decL cPo.dec v4) (decL cPo.dec v5) jump record
    | _ => none
  ok v a h := by
    split at h
    · unfold mkSt at h
      split at h
      · next l0 l1 l2 l3 l4 l5 h0 h1 h2 h3 h4 h5 =>
        cases h
        rw [decL_ok cStr _ _ h0, decL_ok cByte _ _ h1, decL_ok cRgN _ _ h2, decL_ok cByte _ _ h3, decL_ok cPo _ _ h4, decL_ok cPo _ _ h5]
        rfl
      · cases h
    · cases h
theorem cSt_dec (v0 : List AV) (c1 c2 want mode a1 a2 : Int) (bell : Bool) (top : Int) (v1 v2 v3 v4 v5 : List AV) (jump record : Int) :
    cSt.dec (.agg [.sl 1 v0, .int .i64 c1, .int .i64 c2, .int .i64 want, .int .i64 mode, .int .i64 a1, .int .i64 a2, .bool bell, .int .i64 top, .sl 1 v1, .sl 2 v2, .sl 1 v3, .sl 2 v4, .sl 2 v5, .int .i64 jump, .int .u8 record]) =
      mkSt (decL cStr.dec v0) c1 c2 want mode a1 a2 bell top (decL cByte.dec v1) (decL cRgN.dec v2) (decL cByte.dec v3) (decL cPo.dec v4) (decL cPo.dec v5) jump record := (rfl)
theorem mkSt_some (l0 : LsR) (c1 c2 want mode a1 a2 : Int) (bell : Bool) (top : Int) (l1 : List UInt8) (l2 : List RgN) (l3 : List UInt8) (l4 l5 : List PoV) (jump record : Int) :
    mkSt (some l0) c1 c2 want mode a1 a2 bell top (some l1) (some l2) (some l3) (some l4) (some l5) jump record = some ⟨l0, c1, c2, want, mode, a1, a2, bell, top, l1, l2, l3, l4, l5, jump, record⟩ := (rfl)

def fitSt (s : StV) : Prop := s.lines.length ≤ 140737488355328 ∧ s.names.length ≤ 140737488355328 ∧ fitRs s.regs ∧ s.marked.length ≤ 140737488355328 ∧ s.marks.length ≤ 140737488355328 ∧ s.jumps.length ≤ 140737488355328
def sameB (a b : StV) : Bool :=
  a.lines == b.lines && (a.c1 == b.c1 && a.c2 == b.c2) && a.want == b.want && a.mode == b.mode && (a.a1 == b.a1 && a.a2 == b.a2) && a.bell == b.bell && a.top == b.top && a.names == b.names && a.regs.map rgv == b.regs.map rgv &&
  a.marked == b.marked && a.marks == b.marks && a.jumps == b.jumps && a.jump == b.jump && a.record == b.record

set_option maxRecDepth 100000 in
set_option maxHeartbeats 4000000 in
theorem calls_Same (a b : StV) (ha : fitSt a) (hb : fitSt b) : CallsR Tryz.prog 6 [aSt a, aSt b] [] (.bool (sameB a b)) [] := by
  obtain ⟨x0, x1, x2, x3, x4, x5, x6, x7, x8, x9, x10, x11, x12, x13, x14, x15⟩ := a
  obtain ⟨y0, y1, y2, y3, y4, y5, y6, y7, y8, y9, y10, y11, y12, y13, y14, y15⟩ := b
  obtain ⟨ha0, ha1, ha2, ha3, ha4, ha5⟩ := ha
  obtain ⟨hb0, hb1, hb2, hb3, hb4, hb5⟩ := hb
  simp only at ha0 ha1 ha2 ha3 ha4 ha5 hb0 hb1 hb2 hb3 hb4 hb5
  refine callsR_of (mrg := true) (dyn := []) (CtrOK.cons ok_EqS (CtrOK.cons ok_EqB (CtrOK.cons ok_EqF (CtrOK.cons ok_EqP (CtrOK.nil _))))) mixed Tryz.func6 rfl (by simp [Tryz.ntmps6, AV.cells]) (by kernel_rfl) ?_
  rw [show Tryz.f6.results.toList = [.tmp 4] from by kernel_rfl]
  simp only [aSt, List.append_eq, List.cons_append, List.nil_append]
  simp (maxSteps := 4000000) only [go_sem, Int.reduceBEq, Int.reduceBNe, Int.reduceLE, Int.reduceLT, Int.reduceToNat, Nat.reduceAdd, Nat.reduceBEq, Nat.reduceBNe, Nat.reduceEqDiff, Nat.reduceLT, Nat.reduceLeDiff, Nat.reduceMul, Nat.reducePow, Nat.reduceSub, UInt8.reduceOfNat, reduceCtorEq, reduceIte, kStrings, kEqB, kEqF, kEqP, decL_aRgN, decL_aPo]
  exact ⟨⟨ha0, hb0⟩, fun h => ⟨h, ha1, hb1⟩, fun h => ⟨h, ha2, hb2⟩, fun h => ⟨h, ha3, hb3⟩, fun h => ⟨h, ha4, hb4⟩, fun h => ⟨h, ha5, hb5⟩, rfl⟩
abbrev nsSt : NS := .ag [some 1, none, none, none, none, none, none, none, none, some 1, some 2, some 1, some 2, some 2, none, none]
def kSame : C1 := C1.by [nsSt, nsSt] (lCons cSt (lOne cSt)) (fun d => fitSt d.1 ∧ fitSt d.2) (fun d => .bool (sameB d.1 d.2)) (fun _ => [])
theorem ok_Same : C1OK Tryz.prog 6 kSame := C1OK.by (by kernel_rfl) (fun d h => calls_Same d.1 d.2 h.1 h.2) (fun _ => rfl) (fun _ => rfl)

set_option maxRecDepth 20000 in
set_option maxHeartbeats 4000000 in
theorem calls_PText (a : StV) (h1 : a.lines.length ≤ 1000000) (h2 : lsz a.lines ≤ 140737488355327) : CallsR Tryz.prog 7 [aSt a] [] (.str (textOf a.lines)) [] := by
  obtain ⟨x0, x1, x2, x3, x4, x5, x6, x7, x8, x9, x10, x11, x12, x13, x14, x15⟩ := a
  simp only at h1 h2
  refine callsR_of (mrg := true) (dyn := []) (CtrOK.cons ok_Join (CtrOK.nil _)) mixed Tryz.func7 rfl (by simp [Tryz.ntmps7, AV.cells]) (by kernel_rfl) ?_
  rw [show Tryz.f7.results.toList = [.tmp 2] from by kernel_rfl]
  have hj := join_len x0
  by_cases h0 : x0 = []
  · subst h0
    simp only [aSt, List.map_nil]
    simp (maxSteps := 4000000) only [go_sem, Int.reduceBEq, Int.reduceBNe, Int.reduceLE, Int.reduceLT, Int.reduceToNat, Nat.reduceAdd, Nat.reduceBEq, Nat.reduceBNe, Nat.reduceEqDiff, Nat.reduceLT, Nat.reduceLeDiff, Nat.reduceMul, Nat.reducePow, Nat.reduceSub, UInt8.reduceOfNat, reduceCtorEq, reduceIte, kJoin]
    rfl
  · have hp : 0 < x0.length := List.length_pos_iff.2 h0
    have hc : ((x0.length : Int) == 0) = false := by simp; exact h0
    simp only [aSt]
    simp (maxSteps := 4000000) only [go_sem, Int.reduceBEq, Int.reduceBNe, Int.reduceLE, Int.reduceLT, Int.reduceToNat, Nat.reduceAdd, Nat.reduceBEq, Nat.reduceBNe, Nat.reduceEqDiff, Nat.reduceLT, Nat.reduceLeDiff, Nat.reduceMul, Nat.reducePow, Nat.reduceSub, UInt8.reduceOfNat, reduceCtorEq, reduceIte, kJoin, hc]
    exact ⟨⟨by omega, by omega⟩, by omega, textOf_join x0 h0⟩
def kPText : C1 := C1.by [nsSt] (lOne cSt) (fun d => d.lines.length ≤ 1000000 ∧ lsz d.lines ≤ 140737488355327) (fun d => .str (textOf d.lines)) (fun _ => [])
theorem ok_PText : C1OK Tryz.prog 7 kPText := C1OK.by (by kernel_rfl) (fun d h => calls_PText d h.1 h.2) (fun _ => rfl) (fun _ => rfl)
end Go.Pg
namespace Go.Pg
open Go Go.Proofs

theorem wrap_ne (x : Int) : (x == IntKind.i64.wrap (x + 1)) = false ∧ (IntKind.i64.wrap (x + 1) == x) = false := by
  have h : IntKind.i64.wrap (x + 1) ≠ x := by
    rw [IntKind.wrap_i64]
    omega
  exact ⟨by rw [beq_eq_false_iff_ne]; exact fun e => h e.symm, by rw [beq_eq_false_iff_ne]; exact h⟩
theorem wrap8_ne (x : Int) : (x == IntKind.u8.wrap (x + 1)) = false ∧ (IntKind.u8.wrap (x + 1) == x) = false := by
  have h : IntKind.u8.wrap (x + 1) ≠ x := by
    rw [IntKind.wrap_u8]
    omega
  exact ⟨by rw [beq_eq_false_iff_ne]; exact fun e => h e.symm, by rw [beq_eq_false_iff_ne]; exact h⟩
theorem cons_ne {α : Type} [BEq α] [LawfulBEq α] (x : α) (l : List α) : (l == x :: l) = false ∧ (x :: l == l) = false := by
  have h : x :: l ≠ l := fun e => by have := congrArg List.length e; simp at this
  exact ⟨by rw [beq_eq_false_iff_ne]; exact fun e => h e.symm, by rw [beq_eq_false_iff_ne]; exact h⟩

theorem cPlay : CtrOK Tryz.prog [(4, Le.kKnown), (5, kLight), (6, kSame), (7, kPText), (8, kLSize)] :=
  CtrOK.cons Le.ok_known (CtrOK.cons ok_Light (CtrOK.cons ok_Same (CtrOK.cons ok_PText (CtrOK.cons ok_LSizeR (CtrOK.nil _)))))

set_option maxRecDepth 20000 in
set_option maxHeartbeats 8000000 in
theorem ps_dark (a : StV) (k : Int) (hs : ∀ i, (a.lines.getD i []).length ≤ 140737488355328) (hl : light a.lines = false) :
    CallsR Tryz.prog 3 [aSt a, .int .u8 k] [] (.bool true) [] := by
  obtain ⟨x0, x1, x2, x3, x4, x5, x6, x7, x8, x9, x10, x11, x12, x13, x14, x15⟩ := a
  simp only at hs hl
  refine callsR_of (mrg := true) (dyn := []) (cPlay) mixed Tryz.func3 rfl (by simp [Tryz.ntmps3, AV.cells]) (by kernel_rfl) ?_
  rw [show Tryz.f3.results.toList = [.tmp 4] from by kernel_rfl]
  simp only [aSt]
  simp (maxSteps := 4000000) only [go_sem, Int.reduceBEq, Int.reduceBNe, Int.reduceLE, Int.reduceLT, Int.reduceToNat, Nat.reduceAdd, Nat.reduceBEq, Nat.reduceBNe, Nat.reduceEqDiff, Nat.reduceLT, Nat.reduceLeDiff, Nat.reduceMul, Nat.reducePow, Nat.reduceSub, UInt8.reduceOfNat, reduceCtorEq, reduceIte, Le.kKnown, kLight, kSame, kPText, kLSize, hl]
  exact hs

/-- The state that is held against the first. -/
def bOf (a : StV) : Nat → StV
  | 0 => { a with lines := [120] :: a.lines }
  | 1 => { a with c2 := IntKind.i64.wrap (a.c2 + 1) }
  | 2 => { a with want := IntKind.i64.wrap (a.want + 1) }
  | 3 => { a with mode := IntKind.i64.wrap (a.mode + 1) }
  | 4 => { a with a1 := IntKind.i64.wrap (a.a1 + 1) }
  | 5 => { a with bell := !a.bell }
  | 6 => { a with top := IntKind.i64.wrap (a.top + 1) }
  | 7 => { a with names := 1 :: a.names }
  | 8 => { a with regs := (0, none) :: a.regs }
  | 9 => { a with marked := 1 :: a.marked }
  | 10 => { a with marks := (0, 0) :: a.marks }
  | 11 => { a with jumps := (0, 0) :: a.jumps }
  | 12 => { a with jump := IntKind.i64.wrap (a.jump + 1) }
  | _ => { a with record := IntKind.u8.wrap (a.record + 1) }
theorem same_self (a : StV) : sameB a a = true := by simp [sameB]
theorem same_ne (a : StV) (c : Nat) : sameB a (bOf a c) = false ∧ sameB (bOf a c) a = false := by
  have h1 := wrap_ne a.c2
  have h2 := wrap_ne a.want
  have h3 := wrap_ne a.mode
  have h4 := wrap_ne a.a1
  have h5 : (a.bell == !a.bell) = false ∧ ((!a.bell) == a.bell) = false := by cases a.bell <;> exact ⟨rfl, rfl⟩
  have h6 := wrap_ne a.top
  have h7 := cons_ne 1 a.names
  have h8 := cons_ne ((0, []) : RgV) (a.regs.map rgv)
  have h9 := cons_ne 1 a.marked
  have h10 := cons_ne (0, 0) a.marks
  have h11 := cons_ne (0, 0) a.jumps
  have h12 := wrap_ne a.jump
  have h13 := wrap8_ne a.record
  have h0 := cons_ne [120] a.lines
  unfold bOf
  split <;> simp only [sameB, List.map_cons, show rgv (0, none) = (0, []) from rfl, h0, h1, h2, h3, h4, h5, h6, h7, h8, h9, h10, h11, h12, h13, Bool.and_false, Bool.false_and, and_self]
theorem fit_bOf (a : StV) (c : Nat) (h : fitSt a) (h0 : a.lines.length ≤ 40) (h1 : a.names.length ≤ 10) (h2 : a.regs.length ≤ 5) (h3 : a.marked.length ≤ 10) (h4 : a.marks.length ≤ 5) (h5 : a.jumps.length ≤ 5) : fitSt (bOf a c) := by
  obtain ⟨g0, g1, ⟨g2, g2'⟩, g3, g4, g5⟩ := h
  unfold bOf
  split <;> simp only [fitSt, List.length_cons, fitRs]
  all_goals refine ⟨by omega, by omega, ⟨by first | omega | (simp; omega), ?_⟩, by omega, by omega, by omega⟩
  all_goals first
    | exact g2'
    | (intro r hr
       rcases List.mem_cons.1 hr with rfl | hr
       · exact Nat.zero_le _
       · exact g2' r hr)

theorem subX_1 {H : AH} {F : List Nat} {pick : List (Option Nat)} {x y : AV} (h : subL (subV H F pick 8) x.cells y.cells) : subX H F pick [x] [y] := .inr ⟨h, trivial⟩
theorem add1 (n : Nat) : (n + 1 = 1 + n) = True := eq_true (by omega)
theorem leafy_aRgN (l : List RgN) : (l.map aRgN).all AV.leafy = true := by
  simp only [List.all_map, List.all_eq_true]
  rintro ⟨k, o⟩ _
  cases o <;> rfl
theorem leafy_aPo (l : List PoV) : (l.map aPo).all AV.leafy = true := by
  simp only [List.all_map, List.all_eq_true]
  rintro ⟨a, b⟩ _
  rfl
theorem pureB_aRgN (l : List RgN) : (l.map aRgN).all AV.pureB = true := by
  simp only [List.all_map, List.all_eq_true]
  rintro ⟨k, o⟩ _
  cases o <;> rfl
theorem pureB_aPo (l : List PoV) : (l.map aPo).all AV.pureB = true := by
  simp only [List.all_map, List.all_eq_true]
  rintro ⟨a, b⟩ _
  rfl
theorem ofBytes_1 (l : List UInt8) : ofBytes (1 :: l) = .int .u8 1 :: ofBytes l := rfl
theorem aRgN_0 : aRgN (0, none) = .agg [.int .i64 0, .nls] := rfl
theorem cRgN_0 : cRgN.dec (aRgN (0, none)) = some (0, none) := rfl
theorem light_few {l : LsR} (h : light l = true) : l.length ≤ 40 ∧ lsz l ≤ 1240 := by
  simp only [light, Bool.and_eq_true, decide_eq_true_eq] at h
  have : ∀ l : LsR, lsz l = (total l : Int) + l.length := by
    intro l
    induction l with
    | nil => rfl
    | cons s r ih => rw [lsz_cons, ih]; simp only [total, List.map_cons, List.sum_cons, List.length_cons]; omega
  rw [this]
  omega

set_option maxRecDepth 20000 in
set_option maxHeartbeats 100000000 in
theorem ps_light (a : StV) (k : Int) (hk : 0 ≤ k ∧ k < 256) (hs : ∀ i, (a.lines.getD i []).length ≤ 140737488355328) (hf : fitSt a) (hl : light a.lines = true) :
    CallsR Tryz.prog 3 [aSt a, .int .u8 k] [] (.bool true) [] := by
  have hb := fit_bOf a (k.tmod 14).toNat hf (light_few hl).1
  have e1 := same_self a
  have e2 := (same_ne a (k.tmod 14).toNat).1
  have e3 := (same_ne a (k.tmod 14).toNat).2
  obtain ⟨x0, x1, x2, x3, x4, x5, x6, x7, x8, x9, x10, x11, x12, x13, x14, x15⟩ := a
  have hl40 := light_few hl
  simp only at hl40
  refine callsR_of (mrg := true) (dyn := []) (cPlay) mixed Tryz.func3 rfl (by simp [Tryz.ntmps3, AV.cells]) (by kernel_rfl) ?_
  rw [show Tryz.f3.results.toList = [.tmp 4] from by kernel_rfl]
  have h14 : k.tmod 14 = 0 ∨ k.tmod 14 = 1 ∨ k.tmod 14 = 2 ∨ k.tmod 14 = 3 ∨ k.tmod 14 = 4 ∨ k.tmod 14 = 5 ∨ k.tmod 14 = 6 ∨ k.tmod 14 = 7 ∨ k.tmod 14 = 8 ∨ k.tmod 14 = 9 ∨ k.tmod 14 = 10 ∨ k.tmod 14 = 11 ∨ k.tmod 14 = 12 ∨ k.tmod 14 = 13 := by
    rw [Int.tmod_eq_emod_of_nonneg hk.1]
    omega
  rcases h14 with hm | hm | hm | hm | hm | hm | hm | hm | hm | hm | hm | hm | hm | hm
  all_goals
    simp only [hm, Int.reduceToNat, Int.toNat_zero, Int.toNat_one, bOf] at hs hl hb e1 e2 e3
    simp only [aSt]
    simp (maxSteps := 4000000) only [go_sem, Int.reduceBEq, Int.reduceBNe, Int.reduceLE, Int.reduceLT, Int.reduceToNat, Nat.reduceAdd, Nat.reduceBEq, Nat.reduceBNe, Nat.reduceEqDiff, Nat.reduceLT, Nat.reduceLeDiff, Nat.reduceMul, Nat.reducePow, Nat.reduceSub, UInt8.reduceOfNat, reduceCtorEq, reduceIte, Le.kKnown, kLight, kSame, kPText, kLSize, hl, hm, leafy_aRgN, leafy_aPo, leafy_bytes]
    refine ⟨hs, fun hg => ?_⟩
    simp only [Bool.or_eq_false_iff, decide_eq_false_iff_not, Int.not_lt, gt_iff_lt] at hg
    have hb := hb (by omega) (by omega) (by omega) (by omega) (by omega)
    refine And.intro (by omega) ?_
    try refine And.intro (by omega) ?_
    refine loopH_intro (α := Nat) (fun i => ([(2, .ptr 0 16 1 0 0), (5, .ptr 1 16 1 0 0), (6, .str (textOf (x0.take i))), (7, .int .i64 i)], [.arr 29 16 [aSt ⟨x0, x1, x2, x3, x4, x5, x6, x7, x8, x9, x10, x11, x12, x13, x14, x15⟩], .arr 29 16 [aSt (bOf ⟨x0, x1, x2, x3, x4, x5, x6, x7, x8, x9, x10, x11, x12, x13, x14, x15⟩ (k.tmod 14).toNat)]])) (fun i => i ≤ x0.length) (fun i => x0.length - i) 0 (Nat.zero_le _) ?_ ?_
    · simp only [aSt, bOf, hm, Int.reduceToNat, Int.toNat_zero, Int.toNat_one]
      simp (maxSteps := 4000000) only [go_sem, Int.reduceBEq, Int.reduceBNe, Int.reduceLE, Int.reduceLT, Int.reduceToNat, Nat.reduceAdd, Nat.reduceBEq, Nat.reduceBNe, Nat.reduceEqDiff, Nat.reduceLT, Nat.reduceLeDiff, Nat.reduceMul, Nat.reducePow, Nat.reduceSub, UInt8.reduceOfNat, reduceCtorEq, reduceIte, add1, List.map_cons, ofBytes_1, aRgN_0, pureB_aRgN, pureB_aPo]
      refine ⟨by decide, ?_⟩
      (repeat' first | exact rfl | exact subX_eq rfl rfl | apply And.intro | apply subX_1)
      all_goals try simp (maxSteps := 4000000) only [go_sem, Int.reduceBEq, Int.reduceBNe, Int.reduceLE, Int.reduceLT, Int.reduceToNat, Nat.reduceAdd, Nat.reduceBEq, Nat.reduceBNe, Nat.reduceEqDiff, Nat.reduceLT, Nat.reduceLeDiff, Nat.reduceMul, Nat.reducePow, Nat.reduceSub, UInt8.reduceOfNat, reduceCtorEq, reduceIte, add1, List.map_cons, ofBytes_1, aRgN_0, pureB_aRgN, pureB_aPo]
    intro i hi
    simp only [aSt, bOf, hm, Int.reduceToNat, Int.toNat_zero, Int.toNat_one]
    by_cases hlt : i < x0.length
    · have hct : decide ((i : Int) < (x0.length : Int)) = true := decide_eq_true (by omega)
      have ht := textOf_take x0 i hlt
      have t1 := lsz_take_le x0 (i + 1)
      have t2 := textOf_len (x0.take (i + 1))
      have t3 : (textOf (x0.take (i + 1))).length = (textOf (x0.take i)).length + (x0.getD i []).length + 1 := by rw [ht, List.length_append, List.length_append]; rfl
      simp (maxSteps := 4000000) only [go_sem, Int.reduceBEq, Int.reduceBNe, Int.reduceLE, Int.reduceLT, Int.reduceToNat, Nat.reduceAdd, Nat.reduceBEq, Nat.reduceBNe, Nat.reduceEqDiff, Nat.reduceLT, Nat.reduceLeDiff, Nat.reduceMul, Nat.reducePow, Nat.reduceSub, UInt8.reduceOfNat, reduceCtorEq, reduceIte, hct]
      refine ⟨⟨by omega, hlt⟩, by omega, by omega, i + 1, by omega, by omega, by decide, ?_⟩
      (repeat' first | exact rfl | exact subX_eq rfl rfl | apply And.intro)
      · rw [ht, List.append_assoc]
      · rw [wrap64 (by omega) (by omega)]; rfl
    · have hct : decide ((i : Int) < (x0.length : Int)) = false := decide_eq_false (by omega)
      have hil : i = x0.length := by omega
      subst hil
      rw [List.take_length]
      simp (maxSteps := 4000000) only [go_sem, Int.reduceBEq, Int.reduceBNe, Int.reduceLE, Int.reduceLT, Int.reduceToNat, Nat.reduceAdd, Nat.reduceBEq, Nat.reduceBNe, Nat.reduceEqDiff, Nat.reduceLT, Nat.reduceLeDiff, Nat.reduceMul, Nat.reducePow, Nat.reduceSub, UInt8.reduceOfNat, reduceCtorEq, reduceIte, hct, Le.kKnown, kLight, kSame, kPText, kLSize, hl, cSt_dec, mkSt_some, decL_aRgN, decL_aPo, ↓cRgN_0, ↓aRgN_0, cRgN_nil, cPo_dec, e1, e2, e3]
      have htl := textOf_len x0
      exact ⟨hf, ⟨hf, hb⟩, ⟨hb, hf⟩, ⟨by omega, by omega⟩, ⟨by omega, by omega⟩, by rw [beq_iff_eq]; omega⟩
end Go.Pg
namespace Go.Pg
open Go Go.Proofs

/-- What a state's cells come as. -/
abbrev StT := LsR × PoV × Int × Int × PoV × Bool × Int × List UInt8 × List RgV × List UInt8 × List PoV × List PoV × Int × Int × Unit
def stOf (a : StT) : StV :=
  ⟨a.1, a.2.1.1, a.2.1.2, a.2.2.1, a.2.2.2.1, a.2.2.2.2.1.1, a.2.2.2.2.1.2, a.2.2.2.2.2.1, a.2.2.2.2.2.2.1, a.2.2.2.2.2.2.2.1, a.2.2.2.2.2.2.2.2.1.map lift, a.2.2.2.2.2.2.2.2.2.1, a.2.2.2.2.2.2.2.2.2.2.1, a.2.2.2.2.2.2.2.2.2.2.2.1, a.2.2.2.2.2.2.2.2.2.2.2.2.1, a.2.2.2.2.2.2.2.2.2.2.2.2.2.1⟩
def stC (a : StT) : List AV := (aSt (stOf a)).cells
def stQ (a : StT) : Prop := fitSt (stOf a) ∧ ∀ i, (a.1.getD i []).length ≤ 140737488355328

theorem opensPos {H : Type} {enc : TypeId × Value → H} : Opens enc Tryz.prog 24 2 aPo (fun _ => True) := by
  have hi : Opens enc Tryz.prog 3 1 (AV.int .i64) (fun n => -9223372036854775808 ≤ n ∧ n ≤ 9223372036854775807) := opens_i64 Tryz.underlying3 (by kernel_rfl)
  have hq := opens_struct (enc := enc) (n := 1 + (1 + 0)) Tryz.underlying24 (by kernel_rfl) (opensL_cons hi (opensL_cons hi opensL_nil rfl) rfl)
  refine ⟨hq.cells, fun _ => rfl, fun W fuel cs x h1 h2 h3 => ?_⟩
  obtain ⟨h4, ⟨k, l, u⟩, _, h8⟩ := hq.run W fuel cs x h1 h2 h3
  exact ⟨h4, (k, l), trivial, h8⟩

theorem opensRegP {H : Type} {enc : TypeId × Value → H} : Opens enc Tryz.prog 33 2 aRg (fun r => r.2.length ≤ 140737488355328) := by
  have hi : Opens enc Tryz.prog 3 1 (AV.int .i64) (fun n => -9223372036854775808 ≤ n ∧ n ≤ 9223372036854775807) := opens_i64 Tryz.underlying3 (by kernel_rfl)
  have hs : Opens enc Tryz.prog 22 1 (fun l : LsR => AV.sl 1 (l.map .str)) (fun l => l.length * Tryz.prog.bytesOf 9 ≤ 140737488351232 ∧ ∀ a ∈ l, a.length ≤ 140737488351232) :=
    opens_slice Tryz.underlying22 (by kernel_rfl) (opens_str Tryz.underlying9 (by kernel_rfl)) (by omega)
  have hb : Tryz.prog.bytesOf 9 = 16 := by kernel_rfl
  have hq := opens_struct (enc := enc) (n := 1 + (1 + 0)) Tryz.underlying33 (by kernel_rfl) (opensL_cons hi (opensL_cons hs opensL_nil rfl) rfl)
  refine ⟨hq.cells, fun _ => rfl, fun W fuel cs x h1 h2 h3 => ?_⟩
  obtain ⟨h4, ⟨k, l, u⟩, ⟨h5, ⟨h6, h7⟩, _⟩, h8⟩ := hq.run W fuel cs x h1 h2 h3
  rw [hb] at h6
  exact ⟨h4, (k, l), by show l.length ≤ _; have h6 : l.length * 16 ≤ 140737488351232 := h6; omega, h8⟩

theorem opensState {H : Type} {enc : TypeId × Value → H} : Opens enc Tryz.prog 29 16 (fun a => AV.agg (stC a)) stQ := by
  have hi : Opens enc Tryz.prog 3 1 (AV.int .i64) (fun n => -9223372036854775808 ≤ n ∧ n ≤ 9223372036854775807) := opens_i64 Tryz.underlying3 (by kernel_rfl)
  have hu : Opens enc Tryz.prog 5 1 (AV.int .u8) (fun n => (Lit.int .u8 n).wf = true) := opens_int Tryz.underlying5 (by kernel_rfl)
  have hbo : Opens enc Tryz.prog 4 1 AV.bool (fun _ => True) := opens_bool Tryz.underlying4 (by kernel_rfl)
  have hs : Opens enc Tryz.prog 22 1 (fun l : LsR => AV.sl 1 (l.map .str)) (fun l => l.length * Tryz.prog.bytesOf 9 ≤ 140737488351232 ∧ ∀ a ∈ l, a.length ≤ 140737488351232) :=
    opens_slice Tryz.underlying22 (by kernel_rfl) (opens_str Tryz.underlying9 (by kernel_rfl)) (by omega)
  have hby : Opens enc Tryz.prog 25 1 (fun l : List UInt8 => AV.sl 1 (l.map fun b : UInt8 => AV.int .u8 b.toNat)) (fun l => l.length * Tryz.prog.bytesOf 5 ≤ 140737488351232 ∧ ∀ a ∈ l, True) :=
    opens_slice Tryz.underlying25 (by kernel_rfl) (opens_byte Tryz.underlying5 (by kernel_rfl)) (by omega)
  have hrg : Opens enc Tryz.prog 26 1 (fun l : List RgV => AV.sl 2 (l.map aRg)) (fun l => l.length * Tryz.prog.bytesOf 33 ≤ 140737488351232 ∧ ∀ a ∈ l, a.2.length ≤ 140737488355328) :=
    opens_slice Tryz.underlying26 (by kernel_rfl) opensRegP (by omega)
  have hpo : Opens enc Tryz.prog 27 1 (fun l : List PoV => AV.sl 2 (l.map aPo)) (fun l => l.length * Tryz.prog.bytesOf 24 ≤ 140737488351232 ∧ ∀ a ∈ l, True) :=
    opens_slice Tryz.underlying27 (by kernel_rfl) opensPos (by omega)
  have b1 : Tryz.prog.bytesOf 9 = 16 := by kernel_rfl
  have b2 : Tryz.prog.bytesOf 5 = 1 := by kernel_rfl
  have b3 : Tryz.prog.bytesOf 33 = 32 := by kernel_rfl
  have b4 : Tryz.prog.bytesOf 24 = 16 := by kernel_rfl
  rw [b1] at hs
  rw [b2] at hby
  rw [b3] at hrg
  rw [b4] at hpo
  have hq := opens_struct (enc := enc) (n := 1 + (2 + (1 + (1 + (2 + (1 + (1 + (1 + (1 + (1 + (1 + (1 + (1 + (1 + 0)))))))))))))) Tryz.underlying29 (by kernel_rfl)
    (opensL_cons hs (opensL_cons opensPos (opensL_cons hi (opensL_cons hi (opensL_cons opensPos (opensL_cons hbo (opensL_cons hi (opensL_cons hby (opensL_cons hrg (opensL_cons hby (opensL_cons hpo (opensL_cons hpo (opensL_cons hi (opensL_cons hu opensL_nil rfl) rfl) rfl) rfl) rfl) rfl) rfl) rfl) rfl) rfl) rfl) rfl) rfl) rfl)
  refine ⟨hq.cells, fun _ => rfl, fun W fuel cs x h1 h2 h3 => ?_⟩
  obtain ⟨h4, a, hQ, h8⟩ := hq.run W fuel cs x h1 h2 h3
  obtain ⟨g0, g1, g2, g3, g4, g5, g6, g7, g8, g9, g10, g11, g12, g13, _⟩ := hQ
  obtain ⟨a0, a1, a2, a3, a4, a5, a6, a7, a8, a9, a10, a11, a12, a13, u⟩ := a
  refine ⟨h4, (a0, a1, a2, a3, a4, a5, a6, a7, a8, a9, a10, a11, a12, a13, u), ⟨?_, fun i => ?_⟩, fun j z hz => h8 j z ?_⟩
  · refine ⟨?_, ?_, ⟨?_, fun r hr => ?_⟩, ?_, ?_, ?_⟩
    · have := g0.1; show a0.length ≤ _; simp only at this; omega
    · have := g7.1; show a7.length ≤ _; simp only at this; omega
    · have := g8.1; show (a8.map lift).length ≤ _; rw [List.length_map]; simp only at this; omega
    · obtain ⟨q, hq1, rfl⟩ := List.mem_map.1 hr
      exact g8.2 q hq1
    · have := g9.1; show a9.length ≤ _; simp only at this; omega
    · have := g10.1; show a10.length ≤ _; simp only at this; omega
    · have := g11.1; show a11.length ≤ _; simp only at this; omega
  · show (a0.getD i []).length ≤ _
    rw [List.getD_eq_getElem?_getD]
    cases hi : a0[i]? with
    | none => simp
    | some s => have := g0.2 s (List.mem_of_getElem? hi); show s.length ≤ _; omega
  · have e : (a8.map lift).map aRgN = a8.map aRg := aRgN_lift a8
    simp only [stC, stOf, aSt, AV.cells, e] at hz
    exact hz

theorem calls_PlaySame (a : StT) (k : UInt8) (hq : stQ a) : CallsR Tryz.prog 3 [.agg (stC a), .int .u8 k.toNat] [] (.bool true) [] := by
  have hk := k.toNat_lt
  show CallsR Tryz.prog 3 [aSt (stOf a), .int .u8 k.toNat] [] (.bool true) []
  cases hl : light (stOf a).lines with
  | true => exact ps_light (stOf a) k.toNat ⟨by omega, by omega⟩ hq.2 hq.1 hl
  | false => exact ps_dark (stOf a) k.toNat hq.2 hl
end Go.Pg
