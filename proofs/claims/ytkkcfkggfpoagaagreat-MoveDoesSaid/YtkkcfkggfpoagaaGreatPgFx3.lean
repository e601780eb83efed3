/- slices.Grow of nil, slices.Concat, slices.Reverse: of places. A line's first byte that is no blank, places brought to lines. -/
import Derived.Test.YtkkcfkggfpoagaaGreatPgBs
import Derived.Test.YtkkcfkggfpoagaaGreatPgFx2
import Derived.Shelf.Spec.SlicesGrow
import Derived.Test.YtkkcfkggfpoagaaGreatPgFx1
set_option linter.unusedVariables false
set_option linter.unusedSimpArgs false
namespace Go.Pg
open Go Go.Proofs Go.Shelf

theorem app_posL (a b : List (Int × Int)) : a.map aPos ++ b.map aPos = (a ++ b).map aPos := by simp

theorem VRs.twoR {E : Env} {a b : AV} {vals : Array Value} (h : VRs E [a, b] vals) : ∃ u v, vals = #[u, v] ∧ VR E a u ∧ VR E b v := by
  obtain ⟨hs, hv⟩ := h
  match vals, hs with
  | ⟨[u, v]⟩, _ => exact ⟨u, v, rfl, hv 0 a rfl, hv 1 b rfl⟩
theorem callsR_newR {P : Program} {f : FuncId} {args : List AV} {t : TypeId} {sz : Nat}
    (h : ∀ (E : Env) (vals : Array Value), VRs E args vals → Calls P f vals E.W fun e W' => (e = .returned (.slice none 0 0) ∧ W' = E.W) ∨ ∃ (C : Array Value) (cap : Nat), e = .returned (.slice (some ⟨E.W.heap.size, 0, none⟩) 0 cap) ∧ SameBut E.W W' ∧ W'.heap = E.W.heap.push (.cells C t (0, 0)) ∧ C.size = cap * sz ∧ cap ≤ maxLen) :
    CallsR P f args [] (.own 0 sz 0) [.arr t sz []] := by
  intro E vals hr hv
  have hle : AHle [] [.arr t sz []] := fun id o ho => by simp at ho
  obtain ⟨E1, hr1, hW1, hM1, hst1⟩ := hr.le hle
  have hm0 : E1.M 0 = none := by rw [hM1]; exact hr.dom 0 (Nat.zero_le _)
  refine (h E vals hv).mono fun e W' hh => ?_
  rcases hh with ⟨he, hw⟩ | ⟨C, cap, he, hs, hh, hC, hcap⟩
  · obtain ⟨E', hW, hr', hst, _, hMid, hhl⟩ := alloc_nil hr1 (id := 0) hm0 (e := t) (sz := sz) (o' := .arr t sz []) rfl (AOle.refl _)
    refine ⟨_, E', he, by rw [hW, hW1, hw], .own 0 sz 0 none 0 (by rw [hMid]; rfl) (fun _ => rfl) (fun L hL => ?_), hr', hst1.trans hst⟩
    exact ⟨Nat.zero_le _, fun _ => .inl ⟨hMid, rfl, rfl⟩⟩
  · obtain ⟨E', hW, hr', hst, _, hMid, hhl⟩ := alloc_rel hr1 (id := 0) hm0 (e := t) (sz := sz) (vs := []) rfl (AOle.refl _) (w' := W') (c := C) (fz := (0, 0)) (by rw [hW1]; exact hs) (by rw [hW1]; exact hh) (by simp) (fun k _ hk => by simp at hk) (fun i v hi => by simp at hi)
    refine ⟨_, E', he, hW, .own 0 sz 0 _ cap (by rw [hMid]; rfl) (fun h => by cases h) (fun L hL => ?_), hr', hst1.trans hst⟩
    rw [hr'.hl] at hL
    have : L = 0 := by simpa [hlOf, AO.len] using hL.symm
    subst this
    exact ⟨Nat.le_refl _, fun _ => .inr ⟨E.W.heap.size, C, t, (0, 0), by rw [hMid, hW1], rfl, Nat.zero_le _, hcap, by rw [hW, hh]; simp, hC⟩⟩

def growRenR : Go.Shelf.Ren := ⟨fun | 4 => 156 | n => n, fun | 0 => 0 | 3 => 3 | 4 => 4 | 9 => 9 | 20 => 20 | 22 => 37 | 25 => 25 | n => n, fun | n => n⟩
theorem growLaysR : Lays8.n4 Tryz.prog growRenR := {
  mixed := by kernel_rfl
  f4 := ⟨Tryz.f156.name, by decide, Tryz.func156.trans (congrArg some (by kernel_rfl))⟩
  t0 := Tryz.underlying0
  a0 := Tryz.isAgg0
  z0 := Tryz.sizeOf0
  v0 := Tryz.zeroValue0
  t3 := Tryz.underlying3
  a3 := Tryz.isAgg3
  z3 := Tryz.sizeOf3
  v3 := Tryz.zeroValue3
  t4 := Tryz.underlying4
  a4 := Tryz.isAgg4
  z4 := Tryz.sizeOf4
  v4 := Tryz.zeroValue4
  t9 := Tryz.underlying9
  a9 := Tryz.isAgg9
  z9 := Tryz.sizeOf9
  v9 := Tryz.zeroValue9
  t20 := Tryz.underlying20
  a20 := Tryz.isAgg20
  z20 := Tryz.sizeOf20
  v20 := Tryz.zeroValue20
  t22 := Tryz.underlying37
  a22 := Tryz.isAgg37
  z22 := Tryz.sizeOf37
  v22 := Tryz.zeroValue37 }

theorem calls_GrowR (n : Nat) (h2 : n ≤ 1099511627776) : CallsR Tryz.prog 156 [.nls, .int .i64 n] [] (.own 0 2 0) [.arr 25 2 []] := by
  refine callsR_newR fun E vals hv => ?_
  obtain ⟨u, v, rfl, k1, k2⟩ := hv.twoR
  rw [k1.nls_inv, k2.int_inv]
  by_cases h1 : 0 < n
  · have hi : ∃ i0 z, Tryz.prog.info? 25 = some i0 ∧ i0.zero = some z ∧ i0.size = 2 ∧ i0.bytes = 16 ∧ z.cells.size = 2 := by
      have h : (match Tryz.prog.info? 25 with
        | some i => match i.zero with
          | some z => i.size == 2 && i.bytes == 16 && z.cells.size == 2
          | none => false
        | none => false) = true := by kernel_rfl
      split at h
      · next i hi =>
        split at h
        · next z hz =>
          simp only [Bool.and_eq_true, beq_iff_eq] at h
          exact ⟨i, z, hi, hz, h.1.1, h.1.2, h.2⟩
        · cases h
      · cases h
    obtain ⟨i0, z, hi0, hz, hs1, hb1, hc1⟩ := hi
    refine (Any8.slices_Grow_grow growLaysR i0 z hi0 hz (by omega) none 0 0 n [] E.W (Nat.le_refl _) (by omega) (by rw [hb1]; omega) (by omega) (by simp) (fun _ => rfl) (fun a ha => by cases ha)).mono fun e W' ⟨he, hw⟩ => .inr ?_
    obtain ⟨hsb, hh⟩ := drew_same E.W (.cells (([] : List Value).toArray ++ Builtin.zeroCells z.cells (0 + n - 0) ++ Builtin.zeroCells z.cells (grownCap E.W (0 + n) 0 25 - (0 + n))) 25)
    have hge := grownCap_ge E.W (0 + n) 0 25
    refine ⟨_, grownCap E.W (0 + n) 0 25, he, by rw [hw]; exact hsb, by rw [hw]; exact hh, ?_, grownCap_le_maxLen E.W _ 0 _ (by unfold maxLen; omega)⟩
    rw [Array.size_append, Array.size_append, growZ hc1, growZ hc1]
    simp only [Nat.zero_add] at hge
    simp only [List.size_toArray, List.length_nil, Nat.zero_add, Nat.sub_zero, ← Nat.add_mul]
    rw [show n + (grownCap E.W n 0 25 - n) = grownCap E.W n 0 25 by omega]
  · obtain rfl : n = 0 := by omega
    exact (Any8.slices_Grow_room growLaysR none 0 0 0 E.W (Nat.le_refl _) (by omega) (by omega) (by omega)).mono fun e W' h => .inl h

def kGrowR : C1 := C1.by [.id, .id] (lCons cAny (lOne (cInt .i64))) (fun d => d.1 = .nls ∧ 0 ≤ d.2 ∧ d.2 ≤ 1099511627776) (fun _ => .own 0 2 0) (fun _ => [.arr 25 2 []])
theorem ok_GrowR : C1OK Tryz.prog 156 kGrowR := C1OK.by (by kernel_rfl) (fun d h => by
  obtain ⟨a, n⟩ := d
  obtain ⟨h1, h2, h3⟩ := h
  simp only at h1 h2 h3
  subst h1
  have := calls_GrowR n.toNat (by omega)
  rw [show ((n.toNat : Nat) : Int) = n by omega] at this
  exact this) (fun _ => rfl) (fun _ => rfl)

def aStrsR (l : List (Int × Int)) : AV := .sl 2 (l.map aPos)
theorem getD_strssR (l : List (List (Int × Int))) (i : Nat) : (l.map aStrsR).getD i (.sl 2 []) = aStrsR (l.getD i []) := getD_map aStrsR l i []
theorem flat_takeR (l : List (List (Int × Int))) (i : Nat) (h : i < l.length) : (l.take (i + 1)).flatten = (l.take i).flatten ++ l.getD i [] := by
  rw [List.take_add_one, List.flatten_append, List.getElem?_eq_getElem h, List.getD_eq_getElem?_getD, List.getElem?_eq_getElem h]
  simp

set_option maxRecDepth 20000 in
set_option maxHeartbeats 4000000 in
theorem calls_ConcatR (l : List (List (Int × Int))) (h1 : l.flatten.length ≤ 1099511627776) (h2 : l.length ≤ 1048576) :
    CallsR Tryz.prog 152 [.sl 1 (l.map aStrsR)] [] (.sl 2 (l.flatten.map aPos)) [] := by
  refine callsR_of (mrg := true) (dyn := []) (CtrOK.cons ok_GrowR (CtrOK.nil _)) mixed Tryz.func152 rfl (by simp [Tryz.ntmps152]) (by kernel_rfl) ?_
  rw [show Tryz.f152.results.toList = [.tmp 2] from by kernel_rfl]
  have hle : ∀ i, (l.take i).flatten.length ≤ l.flatten.length := fun i => by
    have := congrArg (fun x : List (List (Int × Int)) => x.flatten.length) (List.take_append_drop i l)
    simp only [List.flatten_append, List.length_append] at this
    omega
  simp (maxSteps := 4000000) only [go_sem, reduceCtorEq, Nat.reduceEqDiff, tk137, kGrowR]
  refine loopH_intro (α := Nat) (fun i => ([(0, .sl 1 (l.map aStrsR)), (2, .nls), (3, .int .i64 (l.take i).flatten.length), (9, .sl 1 (l.map aStrsR)), (10, .int .i64 l.length), (11, .int .i64 i)], [])) (fun i => i ≤ l.length) (fun i => l.length - i) 0 (by omega) ?_ ?_
  · simp (maxSteps := 4000000) only [go_sem, reduceCtorEq, Nat.reduceEqDiff]
    all_goals simp
  intro i hi
  by_cases hlt : i < l.length
  · have hct : decide ((i : Int) < l.length) = true := decide_eq_true (by omega)
    have hfl := flat_takeR l i hlt
    have hfl2 : (l.take (i + 1)).flatten.length = (l.take i).flatten.length + (l.getD i []).length := by rw [hfl, List.length_append]
    have hl2 := hle (i + 1)
    have w1 : IntKind.i64.wrap (((l.take i).flatten.length : Int) + ((l.getD i []).length : Int)) = ((l.take (i + 1)).flatten.length : Int) := by rw [wrap64 (by omega) (by omega)]; omega
    have hneg : decide (((l.take (i + 1)).flatten.length : Int) < 0) = false := decide_eq_false (by omega)
    simp (maxSteps := 4000000) only [go_sem, reduceCtorEq, Nat.reduceEqDiff, tk37, dz37, tk137, kGrowR, hct, getD_strssR, aStrsR, w1, hneg]
    exact ⟨⟨by omega, hlt⟩, i + 1, by omega, by omega, rfl, by rw [wrap64 (by omega) (by omega)]; rfl⟩
  · have hcf : decide ((i : Int) < l.length) = false := decide_eq_false (by omega)
    have hil : i = l.length := by omega
    subst hil
    rw [List.take_length]
    simp (maxSteps := 4000000) only [go_sem, reduceCtorEq, Nat.reduceEqDiff, tk137, kGrowR, hcf]
    refine ⟨⟨by omega, by omega⟩, ?_⟩
    refine loopH_intro (α := Nat) (fun i => ([(2, .nls), (6, .own 0 2 (l.take i).flatten.length), (25, .sl 1 (l.map aStrsR)), (26, .int .i64 l.length), (27, .int .i64 i)], [.arr 25 2 ((l.take i).flatten.map aPos)])) (fun i => i ≤ l.length) (fun i => l.length - i) 0 (by omega) ?_ ?_
    · simp (maxSteps := 4000000) only [go_sem, reduceCtorEq, Nat.reduceEqDiff]
      exact ⟨subX_eq rfl rfl, rfl⟩
    intro i hi
    by_cases hlt : i < l.length
    · have hct : decide ((i : Int) < l.length) = true := decide_eq_true (by omega)
      have hfl := flat_takeR l i hlt
      have hfl2 : (l.take (i + 1)).flatten.length = (l.take i).flatten.length + (l.getD i []).length := by rw [hfl, List.length_append]
      have hl2 := hle (i + 1)
      simp (maxSteps := 4000000) only [go_sem, Nat.reduceEqDiff, eb25, tk37, dz37, tk137, kGrowR, hct, getD_strssR, aStrsR, leafy_posL, app_posL]
      exact ⟨⟨by omega, hlt⟩, by omega, i + 1, by omega, by omega, subX_eq (by rw [hfl]) (pureB_posL _), hfl2.symm, by rw [wrap64 (by omega) (by omega)]; rfl⟩
    · have hcf : decide ((i : Int) < l.length) = false := decide_eq_false (by omega)
      have hil : i = l.length := by omega
      subst hil
      rw [List.take_length]
      simp (maxSteps := 4000000) only [go_sem, Nat.reduceEqDiff, kGrowR, hcf, pureB_posL]

def kConcatR : C1 := C1.by [.sl 1 [some 2]] (lOne (cSl 1 (cSl 2 cPos2))) (fun d => d.flatten.length ≤ 1099511627776 ∧ d.length ≤ 1048576) (fun d => .sl 2 (d.flatten.map aPos)) (fun _ => [])
theorem ok_ConcatR : C1OK Tryz.prog 152 kConcatR := C1OK.by (by kernel_rfl) (fun d h => calls_ConcatR d h.1 h.2) (fun _ => rfl) (fun _ => rfl)

/-! ### Turned round -/
def revK (l : List (Int × Int)) (k : Nat) : List (Int × Int) := (List.range l.length).map fun i => if i < k ∨ l.length ≤ i + k then l.getD (l.length - 1 - i) (0, 0) else l.getD i (0, 0)
theorem revK_len (l : List (Int × Int)) (k : Nat) : (revK l k).length = l.length := by simp [revK]
theorem revK_get (l : List (Int × Int)) (k i : Nat) (h : i < l.length) : (revK l k).getD i (0, 0) = if i < k ∨ l.length ≤ i + k then l.getD (l.length - 1 - i) (0, 0) else l.getD i (0, 0) := by
  rw [List.getD_eq_getElem?_getD, revK, List.getElem?_map, List.getElem?_range h]; rfl
theorem ext_getD {a b : List (Int × Int)} (hl : a.length = b.length) (h : ∀ i, i < a.length → a.getD i (0, 0) = b.getD i (0, 0)) : a = b := by
  refine List.ext_getElem hl fun i h1 h2 => ?_
  have := h i h1
  rw [List.getD_eq_getElem?_getD, List.getD_eq_getElem?_getD, List.getElem?_eq_getElem h1, List.getElem?_eq_getElem h2] at this
  exact this
theorem revK_zero (l : List (Int × Int)) : revK l 0 = l := by
  refine ext_getD (revK_len l 0) fun i h => ?_
  rw [revK_len] at h
  rw [revK_get l 0 i h, if_neg (by omega)]
theorem revK_all (l : List (Int × Int)) (k : Nat) (h : l.length ≤ k + k + 1) : revK l k = l.reverse := by
  refine ext_getD (by rw [revK_len, List.length_reverse]) fun i hi => ?_
  rw [revK_len] at hi
  rw [revK_get l k i hi, getD_rev l i (0, 0) hi]
  split
  · rfl
  · rw [show l.length - 1 - i = i by omega]
theorem getD_setP (l : List (Int × Int)) (i j : Nat) (x d : Int × Int) (h : j < l.length) : (l.set j x).getD i d = if i = j then x else l.getD i d := by
  rw [List.getD_eq_getElem?_getD, List.getElem?_set, List.getD_eq_getElem?_getD]
  by_cases e : j = i
  · rw [if_pos e, if_pos h, if_pos e.symm]; rfl
  · rw [if_neg e, if_neg (fun e' => e e'.symm)]
theorem revK_step (l : List (Int × Int)) (k : Nat) (h : k + k + 1 < l.length) : ((revK l k).set k ((revK l k).getD (l.length - 1 - k) (0, 0))).set (l.length - 1 - k) ((revK l k).getD k (0, 0)) = revK l (k + 1) := by
  refine ext_getD (by simp [revK_len]) fun i hi => ?_
  simp only [List.length_set, revK_len] at hi
  rw [getD_setP _ _ _ _ _ (by rw [List.length_set, revK_len]; omega), getD_setP _ _ _ _ _ (by rw [revK_len]; omega), revK_get l (k + 1) i hi, revK_get l k k (by omega), revK_get l k (l.length - 1 - k) (by omega), revK_get l k i hi]
  by_cases e1 : i = l.length - 1 - k
  · rw [if_pos e1, if_neg (by omega), if_pos (by omega), e1, show l.length - 1 - (l.length - 1 - k) = k by omega]
  · rw [if_neg e1]
    by_cases e2 : i = k
    · rw [if_pos e2, if_neg (by omega), if_pos (by omega), e2]
    · rw [if_neg e2]
      by_cases e3 : i < k ∨ l.length ≤ i + k
      · rw [if_pos e3, if_pos (by omega)]
      · rw [if_neg e3, if_neg (by omega)]
theorem set_pos (l : List (Int × Int)) (i : Nat) (x : Int × Int) : (l.map aPos).set i (.agg [.int .i64 x.1, .int .i64 x.2]) = (l.set i x).map aPos := by
  rw [List.map_set]; rfl
theorem pos_pure : ∀ b : Int × Int, (cPos2.enc b).pureB = true := fun _ => rfl
abbrev hPoss : HC (List (Int × Int)) := hOwn 25 2 cPos2 pos_pure

set_option maxRecDepth 20000 in
set_option maxHeartbeats 4000000 in
theorem calls_Reverse (l : List (Int × Int)) (hl : l.length ≤ 1099511627776) : CallsR Tryz.prog 151 [.own 0 2 l.length] [.arr 25 2 (l.map aPos)] (.tuple []) [.arr 25 2 (l.reverse.map aPos)] := by
  refine callsR_of (mrg := true) (dyn := []) (CtrOK.nil _) mixed Tryz.func151 rfl (by simp [Tryz.ntmps151]) (by kernel_rfl) ?_
  rw [show Tryz.f151.results.toList = [] from by kernel_rfl]
  have w0 : IntKind.i64.wrap ((l.length : Int) - 1) = (l.length : Int) - 1 := wrap64 (by omega) (by omega)
  simp (maxSteps := 4000000) only [go_sem, reduceCtorEq, Nat.reduceEqDiff, tk37, w0]
  refine loopH_intro (α := Nat) (fun k => ([(0, .own 0 2 l.length), (2, .int .i64 k), (3, .int .i64 ((l.length : Int) - 1 - k))], [.arr 25 2 ((revK l k).map aPos)])) (fun k => k + k ≤ l.length + 1) (fun k => l.length - k) 0 (by omega) ?_ ?_
  · simp (maxSteps := 4000000) only [go_sem, reduceCtorEq, Nat.reduceEqDiff, pureB_posL, revK_zero]
    exact ⟨by decide, subX_eq rfl (pureB_posL _), by omega⟩
  intro k hk
  have hrl := revK_len l k
  by_cases hlt : k + k + 1 < l.length
  · have c1 : decide ((k : Int) < (l.length : Int) - 1 - k) = true := decide_eq_true (by omega)
    have e1 : ((l.length : Int) - 1 - k).toNat = l.length - 1 - k := by omega
    have w1 : IntKind.i64.wrap ((k : Int) + 1) = ((k + 1 : Nat) : Int) := by rw [wrap64 (by omega) (by omega)]; rfl
    have w2 : IntKind.i64.wrap ((l.length : Int) - 1 - k - 1) = (l.length : Int) - 1 - ((k + 1 : Nat) : Int) := by rw [wrap64 (by omega) (by omega)]; omega
    have hst := revK_step l k hlt
    simp (maxSteps := 4000000) only [go_sem, Nat.reduceAdd, reduceCtorEq, Nat.reduceEqDiff, tk25, dz25, tk37, c1, e1, w1, w2, hrl, getD_pos, aPos_def, set_pos, hst, pureB_posL]
    exact ⟨⟨by omega, by omega⟩, by omega, ⟨by omega, by omega⟩, by omega, ⟨by omega, by omega⟩, by omega, ⟨by omega, by omega⟩, by omega, k + 1, by omega, by omega, by decide, subX_eq rfl (pureB_posL _), rfl, rfl⟩
  · have c1 : decide ((k : Int) < (l.length : Int) - 1 - k) = false := decide_eq_false (by omega)
    have hall := revK_all l k (by omega)
    simp (maxSteps := 4000000) only [go_sem, reduceCtorEq, Nat.reduceEqDiff, c1, hall, pureB_posL]
    exact ⟨by decide, subX_eq rfl (pureB_posL _)⟩
def kReverse : C1 := C1.mby (hCons hPoss hNil) (fun d => d.1.length ≤ 1099511627776) (fun _ => .tuple []) (fun d => [.arr 25 2 (d.1.reverse.map aPos)])
theorem ok_Reverse : C1OK Tryz.prog 151 kReverse := C1OK.mby (by kernel_rfl) (fun d h => calls_Reverse d.1 h) (fun _ _ => Nat.le_refl _)
end Go.Pg
namespace Go.Pg
open Go Go.Proofs

def blank (b : UInt8) : Bool := b == 32 || b == 9
/-- A line's first byte that is no blank, or its last one. -/
def firstC (s : List UInt8) : Int := if (s.takeWhile blank).length < s.length then (s.takeWhile blank).length else max ((s.length : Int) - 1) 0
theorem tw_step {p : UInt8 → Bool} : ∀ (s : List UInt8) (i : Nat), i ≤ (s.takeWhile p).length → i < s.length → (p (s.getD i 0) = true → i + 1 ≤ (s.takeWhile p).length) ∧ (p (s.getD i 0) = false → (s.takeWhile p).length = i)
  | [], i, _, h => by simp at h
  | b :: s, i, h1, h2 => by
    cases hb : p b with
    | false =>
      rw [List.takeWhile_cons_of_neg (by simp [hb])] at h1 ⊢
      have : i = 0 := by simpa using h1
      subst this
      simp [hb]
    | true =>
      rw [List.takeWhile_cons_of_pos hb] at h1 ⊢
      cases i with
      | zero => simp [hb]
      | succ i =>
        have := tw_step s i (by simpa using h1) (by simpa using h2)
        simpa using this
theorem tw_le (s : List UInt8) : (s.takeWhile blank).length ≤ s.length := (List.takeWhile_sublist _).length_le
theorem cls_blank (b : UInt8) : (cls (b.toNat : Int) true != 0) = !blank b := by
  unfold cls blank
  have h1 : ((b.toNat : Int) == 32) = (b == 32) := by
    rw [Bool.eq_iff_iff, beq_iff_eq, beq_iff_eq]
    exact ⟨fun h => UInt8.toNat_inj.1 (by show _ = 32; omega), fun h => by subst h; rfl⟩
  have h2 : ((b.toNat : Int) == 9) = (b == 9) := by
    rw [Bool.eq_iff_iff, beq_iff_eq, beq_iff_eq]
    exact ⟨fun h => UInt8.toNat_inj.1 (by show _ = 9; omega), fun h => by subst h; rfl⟩
  rw [h1, h2]
  cases (b == 32 || b == 9) <;> simp
set_option maxHeartbeats 4000000 in
theorem calls_First (s : List UInt8) (hs : s.length ≤ 140737488355328) : CallsR Tryz.prog 34 [.str s] [] (.int .i64 (firstC s)) [] := by
  refine callsR_of (mrg := true) (dyn := []) (CtrOK.cons ok_Of (CtrOK.nil _)) mixed Tryz.func34 rfl (by simp [Tryz.ntmps34]) (by kernel_rfl) ?_
  rw [show Tryz.f34.results.toList = [.tmp 2] from by kernel_rfl]
  simp (maxSteps := 4000000) only [go_sem, reduceCtorEq, Nat.reduceEqDiff, tk9, kOf]
  refine loopH_intro (α := Nat) (fun i => ([(0, .str s), (2, .int .i64 0), (5, .int .i64 s.length), (6, .int .i64 i)], [])) (fun i => i ≤ (s.takeWhile blank).length) (fun i => s.length - i) 0 (by omega) ?_ ?_
  · simp (maxSteps := 4000000) only [go_sem, reduceCtorEq, Nat.reduceEqDiff]
  intro i hi
  have hle := tw_le s
  by_cases hlt : i < s.length
  · have hct : decide ((i : Int) < s.length) = true := decide_eq_true (by omega)
    obtain ⟨g1, g2⟩ := tw_step s i hi hlt
    simp (maxSteps := 4000000) only [go_sem, reduceCtorEq, Nat.reduceEqDiff, tk9, kOf, hct, cls_blank]
    refine ⟨⟨by omega, hlt⟩, fun hb => ?_, fun hb => ?_⟩
    · unfold firstC
      rw [g2 hb, if_pos hlt]
    · have hb2 : blank (s.getD i 0) = true := by simpa using hb
      exact ⟨i + 1, g1 hb2, by omega, by rw [wrap64 (by omega) (by omega)]; rfl⟩
  · have hcf : decide ((i : Int) < s.length) = false := decide_eq_false (by omega)
    simp (maxSteps := 4000000) only [go_sem, reduceCtorEq, Nat.reduceEqDiff, tk9, kOf, hcf]
    unfold firstC
    rw [if_neg (by omega), wrap64 (by omega) (by omega)]
set_option maxHeartbeats 4000000 in
theorem calls_RFirst (s : List UInt8) (hs : s.length ≤ 140737488355328) : CallsR Tryz.prog 70 [.str s] [] (.int .i64 (firstC s)) [] := by
  refine callsR_of (mrg := true) (dyn := []) (CtrOK.cons ok_ROf (CtrOK.nil _)) mixed Tryz.func70 rfl (by simp [Tryz.ntmps70]) (by kernel_rfl) ?_
  rw [show Tryz.f70.results.toList = [.tmp 2] from by kernel_rfl]
  simp (maxSteps := 4000000) only [go_sem, kOf]
  refine loopH_intro (α := Nat) (fun i => ([(0, .str s), (2, .int .i64 0), (3, .int .i64 i)], [])) (fun i => i ≤ (s.takeWhile blank).length) (fun i => s.length - i) 0 (by omega) ?_ ?_
  · simp (maxSteps := 4000000) only [go_sem, reduceCtorEq, Nat.reduceEqDiff]
    skip
  intro i hi
  have hle := tw_le s
  by_cases hlt : i < s.length
  · have hct : decide ((i : Int) < s.length) = true := decide_eq_true (by omega)
    obtain ⟨g1, g2⟩ := tw_step s i hi hlt
    simp (maxSteps := 4000000) only [go_sem, reduceCtorEq, Nat.reduceEqDiff, tk9, kOf, hct, cls_blank]
    refine ⟨⟨by omega, hlt⟩, fun hb => ?_, fun hb => ?_⟩
    · unfold firstC
      rw [g2 hb, if_pos hlt]
    · have hb2 : blank (s.getD i 0) = true := by simpa using hb
      exact ⟨i + 1, g1 hb2, by omega, by rw [wrap64 (by omega) (by omega)]; rfl⟩
  · have hcf : decide ((i : Int) < s.length) = false := decide_eq_false (by omega)
    simp (maxSteps := 4000000) only [go_sem, reduceCtorEq, Nat.reduceEqDiff, tk9, kOf, hcf]
    unfold firstC
    rw [if_neg (by omega), wrap64 (by omega) (by omega)]
def clampP (ls : Ls) (p : Int × Int) (past : Bool) : Int × Int :=
  if ls.length = 0 then (0, 0) else
  let l := min (max p.1 0) ((ls.length : Int) - 1)
  let m : Int := (ls.getD l.toNat []).length
  (l, min (max p.2 0) (if past = true then m else max (m - 1) 0))
set_option maxHeartbeats 4000000 in
theorem calls_Clamp (ls : Ls) (p : Int × Int) (past : Bool) (hs : small ls) : CallsR Tryz.prog 25 [.sl 1 (ls.map .str), aPos p, .bool past] [] (aPos (clampP ls p past)) [] := by
  obtain ⟨p1, p2⟩ := p
  refine callsR_of (mrg := true) (dyn := []) (CtrOK.nil _) mixed Tryz.func25 rfl (by simp [Tryz.ntmps25]) (by kernel_rfl) ?_
  rw [show Tryz.f25.results.toList = [.cell 6 25] from by kernel_rfl]
  simp (maxSteps := 4000000) only [go_sem, Nat.reduceAdd, reduceCtorEq, Nat.reduceEqDiff, Nat.reduceLeDiff, tk3, tk9, dz9, tk22, tk25, tz25, dz25, aPos]
  have hl := hs.1
  have hw : IntKind.i64.wrap ((ls.length : Int) - 1) = (ls.length : Int) - 1 := wrap64 (by omega) (by omega)
  rw [hw]
  refine ⟨fun h => ?_, fun h => ?_⟩
  · have h0 : ls.length = 0 := by simpa using h
    simp [clampP, h0]
  · have h0 : ls.length ≠ 0 := by simpa using h
    have h2 := hs.2 (min (max p1 0) ((ls.length : Int) - 1)).toNat
    refine ⟨⟨by omega, by omega⟩, fun hp => ?_, fun hp => ?_⟩
    · subst hp
      rw [wrap64 (by omega) (by omega)]
      simp [clampP, h0]
    · have : past = true := by simpa using hp
      subst this
      simp [clampP, h0]
set_option maxHeartbeats 4000000 in
theorem calls_RClamp (ls : Ls) (p : Int × Int) (past : Bool) (hs : small ls) : CallsR Tryz.prog 27 [.sl 1 (ls.map .str), aPos p, .bool past] [] (aPos (clampP ls p past)) [] := by
  obtain ⟨p1, p2⟩ := p
  refine callsR_of (mrg := true) (dyn := []) (CtrOK.nil _) mixed Tryz.func27 rfl (by simp [Tryz.ntmps27]) (by kernel_rfl) ?_
  rw [show Tryz.f27.results.toList = [.cell 6 25] from by kernel_rfl]
  simp (maxSteps := 4000000) only [go_sem, Nat.reduceAdd, reduceCtorEq, Nat.reduceEqDiff, Nat.reduceLeDiff, tk3, tk9, dz9, tk22, tk25, tz25, dz25, aPos]
  have hl := hs.1
  have hw : IntKind.i64.wrap ((ls.length : Int) - 1) = (ls.length : Int) - 1 := wrap64 (by omega) (by omega)
  rw [hw]
  refine ⟨fun h => ?_, fun h => ?_⟩
  · have h0 : ls.length = 0 := by simpa using h
    simp [clampP, h0]
  · have h0 : ls.length ≠ 0 := by simpa using h
    have h2 := hs.2 (min (max p1 0) ((ls.length : Int) - 1)).toNat
    refine ⟨⟨by omega, by omega⟩, fun hp => ?_, fun hp => ?_⟩
    · subst hp
      rw [wrap64 (by omega) (by omega)]
      simp [clampP, h0]
    · have : past = true := by simpa using hp
      subst this
      simp [clampP, h0]
def kFirst : C1 := C1.by [.id] (lOne cStr) (fun s => s.length ≤ 140737488355328) (fun s => .int .i64 (firstC s)) (fun _ => [])
theorem ok_First : C1OK Tryz.prog 34 kFirst := C1OK.by (by kernel_rfl) (fun d h => calls_First d h) (fun _ => rfl) (fun _ => rfl)
theorem ok_RFirst : C1OK Tryz.prog 70 kFirst := C1OK.by (by kernel_rfl) (fun d h => calls_RFirst d h) (fun _ => rfl) (fun _ => rfl)
end Go.Pg
