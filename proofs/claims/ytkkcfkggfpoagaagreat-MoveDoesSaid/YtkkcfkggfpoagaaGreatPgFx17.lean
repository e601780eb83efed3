/- Keys of motions: names of keys, keys of a text. Keys of motions: what keys are, the document's: numbers, patterns. Keys of motions: the keys that a text names. Keys of motions: what they are, the document's. Keys of motions: a command of keys; the seat's motions. -/
import Derived.Test.YtkkcfkggfpoagaaGreatPgBs
import Derived.Test.YtkkcfkggfpoagaaGreatPgFx8
import Derived.Test.YtkkcfkggfpoagaaGreatPgFx4
import Derived.Test.YtkkcfkggfpoagaaGreatPgFx7
import Derived.Test.YtkkcfkggfpoagaaGreatPgFx16
set_option linter.unusedVariables false
set_option linter.unusedSimpArgs false
namespace Go.Pg
open Go Go.Proofs

theorem calls_has (s : List UInt8) (c : UInt8) (hs : s.length ≤ 65536) : CallsR Tryz.prog 19 [.str s, byteA c] [] (.bool (s.contains c)) [] := by
  refine callsR_of (mrg := true) (dyn := []) (CtrOK.nil _) mixed Tryz.func19 rfl (by simp [Tryz.ntmps19]) (by kernel_rfl) ?_
  rw [show Tryz.f19.results.toList = [.tmp 4] from by kernel_rfl]
  simp (maxSteps := 4000000) only [go_sem]
  refine loopH_intro (α := Nat) (fun i => ([(0, .str s), (1, .int .u8 c.toNat), (4, .bool false), (5, .int .i64 i)], []))
    (fun i => i ≤ s.length ∧ s.contains c = (s.drop i).contains c) (fun i => s.length - i) 0 ⟨by omega, rfl⟩ ?_ ?_
  · simp (maxSteps := 4000000) only [go_sem, reduceCtorEq, Nat.reduceEqDiff]
  rintro i ⟨hi, hR⟩
  by_cases hlt : i < s.length
  · have c1 : decide ((i : Int) < (s.length : Int)) = true := decide_eq_true (by omega)
    have w1 : IntKind.i64.wrap ((i : Int) + 1) = ((i + 1 : Nat) : Int) := by rw [wrap64 (by omega) (by omega)]; rfl
    have hd := drop_step s i hlt
    rw [hd, List.contains_cons] at hR
    have hb := beq_byte (s.getD i 0) c
    cases hc : (s.getD i 0 == c) with
    | true =>
      rw [hc] at hb
      have hcc : (c == s.getD i 0) = true := by rw [beq_iff_eq] at hc ⊢; exact hc.symm
      rw [hcc, Bool.true_or] at hR
      simp (maxSteps := 4000000) only [go_sem, reduceCtorEq, Nat.reduceEqDiff, tk9, c1, hb, hR]
      exact ⟨by omega, hlt⟩
    | false =>
      rw [hc] at hb
      have hcc : (c == s.getD i 0) = false := by rw [beq_eq_false_iff_ne] at hc ⊢; exact hc.symm
      rw [hcc, Bool.false_or] at hR
      simp (maxSteps := 4000000) only [go_sem, reduceCtorEq, Nat.reduceEqDiff, tk9, c1, hb, w1]
      exact ⟨⟨by omega, hlt⟩, i + 1, ⟨by omega, hR⟩, by omega, rfl⟩
  · have c1 : decide ((i : Int) < (s.length : Int)) = false := decide_eq_false (by omega)
    rw [List.drop_eq_nil_of_le (by omega)] at hR
    rw [hR]
    simp (maxSteps := 4000000) only [go_sem, reduceCtorEq, Nat.reduceEqDiff, tk9, c1]
def kHas : C1 := C1.by [.id, .id] (lCons cStr (lOne cByte)) (fun d => d.1.length ≤ 65536) (fun d => .bool (d.1.contains d.2)) (fun _ => [])
theorem ok_has : C1OK Tryz.prog 19 kHas := C1OK.by (by kernel_rfl) (fun d h => calls_has d.1 d.2 h) (fun _ => rfl) (fun _ => rfl)

/-- A key's name, below 128. -/
def nameF (c : UInt8) : List UInt8 :=
  if c = 27 then [60, 69, 115, 99, 62]
  else if c = 13 then [60, 67, 82, 62]
  else if c = 10 then [60, 78, 76, 62]
  else if c = 9 then [60, 84, 97, 98, 62]
  else if c = 8 then [60, 66, 83, 62]
  else if c = 127 then [60, 68, 101, 108, 62]
  else if c = 60 then [60, 108, 116, 62]
  else if c.toNat < 32 then [60, 67, 45, c + 64, 62]
  else [c]
theorem lit_eq (b : UInt8) (k : Int) (c : UInt8) (hc : (c.toNat : Int) = k) (h : b = c) : ((b.toNat : Int) == k) = true := by
  rw [beq_iff_eq, h, hc]
set_option maxHeartbeats 4000000 in
theorem calls_RName (c : UInt8) (hc : c.toNat < 128) : CallsR Tryz.prog 73 [byteA c] [] (.str (nameF c)) [] := by
  refine callsR_of (mrg := true) (dyn := []) (CtrOK.nil _) mixed Tryz.func73 rfl (by simp [Tryz.ntmps73]) (by kernel_rfl) ?_
  rw [show Tryz.f73.results.toList = [.tmp 2] from by kernel_rfl]
  unfold nameF
  by_cases h1 : c = 27
  · have b1 := lit_eq c 27 27 rfl h1
    rw [if_pos h1]
    simp (maxSteps := 4000000) only [go_sem, reduceCtorEq, Nat.reduceEqDiff, b1]
  rw [if_neg h1]
  have b1 := byte_lit c 27 27 rfl h1
  by_cases h2 : c = 13
  · have b2 := lit_eq c 13 13 rfl h2
    rw [if_pos h2]
    simp (maxSteps := 4000000) only [go_sem, reduceCtorEq, Nat.reduceEqDiff, b1, b2]
  rw [if_neg h2]
  have b2 := byte_lit c 13 13 rfl h2
  by_cases h3 : c = 10
  · have b3 := lit_eq c 10 10 rfl h3
    rw [if_pos h3]
    simp (maxSteps := 4000000) only [go_sem, reduceCtorEq, Nat.reduceEqDiff, b1, b2, b3]
  rw [if_neg h3]
  have b3 := byte_lit c 10 10 rfl h3
  by_cases h4 : c = 9
  · have b4 := lit_eq c 9 9 rfl h4
    rw [if_pos h4]
    simp (maxSteps := 4000000) only [go_sem, reduceCtorEq, Nat.reduceEqDiff, b1, b2, b3, b4]
  rw [if_neg h4]
  have b4 := byte_lit c 9 9 rfl h4
  by_cases h5 : c = 8
  · have b5 := lit_eq c 8 8 rfl h5
    rw [if_pos h5]
    simp (maxSteps := 4000000) only [go_sem, reduceCtorEq, Nat.reduceEqDiff, b1, b2, b3, b4, b5]
  rw [if_neg h5]
  have b5 := byte_lit c 8 8 rfl h5
  by_cases h6 : c = 127
  · have b6 := lit_eq c 127 127 rfl h6
    rw [if_pos h6]
    simp (maxSteps := 4000000) only [go_sem, reduceCtorEq, Nat.reduceEqDiff, b1, b2, b3, b4, b5, b6]
  rw [if_neg h6]
  have b6 := byte_lit c 127 127 rfl h6
  by_cases h7 : c = 60
  · have b7 := lit_eq c 60 60 rfl h7
    rw [if_pos h7]
    simp (maxSteps := 4000000) only [go_sem, reduceCtorEq, Nat.reduceEqDiff, b1, b2, b3, b4, b5, b6, b7]
  rw [if_neg h7]
  have b7 := byte_lit c 60 60 rfl h7
  by_cases h8 : c.toNat < 32
  · have b8 : decide ((c.toNat : Int) < 32) = true := decide_eq_true (by omega)
    have w1 : IntKind.u8.wrap ((c.toNat : Int) + 64) = ((c + 64).toNat : Int) := by
      have e : (c + 64).toNat = (c.toNat + 64) % 256 := UInt8.toNat_add c 64
      show ((c.toNat : Int) + 64) % 256 = _
      rw [e]; omega
    rw [if_pos h8]
    simp (maxSteps := 4000000) only [go_sem, Nat.reduceAdd, reduceCtorEq, Nat.reduceEqDiff, Nat.reducePow, Nat.reduceLeDiff, tk5, eb5, tk9, tk30, b1, b2, b3, b4, b5, b6, b7, b8, w1]
  · have b8 : decide ((c.toNat : Int) < 32) = false := decide_eq_false (by omega)
    have b9 : decide ((c.toNat : Int) ≥ 128) = false := decide_eq_false (by omega)
    rw [if_neg h8]
    simp (maxSteps := 4000000) only [go_sem, reduceCtorEq, Nat.reduceEqDiff, Nat.reducePow, Nat.reduceLeDiff, tk5, eb5, tk9, tk30, b1, b2, b3, b4, b5, b6, b7, b8, b9]
def kRName : C1 := C1.by [.id] (lOne cByte) (fun d => d.toNat < 128) (fun d => .str (nameF d)) (fun _ => [])
theorem ok_RName : C1OK Tryz.prog 73 kRName := C1OK.by (by kernel_rfl) (fun d h => calls_RName d h) (fun _ => rfl) (fun _ => rfl)
end Go.Pg
namespace Go.Pg
open Go Go.Proofs

def isNum (b : UInt8) (n : Int) : Bool := (decide ((b.toNat : Int) ≥ 49) && decide ((b.toNat : Int) ≤ 57)) || ((b.toNat : Int) == 48 && decide (n > 0))
def numL : List UInt8 → Int → Nat → Int × Nat
  | [], n, i => (n, i)
  | b :: t, n, i => if isNum b n = true then numL t (min (10 * n + ((b.toNat : Int) - 48)) 9999) (i + 1) else (n, i)
def numR (k : List UInt8) (i : Nat) (n : Int) : Int × Nat := numL (k.drop i) n i
theorem isNum_range {b : UInt8} {n : Int} (h : isNum b n = true) : 48 ≤ (b.toNat : Int) ∧ (b.toNat : Int) ≤ 57 := by
  unfold isNum at h
  simp only [Bool.or_eq_true, Bool.and_eq_true, decide_eq_true_eq, beq_iff_eq] at h
  omega
theorem numL_in : ∀ (t : List UInt8) (n : Int) (i : Nat), 0 ≤ n → n ≤ 9999 → 0 ≤ (numL t n i).1 ∧ (numL t n i).1 ≤ 9999 ∧ i ≤ (numL t n i).2 ∧ (numL t n i).2 ≤ i + t.length
  | [], n, i, h0, h1 => ⟨h0, h1, Nat.le_refl _, by simp [numL]⟩
  | b :: t, n, i, h0, h1 => by
    unfold numL
    split
    · next hb =>
      have hr := isNum_range hb
      have := numL_in t (min (10 * n + ((b.toNat : Int) - 48)) 9999) (i + 1) (by omega) (by omega)
      simp only [List.length_cons]
      omega
    · simp only [List.length_cons]
      omega
theorem numL_stop : ∀ (t : List UInt8) (n : Int) (i : Nat), numL (t.drop ((numL t n i).2 - i)) (numL t n i).1 (numL t n i).2 = numL t n i
  | [], n, i => by simp [numL]
  | b :: t, n, i => by
    by_cases hb : isNum b n = true
    · have e : numL (b :: t) n i = numL t (min (10 * n + ((b.toNat : Int) - 48)) 9999) (i + 1) := by rw [numL, if_pos hb]
      rw [e]
      have hr := isNum_range hb
      have h2 : i + 1 ≤ (numL t (min (10 * n + ((b.toNat : Int) - 48)) 9999) (i + 1)).2 := by
        have : ∀ (t : List UInt8) (n : Int) (i : Nat), i ≤ (numL t n i).2 := by
          intro t
          induction t with
          | nil => intro n i; exact Nat.le_refl _
          | cons b t ih =>
            intro n i
            unfold numL
            split
            · exact Nat.le_trans (Nat.le_succ i) (ih _ _)
            · exact Nat.le_refl _
        exact this _ _ _
      have ih := numL_stop t (min (10 * n + ((b.toNat : Int) - 48)) 9999) (i + 1)
      generalize numL t (min (10 * n + ((b.toNat : Int) - 48)) 9999) (i + 1) = r at *
      rw [show r.2 - i = (r.2 - (i + 1)) + 1 by omega, List.drop_succ_cons]
      exact ih
    · have e : numL (b :: t) n i = (n, i) := by rw [numL, if_neg hb]
      rw [e]
      show numL ((b :: t).drop (i - i)) n i = (n, i)
      rw [Nat.sub_self]
      exact e
theorem numR_stop (k : List UInt8) (i : Nat) (n : Int) (h0 : 0 ≤ n) (h1 : n ≤ 9999) : numR k (numR k i n).2 (numR k i n).1 = numR k i n := by
  have h := numL_stop (k.drop i) n i
  have h2 := (numL_in (k.drop i) n i h0 h1).2.2.1
  unfold numR
  rw [List.drop_drop] at h
  rwa [show i + ((numL (k.drop i) n i).2 - i) = (numL (k.drop i) n i).2 by omega] at h

set_option maxRecDepth 20000 in
set_option maxHeartbeats 8000000 in
theorem calls_Rnumber (k : List UInt8) (i0 : Nat) (n0 : Int) (hk : k.length ≤ 65536) (hi0 : i0 ≤ k.length) (hn0 : 0 ≤ n0) (hn1 : n0 ≤ 9999) :
    CallsR Tryz.prog 18 [.sl 1 (ofBytes k), .int .i64 i0, .int .i64 n0] [] (.tuple [.int .i64 (numR k i0 n0).1, .int .i64 (numR k i0 n0).2]) [] := by
  refine callsR_of (mrg := true) (dyn := []) (CtrOK.nil _) mixed Tryz.func18 rfl (by simp [Tryz.ntmps18]) (by kernel_rfl) ?_
  rw [show Tryz.f18.results.toList = [.tmp 6, .tmp 7] from by kernel_rfl]
  obtain ⟨R, hR0⟩ : ∃ R, R = numR k i0 n0 := ⟨_, rfl⟩
  rw [← hR0]
  simp (maxSteps := 4000000) only [go_sem, Nat.reduceAdd]
  refine loopH_intro (α := Nat × Int) (fun x => ([(0, .sl 1 (ofBytes k)), (1, .int .i64 x.1), (2, .int .i64 x.2), (6, .int .i64 0), (7, .int .i64 0)], []))
    (fun x => x.1 ≤ k.length ∧ 0 ≤ x.2 ∧ x.2 ≤ 9999 ∧ numR k x.1 x.2 = R) (fun x => k.length - x.1) (i0, n0) ⟨hi0, hn0, hn1, hR0.symm⟩ ?_ ?_
  · simp (maxSteps := 4000000) only [go_sem, reduceCtorEq, Nat.reduceEqDiff]
  rintro ⟨i, n⟩ ⟨hi, h0, h1, hR⟩
  dsimp only at hi h0 h1 hR
  by_cases hlt : i < k.length
  · have c1 : decide ((i : Int) < (k.length : Int)) = true := decide_eq_true (by omega)
    have hd := drop_step k i hlt
    unfold numR at hR
    rw [hd] at hR
    obtain ⟨b, hb⟩ : ∃ b, b = k.getD i 0 := ⟨_, rfl⟩
    have hb256 : b.toNat < 256 := b.toNat_lt
    rw [← hb] at hR
    have hN : numL (b :: k.drop (i + 1)) n i = if isNum b n = true then numL (k.drop (i + 1)) (min (10 * n + ((b.toNat : Int) - 48)) 9999) (i + 1) else (n, i) := rfl
    rw [hN] at hR
    cases hq : isNum b n with
    | true =>
      have hr := isNum_range hq
      rw [hq, if_pos rfl] at hR
      have w1 : IntKind.i64.wrap (10 * n) = 10 * n := wrap64 (by omega) (by omega)
      have w2 : IntKind.u8.wrap ((b.toNat : Int) - 48) = (b.toNat : Int) - 48 := by show ((b.toNat : Int) - 48) % 256 = _; omega
      have w3 : IntKind.i64.wrap ((b.toNat : Int) - 48) = (b.toNat : Int) - 48 := wrap64 (by omega) (by omega)
      have w4 : IntKind.i64.wrap (10 * n + ((b.toNat : Int) - 48)) = 10 * n + ((b.toNat : Int) - 48) := wrap64 (by omega) (by omega)
      have w5 : IntKind.i64.wrap ((i : Int) + 1) = ((i + 1 : Nat) : Int) := by rw [wrap64 (by omega) (by omega)]; rfl
      have D : (decide ((b.toNat : Int) ≥ 49) = true ∧ decide ((b.toNat : Int) ≤ 57) = true ∧ decide ((b.toNat : Int) ≥ 49) = true ∧ decide ((b.toNat : Int) ≥ 49) = true)
          ∨ (decide ((b.toNat : Int) ≥ 49) = false ∧ decide ((b.toNat : Int) ≥ 49) = false ∧ ((b.toNat : Int) == 48) = true ∧ decide (n > 0) = true) := by
        by_cases e : (b.toNat : Int) ≥ 49
        · exact .inl ⟨decide_eq_true e, decide_eq_true (by omega), decide_eq_true e, decide_eq_true e⟩
        · refine .inr ⟨decide_eq_false e, decide_eq_false e, by rw [beq_iff_eq]; omega, decide_eq_true ?_⟩
          unfold isNum at hq
          simp only [Bool.or_eq_true, Bool.and_eq_true, decide_eq_true_eq, beq_iff_eq] at hq
          omega
      rcases D with ⟨e1, e2, e3, e4⟩ | ⟨e1, e2, e3, e4⟩
      all_goals
        simp (maxSteps := 4000000) only [go_sem, reduceCtorEq, Nat.reduceEqDiff, tk3, tk5, dz5, tk30, c1, ←hb, e1, e2, e3, e4, w1, w2, w3, w4, w5]
        (repeat' first | exact ⟨(i + 1, min (10 * n + ((b.toNat : Int) - 48)) 9999), ⟨by dsimp only; omega, by dsimp only; omega, by dsimp only; omega, by unfold numR; exact hR⟩, by dsimp only; omega, rfl, rfl⟩ | refine And.intro ?_ ?_ | omega)
    | false =>
      rw [hq, if_neg (by simp)] at hR
      have D : (decide ((b.toNat : Int) ≥ 49) = true ∧ decide ((b.toNat : Int) ≤ 57) = false ∧ ((b.toNat : Int) == 48) = false ∧ decide ((b.toNat : Int) ≥ 49) = true)
          ∨ (decide ((b.toNat : Int) ≥ 49) = false ∧ decide ((b.toNat : Int) ≥ 49) = false ∧ ((b.toNat : Int) == 48) = false ∧ decide ((b.toNat : Int) ≥ 49) = false)
          ∨ (decide ((b.toNat : Int) ≥ 49) = false ∧ decide ((b.toNat : Int) ≥ 49) = false ∧ ((b.toNat : Int) == 48) = true ∧ decide (n > 0) = false) := by
        unfold isNum at hq
        simp only [Bool.or_eq_false_iff, Bool.and_eq_false_iff, decide_eq_false_iff_not, beq_eq_false_iff_ne] at hq
        by_cases e : (b.toNat : Int) ≥ 49
        · exact .inl ⟨decide_eq_true e, decide_eq_false (by omega), by rw [beq_eq_false_iff_ne]; omega, decide_eq_true e⟩
        · by_cases e2 : (b.toNat : Int) = 48
          · exact .inr (.inr ⟨decide_eq_false e, decide_eq_false e, by rw [beq_iff_eq]; exact e2, decide_eq_false (by omega)⟩)
          · exact .inr (.inl ⟨decide_eq_false e, decide_eq_false e, by rw [beq_eq_false_iff_ne]; exact e2, decide_eq_false e⟩)
      subst hR
      rcases D with ⟨e1, e2, e3, e4⟩ | ⟨e1, e2, e3, e4⟩ | ⟨e1, e2, e3, e4⟩
      all_goals
        simp (maxSteps := 4000000) only [go_sem, reduceCtorEq, Nat.reduceEqDiff, tk5, dz5, tk30, c1, ←hb, e1, e2, e3, e4]
        (repeat' first | refine And.intro ?_ ?_ | omega)
  · have c1 : decide ((i : Int) < (k.length : Int)) = false := decide_eq_false (by omega)
    unfold numR at hR
    rw [List.drop_eq_nil_of_le (by omega)] at hR
    rw [← hR, numL]
    simp (maxSteps := 4000000) only [go_sem, reduceCtorEq, Nat.reduceEqDiff, tk5, dz5, tk30, c1]
    simp
def kRNumber : C1 := C1.by [.sl 1 [], .id, .id] (lCons (cSl 1 cByte) (lCons (cInt .i64) (lOne (cInt .i64)))) (fun d => d.1.length ≤ 65536 ∧ 0 ≤ d.2.1 ∧ d.2.1.toNat ≤ d.1.length ∧ 0 ≤ d.2.2 ∧ d.2.2 ≤ 9999) (fun d => .tuple [.int .i64 (numR d.1 d.2.1.toNat d.2.2).1, .int .i64 (numR d.1 d.2.1.toNat d.2.2).2]) (fun _ => [])
theorem ok_Rnumber : C1OK Tryz.prog 18 kRNumber := C1OK.by (by kernel_rfl) (fun d h => by
  obtain ⟨k, i, n⟩ := d
  obtain ⟨h1, h2, h3, h4, h5⟩ := h
  obtain ⟨j, rfl⟩ := Int.eq_ofNat_of_zero_le h2
  exact calls_Rnumber k j n h1 h3 h4 h5) (fun _ => rfl) (fun _ => rfl)

def plainK (b : UInt8) : Bool := !((b == 13 || b == 27) || ((b == 10 || b == 8) || b == 127))
def patPre (k : List UInt8) : Bool := k == k.dropLast ++ [13] && (k.dropLast.all plainK && decide (k.dropLast.length ≤ 64))
theorem plain_lits {b : UInt8} (h : plainK b = true) : ((b.toNat : Int) == 13) = false ∧ ((b.toNat : Int) == 27) = false ∧ ((b.toNat : Int) == 10) = false ∧ ((b.toNat : Int) == 8) = false ∧ ((b.toNat : Int) == 127) = false := by
  unfold plainK at h
  simp only [Bool.not_eq_true', Bool.or_eq_false_iff, beq_eq_false_iff_ne] at h
  exact ⟨byte_lit b 13 13 rfl h.1.1, byte_lit b 27 27 rfl h.1.2, byte_lit b 10 10 rfl h.2.1.1, byte_lit b 8 8 rfl h.2.1.2, byte_lit b 127 127 rfl h.2.2⟩
set_option maxRecDepth 20000 in
set_option maxHeartbeats 8000000 in
theorem calls_Rpattern (body : List UInt8) (c : Cm) (hb : body.all plainK = true) (hl : body.length ≤ 64) :
    CallsR Tryz.prog 29 [.sl 1 (ofBytes (body ++ [13])), .agg (aCm c)] [] (.tuple [.int .i64 1, .agg (aCm (c.1, c.2.1, c.2.2.1, c.2.2.2.1, c.2.2.2.2.1, body))]) [] := by
  obtain ⟨rg, cn, opr, name, arg, text⟩ := c
  refine callsR_of (mrg := true) (dyn := []) (CtrOK.nil _) mixed Tryz.func29 rfl (by simp [Tryz.ntmps29]) (by kernel_rfl) ?_
  rw [show Tryz.f29.results.toList = [.tmp 4, .cell 5 29] from by kernel_rfl]
  obtain ⟨k, hk⟩ : ∃ k, k = body ++ [13] := ⟨_, rfl⟩
  rw [← hk]
  have hkl : k.length = body.length + 1 := by rw [hk]; simp
  simp (maxSteps := 4000000) only [go_sem, Nat.reduceAdd, reduceCtorEq, tz29]
  refine loopH_intro (α := Nat) (fun i => ([(0, .sl 1 (ofBytes k)), (3, .ptr 0 6 1 0 0), (4, .int .i64 0), (5, .ptr 1 6 1 0 0), (6, .own 2 1 (body.take i).length), (7, .int .i64 i)], [.arr 29 6 [.agg [byteA rg, .int .i64 cn, .str opr, .str name, byteA arg, .str text]], .arr 29 6 [.agg [.int .u8 0, .int .i64 0, .str [], .str [], .int .u8 0, .str []]], .arr 5 1 (ofBytes (body.take i))]))
    (fun i => i ≤ body.length) (fun i => body.length + 1 - i) 0 (Nat.zero_le _) ?_ ?_
  · simp (maxSteps := 4000000) only [go_sem, Nat.reduceAdd, reduceCtorEq, Nat.reduceEqDiff]
    (repeat' first | exact subX_eq rfl rfl | exact subX_eq rfl (pureB_bytes _) | exact subX_nls rfl | apply And.intro | rfl | omega)
  intro i hi
  have c1 : decide ((i : Int) < (k.length : Int)) = true := decide_eq_true (by omega)
  by_cases hlt : i < body.length
  · obtain ⟨b, hbb⟩ : ∃ b, b = k.getD i 0 := ⟨_, rfl⟩
    have hb2 : b = body.getD i 0 := by rw [hbb, hk, List.getD_eq_getElem?_getD, List.getElem?_append_left hlt, List.getD_eq_getElem?_getD]
    have hbp : plainK b = true := by
      rw [hb2, List.getD_eq_getElem?_getD, List.getElem?_eq_getElem hlt]
      exact List.all_eq_true.1 hb _ (List.getElem_mem hlt)
    obtain ⟨p1, p2, p3, p4, p5⟩ := plain_lits hbp
    have hts : body.take (i + 1) = body.take i ++ [b] := by rw [hb2]; exact take_succ_getD body i 0 hlt
    have hlen : (body.take i).length = i := by rw [List.length_take]; omega
    have w1 : IntKind.i64.wrap ((i : Int) + 1) = ((i + 1 : Nat) : Int) := by rw [wrap64 (by omega) (by omega)]; rfl
    obtain ⟨o, ho⟩ : ∃ o, o = body.take i := ⟨_, rfl⟩
    rw [← ho] at hts hlen ⊢
    have hap := app1_ofBytes o b
    have c2 : decide (((o.length + 1 : Nat) : Int) > 64) = false := decide_eq_false (by omega)
    simp (maxSteps := 4000000) only [go_sem, Nat.reduceAdd, reduceCtorEq, Nat.reduceEqDiff, Nat.reducePow, Nat.reduceLeDiff, tk5, dz5, eb5, tk30, c1, ←hbb, p1, p2, p3, p4, p5, hap, w1, c2]
    refine ⟨⟨by omega, by omega⟩, ⟨by decide, by omega⟩, i + 1, by omega, by omega, ?_⟩
    rw [hts]
    (repeat' first | exact subX_eq rfl rfl | exact subX_eq rfl (pureB_bytes _) | apply And.intro | rfl | (simp; done) | omega)
  · have hie : i = body.length := by omega
    subst hie
    have hbb : (k.getD body.length 0) = 13 := by rw [hk, List.getD_eq_getElem?_getD, List.getElem?_append_right (Nat.le_refl _)]; simp
    rw [List.take_of_length_le (Nat.le_refl _)]
    simp (maxSteps := 4000000) only [go_sem, Nat.reduceAdd, reduceCtorEq, Nat.reduceEqDiff, tk5, dz5, tk9, tk29, dz29, tk30, c1, hbb, UInt8.reduceToNat]
    (repeat' first | exact subX_eq rfl rfl | exact subX_eq rfl (pureB_bytes _) | (show dynOrd _ _ = true; kernel_rfl) | apply And.intro | rfl | (simp; done) | omega)
abbrev lCmR : CdL Cm := lCons cByte (lCons (cInt .i64) (lCons cStr (lCons cStr (lCons cByte (lOne cStr)))))
def kRPattern : C1 := C1.by [.sl 1 [], .id] (lCons (cSl 1 cByte) (lOne (cAgg lCmR))) (fun d => patPre d.1 = true) (fun d => .tuple [.int .i64 1, .agg (aCm (d.2.1, d.2.2.1, d.2.2.2.1, d.2.2.2.2.1, d.2.2.2.2.2.1, d.1.dropLast))]) (fun _ => [])
theorem ok_Rpattern : C1OK Tryz.prog 29 kRPattern := C1OK.by (by kernel_rfl) (fun d h => by
  unfold patPre at h
  rw [Bool.and_eq_true, Bool.and_eq_true, decide_eq_true_eq, beq_iff_eq] at h
  have := calls_Rpattern d.1.dropLast d.2 h.2.1 h.2.2
  rw [← h.1] at this
  exact this) (fun _ => rfl) (fun _ => rfl)
end Go.Pg
namespace Go.Pg
open Go Go.Proofs

theorem nameF_pos (c : UInt8) : 0 < (nameF c).length := by
  unfold nameF
  repeat' split
  all_goals simp
def prefN (s : List UInt8) (c : Nat) : Bool := prefB s (nameF (UInt8.ofNat c))
def keyOf (s : List UInt8) : Option Nat := findUp (prefN s) 128 0
def parseF : Nat → List UInt8 → Option (List UInt8)
  | _, [] => some []
  | 0, _ :: _ => none
  | f + 1, b :: s => match keyOf (b :: s) with
    | none => none
    | some c => match parseF f ((b :: s).drop (nameF (UInt8.ofNat c)).length) with
      | none => none
      | some r => some (UInt8.ofNat c :: r)
theorem parse_step {f : Nat} {s r : List UInt8} (hs : s ≠ []) (h : parseF f s = some r) : ∃ f' c r', keyOf s = some c ∧ parseF f' (s.drop (nameF (UInt8.ofNat c)).length) = some r' ∧ r = UInt8.ofNat c :: r' := by
  cases s with
  | nil => exact absurd rfl hs
  | cons b s =>
    cases f with
    | zero => unfold parseF at h; cases h
    | succ f =>
      unfold parseF at h
      split at h
      · cases h
      · next c hc =>
        split at h
        · cases h
        · next r' hr =>
          cases h
          exact ⟨f, c, r', hc, hr, rfl⟩
theorem ofNat_small {i : Nat} (h : i < 128) : (UInt8.ofNat i).toNat = i := by
  rw [UInt8.toNat_ofNat']; omega

set_option maxRecDepth 20000 in
set_option maxHeartbeats 8000000 in
theorem calls_RParse (s : List UInt8) (f : Nat) (ks : List UInt8) (hs : s.length ≤ 65536) (hp : parseF f s = some ks) : CallsR Tryz.prog 32 [.str s] [] (.tuple [.sl 1 (ofBytes ks), .bool true]) [] := by
  refine callsR_of (mrg := true) (dyn := []) (CtrOK.cons ok_RName (CtrOK.nil _)) mixed Tryz.func32 rfl (by simp [Tryz.ntmps32]) (by kernel_rfl) ?_
  rw [show Tryz.f32.results.toList = [.tmp 2, .tmp 3] from by kernel_rfl]
  simp (maxSteps := 4000000) only [go_sem]
  refine loopH_intro (α := List UInt8 × List UInt8) (fun x => ([(0, .str x.1), (2, .nls), (3, .bool false), (4, .own 0 1 x.2.length)], [.arr 5 1 (ofBytes x.2)]))
    (fun x => x.1.length ≤ s.length ∧ x.2.length + x.1.length ≤ s.length ∧ ∃ f r, parseF f x.1 = some r ∧ x.2 ++ r = ks) (fun x => x.1.length) (s, []) ⟨by dsimp only; omega, by simp, f, ks, hp, rfl⟩ ?_ ?_
  · simp (maxSteps := 4000000) only [go_sem, reduceCtorEq, Nat.reduceEqDiff]
    all_goals first | rfl | exact ⟨rfl, rfl⟩
  rintro ⟨t, out⟩ ⟨ht, hot, f1, r, hr, ho⟩
  dsimp only at ht hot hr ho
  by_cases hte : t = []
  · subst hte
    have c1 : (([] : List UInt8) != []) = false := rfl
    have hr2 : r = [] := by cases f1 <;> (unfold parseF at hr; cases hr; rfl)
    subst hr2
    rw [List.append_nil] at ho
    subst ho
    simp (maxSteps := 4000000) only [go_sem, reduceCtorEq, Nat.reduceEqDiff]
    all_goals first | rfl | exact ⟨rfl, rfl⟩
  · have c1 : (t == []) = false := beq_eq_false_iff_ne.2 hte
    obtain ⟨f2, c, r', hk, hr', rfl⟩ := parse_step hte hr
    have hk1 := findUp_some hk
    have hk2 := findUp_first hk
    obtain ⟨n, hn⟩ : ∃ n, n = nameF (UInt8.ofNat c) := ⟨_, rfl⟩
    have hnp := nameF_pos (UInt8.ofNat c)
    rw [← hn] at hr' hnp
    have hpc : prefB t n = true := by rw [hn]; exact hk1.2.2
    have hnl : n.length ≤ t.length := by
      unfold prefB at hpc
      rw [Bool.and_eq_true, decide_eq_true_eq] at hpc
      omega
    simp (maxSteps := 4000000) only [go_sem, reduceCtorEq, Nat.reduceEqDiff, c1]
    refine loopH_intro (α := List UInt8 × List UInt8 × Bool × Nat) (fun x => ([(0, .str x.1), (2, .nls), (3, .bool false), (4, .own 0 1 x.2.1.length), (5, .bool x.2.2.1), (6, .int .i64 x.2.2.2)], [.arr 5 1 (ofBytes x.2.1)]))
      (fun x => (x.2.2.1 = false ∧ x.1 = t ∧ x.2.1 = out ∧ x.2.2.2 ≤ c) ∨ (x.2.2.1 = true ∧ x.1 = t.drop n.length ∧ x.2.1 = out ++ [UInt8.ofNat c] ∧ x.2.2.2 = c + 1)) (fun x => 256 - x.2.2.2) (t, out, false, 0) (.inl ⟨rfl, rfl, rfl, Nat.zero_le _⟩) ?_ ?_
    · simp (maxSteps := 4000000) only [go_sem, reduceCtorEq, Nat.reduceEqDiff]
      (repeat' first | exact subX_eq rfl rfl | exact subX_eq rfl (pureB_bytes _) | apply And.intro | rfl | omega)
    rintro ⟨u, o, fd, i⟩ hx
    dsimp only at hx
    rcases hx with ⟨rfl, rfl, rfl, hi⟩ | ⟨rfl, rfl, rfl, rfl⟩
    · have c2 : decide ((i : Int) < 256) = true := decide_eq_true (by omega)
      have w1 : IntKind.i64.wrap ((i : Int) + 1) = ((i + 1 : Nat) : Int) := by rw [wrap64 (by omega) (by omega)]; rfl
      have hin := ofNat_small (i := i) (by omega)
      have w2 : IntKind.u8.wrap (i : Int) = ((UInt8.ofNat i).toNat : Int) := by
        rw [hin]
        show (i : Int) % 256 = _
        omega
      obtain ⟨m, hm⟩ : ∃ m, m = nameF (UInt8.ofNat i) := ⟨_, rfl⟩
      have hpi : prefB u m = prefN u i := by rw [hm]; rfl
      by_cases hic : i = c
      · subst hic
        have hmn : m = n := by rw [hm, hn]
        subst hmn
        have e1 : decide ((u.length : Int) ≥ (m.length : Int)) = true := decide_eq_true (by omega)
        have e2 : (u.take m.length == m) = true := by
          unfold prefB at hpc
          rw [e1, Bool.true_and] at hpc
          exact hpc
        have hap := app1_ofBytes o (UInt8.ofNat i)
        simp (maxSteps := 4000000) only [go_sem, reduceCtorEq, Nat.reduceEqDiff, Nat.reducePow, Nat.reduceLeDiff, tk3, tk5, eb5, tk9, tk30, kRName, c2, w1, w2, ←hm, e1, e2, hap]
        refine ⟨by omega, ⟨by omega, by omega⟩, ⟨by decide, by omega⟩, ⟨by omega, by omega⟩, (u.drop m.length, o ++ [UInt8.ofNat i], true, i + 1), .inr ⟨rfl, rfl, rfl, rfl⟩, by dsimp only; omega, ?_⟩
        (repeat' first | exact subX_eq rfl rfl | exact subX_eq rfl (pureB_bytes _) | apply And.intro | rfl | (simp; done) | omega)
      · have hpf : prefB u m = false := by rw [hpi]; exact hk2 i (by omega) (by omega)
        by_cases hlm : m.length ≤ u.length
        · have e1 : decide ((u.length : Int) ≥ (m.length : Int)) = true := decide_eq_true (by omega)
          have e2 : (u.take m.length == m) = false := by
            unfold prefB at hpf
            rw [e1, Bool.true_and] at hpf
            exact hpf
          simp (maxSteps := 4000000) only [go_sem, reduceCtorEq, Nat.reduceEqDiff, tk3, tk5, tk9, kRName, c2, w1, w2, ←hm, e1, e2]
          refine ⟨by omega, ⟨by omega, by omega⟩, (u, o, false, i + 1), .inl ⟨rfl, rfl, rfl, by dsimp only; omega⟩, by dsimp only; omega, ?_⟩
          (repeat' first | exact subX_eq rfl rfl | exact subX_eq rfl (pureB_bytes _) | apply And.intro | rfl | (simp; done) | omega)
        · have e1 : decide ((u.length : Int) ≥ (m.length : Int)) = false := decide_eq_false (by omega)
          simp (maxSteps := 4000000) only [go_sem, reduceCtorEq, Nat.reduceEqDiff, tk3, tk5, tk9, kRName, c2, w1, w2, ←hm, e1]
          refine ⟨by omega, (u, o, false, i + 1), .inl ⟨rfl, rfl, rfl, by dsimp only; omega⟩, by dsimp only; omega, ?_⟩
          (repeat' first | exact subX_eq rfl rfl | exact subX_eq rfl (pureB_bytes _) | apply And.intro | rfl | (simp; done) | omega)
    · have c2 : decide (((c + 1 : Nat) : Int) < 256) = true := decide_eq_true (by omega)
      simp (maxSteps := 4000000) only [go_sem, reduceCtorEq, Nat.reduceEqDiff, c2]
      refine ⟨(t.drop n.length, out ++ [UInt8.ofNat c]), ⟨by dsimp only; rw [List.length_drop]; omega, by dsimp only; rw [List.length_drop, List.length_append, List.length_singleton]; omega, f2, r', hr', by dsimp only; rw [List.append_assoc]; exact ho⟩, by dsimp only; rw [List.length_drop]; omega, ?_⟩
      (repeat' first | exact subX_eq rfl rfl | exact subX_eq rfl (pureB_bytes _) | apply And.intro | rfl | (simp; done) | omega)
def kRParse : C1 := C1.by [.id] (lOne cStr) (fun d => d.length ≤ 65536 ∧ (parseF d.length d).isSome = true) (fun d => .tuple [.sl 1 (ofBytes ((parseF d.length d).getD [])), .bool true]) (fun _ => [])
theorem ok_RParse : C1OK Tryz.prog 32 kRParse := C1OK.by (by kernel_rfl) (fun d h => by
  obtain ⟨ks, hk⟩ := Option.isSome_iff_exists.1 h.2
  rw [hk]
  exact calls_RParse d d.length ks h.1 hk) (fun _ => rfl) (fun _ => rfl)
theorem calls_Keys (s : List UInt8) (hs : s.length ≤ 65536) (hp : (parseF s.length s).isSome = true) : CallsR Tryz.prog 22 [.str s] [] (.sl 1 (ofBytes ((parseF s.length s).getD []))) [] := by
  refine callsR_of (mrg := true) (dyn := []) (CtrOK.cons ok_RParse (CtrOK.nil _)) mixed Tryz.func22 rfl (by simp [Tryz.ntmps22]) (by kernel_rfl) ?_
  rw [show Tryz.f22.results.toList = [.tmp 2] from by kernel_rfl]
  simp (maxSteps := 4000000) only [go_sem, reduceCtorEq, Nat.reduceEqDiff, kRParse]
  exact ⟨hs, hp⟩
def kKeys : C1 := C1.by [.id] (lOne cStr) (fun d => d.length ≤ 65536 ∧ (parseF d.length d).isSome = true) (fun d => .sl 1 (ofBytes ((parseF d.length d).getD []))) (fun _ => [])
theorem ok_Keys : C1OK Tryz.prog 22 kKeys := C1OK.by (by kernel_rfl) (fun d h => calls_Keys d h.1 h.2) (fun _ => rfl) (fun _ => rfl)
end Go.Pg
namespace Go.Pg
open Go Go.Proofs

def simpleK : List UInt8 := [104, 106, 107, 108, 43, 45, 95, 48, 94, 36, 124, 119, 87, 98, 66, 101, 69, 59, 44, 71, 72, 77, 76, 37, 40, 41, 123, 125, 110, 78, 42, 35]
def argK : List UInt8 := [102, 70, 116, 84, 39, 96]
def restPre (m : List UInt8) : Bool :=
  decide (m.length ≤ 65536) && (decide (0 < m.length) && (simpleK.contains (m.getD 0 0) || (
    (m.getD 0 0 == 103 && (decide (2 ≤ m.length) && [103, 101, 69].contains (m.getD 1 0))) || (
    (argK.contains (m.getD 0 0) && (decide (2 ≤ m.length) && m.getD 1 0 != 27)) || (
    (m.getD 0 0 == 47 || m.getD 0 0 == 63) && patPre (m.drop 1))))))
def restC (m : List UInt8) (cn : Int) : Cm :=
  if simpleK.contains (m.getD 0 0) = true then (0, cn, [], m.take 1, 0, [])
  else if m.getD 0 0 = 103 then (0, cn, [], m.take 2, 0, [])
  else if argK.contains (m.getD 0 0) = true then (0, cn, [], m.take 1, m.getD 1 0, [])
  else (0, cn, [], m.take 1, 0, (m.drop 1).dropLast)
theorem not_in {l : List UInt8} {x c : UInt8} (h : l.contains x = true) (hc : l.contains c = false) : ¬ x = c := fun e => by rw [e, hc] at h; cases h

set_option maxRecDepth 20000 in
set_option maxHeartbeats 8000000 in
theorem calls_Rrest (m : List UInt8) (cn : Int) (h : restPre m = true) :
    CallsR Tryz.prog 20 [.sl 1 (ofBytes m), .agg (aCm (0, cn, [], [], 0, [])), .bool false] [] (.tuple [.int .i64 1, .agg (aCm (restC m cn))]) [] := by
  unfold restPre at h
  rw [Bool.and_eq_true, Bool.and_eq_true, decide_eq_true_eq, decide_eq_true_eq] at h
  obtain ⟨hml, hm0, h⟩ := h
  refine callsR_of (mrg := true) (dyn := []) (CtrOK.cons ok_has (CtrOK.cons ok_Rpattern (CtrOK.nil _))) mixed Tryz.func20 rfl (by simp [Tryz.ntmps20]) (by kernel_rfl) ?_
  rw [show Tryz.f20.results.toList = [.tmp 6, .cell 7 29] from by kernel_rfl]
  obtain ⟨x, hx⟩ : ∃ x, x = m.getD 0 0 := ⟨_, rfl⟩
  have hx0 : List.getD m (Int.toNat 0) 0 = x := hx.symm
  unfold restC
  rw [← hx] at h ⊢
  have m1 : (0 : Int) ≤ (m.length : Int) := by omega
  cases hs : simpleK.contains x with
  | true =>
    rw [if_pos rfl]
    have b1 := byte_lit x 105 105 rfl (not_in hs (by decide))
    have b2 := byte_lit x 97 97 rfl (not_in hs (by decide))
    unfold simpleK at hs
    simp (maxSteps := 4000000) only [go_sem, Nat.reduceAdd, reduceCtorEq, Nat.reduceEqDiff, Int.reduceToNat, Int.reduceLE, Nat.reduceLeDiff, tk5, dz5, tk9, tk29, tz29, dz29, tk30, kHas, ←hx, b1, b2, hs]
    (repeat' first | (show dynOrd _ _ = true; kernel_rfl) | exact subX_eq rfl rfl | exact trivial | apply And.intro | rfl | omega | decide)
  | false =>
    rw [if_neg (by simp)]
    rw [hs, Bool.false_or] at h
    unfold simpleK at hs
    by_cases hg : x = 103
    · rw [if_pos hg]
      subst hg
      have h2 : (((103 : UInt8) == 103) && (decide (2 ≤ m.length) && [103, 101, 69].contains (m.getD 1 0))) = true := by
        rw [Bool.or_eq_true] at h
        rcases h with h | h
        · exact h
        · exact absurd h (by simp [argK])
      rw [Bool.and_eq_true, Bool.and_eq_true, decide_eq_true_eq] at h2
      obtain ⟨_, h3, h4⟩ := h2
      have c1 : decide ((m.length : Int) < 2) = false := decide_eq_false (by omega)
      simp (maxSteps := 4000000) only [go_sem, Nat.reduceAdd, reduceCtorEq, Nat.reduceEqDiff, Int.reduceToNat, Int.reduceLE, Int.reduceLT, UInt8.reduceOfNat, Int.reduceBEq, Nat.reduceLeDiff, tk5, dz5, tk9, tk29, tz29, dz29, tk30, kHas, ←hx, hs, UInt8.reduceToNat, c1, h4]
      (repeat' first | (show dynOrd _ _ = true; kernel_rfl) | exact subX_eq rfl rfl | exact trivial | apply And.intro | rfl | omega | decide)
    · rw [if_neg hg]
      have hg2 : (x == 103) = false := beq_eq_false_iff_ne.2 hg
      rw [hg2, Bool.false_and, Bool.false_or] at h
      have bg := byte_lit x 103 103 rfl hg
      cases ha : argK.contains x with
      | true =>
        rw [if_pos rfl]
        have h2 : (decide (2 ≤ m.length) && m.getD 1 0 != 27) = true := by
          rw [ha, Bool.true_and, Bool.or_eq_true] at h
          rcases h with h | h
          · exact h
          · rw [Bool.and_eq_true, Bool.or_eq_true, beq_iff_eq, beq_iff_eq] at h
            rcases h.1 with h | h
            · exact absurd h (not_in ha (by decide))
            · exact absurd h (not_in ha (by decide))
        rw [Bool.and_eq_true, decide_eq_true_eq, bne_iff_ne] at h2
        have b1 := byte_lit x 105 105 rfl (not_in ha (by decide))
        have b2 := byte_lit x 97 97 rfl (not_in ha (by decide))
        have b3 := byte_lit x 13 13 rfl (not_in ha (by decide))
        have c1 : decide ((m.length : Int) < 2) = false := decide_eq_false (by omega)
        have b4 := byte_lit (m.getD 1 0) 27 27 rfl h2.2
        unfold argK at ha
        simp (maxSteps := 4000000) only [go_sem, Nat.reduceAdd, reduceCtorEq, Nat.reduceEqDiff, Int.reduceToNat, Int.reduceLE, Nat.reduceLeDiff, tk5, dz5, tk9, tk29, tz29, dz29, tk30, kHas, ←hx, b1, b2, b3, b4, bg, hs, ha, c1]
        (repeat' first | (show dynOrd _ _ = true; kernel_rfl) | exact subX_eq rfl rfl | exact trivial | apply And.intro | rfl | omega | decide)
      | false =>
        rw [if_neg (by simp)]
        rw [ha, Bool.false_and, Bool.false_or, Bool.and_eq_true, Bool.or_eq_true, beq_iff_eq, beq_iff_eq] at h
        unfold argK at ha
        obtain ⟨h1, h2⟩ := h
        rcases h1 with rfl | rfl
        all_goals
          simp (maxSteps := 4000000) only [go_sem, Nat.reduceAdd, reduceCtorEq, Nat.reduceEqDiff, Int.reduceToNat, Int.reduceLE, Int.reduceLT, UInt8.reduceOfNat, Int.reduceBEq, Nat.reduceLeDiff, tk5, dz5, tk9, tk29, tz29, dz29, tk30, kHas, kRPattern, ←hx, hs, ha, UInt8.reduceToNat]
          (repeat' first | exact h2 | (show dynOrd _ _ = true; kernel_rfl) | exact subX_eq rfl rfl | exact trivial | apply And.intro | rfl | omega | decide)
end Go.Pg
namespace Go.Pg
open Go Go.Proofs

/-- Keys of a motion, a count ahead. -/
def tryPre (k : List UInt8) : Bool :=
  decide (k.length ≤ 65536) && (decide ((numR k 0 0).2 < k.length) && (k.getD 0 0 != 34 && (k.getD (numR k 0 0).2 0 != 34 && (k.getD (numR k 0 0).2 0 != 27 && (
    ![100, 99, 121, 60, 62].contains (k.getD (numR k 0 0).2 0) && (
    !(k.getD (numR k 0 0).2 0 == 103 && (decide ((numR k 0 0).2 + 1 < k.length) && [126, 117, 85].contains (k.getD ((numR k 0 0).2 + 1) 0))) && restPre (k.drop (numR k 0 0).2)))))))
def tryC (k : List UInt8) : Cm := restC (k.drop (numR k 0 0).2) (numR k 0 0).1
def kRRest : C1 := C1.by [.sl 1 [], .id, .id] (lCons (cSl 1 cByte) (lCons (cAgg lCmR) (lOne cBool))) (fun d => d.2.1 = (0, d.2.1.2.1, [], [], 0, []) ∧ d.2.2 = false ∧ restPre d.1 = true) (fun d => .tuple [.int .i64 1, .agg (aCm (restC d.1 d.2.1.2.1))]) (fun _ => [])
theorem ok_Rrest : C1OK Tryz.prog 20 kRRest := C1OK.by (by kernel_rfl) (fun d h => by
  obtain ⟨m, c, v⟩ := d
  obtain ⟨h1, rfl, h3⟩ := h
  dsimp only at h1
  have := calls_Rrest m c.2.1 h3
  rw [← h1] at this
  exact this) (fun _ => rfl) (fun _ => rfl)
theorem numL_same : ∀ (t : List UInt8) (n : Int) (i : Nat), (numL t n i).2 = i → (numL t n i).1 = n
  | [], _, _, _ => rfl
  | b :: t, n, i, h => by
    unfold numL at h ⊢
    split at h
    · next hb =>
      have hr := isNum_range hb
      have : ∀ (t : List UInt8) (n : Int) (i : Nat), i ≤ (numL t n i).2 := by
        intro t
        induction t with
        | nil => intro n i; exact Nat.le_refl _
        | cons b t ih =>
          intro n i
          unfold numL
          split
          · exact Nat.le_trans (Nat.le_succ i) (ih _ _)
          · exact Nat.le_refl _
      have := this t (min (10 * n + ((b.toNat : Int) - 48)) 9999) (i + 1)
      omega
    · next hb => rw [if_neg hb]
set_option maxRecDepth 20000 in
set_option maxHeartbeats 8000000 in
theorem calls_RTry (k : List UInt8) (h : tryPre k = true) :
    CallsR Tryz.prog 10 [.sl 1 (ofBytes k), .bool false] [] (.tuple [.int .i64 1, .agg (aCm (tryC k))]) [] := by
  unfold tryPre at h
  unfold tryC
  have hin := numL_in (k.drop 0) 0 0 (by omega) (by omega)
  have hst := numR_stop k 0 0 (by omega) (by omega)
  have hdef : numR k 0 0 = numL (k.drop 0) 0 0 := rfl
  rw [← hdef] at hin
  obtain ⟨R, hR⟩ : ∃ R, R = numR k 0 0 := ⟨_, rfl⟩
  rw [← hR] at h hin hst ⊢
  obtain ⟨n, i⟩ := R
  dsimp only at h hin hst ⊢
  simp only [Bool.and_eq_true, decide_eq_true_eq, bne_iff_ne, Bool.not_eq_true'] at h
  obtain ⟨h1, h2, h3, h4, h5, h6, h7, h8⟩ := h
  obtain ⟨i1, i2, i3, i4⟩ := hin
  refine callsR_of (mrg := true) (dyn := []) (CtrOK.cons ok_has (CtrOK.cons ok_Rnumber (CtrOK.cons ok_Rrest (CtrOK.nil _)))) mixed Tryz.func10 rfl (by simp [Tryz.ntmps10]) (by kernel_rfl) ?_
  rw [show Tryz.f10.results.toList = [.tmp 4, .cell 5 29] from by kernel_rfl]
  obtain ⟨x, hx⟩ : ∃ x, x = k.getD i 0 := ⟨_, rfl⟩
  rw [← hx] at h4 h5 h6 h7
  have b34 := byte_lit x 34 34 rfl h4
  have b27 := byte_lit x 27 27 rfl h5
  have k34 := byte_lit (k.getD 0 0) 34 34 rfl h3
  have c1 : decide ((i : Int) < (k.length : Int)) = true := decide_eq_true (by omega)
  have c2 : ((i : Int) == (k.length : Int)) = false := beq_eq_false_iff_ne.2 (by omega)
  simp (maxSteps := 4000000) only [go_sem, Nat.reduceAdd, tz29]
  refine loopH_intro (α := Int × Nat) (fun s => ([(0, .sl 1 (ofBytes k)), (1, .bool false), (4, .int .i64 0), (5, .ptr 0 6 1 0 0), (6, .ptr 1 6 1 0 0), (7, .int .i64 s.2), (8, .int .i64 s.1), (9, .int .i64 0)], [.arr 29 6 [.agg [.int .u8 0, .int .i64 0, .str [], .str [], .int .u8 0, .str []]], .arr 29 6 [.agg [.int .u8 0, .int .i64 0, .str [], .str [], .int .u8 0, .str []]]]))
    (fun s => s = (0, 0) ∨ s = (n, i)) (fun s => k.length - s.2) (0, 0) (.inl rfl) ?_ ?_
  · simp (maxSteps := 4000000) only [go_sem, reduceCtorEq, Nat.reduceEqDiff]
    (repeat' first | exact subX_eq rfl rfl | apply And.intro | rfl | omega)
  intro s hs
  have hsame := numL_same (k.drop 0) 0 0
  rw [← hdef, ← hR] at hsame
  dsimp only at hsame
  have hs2 : s = (n, i) ∨ (s = (0, 0) ∧ 0 < i) := by
    rcases hs with hs | hs
    · by_cases hi0 : i = 0
      · have := hsame hi0
        subst hi0
        subst this
        exact .inl hs
      · exact .inr ⟨hs, by omega⟩
    · exact .inl hs
  rcases hs2 with rfl | ⟨rfl, hi0⟩
  · have hmul : IntKind.i64.wrap (max n 1 * max 0 1) = max n 1 := by
      have : max n 1 * max 0 1 = max n 1 := by rw [show max (0 : Int) 1 = 1 by decide, Int.mul_one]
      rw [this]; exact wrap64 (by omega) (by omega)
    have D : (decide (n > 0) = true ∧ n = min (max n 1) 9999) ∨ (decide (n > 0) = false ∧ n = 0) := by
      by_cases e : n > 0
      · exact .inl ⟨decide_eq_true e, by omega⟩
      · exact .inr ⟨decide_eq_false e, by omega⟩
    have D2 : ((((x.toNat : Int) == 103) = false) ∧ ((x.toNat : Int) == 103) = false ∧ ((x.toNat : Int) == 103) = false)
        ∨ (((x.toNat : Int) == 103) = true ∧ decide (((i + 1 : Nat) : Int) < (k.length : Int)) = false ∧ decide (((i + 1 : Nat) : Int) < (k.length : Int)) = false)
        ∨ (((x.toNat : Int) == 103) = true ∧ decide (((i + 1 : Nat) : Int) < (k.length : Int)) = true ∧ [126, 117, 85].contains (k.getD (i + 1) 0) = false) := by
      by_cases e : x = 103
      · have e2 : (x == 103) = true := beq_iff_eq.2 e
        rw [e2, Bool.true_and, Bool.and_eq_false_iff] at h7
        by_cases e3 : i + 1 < k.length
        · rcases h7 with h7 | h7
          · rw [decide_eq_true e3] at h7; cases h7
          · exact .inr (.inr ⟨lit_eq x 103 103 rfl e, decide_eq_true (by omega), h7⟩)
        · exact .inr (.inl ⟨lit_eq x 103 103 rfl e, decide_eq_false (by omega), decide_eq_false (by omega)⟩)
      · have := byte_lit x 103 103 rfl e
        exact .inl ⟨this, this, this⟩
    have w1 : IntKind.i64.wrap ((i : Int) + 1) = ((i + 1 : Nat) : Int) := by rw [wrap64 (by omega) (by omega)]; rfl
    have D3 : decide ((i : Int) > 0) = true ∨ decide ((i : Int) > 0) = false := by cases decide ((i : Int) > 0) <;> simp
    obtain ⟨m, hm⟩ : ∃ m, m = k.drop i := ⟨_, rfl⟩
    rw [← hm] at h8 ⊢
    obtain ⟨g, hg⟩ : ∃ g, g = restC m n := ⟨_, rfl⟩
    obtain ⟨y1, y2, y3, y4, y5, y6⟩ := g
    rw [← hg]
    rcases D with ⟨d1, d2⟩ | ⟨d1, d2⟩
    · have d2 := d2.symm
      all_goals
        rcases D3 with d3 | d3
        all_goals
          rcases D2 with ⟨f1, f2, f3⟩ | ⟨f1, f2, f3⟩ | ⟨f1, f2, f3⟩
          all_goals
            simp (maxSteps := 4000000) only [go_sem, Nat.reduceAdd, reduceCtorEq, Nat.reduceEqDiff, Int.reduceToNat, Int.reduceLE, Int.reduceLT, UInt8.reduceOfNat, Nat.reduceLeDiff, tk3, tk5, dz5, tk9, tk29, dz29, tk30, kHas, kRNumber, kRRest, c1, c2, ←hx, b34, b27, hst, h6, d1, d3, f1, f2, f3, w1, hmul, d2, ←hm, ←hg]
            (repeat' first | exact h1 | exact h8 | exact rfl | (show dynOrd _ _ = true; kernel_rfl) | exact subX_eq rfl rfl | exact trivial | apply And.intro | rfl | omega | (have := of_decide_eq_true f2; omega) | decide)
    · subst d2
      all_goals
        rcases D3 with d3 | d3
        all_goals
          rcases D2 with ⟨f1, f2, f3⟩ | ⟨f1, f2, f3⟩ | ⟨f1, f2, f3⟩
          all_goals
            simp (maxSteps := 4000000) only [go_sem, Nat.reduceAdd, reduceCtorEq, Nat.reduceEqDiff, Int.reduceToNat, Int.reduceLE, Int.reduceLT, UInt8.reduceOfNat, Nat.reduceLeDiff, tk5, dz5, tk9, tk29, dz29, tk30, kHas, kRNumber, kRRest, c1, c2, ←hx, b34, b27, hst, h6, gt_iff_lt, Int.lt_irrefl, decide_false, d3, f1, f2, f3, w1, ←hm, ←hg]
            (repeat' first | exact h1 | exact h8 | exact rfl | (show dynOrd _ _ = true; kernel_rfl) | exact subX_eq rfl rfl | exact trivial | apply And.intro | rfl | omega | (have := of_decide_eq_true f2; omega) | decide)
  · have c0 : decide ((0 : Int) < (k.length : Int)) = true := decide_eq_true (by omega)
    have c5 : ((i : Int) == 0) = false := beq_eq_false_iff_ne.2 (by omega)
    have hR2 : numR k 0 0 = (n, i) := hR.symm
    have hz : (((0 : Int), (0 : Nat)).2 : Int) = 0 := rfl
    simp (maxSteps := 4000000) only [go_sem, Nat.reduceAdd, reduceCtorEq, Nat.reduceEqDiff, Int.reduceToNat, Int.reduceLE, tk5, dz5, tk30, kHas, kRNumber, hz, c0, k34, c5, hR2]
    (repeat' first | exact h1 | exact ⟨(n, i), .inr rfl, by dsimp only; omega, by decide, subX_eq rfl rfl, rfl, rfl⟩ | apply And.intro | rfl | omega)
def kRTry : C1 := C1.by [.sl 1 [], .id] (lCons (cSl 1 cByte) (lOne cBool)) (fun d => d.2 = false ∧ tryPre d.1 = true) (fun d => .tuple [.int .i64 1, .agg (aCm (tryC d.1))]) (fun _ => [])
theorem ok_RTry : C1OK Tryz.prog 10 kRTry := C1OK.by (by kernel_rfl) (fun d h => by
  obtain ⟨k, v⟩ := d
  obtain ⟨rfl, h2⟩ := h
  exact calls_RTry k h2) (fun _ => rfl) (fun _ => rfl)

def motS : Ls := [[104], [106], [107], [108], [48], [94], [36], [119], [98], [101], [103, 101], [87], [66], [69], [103, 69], [102, 97], [70, 97], [116, 111], [84, 111], [59], [44], [71], [103, 103], [72], [77], [76], [37], [123], [125], [40], [41], [43], [45], [95], [51, 124], [47, 102, 111, 111, 60, 67, 82, 62], [63, 97, 60, 67, 82, 62], [110], [78], [42], [35], [39, 97], [96, 97], [39, 39], [96, 96], [50, 119], [51, 106], [50, 107], [53, 108], [50, 101], [51, 98], [102, 120], [116, 120], [50, 102, 97], [39, 98], [49, 48, 71], [50, 103, 103]]
def parseG (s : List UInt8) : List UInt8 := (parseF s.length s).getD []
/-- A motion's keys, by its number. -/
def motK (n : UInt8) : List UInt8 := parseG (motS.getD (n.toNat % 57) [])
theorem mot_ok : motS.all (fun s => (parseF s.length s).isSome && (decide (s.length ≤ 65536) && tryPre (parseG s))) = true := by kernel_rfl
theorem mot_len : motS.length = 57 := by rfl
theorem mot_at (n : UInt8) : (parseF (motS.getD (n.toNat % 57) []).length (motS.getD (n.toNat % 57) [])).isSome = true ∧ (motS.getD (n.toNat % 57) []).length ≤ 65536 ∧ tryPre (motK n) = true := by
  have hlt : n.toNat % 57 < motS.length := by rw [mot_len]; omega
  have h := List.all_eq_true.1 mot_ok _ (List.getElem_mem hlt)
  unfold motK
  rw [List.getD_eq_getElem?_getD, List.getElem?_eq_getElem hlt]
  simp only [Bool.and_eq_true, decide_eq_true_eq] at h
  exact ⟨h.1, h.2.1, h.2.2⟩
set_option maxRecDepth 20000 in
set_option maxHeartbeats 8000000 in
theorem calls_Motions : CallsR Tryz.prog 21 [] [] (.sl 1 (motS.map .str)) [] := by
  refine callsR_of (mrg := true) (dyn := []) (CtrOK.nil _) mixed Tryz.func21 rfl (by simp [Tryz.ntmps21]) (by kernel_rfl) ?_
  rw [show Tryz.f21.results.toList = [.tmp 0] from by kernel_rfl]
  simp (maxSteps := 4000000) only [go_sem, Nat.reduceAdd, reduceCtorEq, Nat.reducePow, Nat.reduceLeDiff, eb9, tk22]
  (repeat' first | exact rfl | exact subX_eq rfl rfl | apply And.intro | decide)
def kMotions : C1 := C1.by [] lNil (fun _ => True) (fun _ => .sl 1 (motS.map .str)) (fun _ => [])
theorem ok_Motions : C1OK Tryz.prog 21 kMotions := C1OK.by (by kernel_rfl) (fun _ _ => calls_Motions) (fun _ => by kernel_rfl) (fun _ => rfl)
set_option maxHeartbeats 4000000 in
theorem calls_Motion (n : UInt8) : CallsR Tryz.prog 11 [byteA n] [] (.sl 1 (ofBytes (motK n))) [] := by
  refine callsR_of (mrg := true) (dyn := []) (CtrOK.cons ok_Motions (CtrOK.cons ok_Keys (CtrOK.nil _))) mixed Tryz.func11 rfl (by simp [Tryz.ntmps11]) (by kernel_rfl) ?_
  rw [show Tryz.f11.results.toList = [.tmp 2] from by kernel_rfl]
  have hn : n.toNat < 256 := n.toNat_lt
  have hl := mot_len
  obtain ⟨h1, h2, h3⟩ := mot_at n
  unfold motK parseG
  have w1 : IntKind.i64.wrap (n.toNat : Int) = (n.toNat : Int) := wrap64 (by omega) (by omega)
  have w2 : (n.toNat : Int).tmod (motS.length : Int) = ((n.toNat % 57 : Nat) : Int) := by rw [hl, Int.tmod_eq_emod_of_nonneg (by omega)]; omega
  have hlt : n.toNat % 57 < motS.length := by rw [hl]; omega
  simp (maxSteps := 4000000) only [go_sem, reduceCtorEq, Nat.reduceEqDiff, tk3, tk5, tk9, dz9, tk22, kMotions, kKeys, w1, w2]
  (repeat' first | exact h1 | exact h2 | exact hlt | apply And.intro | rfl | (rw [hl]; omega) | omega)
def kMotion : C1 := C1.by [.id] (lOne cByte) (fun _ => True) (fun d => .sl 1 (ofBytes (motK d))) (fun _ => [])
theorem ok_Motion : C1OK Tryz.prog 11 kMotion := C1OK.by (by kernel_rfl) (fun d _ => calls_Motion d) (fun _ => rfl) (fun _ => rfl)
end Go.Pg
