/- Plain laws of what is shifted, or cased, twice. -/
import Derived.Test.YtefihnkbelhneaaDoorPgFs14
import Derived.Test.YtefihnkbelhneaaDoorPgFs50
import Derived.Test.YtefihnkbelhneaaDoorPgFs53
import Derived.Test.YtefihnkbelhneaaDoorPgFs56
namespace Go.Pg
open Go Go.Proofs

/-- Lines f to t made anew. -/
def nowL (ls : Ls) (f t : Int) (G : Int → List UInt8) : Ls := ls.take f.toNat ++ eachL f t G ++ ls.drop (t + 1).toNat

theorem eachL_length (f t : Int) (G : Int → List UInt8) : (eachL f t G).length = (t + 1 - f).toNat := by simp [eachL]
theorem cutLs_length (ls : Ls) (f t : Int) (h0 : 0 ≤ f) (h1 : f ≤ t) (h2 : t < ls.length) : (cutL ls f.toNat (t + 1).toNat).length = (t + 1 - f).toNat := by
  unfold cutL; rw [List.length_take, List.length_drop]; omega

theorem applyL_now (ls : Ls) (f t : Int) (G : Int → List UInt8) (h0 : 0 ≤ f) (h1 : f ≤ t) (h2 : t < ls.length) :
    applyL ls [(f, cutL ls f.toNat (t + 1).toNat, eachL f t G)] = (nowL ls f t G, true) := by
  have n1 := cutLs_length ls f t h0 h1 h2
  have n2 := eachL_length f t G
  have e : apply1 ls (f, cutL ls f.toNat (t + 1).toNat, eachL f t G) = _ := if_neg ?_
  · rw [applyL1, e, if_pos rfl]
    simp only [nowL, n1]
    rw [show f.toNat + (t + 1 - f).toNat = (t + 1).toNat by omega]
  · intro h
    dsimp only at h
    rw [show f + ((cutL ls f.toNat (t + 1).toNat).length : Int) = t + 1 by omega] at h
    simp only [beq_self_eq_true, Bool.not_true, Bool.or_false, Bool.or_eq_true, decide_eq_true_eq, beq_iff_eq] at h
    omega

theorem nowL_length (ls : Ls) (f t : Int) (G : Int → List UInt8) (h0 : 0 ≤ f) (h1 : f ≤ t) (h2 : t < ls.length) : (nowL ls f t G).length = ls.length := by
  have n2 := eachL_length f t G
  simp only [nowL, List.length_append, List.length_take, List.length_drop, n2]
  omega

theorem eachL_getD (f t : Int) (G : Int → List UInt8) (i : Int) (h1 : f ≤ i) (h2 : i ≤ t) : (eachL f t G)[(i - f).toNat]? = some (G i) := by
  have hk : (i - f).toNat < (t + 1 - f).toNat := by omega
  simp only [eachL, List.getElem?_map, List.getElem?_range hk, Option.map_some]
  rw [show f + (((i - f).toNat : Nat) : Int) = i by omega]

theorem nowL_getD (ls : Ls) (f t : Int) (G : Int → List UInt8) (h0 : 0 ≤ f) (h2 : t < ls.length) (i : Int) (hi1 : f ≤ i) (hi2 : i ≤ t) : (nowL ls f t G).getD i.toNat [] = G i := by
  have hl : (ls.take f.toNat).length = f.toNat := by rw [List.length_take]; omega
  have n2 := eachL_length f t G
  unfold nowL
  rw [List.getD_eq_getElem?_getD, List.append_assoc, List.getElem?_append_right (by omega), hl, List.getElem?_append_left (by omega), show i.toNat - f.toNat = (i - f).toNat by omega, eachL_getD f t G i hi1 hi2]
  rfl

theorem nowL_fits {n b : Nat} {ls : Ls} (hf : fits n b ls) (f t : Int) (G : Int → List UInt8) (h0 : 0 ≤ f) (h1 : f ≤ t) (h2 : t < ls.length) {b' : Nat} (hb : b ≤ b') (hG : ∀ i, f ≤ i → i ≤ t → (G i).length ≤ b') : fits n b' (nowL ls f t G) := by
  refine ⟨by rw [nowL_length ls f t G h0 h1 h2]; exact hf.1, fun s hs => ?_⟩
  simp only [nowL, List.mem_append] at hs
  rcases hs with (hs | hs) | hs
  · exact Nat.le_trans (hf.2 s (List.mem_of_mem_take hs)) hb
  · simp only [eachL, List.mem_map, List.mem_range] at hs
    obtain ⟨k, hk, rfl⟩ := hs
    exact hG _ (by omega) (by omega)
  · exact Nat.le_trans (hf.2 s (List.mem_of_mem_drop hs)) hb

theorem eachL_back (ls : Ls) (f t : Int) (G : Int → List UInt8) (h0 : 0 ≤ f) (h1 : f ≤ t) (h2 : t < ls.length) (hG : ∀ i, f ≤ i → i ≤ t → G i = ls.getD i.toNat []) : eachL f t G = cutL ls f.toNat (t + 1).toNat := by
  have n1 := cutLs_length ls f t h0 h1 h2
  have n2 := eachL_length f t G
  refine List.ext_getElem? fun k => ?_
  by_cases hk : k < (t + 1 - f).toNat
  · have a := eachL_getD f t G (f + k) (by omega) (by omega)
    rw [show (f + (k : Int) - f).toNat = k by omega] at a
    rw [a, hG (f + k) (by omega) (by omega)]
    unfold cutL
    rw [List.getElem?_take_of_lt (by omega), List.getElem?_drop, show (f + (k : Int)).toNat = f.toNat + k by omega, List.getD_eq_getElem?_getD, List.getElem?_eq_getElem (show f.toNat + k < ls.length by omega)]
    rfl
  · rw [List.getElem?_eq_none (by omega), List.getElem?_eq_none (by omega)]

theorem dropB_rep (k : Nat) (s : List UInt8) : dropB k (List.replicate k 32 ++ s) = s := by
  induction k with
  | zero => exact dropB_zero s
  | succ k ih =>
    rw [List.replicate_succ, List.cons_append]
    show (if blank 32 = true then _ else _) = s
    rw [if_pos (by decide), ih]

theorem shift_twice (s : List UInt8) (k : Int) : shiftS (shiftS s k false) k true = s := by
  have e : shiftS s k false = if (s == []) = true then s else List.replicate (k * 4).toNat 32 ++ s := if_neg (by decide)
  rw [e]
  show dropB (k * 4).toNat _ = s
  split
  · next h =>
    have : s = [] := by simpa using h
    rw [this, dropB_nil]
  · exact dropB_rep _ s

theorem shiftS_len (s : List UInt8) (k : Int) (h0 : 0 ≤ k) (h : k ≤ 3) : (shiftS s k false).length ≤ s.length + 12 := by
  have e : shiftS s k false = if (s == []) = true then s else List.replicate (k * 4).toNat 32 ++ s := if_neg (by decide)
  rw [e]
  split
  · omega
  · rw [List.length_append, List.length_replicate]; omega

theorem shift_back (ls : Ls) (f t k : Int) (hf : fits 40 1200 ls) (h0 : 0 ≤ f) (h1 : f ≤ t) (h2 : t < ls.length) (k1 : 1 ≤ k) (k2 : k ≤ 3) :
    ∃ O N now M : Ls, shift ls f t k false = ((f, O, N), true) ∧ applyL ls [(f, O, N)] = (now, true) ∧ shift now f t k true = ((f, M, O), true) ∧ fits 40 1300 now ∧ O.length ≤ 40 ∧ N.length ≤ 40 := by
  have hl := hf.1
  have hk : min k 1024 = k := by omega
  have ap := applyL_now ls f t (fun i => shiftS (ls.getD i.toNat []) k false) h0 h1 h2
  have hG := fun i a b => nowL_getD ls f t (fun i => shiftS (ls.getD i.toNat []) k false) h0 h2 i a b
  have hn := nowL_length ls f t (fun i => shiftS (ls.getD i.toNat []) k false) h0 h1 h2
  have ft : fits 40 1300 (nowL ls f t (fun i => shiftS (ls.getD i.toNat []) k false)) := nowL_fits hf f t _ h0 h1 h2 (by omega) (fun i _ _ => by
    have := shiftS_len (ls.getD i.toNat []) k (by omega) k2
    have := fits_getD hf i.toNat
    omega)
  have n1 := cutLs_length ls f t h0 h1 h2
  have n2 := eachL_length f t (fun i => shiftS (ls.getD i.toNat []) k false)
  refine ⟨_, _, _, cutL (nowL ls f t (fun i => shiftS (ls.getD i.toNat []) k false)) f.toNat (t + 1).toNat, ?_, ap, ?_, ft, by omega, by omega⟩
  · unfold shift
    rw [hk, if_neg (by simp only [Bool.or_eq_true, decide_eq_true_eq]; omega)]
  · unfold shift
    rw [hk, if_neg (by simp only [Bool.or_eq_true, decide_eq_true_eq, hn]; omega)]
    have := eachL_back ls f t (fun i => shiftS ((nowL ls f t (fun i => shiftS (ls.getD i.toNat []) k false)).getD i.toNat []) k true) h0 h1 h2 (fun i a b => by
      simp only [hG i a b]
      exact shift_twice _ k)
    rw [this]

theorem caseB_nat : ∀ n, n < 256 → caseB true true (caseB true true (UInt8.ofNat n)) = UInt8.ofNat n := by decide +kernel
theorem caseB_twice (x : UInt8) : caseB true true (caseB true true x) = x := by
  have := caseB_nat x.toNat x.toNat_lt
  rwa [UInt8.ofNat_toNat] at this

theorem turn3_twice (A B C : List UInt8) (g : UInt8 → UInt8) (hg : ∀ x, g (g x) = x) :
    (A ++ B.map g ++ C).take A.length ++ (((A ++ B.map g ++ C).drop A.length).take B.length).map g ++ (A ++ B.map g ++ C).drop (A.length + B.length) = A ++ B ++ C := by
  have e1 : (A ++ B.map g ++ C).take A.length = A := by simp
  have e2 : ((A ++ B.map g ++ C).drop A.length).take B.length = B.map g := by
    rw [List.append_assoc, List.drop_left]
    have : B.length = (B.map g).length := by simp
    rw [this, List.take_left]
  have e3 : (A ++ B.map g ++ C).drop (A.length + B.length) = C := by
    have : A.length + B.length = (A ++ B.map g).length := by simp
    rw [this, List.drop_left]
  rw [e1, e2, e3, List.map_map]
  congr 2
  have : g ∘ g = id := funext hg
  rw [this, List.map_id]

theorem turn_twice (s : List UInt8) (a b : Nat) (g : UInt8 → UInt8) (hg : ∀ x, g (g x) = x) (h1 : a ≤ b) (h2 : b ≤ s.length) :
    (s.take a ++ (cutL s a b).map g ++ s.drop b).length = s.length ∧
    (s.take a ++ (cutL s a b).map g ++ s.drop b).take a ++ (cutL (s.take a ++ (cutL s a b).map g ++ s.drop b) a b).map g ++ (s.take a ++ (cutL s a b).map g ++ s.drop b).drop b = s := by
  have hA : (s.take a).length = a := by rw [List.length_take]; omega
  have hB : ((s.drop a).take (b - a)).length = b - a := by rw [List.length_take, List.length_drop]; omega
  have hs : s.take a ++ (s.drop a).take (b - a) ++ s.drop b = s := by
    have e1 : s.take a ++ (s.drop a).take (b - a) = s.take b := by
      rw [show b = a + (b - a) by omega, List.take_add]
      congr 2; omega
    rw [e1, List.take_append_drop]
  have := turn3_twice (s.take a) ((s.drop a).take (b - a)) (s.drop b) g hg
  rw [hA, hB, hs, show a + (b - a) = b by omega] at this
  unfold cutL
  exact ⟨by simp only [List.length_append, List.length_map, List.length_take, List.length_drop]; omega, this⟩

theorem turnLine_twice {ls now : Ls} {r : Rg} (hv : valid ls r = true) (g : UInt8 → UInt8) (hg : ∀ x, g (g x) = x) (i : Int) (h1 : r.2.1 ≤ i) (h2 : i ≤ r.2.2.2.1) (hn : now.getD i.toNat [] = turnLine g ls r i) :
    (turnLine g ls r i).length = (ls.getD i.toNat []).length ∧ turnLine g now r i = ls.getD i.toNat [] := by
  obtain ⟨a1, a2, a3, a4, a5⟩ := cols_ok hv i h1 h2
  obtain ⟨e1, e2⟩ := turn_twice (ls.getD i.toNat []) (cols (ls.getD i.toNat []).length r i).1.toNat (cols (ls.getD i.toNat []).length r i).2.toNat g hg (by omega) (by omega)
  have e0 : turnLine g ls r i = (ls.getD i.toNat []).take (cols (ls.getD i.toNat []).length r i).1.toNat ++ (cutL (ls.getD i.toNat []) (cols (ls.getD i.toNat []).length r i).1.toNat (cols (ls.getD i.toNat []).length r i).2.toNat).map g ++ (ls.getD i.toNat []).drop (cols (ls.getD i.toNat []).length r i).2.toNat := rfl
  have hlen : (turnLine g ls r i).length = (ls.getD i.toNat []).length := by rw [e0]; exact e1
  refine ⟨hlen, ?_⟩
  have e3 : turnLine g now r i = (now.getD i.toNat []).take (cols (now.getD i.toNat []).length r i).1.toNat ++ (cutL (now.getD i.toNat []) (cols (now.getD i.toNat []).length r i).1.toNat (cols (now.getD i.toNat []).length r i).2.toNat).map g ++ (now.getD i.toNat []).drop (cols (now.getD i.toNat []).length r i).2.toNat := rfl
  rw [e3, hn, hlen, e0]
  exact e2

theorem case_back (ls : Ls) (r : Rg) (hf : fits 40 1200 ls) (hv : valid ls r = true) :
    ∃ O N now M : Ls, kase ls r [126] = ((r.2.1, O, N), true) ∧ applyL ls [(r.2.1, O, N)] = (now, true) ∧ kase now r [126] = ((r.2.1, M, O), true) ∧ fits 40 1300 now ∧ O.length ≤ 40 ∧ N.length ≤ 40 := by
  obtain ⟨h0, h1, h2⟩ := valid_line hv
  have hl := hf.1
  have ap := applyL_now ls r.2.1 r.2.2.2.1 (turnLine (caseB true true) ls r) h0 h1 h2
  have hG := fun i a b => nowL_getD ls r.2.1 r.2.2.2.1 (turnLine (caseB true true) ls r) h0 h2 i a b
  have hn := nowL_length ls r.2.1 r.2.2.2.1 (turnLine (caseB true true) ls r) h0 h1 h2
  have tw := fun i a b => turnLine_twice hv (caseB true true) caseB_twice i a b (hG i a b)
  have ft : fits 40 1300 (nowL ls r.2.1 r.2.2.2.1 (turnLine (caseB true true) ls r)) := nowL_fits hf _ _ _ h0 h1 h2 (by omega) (fun i a b => by
    rw [(tw i a b).1]
    have := fits_getD hf i.toNat
    omega)
  have n1 := cutLs_length ls r.2.1 r.2.2.2.1 h0 h1 h2
  have n2 := eachL_length r.2.1 r.2.2.2.1 (turnLine (caseB true true) ls r)
  have lf : ((nowL ls r.2.1 r.2.2.2.1 (turnLine (caseB true true) ls r)).getD r.2.1.toNat []).length = (ls.getD r.2.1.toNat []).length := by rw [hG _ (by omega) h1, (tw _ (by omega) h1).1]
  have lt : ((nowL ls r.2.1 r.2.2.2.1 (turnLine (caseB true true) ls r)).getD r.2.2.2.1.toNat []).length = (ls.getD r.2.2.2.1.toNat []).length := by rw [hG _ h1 (by omega), (tw _ h1 (by omega)).1]
  have bk := eachL_back ls r.2.1 r.2.2.2.1 (turnLine (caseB true true) (nowL ls r.2.1 r.2.2.2.1 (turnLine (caseB true true) ls r)) r) h0 h1 h2 (fun i a b => (tw i a b).2)
  have k0 : ∀ x, kase x r [126] = turn (caseB true true) x r := fun x => if_pos (by decide)
  refine ⟨_, _, _, cutL (nowL ls r.2.1 r.2.2.2.1 (turnLine (caseB true true) ls r)) r.2.1.toNat (r.2.2.2.1 + 1).toNat, ?_, ap, ?_, ft, by omega, by omega⟩
  · rw [k0]
    unfold turn
    rw [if_pos hv]
  · rw [k0]
    generalize nowL ls r.2.1 r.2.2.2.1 (turnLine (caseB true true) ls r) = now at hn lf lt bk
    have hv2 : valid now r = true := by
      rw [← hv]
      simp only [valid, place, hn, lf, lt]
    unfold turn
    rw [if_pos hv2, bk]
end Go.Pg
