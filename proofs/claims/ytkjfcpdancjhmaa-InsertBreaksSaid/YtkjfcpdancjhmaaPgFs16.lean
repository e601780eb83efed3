/- Plain laws: what is left of keys types the same. -/
import Derived.Test.YtkjfcpdancjhmaaPgFs14
namespace Go.Pg
open Go Go.Proofs

def keeper (k : UInt8) : Bool := letter k.toNat || k.toNat == (13 : Int) || k.toNat == (10 : Int)
def keeps (o : List UInt8) : Prop := ∀ k ∈ o, keeper k = true

theorem netStep_keep {out : List UInt8} {k : UInt8} (h : keeper k = true) : netStep out k = out ++ [k] := if_pos h
theorem netStep_keeps {out : List UInt8} (k : UInt8) (h : keeps out) : keeps (netStep out k) := by
  unfold netStep
  split
  · next hk =>
    intro x hx
    rw [List.mem_append, List.mem_singleton] at hx
    rcases hx with hx | rfl
    · exact h x hx
    · exact hk
  · split
    · exact fun x hx => h x (List.mem_of_mem_take hx)
    · exact h
theorem foldl_keeps : ∀ (ks out : List UInt8), keeps out → keeps (ks.foldl netStep out)
  | [], _, h => h
  | k :: ks, out, h => foldl_keeps ks _ (netStep_keeps k h)
theorem net_keeps (ks : List UInt8) : keeps (net ks) := foldl_keeps ks [] (fun _ h => by simp at h)
theorem foldl_same : ∀ (ks out : List UInt8), keeps ks → ks.foldl netStep out = out ++ ks
  | [], out, _ => by simp
  | k :: ks, out, h => by
    rw [List.foldl_cons, netStep_keep (h k (by simp)), foldl_same ks _ (fun x hx => h x (by simp [hx]))]
    simp
theorem net_net (ks : List UInt8) : net (net ks) = net ks := by
  rw [show net (net ks) = (net ks).foldl netStep [] from rfl, foldl_same _ _ (net_keeps ks)]; rfl
theorem net_snoc (ks : List UInt8) (k : UInt8) : net (ks ++ [k]) = netStep (net ks) k := by simp [net]

theorem typedL_append (f : Int × Int) : ∀ (a b : List UInt8) (ls : Ls) (p : Int × Int), typedL ls p f (a ++ b) =
    if (typedL ls p f a).2.2 = true then typedL (typedL ls p f a).1 (typedL ls p f a).2.1 f b else ([], (0, 0), false)
  | [], b, ls, p => rfl
  | k :: a, b, ls, p => by
    rw [List.cons_append, typedL, typedL]
    split
    · exact typedL_append f a b _ _
    · rfl
theorem typedL_one (ls : Ls) (p f : Int × Int) (k : UInt8) : typedL ls p f [k] =
    if ((typ ls p f 1 k).2.2 && (applyL ls [(typ ls p f 1 k).1]).2) = true then ((applyL ls [(typ ls p f 1 k).1]).1, (typ ls p f 1 k).2.1, true) else ([], (0, 0), false) := rfl

theorem typ_back (ls : Ls) (p f : Int × Int) (k : UInt8) (hk : keeper k = false) (h : (typ ls p f 1 k).2.2 = true) :
    place ls p.1 p.2 = true ∧ ((k.toNat : Int) == 8 || (k.toNat : Int) == 127) = true ∧ 0 < p.2 ∧ (p.1 ≠ f.1 ∨ f.2 < p.2) ∧
      typ ls p f 1 k = ((p.1, [ls.getD p.1.toNat []], [(ls.getD p.1.toNat []).take (p.2 - 1).toNat ++ (ls.getD p.1.toNat []).drop p.2.toNat]), (p.1, p.2 - 1), true) := by
  simp only [keeper, Bool.or_eq_false_iff] at hk
  have hl : ¬ letter k.toNat = true := by rw [hk.1.1]; simp
  have hb : ¬ ((k.toNat : Int) == 13 || (k.toNat : Int) == 10) = true := by rw [hk.1.2, hk.2]; simp
  unfold typ at h ⊢
  dsimp only at h ⊢
  by_cases hp : (place ls p.1 p.2 && ((1 : Int) == 1 || (1 : Int) == 2)) = true
  · rw [if_pos hp, if_neg hl, if_neg hb] at h ⊢
    split at h
    · next hc =>
      rw [if_pos hc]
      simp only [Bool.and_eq_true, Bool.or_eq_true, decide_eq_true_eq, bne_iff_ne, ne_eq] at hc hp
      refine ⟨hp.1, ?_, by omega, ?_, rfl⟩
      · simp only [Bool.or_eq_true]; exact hc.1.1.1
      · rcases hc.2 with h | h
        · exact .inl h
        · exact .inr (by omega)
    · cases h
  · rw [if_neg hp] at h
    cases h

theorem typ_place {ls : Ls} {p f : Int × Int} {k : UInt8} (h : (typ ls p f 1 k).2.2 = true) : place ls p.1 p.2 = true := by
  rcases typ_cases ls p f 1 k with e | e
  · rw [e] at h; cases h
  · exact e.1

/-- Typing what is left of keys makes what typing all made, where none of them rings. -/
theorem typedL_net (ls : Ls) (f : Int × Int) (ks : List UInt8) : ∀ i, i ≤ ks.length → (typedL ls f f (ks.take i)).2.2 = true → typedL ls f f (net (ks.take i)) = typedL ls f f (ks.take i) := by
  intro i
  induction i with
  | zero => intro _ _; rfl
  | succ i ih =>
    intro hi hok
    rw [take_succ_getD ks i 0 (by omega)] at hok ⊢
    generalize ks.getD i 0 = k at *
    have hap := typedL_append f (ks.take i) [k] ls f
    rw [hap] at hok ⊢
    have h1 : (typedL ls f f (ks.take i)).2.2 = true := by
      cases h : (typedL ls f f (ks.take i)).2.2 with
      | true => rfl
      | false => rw [h] at hok; simp at hok
    rw [if_pos h1] at hok ⊢
    have e := ih (by omega) h1
    have hkeep := net_keeps (ks.take i)
    rw [net_snoc]
    rw [← e] at hok ⊢
    rw [← e] at h1
    clear e ih hap
    generalize net (ks.take i) = o at *
    cases hk : keeper k with
    | true =>
      rw [netStep_keep hk, typedL_append, if_pos h1]
    | false =>
      rw [typedL_one] at hok ⊢
      split at hok
      · next hc =>
        rw [if_pos hc]
        simp only [Bool.and_eq_true] at hc
        obtain ⟨hp, hk8, hq0, hq1, ht⟩ := typ_back _ _ _ _ hk hc.1
        obtain ⟨q1, q2, q3, q4⟩ := (place_iff ..).1 hp
        -- the last key that is left
        have hne : o ≠ [] := by
          intro h0
          subst h0
          simp only [typedL] at hq1
          omega
        obtain ⟨o', k0, rfl⟩ : ∃ o' k0, o = o' ++ [k0] := ⟨o.dropLast, o.getLast hne, (List.dropLast_concat_getLast hne).symm⟩
        have hk0 := hkeep k0 (by simp)
        have hap := typedL_append f o' [k0] ls f
        rw [hap] at h1 ht hp hq0 hq1 q1 q2 q3 q4 ⊢
        have h2 : (typedL ls f f o').2.2 = true := by
          cases h : (typedL ls f f o').2.2 with
          | true => rfl
          | false => rw [h] at h1; simp at h1
        rw [if_pos h2] at h1 ht hp hq0 hq1 q1 q2 q3 q4 ⊢
        clear hap hc hok
        have e1 := typedL_one (typedL ls f f o').1 (typedL ls f f o').2.1 f k0
        rw [e1] at h1
        split at h1
        · next hc =>
          rw [if_pos hc] at e1
          rw [e1] at ht hp hq0 hq1 q1 q2 q3 q4 ⊢
          simp only [Bool.and_eq_true] at hc
          have hp0 := typ_place hc.1
          have hres : typedL ls f f o' = ((typedL ls f f o').1, (typedL ls f f o').2.1, true) := by
            rw [← h2]
          generalize (typedL ls f f o').1 = l0 at *
          generalize (typedL ls f f o').2.1 = p0 at *
          obtain ⟨x, y⟩ := p0
          obtain ⟨r1, r2, r3, r4⟩ := (place_iff ..).1 hp0
          simp only at r1 r2 r3 r4
          have hlet : letter k0.toNat = true := by
            cases hl : letter k0.toNat with
            | true => rfl
            | false =>
              have hbr : ((k0.toNat : Int) == 13 || (k0.toNat : Int) == 10) = true := by
                simp only [keeper, hl, Bool.false_or] at hk0
                exact hk0
              rw [typ_break l0 x y f 1 k0 hp0 rfl hl hbr] at hq0
              simp at hq0
          have el := typ_letter l0 x y f 1 k0 hp0 rfl hlet
          rw [if_neg (by decide)] at el
          rw [el] at ht hp q1 q2 q3 q4 ⊢
          simp only at ht hp q1 q2 q3 q4 ⊢
          rw [applyL_set l0 x _ r1 r2] at ht q2 q4 ⊢
          simp only at ht q2 q4 ⊢
          generalize hs : l0.getD x.toNat [] = s at *
          have hlen : (s.take y.toNat ++ [k0]).length = (y + 1).toNat := by simp only [List.length_append, List.length_take, List.length_cons, List.length_nil]; omega
          have hd : (s.take y.toNat ++ [k0] ++ s.drop y.toNat).drop (y + 1).toNat = s.drop y.toNat := by rw [← hlen, List.drop_left]
          have hy : (y + 1 - 1).toNat = y.toNat := by omega
          have htk : (s.take y.toNat ++ [k0] ++ s.drop y.toNat).take y.toNat = s.take y.toNat := by
            have h5 : (s.take y.toNat).length = y.toNat := by simp only [List.length_take]; omega
            have h6 := List.take_left (l₁ := s.take y.toNat) (l₂ := [k0] ++ s.drop y.toNat)
            rw [h5] at h6
            rw [List.append_assoc]
            exact h6
          rw [getD_set_self l0 _ _ r2, hy, hd, htk, List.take_append_drop] at ht
          rw [ht]
          simp only
          rw [show [s.take y.toNat ++ [k0] ++ s.drop y.toNat] = [(l0.set x.toNat (s.take y.toNat ++ [k0] ++ s.drop y.toNat)).getD x.toNat []] by rw [getD_set_self l0 _ _ r2]]
          rw [applyL_set _ x s r1 (by simpa using r2), List.set_set]
          have hself : l0.set x.toNat s = l0 := by
            rw [← hs, List.getD_eq_getElem?_getD, List.getElem?_eq_getElem r2]; simp
          have hnet : netStep (o' ++ [k0]) k = o' := by
            unfold netStep
            rw [if_neg (by simp only [keeper] at hk; rw [hk]; simp), if_pos ?_]
            · simp
            · have : (o' ++ [k0]).getD ((o' ++ [k0]).length - 1) 0 = k0 := by
                simp [List.getD_eq_getElem?_getD]
              rw [this, hlet, hk8]
              simp
          rw [hself, hnet, hres]
          have : y + 1 - 1 = y := by omega
          rw [this]
        · cases h1
      · cases hok
end Go.Pg
