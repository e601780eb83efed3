/- Pg: a part of a slice that may still be written, looked at while it may be written. -/
import Derived.Test.YtddkekepoimcpaaGreatDoorPgCut
set_option linter.unusedVariables false
set_option linter.unusedSimpArgs false
namespace Go.Pg
open Go

def sliceWin (P : Program) (ev : AEnv) (H : AH) (o : Oper) (K : HK) : Prop :=
  match o.op with
  | .slice t x (some lo) (some hi) none => match tk P t, opnd ev x, opnd ev lo, opnd ev hi with
    | .slice _ sz, .own id z len, .int _ a, .int _ b => z = sz ∧ hlOf H id = some len ∧ 0 ≤ a ∧ a ≤ b ∧ b ≤ len ∧ K (.win id z len a.toNat (b.toNat - a.toNat)) H [] [id] []
    | _, _, _, _ => False
  | _ => False

theorem sliceWin_sound {P : Program} {ev : AEnv} {H : AH} {o : Oper} {K : HK} (h : sliceWin P ev H o K) : HSnd P ev H o K := by
  obtain ⟨dst, op, ty, pos, after, guard⟩ := o
  unfold sliceWin at h
  simp only at h
  split at h
  rotate_left
  · exact h.elim
  next t x lo hi =>
  split at h
  rotate_left
  · exact h.elim
  next e0 sz id z len k1 a k2 b hk hx hlo hhi =>
  obtain ⟨rfl, hhl, ha0, hab, hbl, hK⟩ := h
  refine ⟨_, _, _, _, _, hK, HCond.read H [id], heapOK_read fun HD E act hl hr hfp => ?_⟩
  have h1 := hl x (by simp [Op.operands])
  rw [hx] at h1
  have h2 := hl lo (by simp [Op.operands])
  rw [hlo] at h2
  have h3 := hl hi (by simp [Op.operands])
  rw [hhi] at h3
  generalize hav : act.eval x = v at h1
  cases h1 with
  | own _ _ _ ad cap hm hz hown =>
  have hD : E.hl id = some len := by
    rw [hr.hl]
    unfold hlOf at hhl ⊢
    cases ho : H[id]? with
    | none => rw [ho] at hhl; simp at hhl
    | some y =>
      rw [ho] at hhl
      obtain ⟨y', h4, h5⟩ := hfp id (by simp) y ho
      rw [h4]
      simp only [Option.bind_some] at hhl ⊢
      rw [h5.len]; exact hhl
  have hown' := (hown len hD).2 rfl
  have hcap : len ≤ cap := by
    rcases hown' with ⟨_, h0, h1⟩ | ⟨_, _, _, _, _, _, h1, _⟩ <;> omega
  obtain ⟨hu, ⟨i, hi', hsz⟩, _⟩ := tk_slice hk
  have hel : P.elem t = e0 := by simp [Program.elem, hu]
  have hu' : P.underlying t = some (.slice (P.elem t)) := by rw [hel]; exact hu
  have hs : (sizeOf (P.elem t)).run P E.W = .ok z E.W := by rw [hel]; simp [sizeOf, typeInfo, hi', hsz]
  refine ⟨.slice (if cap = a.toNat then ad else ad.map (·.add (a.toNat * z))) (b.toNat - a.toNat) (cap - a.toNat), ?_, ?_⟩
  · refine .win id z len a.toNat (b.toNat - a.toNat) _ _ (by omega) hm fun L hL => ?_
    rw [hD] at hL
    cases hL
    refine ⟨Nat.le_refl _, fun _ hpos => ?_⟩
    rcases hown' with ⟨_, h0, _⟩ | ⟨b', c, ty', fz, q1, q2, q3, q4, q5, q6⟩
    · omega
    · refine ⟨b', q1, ?_⟩
      rw [if_neg (by omega), q2]
      simp [Addr.add]
      try exact fun h => h.symm
  · simp only [execOp, Sem.run_bind, Option.map_none, Option.map_some, hav, h2.int_inv, h3.int_inv, run_sliceAt_slice E.W t _ _ _ none hu', run_slice_lh E.W t ad len cap hu' k1 k2 a b ha0 hab (by omega), hs, Result.andThen_ok, sliced]
    rfl
end Go.Pg
