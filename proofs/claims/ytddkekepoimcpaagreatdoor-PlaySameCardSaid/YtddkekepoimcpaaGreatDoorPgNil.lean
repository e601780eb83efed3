/- Pg, part 21: a slice is held against nil. -/
import Derived.Test.YtddkekepoimcpaaGreatDoorPgDat
set_option linter.unusedVariables false
set_option linter.unusedSimpArgs false
namespace Go.Pg
open Go

theorem eql_nil {P : Program} (w : World) (t e : TypeId) (a : Option Addr) (n c : Nat) (h : P.underlying t = some (.slice e)) :
    (binOp .eql t (.slice a n c) (.slice none 0 0)).run P w = .ok (.bool a.isNone) w := by
  have h1 : ∀ d, (Op.equalIn (d + 1) t (.slice a n c) (.slice none 0 0)).run P w = .ok a.isNone w := by
    intro d
    cases a <;> simp [Op.equalIn, run_underlying h]
  simp only [binOp]
  simp [Op.equal, Op.maxDepth, h1 9999]

/-- A slice of plain things is held against nil: both answers, 'nil' only where it has nothing. -/
theorem AWp.isNil {P : Program} {N : Nat} {H0 : AH} {E0 : Env} {Q : APost} {ev : AEnv} {H : AH} {id x t3 t4 z T B T3 : Nat} {vs : List AV} {p1 p2 : String} {af1 af2 : Array _}
    {e : TypeId} (hT : P.underlying T = some (.slice e)) (h3 : t3 < N) (h4 : t4 < N) (hx : look x ev = .sl z vs) (hQ : ∀ b : Bool, (b = true → vs = []) → Q .normal ((t4, .bool b) :: (t3, .sl z vs) :: ev) H) :
    AWp P N H0 E0 (.region id #[{ dst := some t3, op := .move (.tmp x), type := T3, pos := p1, after := af1, guard := none },
      { dst := some t4, op := .binOp .eql T (.tmp t3) (.const (.slice none 0 0)) T, type := B, pos := p2, after := af2, guard := none }] false) Q ev H := by
  intro n E a ha hdf
  refine wpIn_wide.2 (wp_region ?_)
  have hv := ha.env x
  rw [hx] at hv
  have ha1 := ha.put (P := P) h3 hv
  obtain ⟨ad, cap, hvv, hnil⟩ : ∃ ad cap, a.tmps.getD x Go.undef = .slice ad vs.length cap ∧ (ad = none → vs = []) := by
    generalize a.tmps.getD x Go.undef = v at hv
    cases hv with
    | sl sz vs ad cap f hc hs hv =>
      refine ⟨ad, cap, rfl, fun h => ?_⟩
      subst h
      cases vs with
      | nil => rfl
      | cons y r =>
        obtain ⟨_, b, o, h, _⟩ := hs 0 y rfl
        cases h
  have hv1 : (a.put (some t3) (.slice ad vs.length cap)).tmps.getD t3 Go.undef = .slice ad vs.length cap := by
    rw [Array.getD_eq_getD_getElem?]
    simp [Act.put, ha.size, h3]
  show wpOps P _ _ [0, 1] a E.W
  rw [wpOps_cons]
  unfold wpOp
  simp only [List.getElem?_toArray, List.getElem?_cons_zero, Region.wanted, if_true]
  refine .inl (wp_of_value (v := .slice ad vs.length cap) (w' := E.W) ?_ ?_)
  · show (execOp a.eval _).run P E.W = _
    simp [execOp, Act.eval, hvv]
  rw [wpOps_cons]
  unfold wpOp
  simp only [List.getElem?_toArray, List.getElem?_cons_succ, List.getElem?_cons_zero, Region.wanted, if_true]
  refine .inl (wp_of_value (v := .bool ad.isNone) (w' := E.W) ?_ ?_)
  · simp [execOp, Act.eval, hv1, eqGuard, eql_nil E.W T e ad vs.length cap hT]
  simp only [wpOps]
  rw [hvv] at ha1
  refine ⟨_, _, E, hQ ad.isNone (fun h => hnil (by simpa using h)), rfl, ha1.put (P := P) h4 (.bool _), fun hh => by cases hh⟩
end Go.Pg
