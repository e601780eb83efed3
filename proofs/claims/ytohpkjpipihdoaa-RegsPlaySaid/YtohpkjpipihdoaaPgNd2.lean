/- Pg, part 31: a map that was only read is live again; its entries may hold what is fixed. -/
import Derived.Test.YtohpkjpipihdoaaPgNd
namespace Go.Pg
open Go

/-- Values that lean on no map. -/
def AV.okM : Nat → AV → Bool
  | _, .int _ _ => true
  | _, .bool _ => true
  | _, .str _ => true
  | _, .nls => true
  | d + 1, .agg cs => cs.all (okM d)
  | d + 1, .sl _ vs => vs.all fun v => v.cells.all (okM d)
  | _, _ => false

theorem VP.unmap {W : World} {st : Nat → Prop} {b : Nat} (hb : ∃ a cl, W.heap[b]? = some (.map a cl)) {c : AV} {v : Value} (h : VP W st c v) : ∀ d, c.okM d = true → VP W (fun x => st x ∧ x ≠ b) c v := by
  have no : ∀ {x : AV} {p : Prop}, (∀ d, x.okM d = false) → ∀ d, x.okM d = true → p := fun h1 d h2 => by rw [h1] at h2; cases h2
  induction h with
  | undef => exact no fun d => by cases d <;> rfl
  | nls => exact fun _ _ => .nls
  | nfn => exact no fun d => by cases d <;> rfl
  | npt => exact no fun d => by cases d <;> rfl
  | yld l => exact no fun d => by cases d <;> rfl
  | int k n => exact fun _ _ => .int k n
  | bool b => exact fun _ _ => .bool b
  | str s => exact fun _ _ => .str s
  | agg cs us hs _ ih =>
    intro d hc
    cases d with
    | zero => simp [AV.okM] at hc
    | succ d => exact .agg cs us hs fun i c hi => ih i c hi d (List.all_eq_true.1 (by simpa [AV.okM] using hc) c (List.mem_of_getElem? hi))
  | tuple cs us hs _ ih => exact no fun d => by cases d <;> rfl
  | sl sz vs a cap f hcap hs hv ih =>
    intro d hc
    cases d with
    | zero => simp [AV.okM] at hc
    | succ d =>
      have hc : (vs.all fun v => v.cells.all (AV.okM d)) = true := hc
      refine .sl sz vs a cap f hcap (fun i v hi => ?_) fun i v j c hi hj => ih i v j c hi hj d ?_
      · obtain ⟨h3, b', o, ha, hst, hcell⟩ := hs i v hi
        refine ⟨h3, b', o, ha, fun hz => ⟨hst hz, ?_⟩, hcell⟩
        rintro rfl
        obtain ⟨a', cl, hm⟩ := hb
        have := hcell 0 hz
        simp [World.cell?, hm] at this
      · have h1 := List.all_eq_true.1 hc v (List.mem_of_getElem? hi)
        exact List.all_eq_true.1 h1 c (List.mem_of_getElem? hj)
  | slc sz vs a f hs hv => exact no fun d => by cases d <;> rfl
  | fn f cap us hs _ ih => exact no fun d => by cases d <;> rfl
  | rp cs b o f h1 h2 h3 _ => exact no fun d => by cases d <;> rfl
  | fm es b a cl h1 h2 h3 h4 h5 h6 _ _ => exact no fun d => by cases d <;> rfl

/-- Objects that lean on nothing fixed, but for the entries of maps. -/
def frsM : AO → Bool
  | .dead => true
  | .arr _ _ vs => vs.all fun v => v.cells.all (AV.frs 4)
  | .mp es => es.all fun p => p.1.okM 4 && p.2.okM 4
  | _ => false

theorem callsR_thawM {P : Program} {f : FuncId} {args : List AV} {id : Nat} {es : List (AV × AV)} {r : AV} {H H' : AH}
    (hH : H[id]? = some (.mp es)) (hH' : H'[id]? = some (.mp es)) (hr' : r.frs 4 = true) (ho' : H'.all frsM = true)
    (hsome : ∀ E vals, Rel H E → VRs E args vals → (E.M id).isSome = true)
    (h : CallsR P f args (H.set id (.fmp es)) r (H'.set id (.fmp es))) : CallsR P f args H r H' := by
  intro E vals hr hv
  have hid : id < H.length := (List.getElem?_eq_some_iff.1 hH).1
  have hid' : id < H'.length := (List.getElem?_eq_some_iff.1 hH').1
  have hle : AHle H (H.set id (.fmp es)) := fun j o hj => by
    by_cases hji : j = id
    · subst hji
      rw [hH] at hj; cases hj
      exact ⟨.fmp es, by simp [hid], .inr (.inr ⟨es, rfl, rfl⟩)⟩
    · exact ⟨o, by rw [List.getElem?_set_ne (Ne.symm hji)]; exact hj, .refl o⟩
  have hsm := hsome E vals hr hv
  obtain ⟨E1, hr1, hW1, hM1, hst1⟩ := hr.le hle
  have hx1 := hst1.ext hr
  rw [← hW1]
  refine (h E1 vals hr1 ⟨hv.1, fun i c hc => (hv.2 i c hc).mono hx1⟩).mono fun e W' ⟨v, E2, he, hW2, hvr, hr2, hst2⟩ => ?_
  have hst := hst1.trans hst2
  -- the map's block
  obtain ⟨m, hm⟩ := Option.isSome_iff_exists.1 hsm
  obtain ⟨b, a0, cl0, rfl, hb0, he0, hs0⟩ : MRow E m es := hr.orow id _ m hH hm
  have hM2 : E2.M id = some (some b) := by
    obtain ⟨L, g1, g2, g3⟩ := hst.mm.2 id 0 hsm (by rw [hr2.hl]; simp [hlOf, hid', AO.len])
    rw [g3 (by omega)]; exact hm
  have hl2 : E2.hl = hlOf H' := by
    rw [hr2.hl]
    funext j
    unfold hlOf
    by_cases hji : j = id
    · subst hji; rw [hH']; simp [hid', AO.len]
    · rw [List.getElem?_set_ne (Ne.symm hji)]
  have hold : ∀ j o, j ≠ id → H'[j]? = some o → (H'.set id (.fmp es))[j]? = some o := fun j o hj ho => by rw [List.getElem?_set_ne (Ne.symm hj)]; exact ho
  let E3 : Env := { W := E2.W, M := E2.M, st := fun x => E2.st x ∧ x ≠ b, hl := E2.hl }
  have hvr3 : ∀ {d : Nat} {c : AV} {u : Value}, VR E2 c u → c.frs d = true → VR E3 c u := fun {d c u} hu hc => VR.frs (E := E2) (E' := E3) rfl rfl rfl hu d hc
  have hfree : ∀ j o, H'[j]? = some o → frsM o = true := fun j o ho => List.all_eq_true.1 ho' o (List.mem_of_getElem? ho)
  have hmapb : ∃ a cl, E2.W.heap[b]? = some (.map a cl) := by
    obtain ⟨b', a, cl, k1, k2, _, _⟩ : MRow E2 (some b) es := hr2.orow id (.fmp es) (some b) (by simp [hid']) hM2
    cases k1
    exact ⟨a, cl, k2⟩
  have hents : ∀ {es' : List (AV × AV)} {a : Array MapEntry}, (es'.all fun p => p.1.okM 4 && p.2.okM 4) = true → EntsAt E2 es' a → EntsAt E3 es' a := fun {es' a} hf he => ⟨he.size, fun i k x hi => by
    obtain ⟨q, g1, g2, g3⟩ := he.ent i k x hi
    have := List.all_eq_true.1 hf (k, x) (List.mem_of_getElem? hi)
    simp only [Bool.and_eq_true] at this
    exact ⟨q, g1, g2.unmap hmapb 4 this.1, g3.unmap hmapb 4 this.2⟩⟩
  refine ⟨v, E3, he, hW2, hvr3 hvr hr', ⟨hl2, fun j hj => hr2.dom j (by simpa using hj), ?_, ?_, ?_, ?_, fun x hx => hr2.stlt x hx.1⟩, ⟨hst.mv.os, hst.mv.tape, hst.mv.output, hst.mv.size, hst.mv.keep, hst.mv.shape, fun x hx hs => hst.mv.old x hx hs.1, fun x hx => ⟨hst.mv.grow x hx, ?_⟩⟩, hst.mm, ?_⟩
  · intro j o mj hj hmj
    have hf := hfree j o hj
    by_cases hji : j = id
    · subst hji
      rw [hH'] at hj; cases hj
      obtain ⟨b', a, cl, k1, k2, k3, k4⟩ : MRow E2 mj es := hr2.orow j (.fmp es) mj (by simp [hid']) hmj
      exact ⟨b', a, cl, k1, k2, hents hf k3, k4⟩
    · have ho := hr2.orow j o mj (hold j o hji hj) hmj
      cases o with
      | dead => trivial
      | arr e sz vs =>
        rcases ho with h0 | ⟨b', c, fz, k1, k2, k3, k4, k5⟩
        · exact .inl h0
        · refine .inr ⟨b', c, fz, k1, k2, k3, k4, fun i u hi => ⟨(k5 i u hi).1, fun q cc hq => ?_⟩⟩
          obtain ⟨w, g1, g2⟩ := (k5 i u hi).2 q cc hq
          have := List.all_eq_true.1 hf u (List.mem_of_getElem? hi)
          exact ⟨w, g1, hvr3 g2 (List.all_eq_true.1 this cc (List.mem_of_getElem? hq))⟩
      | mp es' =>
        obtain ⟨b', a, cl, k1, k2, k3, k4⟩ := ho
        exact ⟨b', a, cl, k1, k2, hents hf k3, k4⟩
      | frz e sz vs => cases hf
      | fmp es' => cases hf
      | it c es' => cases hf
  · intro j o x hj hl hmj hx
    by_cases hji : j = id
    · subst hji
      rw [show E3.M j = some (some b) from hM2] at hmj
      cases hmj
      exact hx.2 rfl
    · exact hr2.nst' j o x (hold j o hji hj) hl hmj hx.1
  · intro j o x hj hfx
    have := hfree j o hj
    cases o with
    | frz e sz vs => simp [frsM] at this
    | fmp es' => simp [frsM] at this
    | it c es' => simp [frsM] at this
    | dead => simp [AO.fixed] at hfx
    | arr e sz vs => simp [AO.fixed] at hfx
    | mp es' => simp [AO.fixed] at hfx
  · intro j j' o o' x hj hj' hl hl' hmj hmj'
    by_cases hji : j = id
    · by_cases hji' : j' = id
      · rw [hji, hji']
      · subst hji
        rw [show E3.M j = some (some b) from hM2] at hmj
        cases hmj
        exact absurd (hr2.fst' j (.fmp es) b (by simp [hid']) rfl hM2) (hr2.nst' j' o' b (hold j' o' hji' hj') hl' hmj')
    · by_cases hji' : j' = id
      · subst hji'
        rw [show E3.M j' = some (some b) from hM2] at hmj'
        cases hmj'
        exact absurd (hr2.fst' j' (.fmp es) b (by simp [hid']) rfl hM2) (hr2.nst' j o b (hold j o hji hj) hl hmj)
      · exact hr2.inj' j j' o o' x (hold j o hji hj) (hold j' o' hji' hj') hl hl' hmj hmj'
  · rintro rfl
    exact hr.nst' id _ x hH rfl hm hx
  · rintro x ⟨j, o, hj, hl, hmj⟩
    by_cases hji : j = id
    · subst hji
      rw [show E3.M j = some (some b) from hM2] at hmj
      cases hmj
      exact .inl ⟨j, _, hH, rfl, hm⟩
    · exact hst.live x ⟨j, o, hold j o hji hj, hl, hmj⟩
end Go.Pg
