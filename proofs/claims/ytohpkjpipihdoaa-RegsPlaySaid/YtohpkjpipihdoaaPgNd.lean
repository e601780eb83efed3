/- Pg, part 31: calls whose result is one of many; calls that give back an object to write on. -/
import Derived.Test.YtohpkjpipihdoaaPgRowk
import Derived.Test.YtohpkjpipihdoaaPgYld4
namespace Go.Pg
open Go Go.RowKit

/-- Like CallsR; what is returned stands for one of many. -/
def CallsE (P : Program) (f : FuncId) (args : List AV) (H : AH) {ξ : Type} (X : ξ → Prop) (r : ξ → AV) (H' : ξ → AH) : Prop :=
  ∀ (E : Env) (vals : Array Value), Rel H E → VRs E args vals → Calls P f vals E.W fun e W' =>
    ∃ x v E', X x ∧ e = .returned v ∧ E'.W = W' ∧ VR E' (r x) v ∧ Rel (H' x) E' ∧ Step H E (H' x) E'

theorem callsE_ofW {P : Program} {ξ : Type} {X : ξ → Prop} {f : FuncId} {fn : Func} {c : Code} {args : List AV} {H : AH} {r : ξ → AV} {Hr : ξ → AH}
    (hf : P.funcs[f]? = some fn) (hb : fn.body = some c) (hn : args.length ≤ fn.ntmps)
    (h : ∀ E, Rel H E → AWp P fn.ntmps H E c (fun e ev H' => ∃ x, X x ∧ retS P H.length fn.results.toList (r x) (Hr x) e ev H') (envOf 0 args) H) : CallsE P f args H X r Hr := by
  intro E vals hr hvs
  refine (callsIn_wide (n := 0)).1 (callsIn_of_wp_marks hf hb trivial ?_ rfl)
  have hat : At fn.ntmps H E (envOf 0 args) H E { tmps := vals ++ Array.replicate (fn.ntmps - vals.size) Go.undef, defers := [] } := by
    refine ⟨by simp [hvs.1]; omega, trivial, fun t => ?_, hr, Step.refl _ _⟩
    rw [look_envOf]
    simp only [Nat.zero_le, if_true, Nat.sub_zero]
    cases ht : args[t]? with
    | none => exact .top _
    | some v =>
      have hlt : t < vals.size := by rw [hvs.1]; exact (List.getElem?_eq_some_iff.1 ht).1
      have := hvs.2 t v ht
      have e : (vals ++ Array.replicate (fn.ntmps - vals.size) Go.undef).getD t Go.undef = vals.getD t Go.undef := by
        simp only [Array.getD_eq_getD_getElem?]
        rw [Array.getElem?_append_left hlt]
      simp only [Option.getD_some]
      rw [e]; exact this
  have fin : ∀ {x : ξ} {ev' : AEnv} {H' : AH} {E' : Env} {a' : Act}, X x → (resK P ev' H' fn.results.toList fun l => subS H.length [(0, tupA l)] H' [(0, r x)] (Hr x)) → At fn.ntmps H E ev' H' E' a' →
      ∃ v, (results fn a'.tmps).run P E'.W = .ok v E'.W ∧ ∃ x v' E2, X x ∧ Ending.returned v = .returned v' ∧ E2.W = E'.W ∧ VR E2 (r x) v' ∧ Rel (Hr x) E2 ∧ Step H E (Hr x) E2 := by
    intro x ev' H' E' a' hx hs ha
    obtain ⟨l, vs, hsub, hrun, hlen, hvr⟩ := resK_run ha _ _ hs
    have hv := results_run hrun
    generalize hvv : (if h : vs.length = 1 then vs[0] else Value.tuple vs.toArray) = v at hv
    refine ⟨v, hv, x, v, ?_⟩
    have htup : VR E' (tupA l) v := by
      rw [← hvv]
      have gen : VR E' (.tuple l) (.tuple vs.toArray) := .tuple _ _ (by simpa using hlen) fun i c hc => by
        have := hvr i c hc
        simpa [Array.getD_eq_getD_getElem?] using this
      by_cases h1 : vs.length = 1
      · rw [dif_pos h1]
        clear hsub hrun hv gen hvv
        obtain ⟨y, rfl⟩ := List.length_eq_one_iff.1 (hlen.symm.trans h1)
        obtain ⟨v, rfl⟩ := List.length_eq_one_iff.1 h1
        simpa [tupA] using hvr 0 y rfl
      · rw [dif_neg h1]
        have : tupA l = .tuple l := by
          unfold tupA
          split
          · simp at hlen; exact absurd hlen h1
          · rfl
        rw [this]; exact gen
    have h1 : At 1 H E [(0, tupA l)] H' E' { tmps := #[v], defers := [] } := by
      refine ⟨rfl, trivial, fun t => ?_, ha.rel, ha.step⟩
      simp only [look]
      split
      · next ht => subst ht; exact htup
      · exact .top _
    obtain ⟨E2, hW, h2⟩ := h1.sub hr hsub
    refine ⟨E2, hx, rfl, hW, ?_, h2.rel, h2.step⟩
    have := h2.env 0
    simpa [look] using this
  refine wpIn_mono (h E hr 0 E _ hat (fun hh => by cases hh)) fun e a' w' ⟨ev', H', E', hq, hw, ha, _⟩ => ?_
  subst hw
  have leave : ∀ x, X x → (resK P ev' H' fn.results.toList fun l => subS H.length [(0, tupA l)] H' [(0, r x)] (Hr x)) → LeavesInM Fence.wide 0 P fn a'.tmps (fun e W' => ∃ x v E', X x ∧ e = Ending.returned v ∧ E'.W = W' ∧ VR E' (r x) v ∧ Rel (Hr x) E' ∧ Step H E (Hr x) E') a'.defers .returning E'.W := by
    intro x hx hk
    have hs : At fn.ntmps H E ev' H' (shr E.W.heap.size E') a' := ⟨ha.size, ha.defers, fun t => (ha.env t).shr, ha.rel.shr _, ha.step.shr hr⟩
    exact leaves_marks (fn := fn) a'.defers (shr E.W.heap.size E') a'.tmps hs (shr_StC _ _) (fun E2 h2 => fin (a' := { tmps := a'.tmps, defers := [] }) hx hk h2)
  cases e with
  | normal => obtain ⟨x, hx, hq⟩ := hq; exact leave x hx hq
  | ret => obtain ⟨x, hx, hq⟩ := hq; exact leave x hx hq
  | _ => obtain ⟨x, hx, hq⟩ := hq; exact hq.elim


/-- The results stand for one of many. -/
def retE (P : Program) (n0 : Nat) (rs : List ResultVar) {ξ : Type} (X : ξ → Prop) (r : ξ → AV) (Hr : ξ → AH) : APost
  | .normal, ev, H => resK P ev H rs fun l => ∃ x, X x ∧ subA n0 [(0, tupA l)] H [(0, r x)] (Hr x)
  | .ret, ev, H => resK P ev H rs fun l => ∃ x, X x ∧ subA n0 [(0, tupA l)] H [(0, r x)] (Hr x)
  | _, _, _ => False
theorem resK_ex {P : Program} {ev : AEnv} {H : AH} {ξ : Type} {K : ξ → List AV → Prop} : ∀ (rs : List ResultVar), resK P ev H rs (fun l => ∃ x, K x l) → ∃ x, resK P ev H rs (K x) := by
  intro rs
  suffices ∀ (rs : List ResultVar) (G : List AV → List AV), resK P ev H rs (fun l => ∃ x, K x (G l)) → ∃ x, resK P ev H rs (fun l => K x (G l)) from this rs id
  intro rs
  induction rs with
  | nil => intro G h; exact h
  | cons r rs ih =>
    intro G h
    cases r with
    | tmp t => exact ih (fun l => G (look t ev :: l)) h
    | cell p t =>
      simp only [resK] at h ⊢
      split at h
      · split at h
        · obtain ⟨h1, h2, h3, v, h4, h5⟩ := h
          obtain ⟨x, h6⟩ := ih (fun l => G (v :: l)) h5
          exact ⟨x, h1, h2, h3, v, h4, h6⟩
        · exact h.elim
      · exact h.elim
theorem resK_const {P : Program} {ev : AEnv} {H : AH} {p : Prop} : ∀ (rs : List ResultVar), resK P ev H rs (fun _ => p) → p := by
  intro rs
  induction rs with
  | nil => intro hh; exact hh
  | cons r rs ih =>
    intro hh
    cases r with
    | tmp t => exact ih hh
    | cell p t =>
      simp only [resK] at hh
      split at hh
      · split at hh
        · obtain ⟨_, _, _, _, _, hh⟩ := hh; exact ih hh
        · exact hh.elim
      · exact hh.elim
theorem retE_S {P : Program} {n0 : Nat} {rs : List ResultVar} {ξ : Type} {X : ξ → Prop} {r : ξ → AV} {Hr : ξ → AH} (e : Exit) (ev : AEnv) (H : AH) (h : retE P n0 rs X r Hr e ev H) : ∃ x, X x ∧ retS P n0 rs (r x) (Hr x) e ev H := by
  cases e <;> first
    | (obtain ⟨x, h⟩ := resK_ex rs h
       by_cases hx : X x
       · exact ⟨x, hx, resK_mono _ _ _ (fun l hh => subS_of hh.2) h⟩
       · exact absurd (resK_const rs (resK_mono _ _ (fun _ => X x) (fun l hh => hh.1) h)) hx)
    | exact h.elim

theorem callsE_of {P : Program} {C : Ctr} (hC : CtrOK P C) (hmix : P.follows .mixedOrders = true) {mrg : Bool} {dyn : List Nat} {f : FuncId} {fn : Func} {c : Code} {args : List AV} {H : AH} {ξ : Type} {X : ξ → Prop} {r : ξ → AV} {Hr : ξ → AH}
    (hf : P.funcs[f]? = some fn) (hb : fn.body = some c) (hn : args.length ≤ fn.ntmps) (hok : codeOK P fn.ntmps dyn c = true)
    (h : wpA P C H.length mrg dyn c (retE P H.length fn.results.toList X r Hr) (envOf 0 args) H) : CallsE P f args H X r Hr :=
  callsE_ofW hf hb hn fun E hr => wpA_sound hC hmix c H E _ _ _ none false hr (fun ev H ⟨x, _, h⟩ => h) hok (.inl ⟨rfl, rfl⟩) (wpA_mono _ _ _ _ _ (fun e ev H h => retE_S e ev H h) h)

/-! ### A map that is only read may be written again -/
/-- Values that do not lean on what is fixed. -/
def AV.frs : Nat → AV → Bool
  | _, .int _ _ => true
  | _, .bool _ => true
  | _, .str _ => true
  | _, .nls => true
  | _, .nfn => true
  | _, .npt => true
  | _, .own _ _ _ => true
  | _, .ptr _ _ _ _ _ => true
  | _, .mp _ => true
  | d + 1, .agg cs => cs.all (frs d)
  | d + 1, .tuple cs => cs.all (frs d)
  | _, _ => false

theorem VR.frs {E E' : Env} (hW : E'.W = E.W) (hM : E'.M = E.M) (hh : E'.hl = E.hl) {c : AV} {v : Value} (h : VR E c v) : ∀ d, c.frs d = true → VR E' c v := by
  have no : ∀ {d : Nat} {x : AV} {p : Prop}, (∀ d, x.frs d = false) → x.frs d = true → p := fun h1 h2 => by rw [h1] at h2; cases h2
  induction h with
  | top v => exact fun d hc => no (fun d => by cases d <;> rfl) hc
  | undef => exact fun d hc => no (fun d => by cases d <;> rfl) hc
  | nls => exact fun _ _ => .nls
  | nfn => exact fun _ _ => .nfn
  | npt => exact fun _ _ => .npt
  | yld l => exact fun _ _ => .yld l
  | int k n => exact fun _ _ => .int k n
  | bool b => exact fun _ _ => .bool b
  | str s => exact fun _ _ => .str s
  | agg cs us hs _ ih =>
    intro d hc
    cases d with
    | zero => simp [AV.frs] at hc
    | succ d => exact .agg cs us hs fun i c hi => ih i c hi d (List.all_eq_true.1 (by simpa [AV.frs] using hc) c (List.mem_of_getElem? hi))
  | tuple cs us hs _ ih =>
    intro d hc
    cases d with
    | zero => simp [AV.frs] at hc
    | succ d => exact .tuple cs us hs fun i c hi => ih i c hi d (List.all_eq_true.1 (by simpa [AV.frs] using hc) c (List.mem_of_getElem? hi))
  | sl sz vs a cap f hc hs hv => exact fun d hc => no (fun d => by cases d <;> rfl) hc
  | slc sz vs a f hs hv => exact fun d hc => no (fun d => by cases d <;> rfl) hc
  | own id sz len a cap hm ha hl => exact fun _ _ => .own id sz len a cap (by rw [hM]; exact hm) ha (by rw [hh, hM, hW]; exact hl)
  | ptr id sz len idx off v hm hl => exact fun _ _ => .ptr id sz len idx off v (by rw [hM]; exact hm) (by rw [hh, hM]; exact hl)
  | mp id b hm hl => exact fun _ _ => .mp id b (by rw [hM]; exact hm) (by rw [hh, hM]; exact hl)
  | it id b hm hl => exact fun d hc => no (fun d => by cases d <;> rfl) hc
  | rp cs b o f hst hc hv => exact fun d hc => no (fun d => by cases d <;> rfl) hc
  | fm es b a cl g1 g2 g3 g4 g5 g6 => exact fun d hc => no (fun d => by cases d <;> rfl) hc
  | fn f cap us hs _ ih => exact fun d hc => no (fun d => by cases d <;> rfl) hc
  | condT a v _ ih => exact fun d hc => no (fun d => by cases d <;> rfl) hc
  | condF a => exact fun d hc => no (fun d => by cases d <;> rfl) hc

/-- Objects that do not lean on what is fixed. -/
def frsO : AO → Bool
  | .dead => true
  | .arr _ _ vs => vs.all fun v => v.cells.all (AV.frs 4)
  | .mp es => es.all fun p => p.1.okS 4 && p.2.okS 4
  | _ => false

theorem VP.okS {W W' : World} {st st' : Nat → Prop} {c : AV} {v : Value} (hc : c.okS 4 = true) (h : VP W st c v) : VP W' st' c v := by
  have := conc_eq 4 c v (h.vr (E := { W := W, M := fun _ => none, st := st, hl := fun _ => none })) hc
  rw [this]; exact conc_VP 4 c hc

theorem callsR_thaw {P : Program} {f : FuncId} {args : List AV} {id : Nat} {es : List (AV × AV)} {r : AV} {H H' : AH}
    (hH : H[id]? = some (.mp es)) (hH' : H'[id]? = some (.mp es)) (hr' : r.frs 4 = true) (ho' : H'.all frsO = true)
    (hsome : ∀ E vals, Rel H E → VRs E args vals → (E.M id).isSome = true)
    (h : CallsR P f args (H.set id (.fmp es)) r (H'.set id (.fmp es))) : CallsR P f args H r H' := by
  intro E vals hr hv
  have hid : id < H.length := (List.getElem?_eq_some_iff.1 hH).1
  have hid' : id < H'.length := (List.getElem?_eq_some_iff.1 hH').1
  have hle : AHle H (H.set id (.fmp es)) := fun j o hj => by
    by_cases hji : j = id
    · subst hji
      rw [hH] at hj; cases hj
      exact ⟨.fmp es, by simp [hid], .inr (.inr ⟨es, rfl, rfl⟩)⟩
    · exact ⟨o, by rw [List.getElem?_set_ne (Ne.symm hji)]; exact hj, .refl o⟩
  have hsm := hsome E vals hr hv
  obtain ⟨E1, hr1, hW1, hM1, hst1⟩ := hr.le hle
  have hx1 := hst1.ext hr
  rw [← hW1]
  refine (h E1 vals hr1 ⟨hv.1, fun i c hc => (hv.2 i c hc).mono hx1⟩).mono fun e W' ⟨v, E2, he, hW2, hvr, hr2, hst2⟩ => ?_
  have hst := hst1.trans hst2
  -- the map's block
  obtain ⟨m, hm⟩ := Option.isSome_iff_exists.1 hsm
  obtain ⟨b, a0, cl0, rfl, hb0, he0, hs0⟩ : MRow E m es := hr.orow id _ m hH hm
  have hM2 : E2.M id = some (some b) := by
    obtain ⟨L, g1, g2, g3⟩ := hst.mm.2 id 0 hsm (by rw [hr2.hl]; simp [hlOf, hid', AO.len])
    rw [g3 (by omega)]; exact hm
  have hl2 : E2.hl = hlOf H' := by
    rw [hr2.hl]
    funext j
    unfold hlOf
    by_cases hji : j = id
    · subst hji; rw [hH']; simp [hid', AO.len]
    · rw [List.getElem?_set_ne (Ne.symm hji)]
  have hold : ∀ j o, j ≠ id → H'[j]? = some o → (H'.set id (.fmp es))[j]? = some o := fun j o hj ho => by rw [List.getElem?_set_ne (Ne.symm hj)]; exact ho
  let E3 : Env := { W := E2.W, M := E2.M, st := fun x => E2.st x ∧ x ≠ b, hl := E2.hl }
  have hvr3 : ∀ {d : Nat} {c : AV} {u : Value}, VR E2 c u → c.frs d = true → VR E3 c u := fun {d c u} hu hc => VR.frs (E := E2) (E' := E3) rfl rfl rfl hu d hc
  have hfree : ∀ j o, H'[j]? = some o → frsO o = true := fun j o ho => List.all_eq_true.1 ho' o (List.mem_of_getElem? ho)
  have hents : ∀ {es' : List (AV × AV)} {a : Array MapEntry}, (es'.all fun p => p.1.okS 4 && p.2.okS 4) = true → EntsAt E2 es' a → EntsAt E3 es' a := fun {es' a} hf he => ⟨he.size, fun i k x hi => by
    obtain ⟨q, g1, g2, g3⟩ := he.ent i k x hi
    have := List.all_eq_true.1 hf (k, x) (List.mem_of_getElem? hi)
    simp only [Bool.and_eq_true] at this
    exact ⟨q, g1, g2.okS this.1, g3.okS this.2⟩⟩
  refine ⟨v, E3, he, hW2, hvr3 hvr hr', ⟨hl2, fun j hj => hr2.dom j (by simpa using hj), ?_, ?_, ?_, ?_, fun x hx => hr2.stlt x hx.1⟩, ⟨hst.mv.os, hst.mv.tape, hst.mv.output, hst.mv.size, hst.mv.keep, hst.mv.shape, fun x hx hs => hst.mv.old x hx hs.1, fun x hx => ⟨hst.mv.grow x hx, ?_⟩⟩, hst.mm, ?_⟩
  · intro j o mj hj hmj
    have hf := hfree j o hj
    by_cases hji : j = id
    · subst hji
      rw [hH'] at hj; cases hj
      obtain ⟨b', a, cl, k1, k2, k3, k4⟩ : MRow E2 mj es := hr2.orow j (.fmp es) mj (by simp [hid']) hmj
      exact ⟨b', a, cl, k1, k2, hents hf k3, k4⟩
    · have ho := hr2.orow j o mj (hold j o hji hj) hmj
      cases o with
      | dead => trivial
      | arr e sz vs =>
        rcases ho with h0 | ⟨b', c, fz, k1, k2, k3, k4, k5⟩
        · exact .inl h0
        · refine .inr ⟨b', c, fz, k1, k2, k3, k4, fun i u hi => ⟨(k5 i u hi).1, fun q cc hq => ?_⟩⟩
          obtain ⟨w, g1, g2⟩ := (k5 i u hi).2 q cc hq
          have := List.all_eq_true.1 hf u (List.mem_of_getElem? hi)
          exact ⟨w, g1, hvr3 g2 (List.all_eq_true.1 this cc (List.mem_of_getElem? hq))⟩
      | mp es' =>
        obtain ⟨b', a, cl, k1, k2, k3, k4⟩ := ho
        exact ⟨b', a, cl, k1, k2, hents hf k3, k4⟩
      | frz e sz vs => cases hf
      | fmp es' => cases hf
      | it c es' => cases hf
  · intro j o x hj hl hmj hx
    by_cases hji : j = id
    · subst hji
      rw [show E3.M j = some (some b) from hM2] at hmj
      cases hmj
      exact hx.2 rfl
    · exact hr2.nst' j o x (hold j o hji hj) hl hmj hx.1
  · intro j o x hj hfx
    have := hfree j o hj
    cases o with
    | frz e sz vs => simp [frsO] at this
    | fmp es' => simp [frsO] at this
    | it c es' => simp [frsO] at this
    | dead => simp [AO.fixed] at hfx
    | arr e sz vs => simp [AO.fixed] at hfx
    | mp es' => simp [AO.fixed] at hfx
  · intro j j' o o' x hj hj' hl hl' hmj hmj'
    by_cases hji : j = id
    · by_cases hji' : j' = id
      · rw [hji, hji']
      · subst hji
        rw [show E3.M j = some (some b) from hM2] at hmj
        cases hmj
        exact absurd (hr2.fst' j (.fmp es) b (by simp [hid']) rfl hM2) (hr2.nst' j' o' b (hold j' o' hji' hj') hl' hmj')
    · by_cases hji' : j' = id
      · subst hji'
        rw [show E3.M j' = some (some b) from hM2] at hmj'
        cases hmj'
        exact absurd (hr2.fst' j' (.fmp es) b (by simp [hid']) rfl hM2) (hr2.nst' j o b (hold j o hji hj) hl hmj)
      · exact hr2.inj' j j' o o' x (hold j o hji hj) (hold j' o' hji' hj') hl hl' hmj hmj'
  · rintro rfl
    exact hr.nst' id _ x hH rfl hm hx
  · rintro x ⟨j, o, hj, hl, hmj⟩
    by_cases hji : j = id
    · subst hji
      rw [show E3.M j = some (some b) from hM2] at hmj
      cases hmj
      exact .inl ⟨j, _, hH, rfl, hm⟩
    · exact hst.live x ⟨j, o, hold j o hji hj, hl, hmj⟩
end Go.Pg
