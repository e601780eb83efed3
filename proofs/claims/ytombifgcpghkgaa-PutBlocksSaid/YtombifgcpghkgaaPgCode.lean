/- Pg, part 16: code on abstract states; a function's contract. -/
import Derived.Test.YtombifgcpghkgaaPgSub
import Derived.Deep.LoopGhost
namespace Go.Pg
open Go

abbrev APost := Exit → AEnv → AH → Prop

def AWp (P : Program) (N : Nat) (H0 : AH) (E0 : Env) (c : Code) (Q : APost) (ev : AEnv) (H : AH) : Prop :=
  ∀ E a, At N H0 E0 ev H E a → c.wp P (fun e a' w' => ∃ ev' H' E', Q e ev' H' ∧ w' = E'.W ∧ At N H0 E0 ev' H' E' a') a E.W

def thenA (K : AEnv → AH → Prop) (Q : APost) : APost
  | .normal => K
  | e => Q e

def blockA (id : Nat) (Q : APost) : APost
  | .exit i => if i = id then Q .normal else Q (.exit i)
  | e => Q e

def regA (P : Program) (C : Ctr) (mrg dyn : Bool) (ops : Array Oper) (draw : Bool) (ev : AEnv) (H : AH) (K : AEnv → AH → Prop) : Prop :=
  runOps P C (mrg && !dyn) dyn ops ops.toList ev H [] fun ev' H' acc => (dyn = true → draw = true → dynOrd (mkMs ops) acc.reverse = true) ∧ K ev' H'

def regOK (P : Program) (N : Nat) (dyn : Bool) (ops : Array Oper) (draw : Bool) : Bool :=
  dstsOK ops N && (!draw || (slotsOK ops (mkMs ops) && (dyn || statOrd P ops (mkMs ops))))

/-- A loop: with a family of states, one of them at the loop's head. -/
def LoopA (n0 : Nat) (W : APost → AEnv → AH → Prop) (Q : APost) (ev : AEnv) (H : AH) : Prop :=
  ∃ (α : Type) (st : α → AEnv × AH) (pre : α → Prop) (μ : α → Nat), (∃ x, pre x ∧ subS n0 ev H (st x).1 (st x).2) ∧
    ∀ x, pre x → W (thenA (fun ev' H' => ∃ y, pre y ∧ μ y < μ x ∧ subS n0 ev' H' (st y).1 (st y).2) Q) (st x).1 (st x).2

def csel (c : AV) (a b : Prop) : Prop :=
  match c with
  | .bool t => (t = true → a) ∧ (t = false → b)
  | _ => False

def wpA (P : Program) (C : Ctr) (n0 : Nat) (mrg : Bool) (dyn : List Nat) : Code → APost → AEnv → AH → Prop
  | .skip, Q, ev, H => Q .normal ev H
  | .region id ops draw, Q, ev, H => regA P C mrg (dyn.contains id) ops draw ev H (Q .normal)
  | .seq x y, Q, ev, H => wpA P C n0 mrg dyn x (thenA (wpA P C n0 mrg dyn y Q) Q) ev H
  | .cond c x y, Q, ev, H => csel (mkG (opnd ev c)) (wpA P C n0 mrg dyn x Q ev H) (wpA P C n0 mrg dyn y Q ev H)
  | .block id b, Q, ev, H => wpA P C n0 mrg dyn b (blockA id Q) ev H
  | .loop b, Q, ev, H => LoopA n0 (wpA P C n0 mrg dyn b) Q (mark ev) H
  | .exit id, Q, ev, H => Q (.exit id) ev H
  | .ret, Q, ev, H => Q .ret ev H
  | _, _, _, _ => False

def codeOK (P : Program) (N : Nat) (dyn : List Nat) : Code → Bool
  | .region id ops draw => regOK P N (dyn.contains id) ops draw
  | .seq x y => codeOK P N dyn x && codeOK P N dyn y
  | .cond _ x y => codeOK P N dyn x && codeOK P N dyn y
  | .block _ b => codeOK P N dyn b
  | .loop b => codeOK P N dyn b
  | _ => true

section
variable {P : Program} {N : Nat} {H0 : AH} {E0 : Env}

theorem At.drew {ev : AEnv} {H : AH} {E : Env} {a : Act} (h : At N H0 E0 ev H E a) (n : Nat) : At N H0 E0 ev H { E with W := { E.W with drawn := n } } a := by
  have hst : Step H E H { E with W := { E.W with drawn := n } } :=
    ⟨⟨rfl, rfl, rfl, Nat.le_refl _, fun _ _ _ => rfl, fun _ c _ _ h => ⟨c, h, rfl⟩, fun _ _ h => .inl h, fun _ h => h⟩, ⟨fun _ h => h, fun _ L _ h => ⟨L, h, Nat.le_refl _, fun _ => rfl⟩⟩, fun _ h => .inl h⟩
  have hx := hst.ext h.rel
  have hr := h.rel
  refine ⟨h.size, h.defers, fun t => (h.env t).mono hx, ⟨hr.hl, hr.dom, ?_, hr.nst, hr.fst, hr.inj, hr.stlt⟩, h.step.trans hst⟩
  intro id e sz vs hh m hm
  rcases hr.row id e sz vs hh m hm with h1 | ⟨b, c, fz, h1, h2, h3, h4, h5⟩
  · exact .inl h1
  · refine .inr ⟨b, c, fz, h1, h2, h3, h4, fun i v hv => ⟨(h5 i v hv).1, fun k cc hc => ?_⟩⟩
    obtain ⟨u, a1, a2⟩ := (h5 i v hv).2 k cc hc
    exact ⟨u, a1, a2.mono hx⟩

theorem regA_sound {C : Ctr} (hC : CtrOK P C) (hmix : P.follows .mixedOrders = true) {mrg dyn : Bool} {id : Nat} {ops : Array Oper} {draw : Bool} {ev : AEnv} {H : AH} {Q : APost}
    (hok : regOK P N dyn ops draw = true) (h : regA P C mrg dyn ops draw ev H (Q .normal)) : AWp P N H0 E0 (.region id ops draw) Q ev H := by
  obtain ⟨tr, acc, hrun, hacc, hdyn, hQ⟩ := runOps_sound hC (by intro h; simp [h]) _ _ _ _ _ h
  simp only [regOK, Bool.and_eq_true] at hok
  have hpl := planOK_mk (N := N) hrun hok.1
  have hsz : ops.toList.length = ops.size := by simp
  rw [hsz] at hQ
  intro E a ha
  have fin : ∀ (E1 : Env), At N H0 E0 ev H E1 a → ∀ (a' : Act) (E' : Env), a'.tmps.size = (mkPlan N ev H tr).N → a'.defers = a.defers →
      (∀ t, VR E' (seqEnv ops (mkPlan N ev H tr) ops.size t) (a'.tmps.getD t Go.undef)) → Rel ((mkPlan N ev H tr).H ops.size) E' → Step ((mkPlan N ev H tr).H 0) E1 ((mkPlan N ev H tr).H ops.size) E' →
      ∃ ev' H' E'', Q .normal ev' H' ∧ E'.W = E''.W ∧ At N H0 E0 ev' H' E'' a' := by
    intro E1 h1 a' E' a1 a2 a3 a4 a5
    refine ⟨_, _, E', hQ, rfl, a1, a2.trans h1.defers, fun t => ?_, a4, h1.step.trans ?_⟩
    · rw [← seqEnv_mk (N := N) hrun ops.size (Nat.le_refl _)]; exact a3 t
    · have h0 : (mkPlan N ev H tr).H 0 = H := by cases tr <;> rfl
      rw [h0] at a5; exact a5
  have h0 : (mkPlan N ev H tr).H 0 = H := by cases tr <;> rfl
  cases draw with
  | false =>
    refine wp_region ?_
    exact region_seq hpl ha.size ha.env (by rw [h0]; exact ha.rel) (fun a' E' a1 a2 a3 a4 a5 => fin E ha a' E' a1 a2 a3 a4 a5)
  | true =>
    simp only [Bool.not_true, Bool.false_or, Bool.and_eq_true] at hok
    have hd := ha.drew (E.W.drawn + 1)
    have hord : HeapOrd ops (mkMs ops) (mkPlan N ev H tr) := by
      cases dyn with
      | true =>
        have h1 := hdyn rfl rfl
        rw [hacc rfl] at h1
        exact heapOrd_dyn hrun h1
      | false => simp only [Bool.false_or] at hok; exact heapOrd_stat hrun hok.2.2
    refine wp_region_any hmix ?_
    exact region_any (E0 := { E with W := { E.W with drawn := E.W.drawn + 1 } }) hok.2.1 hord hpl hd.size hd.env (by rw [h0]; exact hd.rel) (fun a' E' a1 a2 a3 a4 a5 => fin _ hd a' E' a1 a2 a3 a4 a5)

theorem wpA_sound {C : Ctr} (hC : CtrOK P C) (hmix : P.follows .mixedOrders = true) {mrg : Bool} {dyn : List Nat} (h0 : Rel H0 E0) :
    ∀ (c : Code) (Q : APost) (ev : AEnv) (H : AH), codeOK P N dyn c = true → wpA P C H0.length mrg dyn c Q ev H → AWp P N H0 E0 c Q ev H := by
  intro c
  induction c with
  | skip => intro Q ev H _ h E a ha; exact wp_skip ⟨ev, H, E, h, rfl, ha⟩
  | region id ops draw => intro Q ev H hok h; exact regA_sound hC hmix hok h
  | seq x y ihx ihy =>
    intro Q ev H hok h E a ha
    simp only [codeOK, Bool.and_eq_true] at hok
    refine wp_seq (wp_mono (ihx _ ev H hok.1 h E a ha) fun e a' w' ⟨ev', H', E', hq, hw, ha'⟩ => ?_)
    subst hw
    cases e with
    | normal => exact ihy Q ev' H' hok.2 hq E' a' ha'
    | _ => exact ⟨ev', H', E', hq, rfl, ha'⟩
  | cond c x y ihx ihy =>
    intro Q ev H hok h E a ha
    simp only [codeOK, Bool.and_eq_true] at hok
    simp only [wpA, csel, mkG] at h
    split at h
    · next b hb =>
      have hv := opnd_VR ha.env c
      rw [hb] at hv
      refine wp_cond_split (t := b) hv.bool_inv (fun ht => ihx Q ev H hok.1 (h.1 ht) E a ha) (fun hf => ihy Q ev H hok.2 (h.2 hf) E a ha)
    · exact h.elim
  | block id b ih =>
    intro Q ev H hok h E a ha
    refine wp_block (wp_mono (ih _ ev H hok h E a ha) fun e a' w' ⟨ev', H', E', hq, hw, ha'⟩ => ?_)
    cases e with
    | exit i =>
      simp only [blockA] at hq
      simp only [Exit.inBlock]
      split at hq
      · next he => rw [if_pos he]; exact ⟨ev', H', E', hq, hw, ha'⟩
      · next he => rw [if_neg he]; exact ⟨ev', H', E', hq, hw, ha'⟩
    | _ => exact ⟨ev', H', E', hq, hw, ha'⟩
  | loop b ih =>
    intro Q ev H hok h E a ha
    obtain ⟨α, st, pre, μ, ⟨x0, hx0, hs0⟩, hround⟩ := h
    obtain ⟨E1, hW1, ha1⟩ := ha.sub h0 hs0
    rw [← hW1]
    refine wp_loop_ghost (P := P) (fun n a w => ∃ x E', pre x ∧ μ x = n ∧ w = E'.W ∧ At N H0 E0 (st x).1 (st x).2 E' a) (μ x0) ⟨x0, E1, hx0, rfl, rfl, ha1⟩ ?_
    rintro n a' w' ⟨x, E', hx, hn, rfl, ha'⟩
    refine wp_mono (ih _ _ _ hok (hround x hx) E' a' ha') fun e a2 w2 ⟨ev2, H2, E2, hq, hw, ha2⟩ => ?_
    subst hw
    cases e with
    | normal =>
      obtain ⟨y, hy, hlt, hs⟩ := hq
      obtain ⟨E3, hW3, ha3⟩ := ha2.sub h0 hs
      exact ⟨μ y, by omega, y, E3, hy, rfl, hW3.symm, ha3⟩
    | _ => exact ⟨ev2, H2, E2, hq, rfl, ha2⟩
  | exit id => intro Q ev H _ h E a ha; exact wp_exit ⟨ev, H, E, h, rfl, ha⟩
  | ret => intro Q ev H _ h E a ha; exact wp_ret ⟨ev, H, E, h, rfl, ha⟩
  | rangeFunc => intro Q ev H _ h; exact h.elim
  | scope => intro Q ev H _ h; exact h.elim
  | label => intro Q ev H _ h; exact h.elim
  | goto => intro Q ev H _ h; exact h.elim
  | refuse => intro Q ev H _ h; exact h.elim

end

/-! ### A function -/
def envOf : Nat → List AV → AEnv
  | _, [] => []
  | i, v :: r => (i, v) :: envOf (i + 1) r

/-- What the results read as. -/
def resK (P : Program) (ev : AEnv) (H : AH) : List ResultVar → (List AV → Prop) → Prop
  | [], K => K []
  | .tmp t :: r, K => resK P ev H r fun l => K (look t ev :: l)
  | .cell p t :: r, K => match look p ev with
    | .ptr id sz len idx off => match objAt H id with
      | some (e, sz', vs) => sz' = sz ∧ vs.length = len ∧ idx < vs.length ∧ ∃ v, ldCells P t (vs.getD idx (dz P e)).cells off = some v ∧ resK P ev H r fun l => K (v :: l)
      | none => False
    | _ => False

def tupA : List AV → AV
  | [v] => v
  | l => .tuple l

def retS (P : Program) (n0 : Nat) (rs : List ResultVar) (r : AV) (Hr : AH) : APost
  | .normal, ev, H => resK P ev H rs fun l => subS n0 [(0, tupA l)] H [(0, r)] Hr
  | .ret, ev, H => resK P ev H rs fun l => subS n0 [(0, tupA l)] H [(0, r)] Hr
  | _, _, _ => False

/-- The same; the objects are found by the result. -/
def retA (P : Program) (n0 : Nat) (rs : List ResultVar) (r : AV) (Hr : AH) : APost
  | .normal, ev, H => resK P ev H rs fun l => subA n0 [(0, tupA l)] H [(0, r)] Hr
  | .ret, ev, H => resK P ev H rs fun l => subA n0 [(0, tupA l)] H [(0, r)] Hr
  | _, _, _ => False

theorem resK_mono {P : Program} {ev : AEnv} {H : AH} : ∀ (rs : List ResultVar) (K K' : List AV → Prop), (∀ l, K l → K' l) → resK P ev H rs K → resK P ev H rs K' := by
  intro rs
  induction rs with
  | nil => intro K K' hk h; exact hk _ h
  | cons r rs ih =>
    intro K K' hk h
    cases r with
    | tmp t => exact ih _ _ (fun l => hk _) h
    | cell p t =>
      simp only [resK] at h ⊢
      split at h
      · split at h
        · obtain ⟨h1, h2, h3, v, h4, h5⟩ := h
          exact ⟨h1, h2, h3, v, h4, ih _ _ (fun l => hk _) h5⟩
        · exact h.elim
      · exact h.elim

theorem retA_S {P : Program} {n0 : Nat} {rs : List ResultVar} {r : AV} {Hr : AH} (e : Exit) (ev : AEnv) (H : AH) (h : retA P n0 rs r Hr e ev H) : retS P n0 rs r Hr e ev H := by
  cases e <;> first | exact resK_mono _ _ _ (fun l => subS_of) h | exact h

theorem runOps_mono {P : Program} {C : Ctr} {mrg dyn : Bool} {ops : Array Oper} {K K' : AEnv → AH → Acc → Prop} (hk : ∀ ev H acc, K ev H acc → K' ev H acc) :
    ∀ (l : List Oper) (ev : AEnv) (H : AH) (acc : Acc), runOps P C mrg dyn ops l ev H acc K → runOps P C mrg dyn ops l ev H acc K' := by
  intro l
  induction l with
  | nil => intro ev H acc h; exact hk _ _ _ h
  | cons o r ih =>
    intro ev H acc h
    unfold runOps at h ⊢
    unfold gsel at h ⊢
    split at h
    · exact h.elim
    · exact ⟨h.1, ih _ _ _ h.2⟩
    · unfold ksel at h ⊢
      split at h
      · exact ⟨h.1, ih _ _ _ h.2⟩
      · exact ⟨h.1, ih _ _ _ h.2⟩
      · exact ⟨fun hw => ⟨(h.1 hw).1, ih _ _ _ (h.1 hw).2⟩, fun hw => ih _ _ _ (h.2 hw)⟩

theorem thenA_mono {K K' : AEnv → AH → Prop} {Q Q' : APost} (hk : ∀ ev H, K ev H → K' ev H) (hq : ∀ e ev H, Q e ev H → Q' e ev H) : ∀ e ev H, thenA K Q e ev H → thenA K' Q' e ev H := by
  intro e ev H h
  cases e <;> first | exact hk _ _ h | exact hq _ _ _ h

theorem wpA_mono {P : Program} {C : Ctr} {n0 : Nat} {mrg : Bool} {dyn : List Nat} : ∀ (c : Code) (Q Q' : APost) (ev : AEnv) (H : AH), (∀ e ev H, Q e ev H → Q' e ev H) → wpA P C n0 mrg dyn c Q ev H → wpA P C n0 mrg dyn c Q' ev H := by
  intro c
  induction c with
  | skip => intro Q Q' ev H hq h; exact hq _ _ _ h
  | region id ops draw => intro Q Q' ev H hq h; exact runOps_mono (fun _ _ _ h => ⟨h.1, hq _ _ _ h.2⟩) _ _ _ _ h
  | seq x y ihx ihy => intro Q Q' ev H hq h; exact ihx _ _ _ _ (thenA_mono (fun _ _ h => ihy _ _ _ _ hq h) hq) h
  | cond c x y ihx ihy =>
    intro Q Q' ev H hq h
    simp only [wpA, csel, mkG] at h ⊢
    split at h
    · exact ⟨fun ht => ihx _ _ _ _ hq (h.1 ht), fun ht => ihy _ _ _ _ hq (h.2 ht)⟩
    · exact h.elim
  | block id b ih =>
    intro Q Q' ev H hq h
    refine ih _ _ _ _ (fun e ev H h => ?_) h
    cases e with
    | exit i =>
      simp only [blockA] at h ⊢
      split at h
      · next he => rw [if_pos he]; exact hq _ _ _ h
      · next he => rw [if_neg he]; exact hq _ _ _ h
    | _ => exact hq _ _ _ h
  | loop b ih =>
    intro Q Q' ev H hq h
    obtain ⟨α, st, pre, μ, h0, hr⟩ := h
    exact ⟨α, st, pre, μ, h0, fun x hx => ih _ _ _ _ (thenA_mono (fun _ _ h => h) hq) (hr x hx)⟩
  | exit id => intro Q Q' ev H hq h; exact hq _ _ _ h
  | ret => intro Q Q' ev H hq h; exact hq _ _ _ h
  | _ => intro Q Q' ev H hq h; exact h.elim

theorem look_envOf (t : Nat) : ∀ (l : List AV) (i : Nat), look t (envOf i l) = if i ≤ t then (l[t - i]?).getD .top else .top := by
  intro l
  induction l with
  | nil => intro i; simp [envOf, look]
  | cons v l ih =>
    intro i
    simp only [envOf, look]
    by_cases h : t = i
    · subst h; simp
    · rw [if_neg h, ih]
      by_cases h1 : i ≤ t
      · rw [if_pos (show i + 1 ≤ t by omega), if_pos h1]
        rw [show t - i = (t - (i + 1)) + 1 by omega]
        simp
      · rw [if_neg h1, if_neg (by omega)]

def rvRun (tmps : Array Value) : ResultVar → Sem Value
  | .tmp t => pure (tmps.getD t undef)
  | .cell a t => do loadVar t (← asAddr (tmps.getD a undef))

theorem resK_run {P : Program} {N : Nat} {H0 : AH} {E0 : Env} {ev : AEnv} {H : AH} {E : Env} {a : Act} (ha : At N H0 E0 ev H E a) : ∀ (rs : List ResultVar) (K : List AV → Prop), resK P ev H rs K →
    ∃ (l : List AV) (vs : List Value), K l ∧ (rs.mapM (rvRun a.tmps)).run P E.W = .ok vs E.W ∧ vs.length = l.length ∧ ∀ (i : Nat) x, l[i]? = some x → VR E x (vs.getD i Go.undef) := by
  intro rs
  induction rs with
  | nil => intro K h; exact ⟨[], [], h, rfl, rfl, fun i x h => by simp at h⟩
  | cons r rs ih =>
    intro K h
    have fin : ∀ (x : AV) (v : Value), VR E x v → (rvRun a.tmps r).run P E.W = .ok v E.W → resK P ev H rs (fun l => K (x :: l)) →
        ∃ (l : List AV) (vs : List Value), K l ∧ ((r :: rs).mapM (rvRun a.tmps)).run P E.W = .ok vs E.W ∧ vs.length = l.length ∧ ∀ (i : Nat) x, l[i]? = some x → VR E x (vs.getD i Go.undef) := by
      intro x v hv hr h
      obtain ⟨l, vs, h1, h2, h3, h4⟩ := ih _ h
      refine ⟨x :: l, v :: vs, h1, by rw [List.mapM_cons]; simp only [Sem.run_bind, hr, Result.andThen_ok, h2, Sem.run_pure], by simp [h3], fun i y hy => ?_⟩
      cases i with
      | zero => simp at hy; subst hy; exact hv
      | succ i => simpa using h4 i y (by simpa using hy)
    cases r with
    | tmp t => exact fin _ _ (ha.env t) (by simp [rvRun]) h
    | cell p t =>
      simp only [resK] at h
      split at h
      · next id sz len idx off hp =>
        split at h
        · next e sz' vs ho =>
          obtain ⟨rfl, hlen, hlt0, V, hV, h⟩ := h
          have hy : vs[idx]? = some (vs.getD idx (dz P e)) := by simp [hlt0]
          have h1 := ha.env p
          rw [hp] at h1
          obtain ⟨b, hb, hav, hysz, c, fz, hw, _, hc, hv⟩ := ptr_read ha.rel h1 ho hlen hy
          obtain ⟨v, h2, h3⟩ := load_run hV (E := E) (b := b) (o := idx * sz') (fun j cc hj => by
            obtain ⟨u, h1, h2⟩ := hv j cc hj
            exact ⟨u, by simp [World.cell?, hw, h1], h2⟩)
          exact fin V v h2 (by simp only [rvRun, hav, asAddr, Sem.run_bind, Sem.run_pure, Result.andThen_ok, h3]) h
        · exact h.elim
      · exact h.elim

theorem results_run {P : Program} {w : World} {tmps : Array Value} {fn : Func} {vs : List Value} (h : (fn.results.toList.mapM (rvRun tmps)).run P w = .ok vs w) :
    (results fn tmps).run P w = .ok (if h : vs.length = 1 then vs[0] else .tuple vs.toArray) w := by
  have e : results fn tmps = (do let vs ← fn.results.mapM (rvRun tmps); pure (if h : vs.size = 1 then vs[0] else .tuple vs)) := by
    unfold results rvRun; rfl
  rw [e, Array.mapM_eq_mapM_toList]
  simp only [map_eq_pure_bind, Sem.run_bind, h, Result.andThen_ok, Sem.run_pure, bind_assoc, pure_bind]
  simp

theorem callsR_ofW {P : Program} {f : FuncId} {fn : Func} {c : Code} {args : List AV} {H : AH} {r : AV} {Hr : AH}
    (hf : P.funcs[f]? = some fn) (hb : fn.body = some c) (hn : args.length ≤ fn.ntmps)
    (h : ∀ E, Rel H E → AWp P fn.ntmps H E c (retS P H.length fn.results.toList r Hr) (envOf 0 args) H) : CallsR P f args H r Hr := by
  intro E vals hr hvs
  refine calls_of_wp hf hb ?_
  have hat : At fn.ntmps H E (envOf 0 args) H E { tmps := vals ++ Array.replicate (fn.ntmps - vals.size) Go.undef, defers := [] } := by
    refine ⟨by simp [hvs.1]; omega, rfl, fun t => ?_, hr, Step.refl _ _⟩
    rw [look_envOf]
    simp only [Nat.zero_le, if_true, Nat.sub_zero]
    cases ht : args[t]? with
    | none => exact .top _
    | some v =>
      have hlt : t < vals.size := by rw [hvs.1]; exact (List.getElem?_eq_some_iff.1 ht).1
      have := hvs.2 t v ht
      have e : (vals ++ Array.replicate (fn.ntmps - vals.size) Go.undef).getD t Go.undef = vals.getD t Go.undef := by
        simp only [Array.getD_eq_getD_getElem?]
        rw [Array.getElem?_append_left hlt]
      simp only [Option.getD_some]
      rw [e]; exact this
  have fin : ∀ {ev' : AEnv} {H' : AH} {E' : Env} {a' : Act}, (resK P ev' H' fn.results.toList fun l => subS H.length [(0, tupA l)] H' [(0, r)] Hr) → At fn.ntmps H E ev' H' E' a' →
      a'.defers = [] ∧ ∃ v, (results fn a'.tmps).run P E'.W = .ok v E'.W ∧ ∃ v' E2, Ending.returned v = .returned v' ∧ E2.W = E'.W ∧ VR E2 r v' ∧ Rel Hr E2 ∧ Step H E Hr E2 := by
    intro ev' H' E' a' hs ha
    obtain ⟨l, vs, hsub, hrun, hlen, hvr⟩ := resK_run ha _ _ hs
    have hv := results_run hrun
    generalize hvv : (if h : vs.length = 1 then vs[0] else Value.tuple vs.toArray) = v at hv
    refine ⟨ha.defers, v, hv, v, ?_⟩
    have htup : VR E' (tupA l) v := by
      rw [← hvv]
      have gen : VR E' (.tuple l) (.tuple vs.toArray) := .tuple _ _ (by simpa using hlen) fun i c hc => by
        have := hvr i c hc
        simpa [Array.getD_eq_getD_getElem?] using this
      by_cases h1 : vs.length = 1
      · rw [dif_pos h1]
        clear hsub hrun hv gen hvv
        obtain ⟨x, rfl⟩ := List.length_eq_one_iff.1 (hlen.symm.trans h1)
        obtain ⟨v, rfl⟩ := List.length_eq_one_iff.1 h1
        simpa [tupA] using hvr 0 x rfl
      · rw [dif_neg h1]
        have : tupA l = .tuple l := by
          unfold tupA
          split
          · simp at hlen; exact absurd hlen h1
          · rfl
        rw [this]; exact gen
    have h1 : At 1 H E [(0, tupA l)] H' E' { tmps := #[v], defers := [] } := by
      refine ⟨rfl, rfl, fun t => ?_, ha.rel, ha.step⟩
      simp only [look]
      split
      · next ht => subst ht; exact htup
      · exact .top _
    obtain ⟨E2, hW, h2⟩ := h1.sub hr hsub
    refine ⟨E2, rfl, hW, ?_, h2.rel, h2.step⟩
    have := h2.env 0
    simpa [look] using this
  refine wp_mono (h E hr E _ hat) fun e a' w' ⟨ev', H', E', hq, hw, ha⟩ => ?_
  subst hw
  cases e with
  | normal => exact fin hq ha
  | ret => exact fin hq ha
  | _ => exact hq.elim

theorem callsR_ofS {P : Program} {C : Ctr} (hC : CtrOK P C) (hmix : P.follows .mixedOrders = true) {mrg : Bool} {dyn : List Nat} {f : FuncId} {fn : Func} {c : Code} {args : List AV} {H : AH} {r : AV} {Hr : AH}
    (hf : P.funcs[f]? = some fn) (hb : fn.body = some c) (hn : args.length ≤ fn.ntmps) (hok : codeOK P fn.ntmps dyn c = true)
    (h : wpA P C H.length mrg dyn c (retS P H.length fn.results.toList r Hr) (envOf 0 args) H) : CallsR P f args H r Hr :=
  callsR_ofW hf hb hn fun E hr => wpA_sound hC hmix hr c _ _ _ hok h

theorem AWp.seq {P : Program} {N : Nat} {H0 : AH} {E0 : Env} {x y : Code} {Q : APost} {ev : AEnv} {H : AH} (h : AWp P N H0 E0 x (thenA (AWp P N H0 E0 y Q) Q) ev H) : AWp P N H0 E0 (.seq x y) Q ev H := by
  intro E a ha
  refine wp_seq (wp_mono (h E a ha) fun e a' w' ⟨ev', H', E', hq, hw, ha'⟩ => ?_)
  subst hw
  cases e with
  | normal => exact hq E' a' ha'
  | _ => exact ⟨ev', H', E', hq, rfl, ha'⟩

theorem At.put {P : Program} {N : Nat} {H0 : AH} {E0 : Env} {ev : AEnv} {H : AH} {E : Env} {a : Act} (h : At N H0 E0 ev H E a) {t : Nat} (ht : t < N) {x : AV} {v : Value} (hv : VR E x v) : At N H0 E0 ((t, x) :: ev) H E (a.put (some t) v) := by
  refine ⟨by simp [Act.put, h.size], h.defers, fun s => ?_, h.rel, h.step⟩
  simp only [look, Act.put, Array.getD_eq_getD_getElem?]
  by_cases e : s = t
  · subst e
    rw [if_pos rfl]
    simpa [h.size, ht] using hv
  · rw [if_neg e]
    have h1 := h.env s
    rw [Array.getD_eq_getD_getElem?] at h1
    rw [Array.getElem?_setIfInBounds_ne (Ne.symm e)]
    exact h1

theorem callsR_of {P : Program} {C : Ctr} (hC : CtrOK P C) (hmix : P.follows .mixedOrders = true) {mrg : Bool} {dyn : List Nat} {f : FuncId} {fn : Func} {c : Code} {args : List AV} {H : AH} {r : AV} {Hr : AH}
    (hf : P.funcs[f]? = some fn) (hb : fn.body = some c) (hn : args.length ≤ fn.ntmps) (hok : codeOK P fn.ntmps dyn c = true)
    (h : wpA P C H.length mrg dyn c (retA P H.length fn.results.toList r Hr) (envOf 0 args) H) : CallsR P f args H r Hr :=
  callsR_ofS hC hmix hf hb hn hok (wpA_mono _ _ _ _ _ (fun e ev H h => retA_S e ev H h) h)

end Go.Pg
