/- Pg: abstract values, what operations, regions, calls come to on them. -/
import Derived.Test.YtddkekepoimcpaaGreatDoorPgGe
import Derived.Lib.Bytealg
import Derived.Test.YtddkekepoimcpaaGreatDoorPgYld2
set_option linter.unusedVariables false
set_option linter.unusedSimpArgs false
namespace Go.Pg
open Go Go.RowKit

theorem ext_pure {P : Program} {fid : FuncId} {e : Array Value → Sem Value} {xs : List AV} {v : AV} {ev : AEnv} {o : Oper}
    (hrun : ∀ (args : Array Value) (w : World), (callFunc fid args).run P w = ((e args).run P w).andThen fun v w' => .ok (.value v) w')
    (hv : ∀ (E : Env) (vals : Array Value), VRs E xs vals → ∃ u, VR E v u ∧ (e vals).run P E.W = .ok u E.W) (ho : CallIs ev o fid xs) : PureOK P o (fun E a => Opd ev E a o) v := by
  intro E a hl
  obtain ⟨f, args, ats, ho1, h⟩ := ho
  obtain ⟨h1, h2⟩ := opd_args ho1 hl
  rcases h with ⟨cap, hf, rfl⟩ | ⟨cap, hf, rfl⟩
  · rw [hf] at h1
    obtain ⟨us, hfe, hus, husv⟩ := h1.fn_inv
    obtain ⟨u, g1, g2⟩ := hv E (args.map a.eval ++ us) (h2.append ⟨hus, husv⟩)
    refine ⟨u, g1, ?_⟩
    have := hrun (args.map a.eval ++ us) E.W
    rw [g2] at this
    simp [execOp, ho1, resolve, hfe, Deferred.ofValue, invoke, this]
  · rw [hf] at h1
    obtain ⟨us, hfe, hus, husv⟩ : ∃ us : Array Value, a.eval f = .func (.func fid) us #[] ∧ us.size = cap.length ∧ ∀ i c, cap[i]? = some c → VR E c (us.getD i Go.undef) := by
      generalize a.eval f = v at h1
      cases h1 with | mth _ _ us h1 h2 => exact ⟨us, rfl, h1, h2⟩
    obtain ⟨u, g1, g2⟩ := hv E (us ++ args.map a.eval) (VRs.append ⟨hus, husv⟩ h2)
    refine ⟨u, g1, ?_⟩
    have := hrun (us ++ args.map a.eval) E.W
    rw [g2] at this
    simp [execOp, ho1, resolve, hfe, Deferred.ofValue, invoke, this]

theorem VRs.two' {E : Env} {a b : AV} {vals : Array Value} (h : VRs E [a, b] vals) : ∃ u v, vals = #[u, v] ∧ VR E a u ∧ VR E b v := by
  obtain ⟨h1, h2⟩ := h
  obtain ⟨l⟩ := vals
  match l, h1 with
  | [u, v], _ => exact ⟨u, v, rfl, h2 0 a rfl, h2 1 b rfl⟩

/-- How many bytes are c. -/
def cntB (c : UInt8) : List UInt8 → Nat
  | [] => 0
  | b :: r => if b == c then cntB c r + 1 else cntB c r
theorem cntB_eq (c : UInt8) : ∀ (l : List UInt8), cntB c l = Lib.countByte l c := by
  intro l
  induction l with
  | nil => rfl
  | cons b r ih =>
    unfold cntB Lib.countByte
    rw [List.count_cons, ih]
    unfold Lib.countByte
    split <;> rfl

theorem ext_count {P : Program} {fid : FuncId} {s : List UInt8} {n : Int} {ev : AEnv} {o : Oper}
    (hrun : ∀ (args : Array Value) (w : World), (callFunc fid args).run P w = ((Extern.BytealgCount.count args).run P w).andThen fun v w' => .ok (.value v) w') (ho : CallIs ev o fid [.str s, .int .u8 n]) :
    PureOK P o (fun E a => Opd ev E a o) (.int .i64 (cntB n.toNat.toUInt8 s)) := by
  refine ext_pure hrun (fun E vals hv => ?_) ho
  obtain ⟨u, v, rfl, h1, h2⟩ := hv.two'
  obtain ⟨b, rfl, hb⟩ := h1.str_inv
  rw [h2.int_inv]
  refine ⟨_, .int _ _, ?_⟩
  rw [Lib.run_countString, cntB_eq, hb]

theorem ext_index {P : Program} {fid : FuncId} {s : List UInt8} {n : Int} {ev : AEnv} {o : Oper}
    (hrun : ∀ (args : Array Value) (w : World), (callFunc fid args).run P w = ((Extern.BytealgIndexByte.indexByte args).run P w).andThen fun v w' => .ok (.value v) w') (ho : CallIs ev o fid [.str s, .int .u8 n]) :
    PureOK P o (fun E a => Opd ev E a o) (.int .i64 (Lib.indexByte s n.toNat.toUInt8)) := by
  refine ext_pure hrun (fun E vals hv => ?_) ho
  obtain ⟨u, v, rfl, h1, h2⟩ := hv.two'
  obtain ⟨b, rfl, hb⟩ := h1.str_inv
  rw [h2.int_inv]
  refine ⟨_, .int _ _, ?_⟩
  rw [Lib.run_indexByteString, hb]
end Go.Pg
namespace Go.Pg
open Go Go.RowKit

theorem putObj_back {W : World} {l : Nat} {o : Obj} (o' : Obj) (h : W.heap[l]? = some o) : (W.putObj l o').putObj l o = W := by
  have hl : l < W.heap.size := (Array.getElem?_eq_some_iff.1 h).1
  have e : (W.heap.setIfInBounds l o').setIfInBounds l o = W.heap := by
    apply Array.ext
    · simp
    · intro i h1 h2
      by_cases hi : i = l
      · subst hi
        simp only [Array.getElem_setIfInBounds_self]
        exact (Array.getElem?_eq_some_iff.1 h).2.symm
      · rw [Array.getElem_setIfInBounds_ne (by simpa using h2) (Ne.symm hi), Array.getElem_setIfInBounds_ne (by simpa using h2) (Ne.symm hi)]
  show { W with heap := (W.heap.setIfInBounds l o').setIfInBounds l o } = W
  rw [e]

theorem yield_idle {P : Program} {W : World} {l : Nat} {r : Loop} (h : Ready W l r) {args : Array Value} (hs : args.size = r.params.size) (n : Nat) :
    YieldAt Fence.wide n P l args W fun e B => e = .returned (.bool true) ∧ B = W := by
  obtain ⟨i, hb⟩ := h.body
  refine ⟨_, _, _, _, run_yield h.at_ hs, roundIn_of_wpIn trivial ?_⟩
  rw [h.assign, hb]
  refine wpIn_skip ?_
  refine ⟨_, run_beginRound h.at_ h.state, ?_⟩
  refine wpIn_block (wpIn_exit ?_)
  have hl : l < W.heap.size := (Array.getElem?_eq_some_iff.1 h.at_).1
  have h2 : (W.putObj l (.loop { r with state := .busy })).heap[l]? = some (.loop { r with state := .busy }) := World.putObj_heap_same hl
  simp only [Exit.inBlock, if_true]
  refine ⟨_, _, run_endRound (P := P) none h2, rfl, ?_⟩
  have e : ({ ({ r with state := .busy } : Loop) with state := if (none : Option Code).isNone then .ready else .done, pending := none } : Loop) = r := by
    obtain ⟨a1, a2, a3, a4, a5⟩ := h
    cases r
    simp only at a2 a3
    subst a2; subst a3
    rfl
  rw [e]
  exact putObj_back _ h.at_

theorem Ready.keep {P : Program} {N l : Nat} {r : Loop} {H0 H : AH} {E0 E : Env} {ev : AEnv} {a : Act} (h : Ready E0.W l r) (hr : Rel H0 E0) (ha : At N H0 E0 ev H E a) : Ready E.W l r := by
  have hl : l < E0.W.heap.size := (Array.getElem?_eq_some_iff.1 h.at_).1
  refine ⟨?_, h.state, h.pending, h.assign, h.body⟩
  rw [ha.step.mv.keep l hl ?_, h.at_]
  rintro ⟨id, o, h1, h2, h3⟩
  obtain ⟨o2, h4, h5⟩ := bk_orow (hr.orow id o _ h1 h3) (AO.lives_dead h2)
  rw [h.at_] at h4; cases h4
  cases h5

/-- A call of a yield: of which, with so many arguments. -/
def isYld (ev : AEnv) (o : Oper) : Option (Nat × Nat) :=
  match o.op with
  | .call { callee := .value f, args, argTypes := _ } => match opnd ev f with
    | .yld l => some (l, args.size)
    | _ => none
  | _ => none

/-- Operations one after the other, among them calls of the yield, which come back with true. -/
def runEY (P : Program) (cf : CallF) (kill : Bool) (k : Nat) (ops : Array Oper) : List Oper → AEnv → AH → Er (AEnv × AH × List Nat)
  | [], ev, H => .ok (ev, H, [])
  | o :: r, ev, H => match gw ops ev o with
    | none => .no [(1, 0)]
    | some (some false) => runEY P cf kill k ops r (stepEv o .undef ev) H
    | _ => match isYld ev o with
      | some (l, n) => match n == k with
        | true => (runEY P cf kill k ops r (stepEv o (.bool true) ev) H).bind fun (ev', H', ls) => .ok (ev', H', l :: ls)
        | false => .no [(11, 0)]
      | none => (oneE P cf kill false ev H (plainO o)).bind fun (V, H1, _) => runEY P cf kill k ops r (stepEv o V ev) H1

section
variable {P : Program} {N : Nat} {H0 : AH} {E0 : Env}

theorem oper_one {ev : AEnv} {H : AH} {o : Oper} {V : AV} {H1 : AH} {m : Foot} (hd : dstsOK #[plainO o] N = true) (h : OneIs P ev H (plainO o) V H1 m) {E : Env} {a : Act} (hs : a.tmps.size = N) (hr : Rel H E) (he : ∀ t, VR E (look t ev) (a.tmps.getD t Go.undef))
    {K : Act → World → Prop} {Q : Exit → Act → World → Prop}
    (hK : ∀ a' E', a'.tmps.size = N → a'.defers = a.defers → (∀ t, VR E' (look t (stepEv o V ev)) (a'.tmps.getD t Go.undef)) → Rel H1 E' → Step H E H1 E' → K a' E'.W) : o.wp P a E.W K Q := by
  obtain ⟨hp, hok⟩ := h
  have hok' : OneOK P ev H (plainO o) ⟨hp, true, V, m.1, m.2.1, m.2.2.1 ++ m.2.2.2, H1, []⟩ := by
    obtain ⟨hp', h'⟩ := OneIs.split (m' := (m.1, m.2.1, m.2.2.1 ++ m.2.2.2, [])) ⟨hp, hok⟩ rfl rfl (fun id => by simp) (by simp)
    unfold OneOK at hok h' ⊢
    cases hp <;> cases hp' <;> simp only at hok h' ⊢
    · exact h'
    · obtain ⟨k1, k2, k3, k4, k5, k6⟩ := hok; exact ⟨k1, k2, k3, k4, by rw [k5, k6]; rfl, trivial⟩
    · obtain ⟨k1, k2, k3⟩ := hok
      exact ⟨by simpa using k1, by simpa using k2, by simp⟩
    · exact h'
  have hro : RunOK P False #[plainO o] [plainO o] ev H [⟨hp, true, V, m.1, m.2.1, m.2.2.1 ++ m.2.2.2, H1, []⟩] := by
    refine runOK_cons ⟨gw_none (by unfold gw; rfl), hok', fun hf => hf.elim, fun hf => hf.elim⟩ ⟨rfl, fun i e he => by simp at he, fun i o ho => by simp at ho⟩ (by simp)
  have hpl := planOK_mk (N := N) (ops := #[plainO o]) hro hd
  have h0 : (mkPlan N ev H [⟨hp, true, V, m.1, m.2.1, m.2.2.1 ++ m.2.2.2, H1, []⟩]).H 0 = H := rfl
  have hseq := region_seq (Q := fun e a' w' => match e with | .normal => K a' w' | _ => False) (E0 := E) (a0 := a) hpl hs he (by rw [h0]; exact hr) (fun a' E' g1 g2 g3 g4 g5 => by
    have hH1 : (mkPlan N ev H [⟨hp, true, V, m.1, m.2.1, m.2.2.1 ++ m.2.2.2, H1, []⟩]).H 1 = H1 := rfl
    rw [h0] at g5
    rw [show (#[plainO o] : Array Oper).size = 1 from rfl] at g3 g4 g5
    rw [hH1] at g4 g5
    refine hK a' E' g1 g2 (fun t => ?_) g4 g5
    have h3 := g3 t
    have e1 := seqEnv_mk (N := N) hro 1 (Nat.le_refl _) (t := t)
    rw [e1] at h3
    exact h3)
  have : wpOps P #[plainO o] (fun e a' w' => match e with | .normal => K a' w' | _ => False) [0] a E.W := hseq
  rw [wpOps_cons] at this
  unfold wpOp at this
  simp only [List.getElem?_toArray, List.getElem?_cons_zero, Region.wanted, plainO, if_true] at this
  rcases this with h1 | h1
  · unfold Oper.wp at h1 ⊢
    have e1 : execOp a.eval { o with guard := none } = execOp a.eval o := rfl
    rw [e1] at h1
    generalize (execOp a.eval o).run P E.W = r at h1
    cases r with
    | ok x w' =>
      cases x with
      | enter f args =>
        rw [Oper.upon_enter] at h1 ⊢
        refine h1.mono fun e w'' he => ?_
        cases e with
        | returned v => exact he
        | panicked ch => exact he.elim
        | outgrown => obtain ⟨_, _, hh⟩ := he; exact hh.elim
      | row row args => exact h1
      | value v => exact h1
      | skip => exact h1
      | defer d => exact h1
      | _ => exact h1.elim
    | halt x w' => cases x <;> exact h1.elim
  · obtain ⟨_, _, _, hh⟩ := h1
    exact hh.elim

theorem At.putv {ev : AEnv} {H : AH} {E : Env} {a : Act} {o : Oper} (h : At N H0 E0 ev H E a) (hd : dstsOK #[plainO o] N = true) {x : AV} {v : Value} (hv : VR E x v) : At N H0 E0 (stepEv o x ev) H E (a.put o.dst v) := by
  cases hdst : o.dst with
  | none =>
    have e1 : stepEv o x ev = ev := by simp [stepEv, hdst]
    rw [e1]
    exact h
  | some t =>
    have ht : t < N := by simpa [dstsOK, plainO, hdst] using hd
    have e1 : stepEv o x ev = (t, x) :: ev := by simp [stepEv, hdst]
    rw [e1]
    exact h.put' ht hv

theorem runEY_ok {cf : CallF} (hcf : CfOK P cf) {kill : Bool} {ops : Array Oper} {l : Nat} {r : Loop} (hr0 : Rel H0 E0) (hl : Ready E0.W l r) (hok : dstsOK ops N = true) (hnd : ∀ (i : Nat) (o : Oper), ops[i]? = some o → noDefer o = true) {Q : Exit → Act → World → Prop} {n : Nat} {ev' : AEnv} {H' : AH}
    (hK : ∀ E' a', At N H0 E0 ev' H' E' a' → Q .normal a' E'.W) :
    ∀ (m i : Nat), i + m = ops.size → ∀ (ev : AEnv) (H : AH) (ls : List Nat) (E : Env) (a : Act), runEY P cf kill r.params.size ops (ops.toList.drop i) ev H = .ok (ev', H', ls) → (∀ l' ∈ ls, l' = l) → At N H0 E0 ev H E a →
      wpOpsIn Fence.wide n P ops Q (List.range' i m) a E.W := by
  intro m
  induction m with
  | zero =>
    intro i hi ev H ls E a h _ ha
    rw [List.drop_of_length_le (by simp; omega)] at h
    cases h
    exact hK E a ha
  | succ m ih =>
    intro i hi ev H ls E a h hls ha
    have hil : i < ops.size := by omega
    have ho : ops[i]? = some ops[i] := by simp [hil]
    rw [List.drop_eq_getElem_cons (by simpa using hil)] at h
    have e1 : ops.toList[i]'(by simpa using hil) = ops[i] := by simp
    rw [e1] at h
    have hdst : dstsOK #[plainO ops[i]] N = true := by
      unfold dstsOK at hok ⊢
      have := List.all_eq_true.1 hok ops[i] (by simp)
      simpa [plainO] using this
    have hn1 := hnd i _ ho
    generalize ops[i] = o at ho h hdst hn1
    rw [List.range'_succ, wpOpsIn_cons]
    unfold wpOpIn
    rw [ho]
    dsimp only
    unfold runEY at h
    have yes : (match isYld ev o with
        | some (l, n) => match n == r.params.size with
          | true => (runEY P cf kill r.params.size ops (ops.toList.drop (i + 1)) (stepEv o (.bool true) ev) H).bind fun (ev', H', ls) => .ok (ev', H', l :: ls)
          | false => .no [(11, 0)]
        | none => (oneE P cf kill false ev H (plainO o)).bind fun (V, H1, _) => runEY P cf kill r.params.size ops (ops.toList.drop (i + 1)) (stepEv o V ev) H1) = .ok (ev', H', ls) → o.wpIn Fence.wide n P a E.W (wpOpsIn Fence.wide n P ops Q (List.range' (i + 1) m)) Q := by
      intro h
      split at h
      · next l1 k hy =>
        split at h
        · next hk =>
          obtain ⟨⟨ev2, H2, ls2⟩, h1, h2⟩ := Er.bind_ok h
          cases h2
          have hll : l1 = l := hls l1 (by simp)
          subst hll
          unfold isYld at hy
          split at hy
          case h_2 => cases hy
          next f args ats hop =>
          split at hy
          case h_2 => cases hy
          next l2 hf =>
          cases hy
          have hfv := opnd_VR ha.env f
          rw [hf] at hfv
          have hfe : a.eval f = .func (.yield l1) #[] #[] := by
            generalize a.eval f = v at hfv
            cases hfv; rfl
          have hexec : execOp a.eval o = Instr.yield l1 (args.map a.eval) := by
            simp [execOp, hop, resolve, hfe, Deferred.ofValue, invoke]
          refine ⟨fun f _ => trivial, ?_⟩
          obtain ⟨fn, tmps, assign, body, hrun, hround⟩ := yield_idle (P := P) (hl.keep (P := P) hr0 ha) (args := args.map a.eval) (by simpa using hk) (n - 1)
          rw [show Fence.wide.round = none from rfl, Oper.semAt_none, hexec, hrun, Oper.uponIn_round]
          refine ⟨fun e => (by cases e), RoundIn.mono hround fun e B he => ?_⟩
          obtain ⟨rfl, rfl⟩ := he
          exact ih (i + 1) (by omega) _ H ls2 E _ h1 (fun l' hl' => hls l' (by simp [hl'])) (ha.putv hdst (.bool true))
        · cases h
      · obtain ⟨⟨V, H1, m1⟩, h1, h2⟩ := Er.bind_ok h
        refine oper_FW (rd := none) hn1 (oper_one hdst (oneE_ok hcf h1) ha.size ha.rel ha.env fun a' E' g1 g2 g3 g4 g5 => ?_)
        exact ih (i + 1) (by omega) _ H1 ls E' a' h2 hls ⟨g1, by rw [g2]; exact Marks.step ha.rel g5 ha.defers, g3, g4, ha.step.trans g5⟩
    split at h
    · cases h
    · next hg =>
      have hw := wanted_now (gw_some hg) ha.env
      rw [if_neg (by rw [hw]; simp)]
      exact ⟨fun f _ => trivial, ih (i + 1) (by omega) _ H ls E _ h hls (ha.putv hdst .undef)⟩
    · next hn1' hn2' =>
      have hw : Region.wanted o (yielded ops a.tmps) = true := by
        cases hq : gw ops ev o with
        | none => exact absurd hq hn1'
        | some x =>
          cases x with
          | none => exact wanted_now (gw_none hq) ha.env
          | some w =>
            cases w with
            | false => exact absurd hq hn2'
            | true => exact wanted_now (gw_some hq) ha.env
      rw [if_pos hw]
      exact yes h
end
end Go.Pg
namespace Go.Pg
open Go Go.RowKit

def loopY (f : AEnv → AH → Er (St × List Nat)) : Nat → AEnv → AH → Er (St × List Nat)
  | 0, _, _ => .no [(4, 0)]
  | n + 1, ev, H => (f ev H).bind fun ((e, ev', H'), l1) => match e with
    | .normal => (loopY f n (compactE [] ev') H').bind fun (s, l2) => .ok (s, l1 ++ l2)
    | e => .ok ((e, ev', H'), l1)

def evY (P : Program) (cf : CallF) (kill : Bool) (k : Nat) : Code → AEnv → AH → Er (St × List Nat)
  | .skip, ev, H => .ok ((.normal, ev, H), [])
  | .region id ops draw, ev, H => match draw with
    | true => (regE P cf kill false id ops true ev H).bind fun (ev', H') => .ok ((.normal, ev', H'), [])
    | false => (runEY P cf kill k ops ops.toList ev H).bind fun (ev', H', ls) => .ok ((.normal, ev', H'), ls)
  | .seq a b, ev, H => (evY P cf kill k a ev H).bind fun ((e, ev', H'), l1) => match e with
    | .normal => (evY P cf kill k b ev' H').bind fun (s, l2) => .ok (s, l1 ++ l2)
    | e => .ok ((e, ev', H'), l1)
  | .cond c a b, ev, H => match opnd ev c with
    | .bool true => evY P cf kill k a ev H
    | .bool false => evY P cf kill k b ev H
    | _ => .no [(5, 0)]
  | .block id b, ev, H => (evY P cf kill k b ev H).bind fun ((e, ev', H'), ls) => .ok ((exB id e, ev', H'), ls)
  | .loop b, ev, H => loopY (evY P cf kill k b) 300 ev H
  | .exit id, ev, H => .ok ((.exit id, ev, H), [])
  | .ret, ev, H => .ok ((.ret, ev, H), [])
  | _, _, _ => .no [(7, 0)]

section
variable {P : Program} {N : Nat} {H0 : AH} {E0 : Env} {l : Nat} {r : Loop}

theorem yreg_ok {cf : CallF} (hcf : CfOK P cf) (hr0 : Rel H0 E0) (hl : Ready E0.W l r) {kill : Bool} {id : Nat} {ops : Array Oper} {ev ev' : AEnv} {H H' : AH} {ls : List Nat} (hok : regOK P N true ops false = true)
    (h : runEY P cf kill r.params.size ops ops.toList ev H = .ok (ev', H', ls)) (hls : ∀ l' ∈ ls, l' = l) : AWp P N H0 E0 (.region id ops false) (isQ .normal ev' H') ev H none false := by
  simp only [regOK, Bool.and_eq_true] at hok
  obtain ⟨⟨hok1, hnd⟩, _⟩ := hok
  have hnd' : ∀ (i : Nat) (o : Oper), ops[i]? = some o → noDefer o = true := fun i o ho => List.all_eq_true.1 hnd o (by simpa using Array.mem_of_getElem? ho)
  intro n E a ha hdf
  refine wpIn_region ?_
  rw [List.range_eq_range']
  exact runEY_ok hcf hr0 hl hok1 hnd' (fun E' a' ha' => ⟨_, _, E', ⟨rfl, rfl, rfl⟩, rfl, ha', fun hh => by cases hh⟩) ops.size 0 (by omega) ev H ls E a h hls ha

theorem loopY_ok {b : Code} {f : AEnv → AH → Er (St × List Nat)} (hf : ∀ ev H e ev' H' ls, f ev H = .ok ((e, ev', H'), ls) → (∀ l' ∈ ls, l' = l) → leftOK e = true ∧ AWp P N H0 E0 b (isQ e ev' H') ev H none false) :
    ∀ (n : Nat) (ev : AEnv) (H : AH) (e : Exit) (ev' : AEnv) (H' : AH) (ls : List Nat), loopY f n ev H = .ok ((e, ev', H'), ls) → (∀ l' ∈ ls, l' = l) → leftOK e = true ∧ AWp P N H0 E0 (.loop b) (isQ e ev' H') ev H none false := by
  intro n ev H e ev' H' ls h hls
  have hleft : ∀ (n : Nat) (ev : AEnv) (H : AH) (ls : List Nat), loopY f n ev H = .ok ((e, ev', H'), ls) → (∀ l' ∈ ls, l' = l) → leftOK e = true := by
    intro n
    induction n with
    | zero => intro ev H ls h; cases h
    | succ n ih =>
      intro ev H ls h hls
      unfold loopY at h
      obtain ⟨⟨⟨e1, ev1, H1⟩, l1⟩, h1, h2⟩ := Er.bind_ok h
      dsimp only at h2
      split at h2
      · obtain ⟨⟨s, l2⟩, h3, h4⟩ := Er.bind_ok h2
        cases h4
        exact ih _ _ _ h3 (fun l' hl' => hls l' (by simp [hl']))
      · cases h2; exact (hf _ _ _ _ _ _ h1 hls).1
  refine ⟨hleft n ev H ls h hls, ?_⟩
  intro k E a ha hdf
  refine wpIn_loop_ghost (P := P) (fun m a w => ∃ ev H E' ls, loopY f m ev H = .ok ((e, ev', H'), ls) ∧ (∀ l' ∈ ls, l' = l) ∧ w = E'.W ∧ At N H0 E0 ev H E' a ∧ DF false a) n ⟨ev, H, E, ls, h, hls, rfl, ha, hdf⟩ ?_
  rintro m a' w' ⟨ev2, H2, E', ls2, h2, hls2, rfl, ha', hdf'⟩
  cases m with
  | zero => cases h2
  | succ m =>
    unfold loopY at h2
    obtain ⟨⟨⟨e1, ev1, H1⟩, l1⟩, h3, h4⟩ := Er.bind_ok h2
    have hl1 : ∀ l' ∈ l1, l' = l := by
      dsimp only at h4
      split at h4
      · obtain ⟨⟨s, l2⟩, h5, h6⟩ := Er.bind_ok h4
        cases h6
        exact fun l' hl' => hls2 l' (by simp [hl'])
      · cases h4; exact hls2
    refine wpIn_mono ((hf _ _ _ _ _ _ h3 hl1).2 k E' a' ha' hdf') fun e2 a2 w2 ⟨ev3, H3, E3, hq, hw, ha3, hdf3⟩ => ?_
    subst hw
    obtain ⟨rfl, rfl, rfl⟩ := hq
    dsimp only at h4
    cases e2 with
    | normal =>
      obtain ⟨⟨s, l2⟩, h5, h6⟩ := Er.bind_ok h4
      cases h6
      exact ⟨m, by omega, _, _, E3, _, h5, fun l' hl' => hls2 l' (by simp [hl']), rfl, ha3.compact, hdf3⟩
    | _ => cases h4; exact ⟨_, _, E3, ⟨rfl, rfl, rfl⟩, rfl, ha3, hdf3⟩

theorem evY_ok {cf : CallF} (hcf : CfOK P cf) (hmix : P.follows .mixedOrders = true) (hr0 : Rel H0 E0) (hl : Ready E0.W l r) {kill : Bool} :
    ∀ (c : Code) (ev : AEnv) (H : AH) (e : Exit) (ev' : AEnv) (H' : AH) (ls : List Nat), codeT P N c = true → evY P cf kill r.params.size c ev H = .ok ((e, ev', H'), ls) → (∀ l' ∈ ls, l' = l) → leftOK e = true ∧ AWp P N H0 E0 c (isQ e ev' H') ev H none false := by
  intro c
  induction c with
  | skip => intro ev H e ev' H' ls _ h _; cases h; exact ⟨rfl, fun n E a ha hdf => wpIn_skip ⟨_, _, E, ⟨rfl, rfl, rfl⟩, rfl, ha, hdf⟩⟩
  | exit id => intro ev H e ev' H' ls _ h _; cases h; exact ⟨rfl, fun n E a ha hdf => wpIn_exit ⟨_, _, E, ⟨rfl, rfl, rfl⟩, rfl, ha, hdf⟩⟩
  | ret => intro ev H e ev' H' ls _ h _; cases h; exact ⟨rfl, fun n E a ha hdf => wpIn_ret ⟨_, _, E, ⟨rfl, rfl, rfl⟩, rfl, ha, hdf⟩⟩
  | region id ops draw =>
    intro ev H e ev' H' ls hok h hls
    simp only [evY] at h
    cases draw with
    | true =>
      dsimp only at h
      obtain ⟨⟨ev1, H1⟩, h1, h2⟩ := Er.bind_ok h
      cases h2
      exact ⟨rfl, regE_ok hcf hmix hok h1⟩
    | false =>
      dsimp only at h
      obtain ⟨⟨ev1, H1, ls1⟩, h1, h2⟩ := Er.bind_ok h
      cases h2
      exact ⟨rfl, yreg_ok hcf hr0 hl hok h1 hls⟩
  | seq x y ihx ihy =>
    intro ev H e ev' H' ls hok h hls
    simp only [codeT, Bool.and_eq_true] at hok
    simp only [evY] at h
    obtain ⟨⟨⟨e1, ev1, H1⟩, l1⟩, h1, h2⟩ := Er.bind_ok h
    dsimp only at h2
    by_cases he : e1 = .normal
    · subst he
      obtain ⟨⟨s, l2⟩, h3, h4⟩ := Er.bind_ok h2
      cases h4
      obtain ⟨g1, g2⟩ := ihx ev H _ ev1 H1 l1 hok.1 h1 (fun l' hl' => hls l' (by simp [hl']))
      obtain ⟨k1, k2⟩ := ihy ev1 H1 e ev' H' l2 hok.2 h3 (fun l' hl' => hls l' (by simp [hl']))
      refine ⟨k1, fun n E a ha hdf => wpIn_seq (wpIn_mono (g2 n E a ha hdf) fun e2 a' w' ⟨ev2, H2, E2, hq, hw, ha', hdf'⟩ => ?_)⟩
      subst hw
      obtain ⟨rfl, rfl, rfl⟩ := hq
      exact k2 n E2 a' ha' hdf'
    · have h3 : ((e, ev', H'), ls) = ((e1, ev1, H1), l1) := by
        cases e1 <;> first | exact absurd rfl he | (cases h2; rfl)
      cases h3
      obtain ⟨g1, g2⟩ := ihx ev H _ _ _ _ hok.1 h1 hls
      refine ⟨g1, fun n E a ha hdf => wpIn_seq (wpIn_mono (g2 n E a ha hdf) fun e2 a' w' ⟨ev2, H2, E2, hq, hw, ha', hdf'⟩ => ?_)⟩
      subst hw
      obtain ⟨rfl, rfl, rfl⟩ := hq
      cases e2 with
      | normal => exact absurd rfl he
      | _ => exact ⟨_, _, E2, ⟨rfl, rfl, rfl⟩, rfl, ha', hdf'⟩
  | cond c x y ihx ihy =>
    intro ev H e ev' H' ls hok h hls
    simp only [codeT, Bool.and_eq_true] at hok
    simp only [evY] at h
    split at h
    · next hb =>
      obtain ⟨k1, k2⟩ := ihx ev H e ev' H' ls hok.1 h hls
      refine ⟨k1, fun n E a ha hdf => ?_⟩
      have hv := opnd_VR ha.env c
      rw [hb] at hv
      exact wpIn_cond_split (t := true) hv.bool_inv (fun _ => k2 n E a ha hdf) (fun hf => by cases hf)
    · next hb =>
      obtain ⟨k1, k2⟩ := ihy ev H e ev' H' ls hok.2 h hls
      refine ⟨k1, fun n E a ha hdf => ?_⟩
      have hv := opnd_VR ha.env c
      rw [hb] at hv
      exact wpIn_cond_split (t := false) hv.bool_inv (fun hf => by cases hf) (fun _ => k2 n E a ha hdf)
    · cases h
  | block id b ih =>
    intro ev H e ev' H' ls hok h hls
    simp only [evY] at h
    obtain ⟨⟨⟨e1, ev1, H1⟩, l1⟩, h1, h2⟩ := Er.bind_ok h
    cases h2
    obtain ⟨g1, g2⟩ := ih ev H e1 ev1 H1 l1 hok h1 hls
    refine ⟨?_, fun n E a ha hdf => ?_⟩
    · cases e1 with
      | exit i => simp only [exB]; split <;> rfl
      | _ => exact g1
    refine wpIn_block (wpIn_mono (g2 n E a ha hdf) fun e2 a' w' ⟨ev2, H2, E2, hq, hw, ha', hdf'⟩ => ?_)
    obtain ⟨rfl, rfl, rfl⟩ := hq
    cases e2 with
    | exit i =>
      simp only [Exit.inBlock, exB]
      split
      · exact ⟨_, _, E2, ⟨rfl, rfl, rfl⟩, hw, ha', hdf'⟩
      · exact ⟨_, _, E2, ⟨rfl, rfl, rfl⟩, hw, ha', hdf'⟩
    | _ => exact ⟨_, _, E2, ⟨rfl, rfl, rfl⟩, hw, ha', hdf'⟩
  | loop b ih =>
    intro ev H e ev' H' ls hok h hls
    exact loopY_ok (fun ev H e ev' H' ls h hls => ih ev H e ev' H' ls hok h hls) _ _ _ _ _ _ _ h hls
  | rangeFunc g ps assign body iha ihb => intro ev H e ev' H' ls _ h; simp only [evY] at h; cases h
  | scope => intro ev H e ev' H' ls _ h; simp only [evY] at h; cases h
  | label => intro ev H e ev' H' ls _ h; simp only [evY] at h; cases h
  | goto => intro ev H e ev' H' ls _ h; simp only [evY] at h; cases h
  | refuse => intro ev H e ev' H' ls _ h; simp only [evY] at h; cases h
end
end Go.Pg
namespace Go.Pg
open Go Go.RowKit

theorem calls_ofW {P : Program} {f : FuncId} {fn : Func} {c : Code} {args : List AV} {H : AH} {r : AV} {Hr : AH}
    (hf : P.funcs[f]? = some fn) (hb : fn.body = some c) (hn : args.length ≤ fn.ntmps) {E : Env} {vals : Array Value} (hr : Rel H E) (hvs : VRs E args vals)
    (h : AWp P fn.ntmps H E c (retS P H.length fn.results.toList r Hr) (envOf 0 args) H) : Calls P f vals E.W fun e W' => ∃ v E', e = .returned v ∧ E'.W = W' ∧ VR E' r v ∧ Rel Hr E' ∧ Step H E Hr E' := by
  refine (callsIn_wide (n := 0)).1 (callsIn_of_wp_marks hf hb trivial ?_ rfl)
  have hat : At fn.ntmps H E (envOf 0 args) H E { tmps := vals ++ Array.replicate (fn.ntmps - vals.size) Go.undef, defers := [] } := by
    refine ⟨by simp [hvs.1]; omega, trivial, fun t => ?_, hr, Step.refl _ _⟩
    rw [look_envOf]
    simp only [Nat.zero_le, if_true, Nat.sub_zero]
    cases ht : args[t]? with
    | none => exact .top _
    | some v =>
      have hlt : t < vals.size := by rw [hvs.1]; exact (List.getElem?_eq_some_iff.1 ht).1
      have := hvs.2 t v ht
      have e : (vals ++ Array.replicate (fn.ntmps - vals.size) Go.undef).getD t Go.undef = vals.getD t Go.undef := by
        simp only [Array.getD_eq_getD_getElem?]
        rw [Array.getElem?_append_left hlt]
      simp only [Option.getD_some]
      rw [e]; exact this
  have fin : ∀ {ev' : AEnv} {H' : AH} {E' : Env} {a' : Act}, (resK P ev' H' fn.results.toList fun l => subS H.length [(0, tupA l)] H' [(0, r)] Hr) → At fn.ntmps H E ev' H' E' a' →
      ∃ v, (results fn a'.tmps).run P E'.W = .ok v E'.W ∧ ∃ v' E2, Ending.returned v = .returned v' ∧ E2.W = E'.W ∧ VR E2 r v' ∧ Rel Hr E2 ∧ Step H E Hr E2 := by
    intro ev' H' E' a' hs ha
    obtain ⟨l, vs, hsub, hrun, hlen, hvr⟩ := resK_run ha _ _ hs
    have hv := results_run hrun
    generalize hvv : (if h : vs.length = 1 then vs[0] else Value.tuple vs.toArray) = v at hv
    refine ⟨v, hv, v, ?_⟩
    have htup : VR E' (tupA l) v := by
      rw [← hvv]
      have gen : VR E' (.tuple l) (.tuple vs.toArray) := .tuple _ _ (by simpa using hlen) fun i c hc => by
        have := hvr i c hc
        simpa [Array.getD_eq_getD_getElem?] using this
      by_cases h1 : vs.length = 1
      · rw [dif_pos h1]
        clear hsub hrun hv gen hvv
        obtain ⟨x, rfl⟩ := List.length_eq_one_iff.1 (hlen.symm.trans h1)
        obtain ⟨v, rfl⟩ := List.length_eq_one_iff.1 h1
        simpa [tupA] using hvr 0 x rfl
      · rw [dif_neg h1]
        have : tupA l = .tuple l := by
          unfold tupA
          split
          · simp at hlen; exact absurd hlen h1
          · rfl
        rw [this]; exact gen
    have h1 : At 1 H E [(0, tupA l)] H' E' { tmps := #[v], defers := [] } := by
      refine ⟨rfl, trivial, fun t => ?_, ha.rel, ha.step⟩
      simp only [look]
      split
      · next ht => subst ht; exact htup
      · exact .top _
    obtain ⟨E2, hW, h2⟩ := h1.sub hr hsub
    refine ⟨E2, rfl, hW, ?_, h2.rel, h2.step⟩
    have := h2.env 0
    simpa [look] using this
  refine wpIn_mono (h 0 E _ hat (fun hh => by cases hh)) fun e a' w' ⟨ev', H', E', hq, hw, ha, _⟩ => ?_
  subst hw
  have leave : (resK P ev' H' fn.results.toList fun l => subS H.length [(0, tupA l)] H' [(0, r)] Hr) → LeavesInM Fence.wide 0 P fn a'.tmps (fun e W' => ∃ v E', e = Ending.returned v ∧ E'.W = W' ∧ VR E' r v ∧ Rel Hr E' ∧ Step H E Hr E') a'.defers .returning E'.W := by
    intro hk
    have hs : At fn.ntmps H E ev' H' (shr E.W.heap.size E') a' := ⟨ha.size, ha.defers, fun t => (ha.env t).shr, ha.rel.shr _, ha.step.shr hr⟩
    exact leaves_marks (fn := fn) a'.defers (shr E.W.heap.size E') a'.tmps hs (shr_StC _ _) (fun E2 h2 => fin (a' := { tmps := a'.tmps, defers := [] }) hk h2)
  cases e with
  | normal => exact leave hq
  | ret => exact leave hq
  | _ => exact hq.elim


/-- How a callee leaves, as the evaluator checks it. -/
def endE (P : Program) (fn : Func) (n0 : Nat) (e : Exit) (ev : AEnv) (H' : AH) : Option (AV × AH) :=
  match e with
  | .normal | .ret => match resE P ev H' fn.results.toList with
    | some l => match gcE n0 (tupA l) H' with
      | some (r, H1, pick, F) => match gcOK (tupA l) H' r H1 pick F with
        | true => some (r, H1)
        | false => none
      | none => none
    | none => none
  | _ => none

theorem endE_ok {P : Program} {fn : Func} {n0 : Nat} {e : Exit} {ev : AEnv} {H' : AH} {r : AV} {H1 : AH} (h : endE P fn n0 e ev H' = some (r, H1)) : retS P n0 fn.results.toList r H1 e ev H' := by
  have fin : (match resE P ev H' fn.results.toList with
    | some l => match gcE n0 (tupA l) H' with
      | some (r, H1, pick, F) => match gcOK (tupA l) H' r H1 pick F with
        | true => some (r, H1)
        | false => none
      | none => none
    | none => none) = some (r, H1) → resK P ev H' fn.results.toList fun l => subS n0 [(0, tupA l)] H' [(0, r)] H1 := by
    intro h
    split at h
    · next l hl =>
      refine resE_ok _ l _ hl ?_
      split at h
      · next r' H1' pick F hg =>
        split at h
        · next hgc =>
          cases h
          obtain ⟨rfl, l', rfl, g1, g2⟩ := gcE_pick hg
          unfold gcOK at hgc
          simp only [Bool.and_eq_true] at hgc
          refine ⟨fixedIds H', (List.range n0 ++ l').map some, pickOK_of g1 g2, ?_, ?_⟩
          · rw [freeze_fixed fun a ha => fixedIds_mem ha]
            exact subOBs_ok _ _ hgc.1
          · rw [freeze_fixed fun a ha => fixedIds_mem ha]
            exact ⟨subVB_ok 8 _ _ hgc.2, trivial⟩
        · cases h
      · cases h
    · cases h
  unfold endE at h
  split at h
  · exact fin h
  · exact fin h
  · cases h

theorem callsY_of {P : Program} {L : Lf} (hL : LfOK P L) (hmix : P.follows .mixedOrders = true) {cf : CallF} (hcf : CfOK P cf) {kill : Bool} {f : FuncId} {fn : Func} {c : Code} {k : Nat} {args : List AV} {H : AH} {rv : AV} {Hr : AH}
    (hf : P.funcs[f]? = some fn) (hb : fn.body = some c) (hok : codeT P fn.ntmps c = true) (hn : (AV.yld 0 :: args).length ≤ fn.ntmps)
    (h : ∀ l, ∃ e ev' H' ls, evY P cf kill k c (envOf 0 (.yld l :: args)) H = .ok ((e, ev', H'), ls) ∧ (∀ l' ∈ ls, l' = l) ∧ endE P fn H.length e ev' H' = some (rv, Hr)) : CallsY P f k args H Hr := by
  intro E vals l r hr hv hl hk
  obtain ⟨e, ev', H', ls, h1, h2, h3⟩ := h l
  subst hk
  refine (calls_ofW (r := rv) (Hr := Hr) hf hb (by simpa using hn) hr hv ?_).mono fun e W' ⟨v, E', g1, g2, g3, g4, g5⟩ => ⟨v, E', g1, g2, g4, g5⟩
  refine (evY_ok hcf hmix hr hl c _ _ _ _ _ _ hok h1 h2).2.mono fun e1 ev1 H2 hq => ?_
  obtain ⟨rfl, rfl, rfl⟩ := hq
  exact endE_ok h3
end Go.Pg
namespace Go.Pg
open Go Go.RowKit

def beqAH : AH → AH → Bool
  | [], [] => true
  | x :: r, y :: s => beqO x y && beqAH r s
  | _, _ => false
theorem beqAH_eq : ∀ (a b : AH), beqAH a b = true → a = b := by
  intro a
  induction a with
  | nil => intro b h; cases b with
    | nil => rfl
    | cons y s => cases h
  | cons x r ih => intro b h; cases b with
    | nil => cases h
    | cons y s =>
      simp only [beqAH, Bool.and_eq_true] at h
      rw [(beqO_eq h.1).1, ih s h.2]

def chkY (P : Program) (L : Lf) (n : Nat) (fn : Func) (kill : Bool) (k : Nat) (args : List AV) (H : AH) (l : Nat) : Option (List Nat × AV × AH) :=
  match fn.body with
  | some c => match evY P (extC L (callE P (evF P L n))) kill k c (envOf 0 (.yld l :: args)) H with
    | .ok ((e, ev', H'), ls) => match endE P fn H.length e ev' H' with
      | some (r, H1) => some (ls, r, H1)
      | none => none
    | .no _ => none
  | none => none

theorem callsY_chk {P : Program} {L : Lf} (hL : LfOK P L) (hmix : P.follows .mixedOrders = true) {n : Nat} {kill : Bool} {f : FuncId} {fn : Func} {c : Code} {k m : Nat} {args : List AV} {H : AH} {rv : AV} {Hr : AH}
    (hf : P.funcs[f]? = some fn) (hb : fn.body = some c) (hok : codeT P fn.ntmps c = true) (hn : args.length + 1 ≤ fn.ntmps)
    (h : ∀ l, chkY P L n fn kill k args H l = some (List.replicate m l, rv, Hr)) : CallsY P f k args H Hr := by
  refine callsY_of (rv := rv) (kill := kill) hL hmix (extC_ok hL (callE_ok (evF_ok hL hmix n))) hf hb hok (by simpa using hn) fun l => ?_
  have := h l
  unfold chkY at this
  rw [hb] at this
  dsimp only at this
  split at this
  · next e ev' H' ls he =>
    split at this
    · next r H1 hend =>
      cases this
      exact ⟨e, ev', H', _, he, fun l' hl' => (List.mem_replicate.1 hl').2, hend⟩
    · cases this
  · cases this
end Go.Pg
namespace Go.Pg
open Go Go.RowKit

/-! ### A contract over nothing, brought to a caller's objects that are only read -/
theorem callsR_wrap {P : Program} {f : FuncId} {args args' : List AV} {H : AH} {n : Nat} {e : TypeId} {l : List AV} (h : CallsR P f args [] (.own 0 1 n) [.arr e 1 l])
    (hl : ∀ v ∈ l, ∃ k x, v = .int k x)
    (hv : ∀ (E : Env) (vals : Array Value), Rel H E → VRs E args' vals → ∃ st2 : Nat → Prop, (∀ b, st2 b → b < E.W.heap.size) ∧ VRs { W := E.W, M := fun _ => none, st := st2, hl := hlOf [] } args vals) :
    CallsR P f args' H (.own H.length 1 n) (H ++ [.arr e 1 l]) := by
  intro E vals hr hvs
  obtain ⟨st2, hlt, hv2⟩ := hv E vals hr hvs
  obtain ⟨E2, hE2⟩ : ∃ E2 : Env, E2 = { W := E.W, M := fun _ => none, st := st2, hl := hlOf [] } := ⟨_, rfl⟩
  rw [← hE2] at hv2
  have hW2 : E2.W = E.W := by rw [hE2]
  have hr2 : Rel [] E2 := by
    subst hE2
    exact ⟨rfl, fun _ _ => rfl, fun id o m h => by simp at h, fun id o b h => by simp at h, fun id o b h => by simp at h, fun id id' o o' b h => by simp at h, hlt⟩
  rw [← hW2]
  refine (h E2 vals hr2 hv2).mono fun e' W' ⟨v, E', g1, g2, g3, g4, g5⟩ => ?_
  have hH : ∀ j : Nat, (H ++ [AO.arr e 1 l])[j]? = if j < H.length then H[j]? else if j = H.length then some (.arr e 1 l) else none := by
    intro j
    rw [List.getElem?_append]
    split
    · rfl
    · split
      · next h1 => subst h1; simp
      · rw [List.getElem?_singleton, if_neg (by omega)]
  obtain ⟨E3, hE3⟩ : ∃ E3 : Env, E3 = { W := E'.W, M := fun id => if id < H.length then E.M id else if id = H.length then E'.M 0 else none, st := E.st, hl := hlOf (H ++ [.arr e 1 l]) } := ⟨_, rfl⟩
  have nolive : ∀ b, ¬ Live [] E2.M b := fun b ⟨id, o, h1, _⟩ => by simp at h1
  have keep : ∀ b, b < E.W.heap.size → E'.W.heap[b]? = E.W.heap[b]? := fun b hb => by
    rw [g5.mv.keep b (by rw [hW2]; exact hb) (nolive b), hW2]
  have hnew : ∀ b, E'.M 0 = some (some b) → E.W.heap.size ≤ b := fun b hb => by
    rcases g5.live b ⟨0, _, rfl, rfl, hb⟩ with h | h
    · exact (nolive b h).elim
    · rw [hW2] at h; exact h
  have hMlt : ∀ id, id < H.length → E3.M id = E.M id := fun id hid => by rw [hE3]; simp only [if_pos hid]
  have hMn : E3.M H.length = E'.M 0 := by rw [hE3]; simp
  have hhl : ∀ id, id < H.length → E3.hl id = E.hl id := fun id hid => by
    rw [hE3, hr.hl]
    show hlOf _ id = hlOf _ id
    unfold hlOf
    rw [hH, if_pos hid]
  have hsz : E.W.heap.size ≤ E'.W.heap.size := by have := g5.mv.size; rwa [hW2] at this
  have hsome : ∀ id, (E.M id).isSome = true → id < H.length := fun id hi => by
    rcases Nat.lt_or_ge id H.length with h | h
    · exact h
    · rw [hr.dom id h] at hi; cases hi
  have hstep : Step H E (H ++ [.arr e 1 l]) E3 := by
    refine ⟨⟨?_, ?_, ?_, ?_, fun b hb _ => ?_, fun b c ty fz hb => ?_, fun b _ hb => ?_, fun b hb => ?_⟩, ⟨fun id hi => ?_, fun id L' hi hL => ?_⟩, ?_⟩
    · rw [hE3]; have := g5.mv.os; rwa [hW2] at this
    · rw [hE3]; have := g5.mv.tape; rwa [hW2] at this
    · rw [hE3]; have := g5.mv.output; rwa [hW2] at this
    · rw [hE3]; exact hsz
    · rw [hE3]; exact keep b hb
    · refine ⟨c, ?_, rfl⟩
      rw [hE3]
      show E'.W.heap[b]? = _
      rw [keep b (Array.getElem?_eq_some_iff.1 hb).1, hb]
    · rw [hE3] at hb; exact .inl hb
    · rw [hE3]; exact hb
    · rw [hMlt id (hsome id hi)]; exact hi
    · rw [hhl id (hsome id hi)] at hL
      exact ⟨L', hL, Nat.le_refl _, fun _ => hMlt id (hsome id hi)⟩
    · rintro b ⟨id, o, h1, h2, h3⟩
      rw [hH] at h1
      split at h1
      · next hid => rw [hMlt id hid] at h3; exact .inl ⟨id, o, h1, h2, h3⟩
      · split at h1
        · next hid => subst hid; rw [hMn] at h3; exact .inr (hnew b h3)
        · cases h1
  have hx := hstep.ext hr
  have hrel : Rel (H ++ [.arr e 1 l]) E3 := by
    refine ⟨by rw [hE3], fun id hid => ?_, fun id o m h1 h2 => ?_, fun id o b h1 h2 h3 => ?_, fun id o b h1 h2 h3 => ?_, fun id id' o o' b h1 h2 l1 l2 m1 m2 => ?_, fun b hb => ?_⟩
    · rw [hE3]
      simp only [List.length_append, List.length_cons, List.length_nil] at hid
      simp only
      rw [if_neg (by omega), if_neg (by omega)]
    · rw [hH] at h1
      split at h1
      · next hid =>
        rw [hMlt id hid] at h2
        by_cases hd : o = .dead
        · subst hd; trivial
        refine (hr.orow id o m h1 h2).mono hx fun b hb => ?_
        subst hb
        have : E3.W = E'.W := by rw [hE3]
        rw [this]
        exact keep b ((hr.orow id o _ h1 h2).block hd)
      · split at h1
        · next hid =>
          subst hid; cases h1
          rw [hMn] at h2
          have hrow := g4.orow 0 _ m rfl h2
          have hW3 : E3.W = E'.W := by rw [hE3]
          rcases hrow with h0 | ⟨b, c, fz, a1, a2, a3, a4, a5⟩
          · exact .inl h0
          · refine .inr ⟨b, c, fz, a1, by rw [hW3]; exact a2, a3, a4, fun i v hi => ⟨(a5 i v hi).1, fun j cc hj => ?_⟩⟩
            obtain ⟨u, b1, b2⟩ := (a5 i v hi).2 j cc hj
            refine ⟨u, b1, ?_⟩
            obtain ⟨k, x, rfl⟩ := hl v (List.mem_of_getElem? hi)
            simp only [AV.cells] at hj
            cases j with
            | zero => simp only [List.getElem?_cons_zero, Option.some.injEq] at hj; subst hj; cases b2; exact .int _ _
            | succ j => simp at hj
        · cases h1
    · rw [hH] at h1
      split at h1
      · next hid => rw [hMlt id hid] at h3; rw [hE3]; exact hr.nst' id o b h1 h2 h3
      · split at h1
        · next hid =>
          subst hid; rw [hMn] at h3; rw [hE3]
          intro hb
          have := hr.stlt b hb
          have := hnew b h3
          omega
        · cases h1
    · rw [hH] at h1
      split at h1
      · next hid => rw [hMlt id hid] at h3; rw [hE3]; exact hr.fst' id o b h1 h2 h3
      · split at h1
        · cases h1; cases h2
        · cases h1
    · have old : ∀ id o, (H ++ [AO.arr e 1 l])[id]? = some o → o.lives = true → E3.M id = some (some b) → id < H.length → b < E.W.heap.size := fun id o h1 h2 h3 hid => by
        rw [hH, if_pos hid] at h1
        rw [hMlt id hid] at h3
        exact hr.lt' h1 (AO.lives_dead h2) h3
      have atn : ∀ id o, (H ++ [AO.arr e 1 l])[id]? = some o → ¬ id < H.length → id = H.length := fun id o h1 hid => by
        have := (List.getElem?_eq_some_iff.1 h1).1
        simp at this; omega
      by_cases c1 : id < H.length <;> by_cases c2 : id' < H.length
      · rw [hH, if_pos c1] at h1
        rw [hH, if_pos c2] at h2
        rw [hMlt id c1] at m1
        rw [hMlt id' c2] at m2
        exact hr.inj' id id' o o' b h1 h2 l1 l2 m1 m2
      · have := old id o h1 l1 m1 c1
        have e2 := atn id' o' h2 c2
        subst e2
        rw [hMn] at m2
        have := hnew b m2
        omega
      · have := old id' o' h2 l2 m2 c2
        have e2 := atn id o h1 c1
        subst e2
        rw [hMn] at m1
        have := hnew b m1
        omega
      · rw [atn id o h1 c1, atn id' o' h2 c2]
    · rw [hE3] at hb ⊢
      have := hr.stlt b hb
      show b < E'.W.heap.size
      omega
  refine ⟨v, E3, g1, by rw [hE3]; exact g2, ?_, hrel, hstep⟩
  cases g3 with
  | own _ _ _ a cap k1 k2 k3 =>
    refine .own _ _ _ a cap (by rw [hMn]; exact k1) k2 fun L hL => ?_
    have : E'.hl 0 = some L := by
      rw [g4.hl]
      rw [hrel.hl] at hL
      have e1 : hlOf (H ++ [.arr e 1 l]) H.length = some l.length := by
        unfold hlOf; rw [hH]; simp [AO.len]
      rw [e1] at hL
      rw [← hL]; rfl
    rw [hMn]
    have := k3 L this
    rw [show E3.W = E'.W by rw [hE3]]
    exact this
end Go.Pg
