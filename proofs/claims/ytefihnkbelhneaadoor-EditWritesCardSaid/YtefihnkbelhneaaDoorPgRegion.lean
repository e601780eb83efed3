/- Pg, part 2: a region that draws its order: if its writing operations are ordered with all that touches memory, whatever order comes to what the text's order comes to. -/
import Derived.Test.YtefihnkbelhneaaDoorPgVal
namespace Go.Pg
open Go

section
variable (P : Program) (ops : Array Oper)

def dstOf (i : Nat) : Option Tmp := (ops[i]?).bind (·.dst)
def looks (i : Nat) : List Tmp := ((ops[i]?).map (fun o => o.looksAt ops)).getD []

/-- Closed: with an operation all that it waits for. -/
def Closed (D : Array Bool) : Prop :=
  ∀ i o, D.getD i false = true → ops[i]? = some o → ∀ e ∈ o.after, Region.binds .any e = true → D.getD e.on false = true

def preds (i : Nat) : List Nat := ((ops[i]?).map fun o => (o.after.toList.filter (Region.binds .any ·)).map (·.on)).getD []

/-- `ms` tells of each operation which are ahead of it: a list of masks. -/
def orMask (ms : List Nat) (l : List Nat) : Nat := l.foldl (fun s p => s ||| (2 ^ p ||| ms.getD p 0)) 0

def masksOk (ms : List Nat) : Bool :=
  (List.range ops.size).all fun i => (preds ops i).all (· < i) && (ms.getD i 0 == orMask ms (preds ops i))

/-- `j` is ahead of `i`. -/
def anc (ms : List Nat) (i j : Nat) : Bool := (ms.getD i 0).testBit j

theorem orMask_testBit (ms : List Nat) (j : Nat) : ∀ (l : List Nat) (s : Nat), (l.foldl (fun s p => s ||| (2 ^ p ||| ms.getD p 0)) s).testBit j = true →
    s.testBit j = true ∨ ∃ p ∈ l, p = j ∨ (ms.getD p 0).testBit j = true := by
  intro l
  induction l with
  | nil => intro s h; exact .inl h
  | cons p l ih =>
    intro s h
    rcases ih _ h with h | ⟨q, hq, h⟩
    · rw [Nat.testBit_or, Nat.testBit_or, Bool.or_eq_true, Bool.or_eq_true] at h
      rcases h with h | h | h
      · exact .inl h
      · right; refine ⟨p, by simp, .inl ?_⟩
        by_cases e : p = j
        · exact e
        · rw [Nat.testBit_two_pow_of_ne e] at h; cases h
      · exact .inr ⟨p, by simp, .inr h⟩
    · exact .inr ⟨q, by simp [hq], h⟩

variable {ops}

theorem mem_preds {i p : Nat} (h : p ∈ preds ops i) : ∃ o e, ops[i]? = some o ∧ e ∈ o.after ∧ Region.binds .any e = true ∧ e.on = p := by
  unfold preds at h
  cases ho : ops[i]? with
  | none => simp [ho] at h
  | some o =>
    simp only [ho, Option.map_some, Option.getD_some, List.mem_map, List.mem_filter, Array.mem_toList_iff] at h
    obtain ⟨e, ⟨he, hb⟩, rfl⟩ := h
    exact ⟨o, e, rfl, he, hb, rfl⟩

/-- What is ahead of a member of a closed set is a member; likewise of what may come next. -/
theorem anc_mem {ms : List Nat} (hm : masksOk ops ms = true) {D : Array Bool} (hc : Closed ops D) :
    ∀ (i : Nat), i < ops.size → (∀ p ∈ preds ops i, D.getD p false = true) → ∀ j, anc ms i j = true → D.getD j false = true := by
  intro i
  induction i using Nat.strongRecOn with
  | _ i ih =>
    intro hi hp j hj
    have hmi := List.all_eq_true.1 hm i (by simpa using hi)
    simp only [Bool.and_eq_true, List.all_eq_true, decide_eq_true_eq, beq_iff_eq] at hmi
    obtain ⟨hlt, heq⟩ := hmi
    unfold anc at hj
    rw [heq] at hj
    rcases orMask_testBit ms j _ 0 hj with h | ⟨p, hpm, h⟩
    · simp at h
    · have hD := hp p hpm
      rcases h with rfl | h
      · exact hD
      · have hpi := hlt p hpm
        refine ih p hpi (by omega) ?_ j h
        intro q hq
        obtain ⟨o, e, ho, he, hb, rfl⟩ := mem_preds hq
        exact hc p o hD ho e he hb

theorem ready_preds {D : Array Bool} {i : Nat} (h : i ∈ Region.ready .any ops D) : i < ops.size ∧ D.getD i true = false ∧ ∀ p ∈ preds ops i, D.getD p false = true := by
  obtain ⟨h0, o, ho, he⟩ := mem_ready.1 h
  refine ⟨(Array.getElem?_eq_some_iff.1 ho).1, h0, fun p hp => ?_⟩
  obtain ⟨o', e, ho', hm, hb, rfl⟩ := mem_preds hp
  rw [ho] at ho'; cases ho'
  exact he e hm hb


theorem ready_exists {ms : List Nat} (hm : masksOk ops ms = true) {D : Array Bool} (hs : D.size = ops.size) :
    ∀ (i : Nat), i < ops.size → D.getD i true = false → ∃ j, j ∈ Region.ready .any ops D := by
  intro i
  induction i using Nat.strongRecOn with
  | _ i ih =>
    intro hi hD
    by_cases h : ∀ p ∈ preds ops i, D.getD p false = true
    · refine ⟨i, mem_ready.2 ⟨hD, ops[i], by simp [hi], fun e he hb => ?_⟩⟩
      refine h e.on ?_
      unfold preds
      simp only [Array.getElem?_eq_getElem hi, Option.map_some, Option.getD_some, List.mem_map, List.mem_filter, Array.mem_toList_iff]
      exact ⟨e, ⟨he, hb⟩, rfl⟩
    · simp only [Classical.not_forall] at h
      obtain ⟨p, hp, hn⟩ := h
      have hmi := List.all_eq_true.1 hm i (by simpa using hi)
      simp only [Bool.and_eq_true, List.all_eq_true, decide_eq_true_eq, beq_iff_eq] at hmi
      have hlt := hmi.1 p hp
      refine ih p hlt (by omega) ?_
      have hpl : p < D.size := by omega
      simp only [Array.getD_eq_getD_getElem?, Array.getElem?_eq_getElem hpl, Option.getD_some] at hn ⊢
      simpa using hn

theorem wpAny_inv {P : Program} {Q : Exit → Act → World → Prop} {ms : List Nat} (hm : masksOk ops ms = true) (Inv : Array Bool → Act → World → Prop)
    (hstep : ∀ D a w i, D.size = ops.size → Closed ops D → i ∈ Region.ready .any ops D → Inv D a w → wpOp P ops Q i (Inv (D.setIfInBounds i true)) a w)
    (hend : ∀ D a w, D.size = ops.size → (∀ i, i < ops.size → D.getD i false = true) → Inv D a w → Q .normal a w) :
    ∀ (fuel : Nat) (D : Array Bool) (a : Act) (w : World), D.size = ops.size → Closed ops D → ((List.range ops.size).filter (fun i => !D.getD i false)).length ≤ fuel →
      Inv D a w → wpAny P .any ops Q fuel D a w := by
  have nil : ∀ (D : Array Bool), D.size = ops.size → Region.ready .any ops D = [] → ∀ i, i < ops.size → D.getD i false = true := by
    intro D hs hr i hi
    by_cases h : D.getD i false = true
    · exact h
    · obtain ⟨j, hj⟩ := ready_exists hm hs i hi (by
        have hpl : i < D.size := by omega
        simp only [Array.getD_eq_getD_getElem?, Array.getElem?_eq_getElem hpl, Option.getD_some] at h ⊢
        simpa using h)
      rw [hr] at hj; cases hj
  intro fuel
  induction fuel with
  | zero =>
    intro D a w hs hc hl hi
    have hall : ∀ i, i < ops.size → D.getD i false = true := by
      intro i hi'
      have h0 : (List.range ops.size).filter (fun i => !D.getD i false) = [] := List.eq_nil_of_length_eq_zero (by omega)
      have := List.filter_eq_nil_iff.1 h0 i (by simpa using hi')
      simpa using this
    refine ⟨?_, hend D a w hs hall hi⟩
    rw [List.eq_nil_iff_forall_not_mem]
    intro j hj
    obtain ⟨h1, h2, _⟩ := ready_preds hj
    have h3 := hall j h1
    have hpl : j < D.size := by omega
    simp only [Array.getD_eq_getD_getElem?, Array.getElem?_eq_getElem hpl, Option.getD_some] at h2 h3
    rw [h2] at h3; cases h3
  | succ fuel ih =>
    intro D a w hs hc hl hi
    refine ⟨fun hr => hend D a w hs (nil D hs hr) hi, fun i hir => ?_⟩
    refine wpOp_mono (fun a' w' hi' => ?_) (hstep D a w i hs hc hir hi)
    obtain ⟨h1, h2, h3⟩ := ready_preds hir
    have hiD : i < D.size := by omega
    have hget : ∀ k, (D.setIfInBounds i true).getD k false = if k = i then true else D.getD k false := by
      intro k
      simp only [Array.getD_eq_getD_getElem?, Array.getElem?_setIfInBounds]
      split
      · next h => subst h; simp only [if_true, Option.getD_some]
      · next h => rw [if_neg (fun e => h e.symm)]
    refine ih _ a' w' (by simpa using hs) ?_ ?_ hi'
    · intro k o hk ho e he hb
      rw [hget] at hk ⊢
      split
      · rfl
      · split at hk
        · next h => subst h; exact h3 e.on (by
            unfold preds
            simp only [ho, Option.map_some, Option.getD_some, List.mem_map, List.mem_filter, Array.mem_toList_iff]
            exact ⟨e, ⟨he, hb⟩, rfl⟩)
        · exact hc k o hk ho e he hb
    · have hmem : i ∈ (List.range ops.size).filter (fun i => !D.getD i false) := by
        simp only [List.mem_filter, List.mem_range, h1, true_and]
        have hpl : i < D.size := by omega
        simp only [Array.getD_eq_getD_getElem?, Array.getElem?_eq_getElem hpl, Option.getD_some] at h2 ⊢
        simp [h2]
      have hlt : ((List.range ops.size).filter (fun k => !(D.setIfInBounds i true).getD k false)).length < ((List.range ops.size).filter (fun k => !D.getD k false)).length := by
        have e : (List.range ops.size).filter (fun k => !(D.setIfInBounds i true).getD k false) = ((List.range ops.size).filter (fun k => !D.getD k false)).filter (fun k => decide (k ≠ i)) := by
          rw [List.filter_filter]
          apply List.filter_congr
          intro k _
          rw [hget]
          by_cases h : k = i <;> simp [h]
        rw [e]
        have := List.length_filter_lt_length_iff_exists (p := fun k => decide (k ≠ i)) (l := (List.range ops.size).filter (fun k => !D.getD k false))
        exact this.2 ⟨i, hmem, by simp⟩
      omega

/-! ### The plan: what the text's order comes to -/

structure Plan where
  heap : Nat → Bool
  want : Nat → Bool
  V : Nat → AV
  new : Nat → List Nat
  fp : Nat → List Nat
  wr : Nat → List Nat
  H : Nat → AH
  env : Tmp → AV
  N : Nat

/-- The slots ahead of operation i. -/
def seqEnv (ops : Array Oper) (pl : Plan) : Nat → Tmp → AV
  | 0, t => pl.env t
  | i + 1, t => if dstOf ops i = some t then pl.V i else seqEnv ops pl i t

/-- The next operation from `i` on that writes object `id` (or the end), with fuel. -/
def nextW (pl : Plan) (id : Nat) : Nat → Nat → Nat
  | 0, i => i
  | f + 1, i => if id ∈ pl.wr i then i else nextW pl id f (i + 1)

def segEnd (ops : Array Oper) (pl : Plan) (id : Nat) (i : Nat) : Nat := nextW pl id (ops.size - i) i

theorem nextW_ge (pl : Plan) (id : Nat) : ∀ f i, i ≤ nextW pl id f i ∧ nextW pl id f i ≤ i + f := by
  intro f
  induction f with
  | zero => intro i; simp [nextW]
  | succ f ih => intro i; simp only [nextW]; split; · omega
                 · have := ih (i + 1); omega

theorem nextW_none (pl : Plan) (id : Nat) : ∀ f i k, i ≤ k → k < nextW pl id f i → id ∉ pl.wr k := by
  intro f
  induction f with
  | zero => intro i k h1 h2; simp [nextW] at h2; omega
  | succ f ih =>
    intro i k h1 h2
    simp only [nextW] at h2
    split at h2
    · omega
    · next h =>
      by_cases e : k = i
      · subst e; exact h
      · exact ih (i + 1) k (by omega) h2

theorem nextW_write (pl : Plan) (id : Nat) : ∀ f i, nextW pl id f i < i + f → id ∈ pl.wr (nextW pl id f i) := by
  intro f
  induction f with
  | zero => intro i h; simp [nextW] at h
  | succ f ih =>
    intro i h
    simp only [nextW] at h ⊢
    split
    · next h' => exact h'
    · next h' => rw [if_neg h'] at h; exact ih (i + 1) (by omega)

theorem segEnd_ge (pl : Plan) (id : Nat) {i : Nat} (hi : i ≤ ops.size) : i ≤ segEnd ops pl id i ∧ segEnd ops pl id i ≤ ops.size := by
  have := nextW_ge pl id (ops.size - i) i
  unfold segEnd; omega

theorem segEnd_eq (pl : Plan) (id : Nat) {i j : Nat} (hij : i ≤ j) (hj : j ≤ ops.size) (h : ∀ k, i ≤ k → k < j → id ∉ pl.wr k) : segEnd ops pl id i = segEnd ops pl id j := by
  have hi1 := segEnd_ge (ops := ops) pl id (i := i) (by omega)
  have hj1 := segEnd_ge (ops := ops) pl id hj
  have a1 : ∀ k, i ≤ k → k < segEnd ops pl id i → id ∉ pl.wr k := nextW_none pl id (ops.size - i) i
  have a2 : ∀ k, j ≤ k → k < segEnd ops pl id j → id ∉ pl.wr k := nextW_none pl id (ops.size - j) j
  have b1 : segEnd ops pl id i < i + (ops.size - i) → id ∈ pl.wr (segEnd ops pl id i) := nextW_write pl id (ops.size - i) i
  have b2 : segEnd ops pl id j < j + (ops.size - j) → id ∈ pl.wr (segEnd ops pl id j) := nextW_write pl id (ops.size - j) j
  rcases Nat.lt_trichotomy (segEnd ops pl id i) (segEnd ops pl id j) with h1 | h1 | h1
  · have hw := b1 (by omega)
    by_cases hk : segEnd ops pl id i < j
    · exact absurd hw (h _ hi1.1 hk)
    · exact absurd hw (a2 _ (by omega) h1)
  · exact h1
  · have hw := b2 (by omega)
    exact absurd hw (a1 _ (by omega) h1)

theorem segEnd_self (pl : Plan) (id : Nat) {i : Nat} (hi : i < ops.size) (h : id ∈ pl.wr i) : segEnd ops pl id i = i := by
  unfold segEnd
  obtain ⟨f, hf⟩ : ∃ f, ops.size - i = f + 1 := ⟨ops.size - i - 1, by omega⟩
  rw [hf]; simp [nextW, h]

theorem segEnd_top (pl : Plan) (id : Nat) : segEnd ops pl id ops.size = ops.size := by
  have := segEnd_ge (ops := ops) pl id (i := ops.size) (Nat.le_refl _)
  omega

def Looked (ops : Array Oper) (pl : Plan) (i : Nat) (E : Env) (a : Act) : Prop :=
  ∀ t ∈ looks ops i, VR E (seqEnv ops pl i t) (a.tmps.getD t Go.undef)

/-- `HD` has of object `id` what `H` has, or that it may not be written any more. -/
def Has (H : AH) (id : Nat) (HD : AH) : Prop := ∀ o, H[id]? = some o → ∃ o', HD[id]? = some o' ∧ AOle o o'

/-- What is owed of an operation that touches memory: over any heap that has what it reads, and just what it writes. -/
def HeapOK (P : Program) (o : Oper) (look : Env → Act → Prop) (V : AV) (new fp wr : List Nat) (H H1 : AH) : Prop :=
  ∀ (HD : AH) E a, look E a → Rel HD E → H1.length ≤ HD.length → (∀ id ∈ fp, id ∉ wr → Has H1 id HD) → (∀ id ∈ wr, HD[id]? = H[id]?) → (∀ id ∈ new, E.M id = none ∧ Has H1 id HD) →
    ∀ (K : Act → World → Prop) (Q : Exit → Act → World → Prop),
      (∀ (HD' : AH) E' v, HD'.length = HD.length → (∀ id, id ∉ wr → HD'[id]? = HD[id]?) → (∀ id ∈ wr, HD'[id]? = H1[id]?) →
        VR E' V v → Rel HD' E' → Step HD E HD' E' → (∀ id, E.M id = none → E'.M id ≠ none → id ∈ new) → K (a.put o.dst v) E'.W) → o.wp P a E.W K Q

def PureOK (P : Program) (o : Oper) (look : Env → Act → Prop) (V : AV) : Prop :=
  ∀ E a, look E a → ∃ v, VR E V v ∧ (execOp a.eval o).run P E.W = .ok (.value v) E.W

/-- What is owed of each operation. -/
def OpOK (P : Program) (ops : Array Oper) (pl : Plan) (i : Nat) (o : Oper) : Prop :=
  match pl.want i, pl.heap i with
  | false, false => ∀ E, VR E (pl.V i) Go.undef
  | false, true => False
  | true, false => PureOK P o (Looked ops pl i) (pl.V i)
  | true, true => HeapOK P o (Looked ops pl i) (pl.V i) (pl.new i) (pl.fp i) (pl.wr i) (pl.H i) (pl.H (i + 1))

/-- Is an operation wanted: by what its guard's slot holds. -/
def WantOK (ops : Array Oper) (pl : Plan) (i : Nat) (o : Oper) : Prop :=
  match o.guard with
  | none => pl.want i = true
  | some (j, wt) => ∃ t, dstOf ops j = some t ∧ ((∃ b, seqEnv ops pl i t = .bool b ∧ pl.want i = (b == wt)) ∨ (seqEnv ops pl i t = .undef ∧ pl.want i = false) ∨ (∃ g b, seqEnv ops pl i t = .cond g (.bool b) ∧ pl.want i = (g && (b == wt))))

structure PlanOK (P : Program) (ops : Array Oper) (pl : Plan) : Prop where
  op : ∀ i o, ops[i]? = some o → OpOK P ops pl i o
  want : ∀ i o, ops[i]? = some o → WantOK ops pl i o
  dst : ∀ i t, i < ops.size → dstOf ops i = some t → t < pl.N
  quiet : ∀ i, i < ops.size → pl.heap i = false → pl.new i = [] ∧ pl.fp i = [] ∧ pl.wr i = []
  wrfp : ∀ i id, i < ops.size → id ∈ pl.wr i → id ∈ pl.fp i
  wrlt : ∀ i id, i < ops.size → id ∈ pl.wr i → id < (pl.H i).length
  le : ∀ i id, i < ops.size → id ∉ pl.wr i → Has (pl.H i) id (pl.H (i + 1))
  newlt : ∀ i id, i < ops.size → id ∈ pl.new i → (pl.H i).length ≤ id
  newup : ∀ i id, i < ops.size → id ∈ pl.new i → id < (pl.H (i + 1)).length
  len : ∀ i, i < ops.size → (pl.H i).length ≤ (pl.H (i + 1)).length

theorem wanted_of {pl : Plan} {i : Nat} {o : Oper} {E : Env} {a : Act} (hw : WantOK ops pl i o) (ho : ops[i]? = some o) (hl : Looked ops pl i E a)
    (hsz : ∀ j wt t, o.guard = some (j, wt) → dstOf ops j = some t → t < a.tmps.size) : Region.wanted o (yielded ops a.tmps) = pl.want i := by
  unfold WantOK at hw
  unfold Region.wanted
  cases hg : o.guard with
  | none => rw [hg] at hw; simp only at hw ⊢; exact hw.symm
  | some g =>
    obtain ⟨j, wt⟩ := g
    rw [hg] at hw
    obtain ⟨t, ht, hw⟩ := hw
    have hmem : t ∈ looks ops i := by
      unfold looks
      simp only [ho, Option.map_some, Option.getD_some, Oper.looksAt, hg, List.mem_append]
      right
      unfold dstOf at ht
      simp [ht]
    have hv := hl t hmem
    have hlt := hsz j wt t hg ht
    have hy : yielded ops a.tmps j = match a.tmps.getD t Go.undef with | .bool b => some b | _ => none := by
      unfold yielded
      unfold dstOf at ht
      rw [ht]
      simp only [Option.bind_some, Array.getD_eq_getD_getElem?, Array.getElem?_eq_getElem hlt, Option.getD_some]
      cases a.tmps[t] <;> rfl
    rcases hw with ⟨b, hb, hw⟩ | ⟨hb, hw⟩ | ⟨g, b, hb, hw⟩
    · rw [hb] at hv
      generalize a.tmps.getD t Go.undef = x at hv hy
      cases hv
      simp only [hy, hw]
      cases b <;> cases wt <;> rfl
    · rw [hb] at hv
      generalize a.tmps.getD t Go.undef = x at hv hy
      cases hv
      simp only [hy, hw]
      rfl
    · rw [hb] at hv
      generalize a.tmps.getD t Go.undef = x at hv hy
      cases hv with
      | condT _ _ hv =>
        cases hv
        simp only [hy, hw]
        cases b <;> cases wt <;> rfl
      | condF =>
        simp only [hy, hw]
        rfl

/-- Slots: no two operations write one, and who reads one that another writes is ordered with it. -/
def slotsOK (ops : Array Oper) (ms : List Nat) : Bool :=
  masksOk ops ms && (List.range ops.size).all fun i => (List.range ops.size).all fun j =>
    (i == j) || (match dstOf ops j with
      | none => true
      | some t => (dstOf ops i != some t) && (!(looks ops i).contains t || (if j < i then anc ms i j else anc ms j i)))

/-- Memory: who writes an object is ordered with all that touch it. -/
def HeapOrd (ops : Array Oper) (ms : List Nat) (pl : Plan) : Prop :=
  ∀ i j id, i < ops.size → j < ops.size → i ≠ j → id ∈ pl.wr j → id ∈ pl.fp i ∨ id ∈ pl.new i → if i < j then anc ms j i = true else anc ms i j = true

theorem seqEnv_cases (pl : Plan) (t : Tmp) : ∀ i, (∃ j, j < i ∧ dstOf ops j = some t ∧ seqEnv ops pl i t = pl.V j) ∨ ((∀ j, j < i → dstOf ops j ≠ some t) ∧ seqEnv ops pl i t = pl.env t) := by
  intro i
  induction i with
  | zero => exact .inr ⟨fun j h => by omega, rfl⟩
  | succ i ih =>
    by_cases h : dstOf ops i = some t
    · exact .inl ⟨i, by omega, h, by simp [seqEnv, h]⟩
    · have e : seqEnv ops pl (i + 1) t = seqEnv ops pl i t := by simp [seqEnv, h]
      rw [e]
      rcases ih with ⟨j, h1, h2, h3⟩ | ⟨h1, h2⟩
      · exact .inl ⟨j, by omega, h2, h3⟩
      · refine .inr ⟨fun j hj => ?_, h2⟩
        by_cases e : j = i
        · subst e; exact h
        · exact h1 j (by omega)

theorem Plan.len_mono {P : Program} {pl : Plan} (h : PlanOK P ops pl) : ∀ j i, i ≤ j → j ≤ ops.size → (pl.H i).length ≤ (pl.H j).length := by
  intro j
  induction j with
  | zero => intro i h1 _; have : i = 0 := by omega
            subst this; exact Nat.le_refl _
  | succ j ih =>
    intro i h1 h2
    by_cases e : i = j + 1
    · subst e; exact Nat.le_refl _
    · exact Nat.le_trans (ih i (by omega) (by omega)) (h.len j (by omega))

theorem Has.refl (H : AH) (id : Nat) : Has H id H := fun o h => ⟨o, h, .refl o⟩
theorem Has.trans {A B C : AH} {id : Nat} (h : Has A id B) (k : Has B id C) : Has A id C := fun o ho =>
  let ⟨o1, h1, l1⟩ := h o ho; let ⟨o2, h2, l2⟩ := k o1 h1; ⟨o2, h2, l1.trans l2⟩

theorem Plan.le_to {P : Program} {pl : Plan} (h : PlanOK P ops pl) (id : Nat) : ∀ j i, i ≤ j → j ≤ ops.size → (∀ k, i ≤ k → k < j → id ∉ pl.wr k) → Has (pl.H i) id (pl.H j) := by
  intro j
  induction j with
  | zero => intro i h1 _ _; have : i = 0 := by omega
            subst this; exact .refl _ _
  | succ j ih =>
    intro i h1 h2 hw
    by_cases e : i = j + 1
    · subst e; exact .refl _ _
    · exact (ih i (by omega) (by omega) (fun k a b => hw k a (by omega))).trans (h.le j id (by omega) (hw j (by omega) (by omega)))

theorem Plan.le_seg {P : Program} {pl : Plan} (h : PlanOK P ops pl) (id : Nat) {i : Nat} (hi : i ≤ ops.size) : Has (pl.H i) id (pl.H (segEnd ops pl id i)) :=
  Plan.le_to h id _ i (segEnd_ge pl id hi).1 (segEnd_ge pl id hi).2 (fun k h1 h2 => nextW_none pl id _ i k h1 h2)

theorem Plan.new_disj {P : Program} {pl : Plan} (h : PlanOK P ops pl) {i j id : Nat} (hi : i < ops.size) (hj : j < ops.size) (hne : i ≠ j) (h1 : id ∈ pl.new i) : id ∉ pl.new j := by
  intro h2
  have a1 := h.newlt i id hi h1
  have a2 := h.newup i id hi h1
  have b1 := h.newlt j id hj h2
  have b2 := h.newup j id hj h2
  rcases Nat.lt_or_gt_of_ne hne with hlt | hlt
  · have := Plan.len_mono h j (i + 1) (by omega) (by omega); omega
  · have := Plan.len_mono h i (j + 1) (by omega) (by omega); omega

theorem put_getD (a : Act) (dst : Option Tmp) (v : Value) (t : Tmp) (h : dst ≠ some t) : (a.put dst v).tmps.getD t Go.undef = a.tmps.getD t Go.undef := by
  cases dst with
  | none => rfl
  | some d =>
    have hne : d ≠ t := fun e => h (by rw [e])
    simp [Act.put, Array.getElem?_setIfInBounds_ne hne]

theorem put_getD_same (a : Act) (t : Tmp) (v : Value) (h : t < a.tmps.size) : (a.put (some t) v).tmps.getD t Go.undef = v := by
  simp [Act.put, h]

theorem put_size (a : Act) (dst : Option Tmp) (v : Value) : (a.put dst v).tmps.size = a.tmps.size := by
  cases dst <;> simp [Act.put]

theorem put_defers (a : Act) (dst : Option Tmp) (v : Value) : (a.put dst v).defers = a.defers := by
  cases dst <;> rfl

/-- The heap that a cursor for each object comes to. -/
structure AtCur (ops : Array Oper) (pl : Plan) (c : Nat → Nat) (HD : AH) : Prop where
  len : HD.length = (pl.H ops.size).length
  at_ : ∀ id, HD[id]? = (pl.H (segEnd ops pl id (c id)))[id]?

structure RInv (P : Program) (ops : Array Oper) (pl : Plan) (ds : List Deferred) (E0 : Env) (D : Array Bool) (a : Act) (E : Env) (c : Nat → Nat) (HD : AH) : Prop where
  size : a.tmps.size = pl.N
  defers : a.defers = ds
  e1 : ∀ t, (∀ i, i < ops.size → D.getD i false = true → dstOf ops i ≠ some t) → VR E (pl.env t) (a.tmps.getD t Go.undef)
  e2 : ∀ i t, i < ops.size → D.getD i false = true → dstOf ops i = some t → VR E (pl.V i) (a.tmps.getD t Go.undef)
  cle : ∀ id, c id ≤ ops.size
  cw : ∀ id, c id ≠ 0 → ∃ k, c id = k + 1 ∧ D.getD k false = true ∧ id ∈ pl.wr k
  p1 : ∀ id k, k < c id → id ∈ pl.fp k → D.getD k false = true
  p2 : ∀ id k, c id ≤ k → k < ops.size → id ∈ pl.wr k → D.getD k false = false
  atc : AtCur ops pl c HD
  rel : Rel HD E
  fresh : ∀ i id, i < ops.size → D.getD i false = false → id ∈ pl.new i → E.M id = none
  step : Step (pl.H 0) E0 HD E

theorem getD_set {D : Array Bool} {i : Nat} (hi : i < D.size) (k : Nat) : (D.setIfInBounds i true).getD k false = if k = i then true else D.getD k false := by
  simp only [Array.getD_eq_getD_getElem?, Array.getElem?_setIfInBounds]
  split
  · next h => subst h; simp only [if_true, Option.getD_some]
  · next h => rw [if_neg (fun e => h e.symm)]

theorem RInv.put {P : Program} {pl : Plan} {ds : List Deferred} {E0 : Env} {D : Array Bool} {a : Act} {E E' : Env} {c c' : Nat → Nat} {HD HD' : AH} {i : Nat} {o : Oper} {v : Value}
    (hpl : PlanOK P ops pl) (hinv : RInv P ops pl ds E0 D a E c HD) (hD : D.size = ops.size) (hi : i < ops.size) (ho : ops[i]? = some o)
    (hdd : ∀ j t, j < ops.size → j ≠ i → dstOf ops j = some t → dstOf ops i ≠ some t)
    (hx : EExt E E') (hv : VR E' (pl.V i) v)
    (hM : ∀ id, E.M id = none → E'.M id ≠ none → id ∈ pl.new i)
    (hcle : ∀ id, c' id ≤ ops.size) (hcw : ∀ id, c' id ≠ 0 → ∃ k, c' id = k + 1 ∧ (k = i ∨ D.getD k false = true) ∧ id ∈ pl.wr k)
    (hp1 : ∀ id k, k < c' id → id ∈ pl.fp k → k = i ∨ D.getD k false = true)
    (hp2 : ∀ id k, c' id ≤ k → k < ops.size → id ∈ pl.wr k → k ≠ i ∧ D.getD k false = false)
    (hatc : AtCur ops pl c' HD') (hrel : Rel HD' E') (hstep : Step (pl.H 0) E0 HD' E') :
    RInv P ops pl ds E0 (D.setIfInBounds i true) (a.put o.dst v) E' c' HD' := by
  have hdst : dstOf ops i = o.dst := by simp [dstOf, ho]
  have hiD : i < D.size := by omega
  refine ⟨by rw [put_size]; exact hinv.size, by rw [put_defers]; exact hinv.defers, ?_, ?_, hcle, ?_, ?_, ?_, hatc, hrel, ?_, hstep⟩
  · intro t ht
    have hne : o.dst ≠ some t := by rw [← hdst]; exact ht i hi (by rw [getD_set hiD]; simp)
    rw [put_getD _ _ _ _ hne]
    refine (hinv.e1 t fun j hj hDj => ht j hj ?_).mono hx
    rw [getD_set hiD]; split <;> simp_all
  · intro j t hj hDj hdj
    rw [getD_set hiD] at hDj
    by_cases e : j = i
    · subst e
      rw [hdst] at hdj
      rw [hdj, put_getD_same _ _ _ (by rw [hinv.size]; exact hpl.dst j t hj (by rw [hdst, hdj]))]
      exact hv
    · rw [if_neg e] at hDj
      rw [put_getD _ _ _ _ (by rw [← hdst]; exact hdd j t hj e hdj)]
      exact (hinv.e2 j t hj hDj hdj).mono hx
  · intro id h0
    obtain ⟨k, h1, h2, h3⟩ := hcw id h0
    refine ⟨k, h1, ?_, h3⟩
    rw [getD_set hiD]
    split
    · rfl
    · next e => exact h2.resolve_left e
  · intro id k hk hc
    rw [getD_set hiD]
    split
    · rfl
    · next e => exact (hp1 id k hk hc).resolve_left e
  · intro id k h1 h2 h3
    rw [getD_set hiD, if_neg (hp2 id k h1 h2 h3).1]
    exact (hp2 id k h1 h2 h3).2
  · intro j id hj hDj hid
    rw [getD_set hiD] at hDj
    split at hDj
    · cases hDj
    · next e =>
      have h0 := hinv.fresh j id hj hDj hid
      cases hm : E'.M id with
      | none => rfl
      | some m => exact absurd hid (Plan.new_disj hpl hi hj (fun x => e x.symm) (hM id h0 (by rw [hm]; simp)))

/-- The heap at a cursor. -/
def curHeap (ops : Array Oper) (pl : Plan) (c : Nat → Nat) : AH :=
  (List.range (pl.H ops.size).length).map fun id => ((pl.H (segEnd ops pl id (c id)))[id]?).getD .dead

theorem atCur_cur {P : Program} {pl : Plan} (hpl : PlanOK P ops pl) (c : Nat → Nat) (hc : ∀ id, c id ≤ ops.size) : AtCur ops pl c (curHeap ops pl c) := by
  refine ⟨by simp [curHeap], fun id => ?_⟩
  have hs := segEnd_ge (ops := ops) pl id (hc id)
  by_cases hid : id < (pl.H ops.size).length
  · have hdef : id < (pl.H (segEnd ops pl id (c id))).length := by
      by_cases he : segEnd ops pl id (c id) = ops.size
      · rw [he]; exact hid
      · have hlt : segEnd ops pl id (c id) < ops.size := by omega
        exact hpl.wrlt _ id hlt (nextW_write pl id (ops.size - c id) (c id) (by change segEnd ops pl id (c id) < _; omega))
    simp only [curHeap, List.getElem?_map, List.getElem?_range hid, Option.map_some, List.getElem?_eq_getElem hdef, Option.getD_some]
  · have hnone : (pl.H (segEnd ops pl id (c id)))[id]? = none := List.getElem?_eq_none (by
      have := Plan.len_mono hpl ops.size (segEnd ops pl id (c id)) hs.2 (Nat.le_refl _); omega)
    rw [hnone]
    exact List.getElem?_eq_none (by simp [curHeap]; omega)

theorem AtCur.uniq {pl : Plan} {c : Nat → Nat} {A B : AH} (h : AtCur ops pl c A) (k : AtCur ops pl c B) : A = B :=
  List.ext_getElem? fun id => (h.at_ id).trans (k.at_ id).symm

theorem heap_op {P : Program} {pl : Plan} (hpl : PlanOK P ops pl) {c : Nat → Nat} {HD : AH} {E : Env} {a : Act} {i : Nat} {o : Oper} {K : Act → World → Prop} {Q : Exit → Act → World → Prop}
    (hi : i < ops.size) (hop : HeapOK P o (Looked ops pl i) (pl.V i) (pl.new i) (pl.fp i) (pl.wr i) (pl.H i) (pl.H (i + 1))) (hlook : Looked ops pl i E a)
    (hcle : ∀ id, c id ≤ ops.size) (hatc : AtCur ops pl c HD) (hrel : Rel HD E)
    (hcur : ∀ id ∈ pl.fp i, c id ≤ i ∧ ∀ k, c id ≤ k → k < i → id ∉ pl.wr k)
    (hnew0 : ∀ id ∈ pl.new i, E.M id = none) (hnewc : ∀ id ∈ pl.new i, c id ≤ i + 1 ∧ ∀ k, c id ≤ k → k < i + 1 → id ∉ pl.wr k)
    (hK : ∀ (HD' : AH) E' v, AtCur ops pl (fun id => if id ∈ pl.wr i then i + 1 else c id) HD' → VR E' (pl.V i) v → Rel HD' E' → Step HD E HD' E' →
      (∀ id, E.M id = none → E'.M id ≠ none → id ∈ pl.new i) → K (a.put o.dst v) E'.W) : o.wp P a E.W K Q := by
  refine hop HD E a hlook hrel (by rw [hatc.len]; exact Plan.len_mono hpl ops.size (i + 1) (by omega) (Nat.le_refl _)) ?_ ?_ ?_ K Q ?_
  · intro id hid hnw
    obtain ⟨h1, h2⟩ := hcur id hid
    have he := segEnd_eq (ops := ops) pl id (i := c id) (j := i + 1) (by omega) (by omega) (fun k a b => by
      by_cases e : k = i
      · subst e; exact hnw
      · exact h2 k a (by omega))
    have := Plan.le_seg hpl id (i := i + 1) (by omega)
    intro x hx
    rw [hatc.at_ id, he]
    exact this x hx
  · intro id hid
    obtain ⟨h1, h2⟩ := hcur id (hpl.wrfp i id hi hid)
    rw [hatc.at_ id, segEnd_eq (ops := ops) pl id h1 (by omega) h2, segEnd_self pl id hi hid]
  · intro id hid
    obtain ⟨h1, h2⟩ := hnewc id hid
    have he := segEnd_eq (ops := ops) pl id h1 (by omega) h2
    refine ⟨hnew0 id hid, fun x hx => ?_⟩
    rw [hatc.at_ id, he]
    exact Plan.le_seg hpl id (i := i + 1) (by omega) x hx
  · intro HD1 E1 v hlen h1 h2 hv hr1 hst hM
    have hc'le : ∀ id, (if id ∈ pl.wr i then i + 1 else c id) ≤ ops.size := by
      intro id; split
      · omega
      · exact hcle id
    have hat' := atCur_cur hpl (fun id => if id ∈ pl.wr i then i + 1 else c id) hc'le
    have hle : AHle HD1 (curHeap ops pl (fun id => if id ∈ pl.wr i then i + 1 else c id)) := by
      intro id x hx
      rw [hat'.at_ id]
      by_cases hw : id ∈ pl.wr i
      · rw [h2 id hw] at hx
        simp only [if_pos hw]
        exact Plan.le_seg hpl id (i := i + 1) (by omega) x hx
      · rw [h1 id hw, hatc.at_ id] at hx
        simp only [if_neg hw]
        exact ⟨x, hx, .refl x⟩
    obtain ⟨E2, hr2, hW, hMM, hst2⟩ := hr1.le hle
    rw [← hW]
    exact hK _ E2 v hat' (hv.mono (hst2.ext hr1)) hr2 (hst.trans hst2) (fun id h3 h4 => hM id h3 (by rw [← hMM]; exact h4))

theorem region_any {P : Program} {Q : Exit → Act → World → Prop} {ms : List Nat} {pl : Plan} {E0 : Env} {a0 : Act}
    (hchk : slotsOK ops ms = true) (hord : HeapOrd ops ms pl) (hpl : PlanOK P ops pl)
    (hN : a0.tmps.size = pl.N) (henv : ∀ t, VR E0 (pl.env t) (a0.tmps.getD t Go.undef)) (hrel : Rel (pl.H 0) E0)
    (hQ : ∀ a E, a.tmps.size = pl.N → a.defers = a0.defers → (∀ t, VR E (seqEnv ops pl ops.size t) (a.tmps.getD t Go.undef)) → Rel (pl.H ops.size) E →
      Step (pl.H 0) E0 (pl.H ops.size) E → Q .normal a E.W) :
    wpAny P .any ops Q ops.size (Array.replicate ops.size false) a0 E0.W := by
  simp only [slotsOK, Bool.and_eq_true] at hchk
  obtain ⟨hm, hall⟩ := hchk
  have hpair : ∀ i j, i < ops.size → j < ops.size → i ≠ j →
      (∀ t, dstOf ops j = some t → dstOf ops i ≠ some t ∧ (t ∈ looks ops i → if j < i then anc ms i j = true else anc ms j i = true)) := by
    intro i j hi hj hne
    have h := List.all_eq_true.1 (List.all_eq_true.1 hall i (by simpa using hi)) j (by simpa using hj)
    rw [Bool.or_eq_true] at h
    rcases h with h | h1
    · exact absurd (by simpa using h) hne
    · intro t ht
      rw [ht] at h1
      simp only [Bool.and_eq_true, bne_iff_ne, ne_eq, Bool.or_eq_true, Bool.not_eq_true', List.contains_eq_mem, decide_eq_false_iff_not] at h1
      refine ⟨h1.1, fun hl => ?_⟩
      rcases h1.2 with h | h
      · exact absurd hl h
      · by_cases hji : j < i
        · rw [if_pos hji] at h ⊢; exact h
        · rw [if_neg hji] at h ⊢; exact h
  refine wpAny_inv hm (fun D a w => ∃ E c HD, E.W = w ∧ RInv P ops pl a0.defers E0 D a E c HD) ?_ ?_ ops.size _ a0 E0.W (by simp) ?_ ?_ ?_
  · rintro D a w i hD hcl hri ⟨E, c, HD, rfl, hinv⟩
    obtain ⟨hi, hDi, hpr⟩ := ready_preds hri
    have hiD : i < D.size := by omega
    have hDi' : D.getD i false = false := by
      simp only [Array.getD_eq_getD_getElem?, Array.getElem?_eq_getElem hiD, Option.getD_some] at hDi ⊢; exact hDi
    have hanc : ∀ j, anc ms i j = true → D.getD j false = true := anc_mem hm hcl i hi hpr
    have hancD : ∀ k j, k < ops.size → D.getD k false = true → anc ms k j = true → D.getD j false = true := by
      intro k j hk hDk hkj
      refine anc_mem hm hcl k hk (fun p hp => ?_) j hkj
      obtain ⟨o, e, ho, he, hb, rfl⟩ := mem_preds hp
      exact hcl k o hDk ho e he hb
    have hno : ∀ k, k < ops.size → D.getD k false = true → anc ms k i = true → False := by
      intro k hk hDk h; have := hancD k i hk hDk h; rw [hDi'] at this; cases this
    have ho : ops[i]? = some ops[i] := by simp [hi]
    generalize ops[i] = o at ho
    have hlook : Looked ops pl i E a := by
      intro t ht
      rcases seqEnv_cases (ops := ops) pl t i with ⟨j, h1, h2, h3⟩ | ⟨h1, h2⟩
      · rw [h3]
        have hp := (hpair i j hi (by omega) (by omega)) t h2
        have ha := hp.2 ht
        rw [if_pos h1] at ha
        exact hinv.e2 j t (by omega) (hanc j ha) h2
      · rw [h2]
        refine hinv.e1 t fun j hj hDj hdj => ?_
        by_cases e : j = i
        · subst e; rw [hDi'] at hDj; cases hDj
        · have hge : ¬ j < i := fun h => h1 j h hdj
          have ha := ((hpair i j hi hj (fun x => e x.symm)) t hdj).2 ht
          rw [if_neg hge] at ha
          exact hno j hj hDj ha
    have hdd : ∀ j t, j < ops.size → j ≠ i → dstOf ops j = some t → dstOf ops i ≠ some t :=
      fun j t hj hne h => ((hpair i j hi hj (fun x => hne x.symm)) t h).1
    have hwant := wanted_of (hpl.want i o ho) ho hlook (fun j wt t hg ht => by
      rw [hinv.size]
      have hjs : j < ops.size := by
        rcases Nat.lt_or_ge j ops.size with h | h
        · exact h
        · simp [dstOf, Array.getElem?_eq_none h] at ht
      exact hpl.dst j t hjs ht)
    have hop := hpl.op i o ho
    unfold wpOp
    rw [ho]
    simp only [hwant]
    unfold OpOK at hop
    have quietly : ∀ v, pl.heap i = false → VR E (pl.V i) v → RInv P ops pl a0.defers E0 (D.setIfInBounds i true) (a.put o.dst v) E c HD := by
      intro v hh hv
      obtain ⟨q1, q2, q3⟩ := hpl.quiet i hi hh
      refine hinv.put hpl hD hi ho hdd (EExt.refl E) hv (fun id h1 h2 => absurd h1 h2) hinv.cle (fun id h0 => let ⟨k, h1, h2, h3⟩ := hinv.cw id h0; ⟨k, h1, .inr h2, h3⟩) (fun id k h1 h2 => .inr (hinv.p1 id k h1 h2)) (fun id k h1 h2 h3 => ⟨?_, hinv.p2 id k h1 h2 h3⟩) hinv.atc hinv.rel hinv.step
      rintro rfl; rw [q3] at h3; cases h3
    cases hw : pl.want i with
    | false =>
      simp only [Bool.false_eq_true, if_false]
      rw [hw] at hop
      cases hc : pl.heap i with
      | false => rw [hc] at hop; exact ⟨E, c, HD, rfl, quietly _ hc (hop E)⟩
      | true => rw [hc] at hop; exact hop.elim
    | true =>
      simp only [if_true]
      rw [hw] at hop
      refine .inl ?_
      cases hc : pl.heap i with
      | false =>
        rw [hc] at hop
        obtain ⟨v, hv, hrun⟩ := hop E a hlook
        unfold Oper.wp
        rw [hrun, Oper.upon_value]
        exact ⟨E, c, HD, rfl, quietly v hc hv⟩
      | true =>
        rw [hc] at hop
        have hcur : ∀ id ∈ pl.fp i, c id ≤ i ∧ ∀ k, c id ≤ k → k < i → id ∉ pl.wr k := by
          intro id hid
          have hci : c id ≤ i := by
            rcases Nat.lt_or_ge i (c id) with h | h
            · have := hinv.p1 id i h hid; rw [hDi'] at this; cases this
            · exact h
          refine ⟨hci, fun k h1 h2 hwk => ?_⟩
          have ha := hord i k id hi (by omega) (by omega) hwk (.inl hid)
          rw [if_neg (by omega)] at ha
          have := hanc k ha
          rw [hinv.p2 id k h1 (by omega) hwk] at this; cases this
        have hnew1 : ∀ id ∈ pl.new i, ∀ k, k < i + 1 → id ∉ pl.wr k := by
          intro id hid k hk hwk
          have h1 := hpl.newlt i id hi hid
          have h2 := hpl.wrlt k id (by omega) hwk
          have := Plan.len_mono hpl i k (by omega) (by omega)
          omega
        have hnewc : ∀ id ∈ pl.new i, c id ≤ i + 1 ∧ ∀ k, c id ≤ k → k < i + 1 → id ∉ pl.wr k := by
          intro id hid
          refine ⟨?_, fun k _ hk => hnew1 id hid k hk⟩
          rcases Nat.lt_or_ge (i + 1) (c id) with h | h
          · obtain ⟨k, h1, h2, h3⟩ := hinv.cw id (by omega)
            have hk := hinv.cle id
            have ha := hord i k id hi (by omega) (by omega) h3 (.inr hid)
            rw [if_pos (by omega)] at ha
            exact (hno k (by omega) h2 ha).elim
          · exact h
        refine heap_op hpl hi hop hlook hinv.cle hinv.atc hinv.rel hcur (fun id hid => hinv.fresh i id hi hDi' hid) hnewc ?_
        intro HD' E' v hat hv hr hst hM
        refine ⟨E', _, HD', rfl, hinv.put hpl hD hi ho hdd (hst.ext hinv.rel) hv hM ?_ ?_ ?_ ?_ hat hr (hinv.step.trans hst)⟩
        · intro id; split
          · omega
          · exact hinv.cle id
        · intro id h0
          by_cases hwi : id ∈ pl.wr i
          · exact ⟨i, by simp only [if_pos hwi], .inl rfl, hwi⟩
          · simp only [if_neg hwi] at h0 ⊢
            obtain ⟨k, h1, h2, h3⟩ := hinv.cw id h0
            exact ⟨k, h1, .inr h2, h3⟩
        · intro id k hk hf
          split at hk
          · next hwi =>
            by_cases e : k = i
            · exact .inl e
            · have ha := hord k i id (by omega) hi e hwi (.inl hf)
              rw [if_pos (by omega)] at ha
              exact .inr (hanc k ha)
          · exact .inr (hinv.p1 id k hk hf)
        · intro id k h1 h2 h3
          split at h1
          · next hwi =>
            refine ⟨by omega, ?_⟩
            cases hDk : D.getD k false with
            | false => rfl
            | true =>
              have ha := hord i k id hi h2 (by omega) h3 (.inl (hpl.wrfp i id hi hwi))
              rw [if_pos (by omega)] at ha
              exact (hno k h2 hDk ha).elim
          · next hwi => exact ⟨fun e => hwi (by rw [← e]; exact h3), hinv.p2 id k h1 h2 h3⟩
  · rintro D a w hD hall' ⟨E, c, HD, rfl, hinv⟩
    have hHD : HD = pl.H ops.size := by
      apply List.ext_getElem?
      intro id
      rw [hinv.atc.at_ id, segEnd_eq (ops := ops) pl id (hinv.cle id) (Nat.le_refl _) (fun k h1 h2 hw => by
        have := hinv.p2 id k h1 h2 hw; rw [hall' k h2] at this; cases this), segEnd_top]
    subst hHD
    refine hQ a E hinv.size hinv.defers (fun t => ?_) hinv.rel hinv.step
    rcases seqEnv_cases (ops := ops) pl t ops.size with ⟨j, h1, h2, h3⟩ | ⟨h1, h2⟩
    · rw [h3]; exact hinv.e2 j t h1 (hall' j h1) h2
    · rw [h2]; exact hinv.e1 t fun j hj _ => h1 j hj
  · intro i o h
    simp only [Array.getD_eq_getD_getElem?, Array.getElem?_replicate] at h
    split at h <;> simp at h
  · refine Nat.le_trans (List.length_filter_le _ _) (by simp)
  · have hat := atCur_cur hpl (fun _ => 0) (fun _ => Nat.zero_le _)
    obtain ⟨E', hr', hW, hM, hst⟩ := hrel.le (H' := curHeap ops pl (fun _ => 0)) (fun id x hx => by
      rw [hat.at_ id]; exact Plan.le_seg hpl id (i := 0) (by omega) x hx)
    refine ⟨E', fun _ => 0, _, hW, hN, rfl, ?_, ?_, fun _ => Nat.zero_le _, fun id h => absurd rfl h, fun id k h => by omega, ?_, hat, hr', ?_, hst⟩
    · intro t _; exact (henv t).mono (hst.ext hrel)
    · intro i t _ h
      simp only [Array.getD_eq_getD_getElem?, Array.getElem?_replicate] at h
      split at h <;> simp at h
    · intro id k _ hk _
      simp [Array.getD_eq_getD_getElem?, hk]
    · intro i id hi _ hid
      rw [hM]
      refine hrel.dom id (Nat.le_trans ?_ (hpl.newlt i id hi hid))
      exact Plan.len_mono hpl i 0 (by omega) (by omega)


structure SInv (P : Program) (ops : Array Oper) (pl : Plan) (ds : List Deferred) (E0 : Env) (i : Nat) (a : Act) (E : Env) (HD : AH) : Prop where
  size : a.tmps.size = pl.N
  defers : a.defers = ds
  env : ∀ t, VR E (seqEnv ops pl i t) (a.tmps.getD t Go.undef)
  atc : AtCur ops pl (fun _ => i) HD
  rel : Rel HD E
  fresh : ∀ j id, i ≤ j → j < ops.size → id ∈ pl.new j → E.M id = none
  step : Step (pl.H 0) E0 HD E

theorem SInv.put {P : Program} {pl : Plan} {ds : List Deferred} {E0 : Env} {a : Act} {E E' : Env} {HD HD' : AH} {i : Nat} {o : Oper} {v : Value}
    (hpl : PlanOK P ops pl) (hinv : SInv P ops pl ds E0 i a E HD) (hi : i < ops.size) (ho : ops[i]? = some o)
    (hx : EExt E E') (hv : VR E' (pl.V i) v) (hM : ∀ id, E.M id = none → E'.M id ≠ none → id ∈ pl.new i)
    (hatc : AtCur ops pl (fun _ => i + 1) HD') (hrel : Rel HD' E') (hstep : Step (pl.H 0) E0 HD' E') :
    SInv P ops pl ds E0 (i + 1) (a.put o.dst v) E' HD' := by
  have hdst : dstOf ops i = o.dst := by simp [dstOf, ho]
  refine ⟨by rw [put_size]; exact hinv.size, by rw [put_defers]; exact hinv.defers, ?_, hatc, hrel, ?_, hstep⟩
  · intro t
    simp only [seqEnv]
    split
    · next h =>
      rw [hdst] at h
      rw [h, put_getD_same _ _ _ (by rw [hinv.size]; exact hpl.dst i t hi (by rw [hdst, h]))]
      exact hv
    · next h =>
      rw [put_getD _ _ _ _ (by rw [← hdst]; exact h)]
      exact (hinv.env t).mono hx
  · intro j id h1 h2 h3
    have h0 := hinv.fresh j id (by omega) h2 h3
    cases hm : E'.M id with
    | none => rfl
    | some m => exact absurd h3 (Plan.new_disj hpl hi h2 (by omega) (hM id h0 (by rw [hm]; simp)))

theorem region_seq {P : Program} {Q : Exit → Act → World → Prop} {pl : Plan} {E0 : Env} {a0 : Act} (hpl : PlanOK P ops pl)
    (hN : a0.tmps.size = pl.N) (henv : ∀ t, VR E0 (pl.env t) (a0.tmps.getD t Go.undef)) (hrel : Rel (pl.H 0) E0)
    (hQ : ∀ a E, a.tmps.size = pl.N → a.defers = a0.defers → (∀ t, VR E (seqEnv ops pl ops.size t) (a.tmps.getD t Go.undef)) → Rel (pl.H ops.size) E →
      Step (pl.H 0) E0 (pl.H ops.size) E → Q .normal a E.W) :
    wpOps P ops Q (List.range ops.size) a0 E0.W := by
  have next : ∀ {i : Nat} {c : Nat → Nat} {HD : AH}, i < ops.size → AtCur ops pl (fun id => if id ∈ pl.wr i then i + 1 else i) HD → AtCur ops pl (fun _ => i + 1) HD := by
    intro i c HD hi h
    refine ⟨h.len, fun id => ?_⟩
    rw [h.at_ id]
    by_cases hw : id ∈ pl.wr i
    · simp only [if_pos hw]
    · simp only [if_neg hw]
      rw [segEnd_eq (ops := ops) pl id (i := i) (j := i + 1) (by omega) (by omega) (fun k h1 h2 => by have : k = i := by omega
                                                                                                      subst this; exact hw)]
  have key : ∀ (k i : Nat), i + k = ops.size → ∀ a E HD, SInv P ops pl a0.defers E0 i a E HD → wpOps P ops Q (List.range' i k) a E.W := by
    intro k
    induction k with
    | zero =>
      intro i hik a E HD hinv
      simp only [Nat.add_zero] at hik
      subst hik
      simp only [List.range', wpOps]
      have hHD : HD = pl.H ops.size := List.ext_getElem? fun id => by rw [hinv.atc.at_ id, segEnd_top]
      subst hHD
      exact hQ a E hinv.size hinv.defers hinv.env hinv.rel hinv.step
    | succ k ih =>
      intro i hik a E HD hinv
      have hi : i < ops.size := by omega
      have ho : ops[i]? = some ops[i] := by simp [hi]
      generalize ops[i] = o at ho
      rw [List.range'_succ, wpOps_cons]
      have hlook : Looked ops pl i E a := fun t _ => hinv.env t
      have hwant := wanted_of (hpl.want i o ho) ho hlook (fun j wt t hg ht => by
        rw [hinv.size]
        have hjs : j < ops.size := by
          rcases Nat.lt_or_ge j ops.size with h | h
          · exact h
          · simp [dstOf, Array.getElem?_eq_none h] at ht
        exact hpl.dst j t hjs ht)
      have hop := hpl.op i o ho
      have quietly : ∀ v, pl.heap i = false → VR E (pl.V i) v → SInv P ops pl a0.defers E0 (i + 1) (a.put o.dst v) E HD := by
        intro v hh hv
        obtain ⟨q1, q2, q3⟩ := hpl.quiet i hi hh
        refine hinv.put hpl hi ho (EExt.refl E) hv (fun id h1 h2 => absurd h1 h2) (next (c := fun _ => 0) hi ?_) hinv.rel hinv.step
        rw [q3]; simpa using hinv.atc
      unfold wpOp
      rw [ho]
      simp only [hwant]
      unfold OpOK at hop
      cases hw : pl.want i with
      | false =>
        simp only [Bool.false_eq_true, if_false]
        rw [hw] at hop
        cases hc : pl.heap i with
        | false => rw [hc] at hop; exact ih (i + 1) (by omega) _ E HD (quietly _ hc (hop E))
        | true => rw [hc] at hop; exact hop.elim
      | true =>
        simp only [if_true]
        rw [hw] at hop
        refine .inl ?_
        cases hc : pl.heap i with
        | false =>
          rw [hc] at hop
          obtain ⟨v, hv, hrun⟩ := hop E a hlook
          unfold Oper.wp
          rw [hrun, Oper.upon_value]
          exact ih (i + 1) (by omega) _ E HD (quietly v hc hv)
        | true =>
          rw [hc] at hop
          refine heap_op hpl hi hop hlook (fun _ => by omega) hinv.atc hinv.rel (fun id _ => ⟨Nat.le_refl _, fun k h1 h2 => by omega⟩)
            (fun id hid => hinv.fresh i id (Nat.le_refl _) hi hid) (fun id hid => ⟨by omega, fun k h1 h2 hwk => ?_⟩) ?_
          · have : k = i := by omega
            subst this
            have := hpl.newlt k id hi hid
            have := hpl.wrlt k id hi hwk
            omega
          · intro HD' E' v hat hv hr hst hM
            exact ih (i + 1) (by omega) _ E' HD' (hinv.put hpl hi ho (hst.ext hinv.rel) hv hM (next (c := fun _ => 0) hi hat) hr (hinv.step.trans hst))
  have hat := atCur_cur hpl (fun _ => 0) (fun _ => Nat.zero_le _)
  obtain ⟨E', hr', hW, hM, hst⟩ := hrel.le (H' := curHeap ops pl (fun _ => 0)) (fun id x hx => by
    rw [hat.at_ id]; exact Plan.le_seg hpl id (i := 0) (by omega) x hx)
  rw [List.range_eq_range', ← hW]
  refine key ops.size 0 (by omega) a0 E' _ ⟨hN, rfl, fun t => (henv t).mono (hst.ext hrel), hat, hr', ?_, hst⟩
  intro j id _ hj hid
  rw [hM]
  refine hrel.dom id (Nat.le_trans ?_ (hpl.newlt j id hj hid))
  exact Plan.len_mono hpl j 0 (by omega) (by omega)

end
end Go.Pg
