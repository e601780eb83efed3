/- Pg, part 6: operations that touch memory. -/
import Derived.Test.YtefihnkbelhneaaDoorPgOpsT
import Derived.Laws.Cells
import Derived.Laws.Append
import Derived.Laws.CopyRow
namespace Go.Pg
open Go

theorem wp_of_value {P : Program} {o : Oper} {a : Act} {w w' : World} {v : Value} {K : Act → World → Prop} {Q : Exit → Act → World → Prop}
    (h : (execOp a.eval o).run P w = .ok (.value v) w') (hk : K (a.put o.dst v) w') : o.wp P a w K Q := by
  unfold Oper.wp; rw [h, Oper.upon_value]; exact hk

theorem wp_of_skip {P : Program} {o : Oper} {a : Act} {w w' : World} {K : Act → World → Prop} {Q : Exit → Act → World → Prop}
    (h : (execOp a.eval o).run P w = .ok .skip w') (hk : K (a.put o.dst Go.undef) w') : o.wp P a w K Q := by
  unfold Oper.wp; rw [h, Oper.upon_skip]; exact hk

theorem Rel.some_lt {H : AH} {E : Env} (hr : Rel H E) {id : Nat} {m : Option Nat} (hm : E.M id = some m) : id < H.length := by
  rcases Nat.lt_or_ge id H.length with h | h
  · exact h
  · rw [hr.dom id h] at hm; cases hm

theorem Rel.block_lt {H : AH} {E : Env} (hr : Rel H E) {id : Nat} {e : TypeId} {sz : Nat} {vs : List AV} {b : Nat} (h : H[id]? = some (.arr e sz vs) ∨ H[id]? = some (.frz e sz vs)) (hm : E.M id = some (some b)) : b < E.W.heap.size := by
  rcases hr.row id e sz vs h _ hm with ⟨h, _⟩ | ⟨b', c, fz, hb, hw, _⟩
  · cases h
  · cases hb; exact (Array.getElem?_eq_some_iff.1 hw).1

structure SameBut (w w' : World) : Prop where
  os : w'.os = w.os
  tape : w'.tape = w.tape
  output : w'.output = w.output

/-- A new block for a new object. -/
theorem alloc_rel {HD : AH} {E : Env} (hr : Rel HD E) {id : Nat} (hm : E.M id = none) {e : TypeId} {sz : Nat} {vs : List AV} {o' : AO} (ho : HD[id]? = some o') (hle : AOle (.arr e sz vs) o')
    {w' : World} {c : Array Value} {fz : Nat × Nat} (hs : SameBut E.W w') (hh : w'.heap = E.W.heap.push (.cells c e fz)) (hc : vs.length * sz ≤ c.size) (hz : Thaw fz c.size)
    (hv : ∀ (i : Nat) v, vs[i]? = some v → v.cells.length = sz ∧ ∀ (j : Nat) cc, v.cells[j]? = some cc → ∃ u, c[i * sz + j]? = some u ∧ VR E cc u) :
    ∃ E', E'.W = w' ∧ Rel HD E' ∧ Step HD E HD E' ∧ (∀ j, E.M j = none → E'.M j ≠ none → j = id) ∧ E'.M id = some (some E.W.heap.size) ∧ E'.hl = E.hl := by
  let fr : Prop := o' = .frz e sz vs
  let E' : Env := { W := w', M := fun j => if j = id then some (some E.W.heap.size) else E.M j, st := fun b => E.st b ∨ (fr ∧ b = E.W.heap.size), hl := E.hl }
  have hid : ∀ j m, E.M j = some m → j ≠ id := fun j m hj e => by rw [e, hm] at hj; cases hj
  have hold : ∀ b, b < E.W.heap.size → w'.heap[b]? = E.W.heap[b]? := fun b hb => by
    rw [hh, Array.getElem?_push, if_neg (by omega)]
  have hlive : ∀ b, Live HD E'.M b → Live HD E.M b ∨ E.W.heap.size ≤ b := by
    rintro b ⟨j, e', sz', vs', h1, h2⟩
    by_cases hj : j = id
    · subst hj
      simp only [E', if_true] at h2
      cases h2; exact .inr (Nat.le_refl _)
    · simp only [E', if_neg hj] at h2
      exact .inl ⟨j, e', sz', vs', h1, h2⟩
  have hst : Step HD E HD E' := by
    refine ⟨⟨hs.os, hs.tape, hs.output, by show E.W.heap.size ≤ w'.heap.size; rw [hh]; simp, fun b hb _ => hold b hb, ?_, ?_, fun b hb => .inl hb⟩, ⟨fun j hj => ?_, fun j L' hj hL => ⟨L', hL, Nat.le_refl _, fun _ => ?_⟩⟩, hlive⟩
    · intro b c' ty fz' hb
      exact ⟨c', by show w'.heap[b]? = _; rw [hold b (Array.getElem?_eq_some_iff.1 hb).1]; exact hb, rfl⟩
    · rintro b hb (h | ⟨_, h⟩)
      · exact .inl h
      · omega
    · simp only [E']; split
      · rfl
      · exact hj
    · obtain ⟨m, hj⟩ := Option.isSome_iff_exists.1 hj
      simp only [E', if_neg (hid j m hj)]
  have hx := hst.ext hr
  have hoid : HD[id]? = some (.arr e sz vs) ∨ HD[id]? = some (.frz e sz vs) := by
    rcases hle with rfl | ⟨e', sz', vs', h1, h2⟩
    · exact .inl ho
    · cases h1; exact .inr (by rw [ho, h2])
  refine ⟨E', rfl, ⟨hr.hl, ?_, ?_, ?_, ?_, ?_, ?_⟩, hst, ?_, by simp [E'], rfl⟩
  · intro j hj
    have : j ≠ id := fun e => by
      subst e
      have := (List.getElem?_eq_some_iff.1 ho).1; omega
    simp only [E', if_neg this]; exact hr.dom j hj
  · intro j e' sz' vs' h m hmj
    by_cases hj : j = id
    · subst hj
      simp only [E', if_true] at hmj
      cases hmj
      have : e' = e ∧ sz' = sz ∧ vs' = vs := by
        rcases h with h | h <;> rcases hoid with k | k <;> rw [k] at h <;> cases h <;> exact ⟨rfl, rfl, rfl⟩
      obtain ⟨rfl, rfl, rfl⟩ := this
      refine .inr ⟨E.W.heap.size, c, fz, rfl, by show w'.heap[_]? = _; rw [hh]; simp, hc, hz, fun i v hi => ⟨(hv i v hi).1, fun k cc hk => ?_⟩⟩
      obtain ⟨u, h1, h2⟩ := (hv i v hi).2 k cc hk
      exact ⟨u, h1, h2.mono hx⟩
    · simp only [E', if_neg hj] at hmj
      rcases hr.row j e' sz' vs' h m hmj with h | ⟨b, c', fz', h1, h2, h3, h4, h5⟩
      · exact .inl h
      · refine .inr ⟨b, c', fz', h1, by show w'.heap[b]? = _; rw [hold b (Array.getElem?_eq_some_iff.1 h2).1]; exact h2, h3, h4, fun i v hi => ⟨(h5 i v hi).1, fun k cc hk => ?_⟩⟩
        obtain ⟨u, a1, a2⟩ := (h5 i v hi).2 k cc hk
        exact ⟨u, a1, a2.mono hx⟩
  · intro j e' sz' vs' b h hmj
    by_cases hj : j = id
    · subst hj
      simp only [E', if_true] at hmj
      cases hmj
      rintro (h' | ⟨h', _⟩)
      · have := hr.stlt _ h'; omega
      · rw [ho, h'] at h; cases h
    · simp only [E', if_neg hj] at hmj
      rintro (h' | ⟨_, h'⟩)
      · exact hr.nst j e' sz' vs' b h hmj h'
      · have := hr.block_lt (.inl h) hmj; omega
  · intro j e' sz' vs' b h hmj
    by_cases hj : j = id
    · subst hj
      simp only [E', if_true] at hmj
      cases hmj
      refine .inr ⟨?_, rfl⟩
      rw [ho] at h; cases h
      rcases hle with h | ⟨_, _, _, h1, h2⟩
      · cases h
      · cases h1; exact h2
    · simp only [E', if_neg hj] at hmj
      exact .inl (hr.fst j e' sz' vs' b h hmj)
  · intro j j' e1 s1 v1 e2 s2 v2 b h1 h2 m1 m2
    by_cases hj : j = id <;> by_cases hj' : j' = id
    · rw [hj, hj']
    · subst hj
      simp only [E', if_true] at m1
      simp only [E', if_neg hj'] at m2
      cases m1
      have := hr.block_lt (.inl h2) m2; omega
    · subst hj'
      simp only [E', if_true] at m2
      simp only [E', if_neg hj] at m1
      cases m2
      have := hr.block_lt (.inl h1) m1; omega
    · simp only [E', if_neg hj] at m1
      simp only [E', if_neg hj'] at m2
      exact hr.inj j j' _ _ _ _ _ _ b h1 h2 m1 m2
  · rintro b (h | ⟨_, h⟩)
    · have := hr.stlt b h
      show b < w'.heap.size
      rw [hh]; simp; omega
    · show b < w'.heap.size
      rw [hh]; simp; omega
  · intro j h1 h2
    by_cases hj : j = id
    · exact hj
    · simp only [E', if_neg hj] at h2; exact absurd h1 h2

/-- An object without a block: an empty slice. -/
theorem alloc_nil {HD : AH} {E : Env} (hr : Rel HD E) {id : Nat} (hm : E.M id = none) {e : TypeId} {sz : Nat} {o' : AO} (ho : HD[id]? = some o') (hle : AOle (.arr e sz []) o') :
    ∃ E', E'.W = E.W ∧ Rel HD E' ∧ Step HD E HD E' ∧ (∀ j, E.M j = none → E'.M j ≠ none → j = id) ∧ E'.M id = some none ∧ E'.hl = E.hl := by
  let E' : Env := { W := E.W, M := fun j => if j = id then some none else E.M j, st := E.st, hl := E.hl }
  have hid : ∀ j m, E.M j = some m → j ≠ id := fun j m hj e => by rw [e, hm] at hj; cases hj
  have hlive : ∀ b, Live HD E'.M b → Live HD E.M b ∨ E.W.heap.size ≤ b := by
    rintro b ⟨j, e', sz', vs', h1, h2⟩
    by_cases hj : j = id
    · subst hj
      simp only [E', if_true] at h2
      cases h2
    · simp only [E', if_neg hj] at h2
      exact .inl ⟨j, e', sz', vs', h1, h2⟩
  have hst : Step HD E HD E' := by
    refine ⟨⟨rfl, rfl, rfl, Nat.le_refl _, fun _ _ _ => rfl, fun b c' ty fz' hb => ⟨c', hb, rfl⟩, fun b hb h => .inl h, fun b hb => hb⟩, ⟨fun j hj => ?_, fun j L' hj hL => ⟨L', hL, Nat.le_refl _, fun _ => ?_⟩⟩, hlive⟩
    · simp only [E']; split
      · rfl
      · exact hj
    · obtain ⟨m, hj⟩ := Option.isSome_iff_exists.1 hj
      simp only [E', if_neg (hid j m hj)]
  have hx := hst.ext hr
  have some_of : ∀ {j b}, E'.M j = some (some b) → E.M j = some (some b) := by
    intro j b h
    by_cases hj : j = id
    · subst hj; simp only [E', if_true] at h; cases h
    · simpa only [E', if_neg hj] using h
  have hoid : HD[id]? = some (.arr e sz []) ∨ HD[id]? = some (.frz e sz []) := by
    rcases hle with rfl | ⟨e', sz', vs', h1, h2⟩
    · exact .inl ho
    · cases h1; exact .inr (by rw [ho, h2])
  refine ⟨E', rfl, ⟨hr.hl, ?_, ?_, fun j e' sz' vs' b h hmj => hr.nst j e' sz' vs' b h (some_of hmj), fun j e' sz' vs' b h hmj => hr.fst j e' sz' vs' b h (some_of hmj), fun j j' e1 s1 v1 e2 s2 v2 b h1 h2 m1 m2 => hr.inj j j' _ _ _ _ _ _ b h1 h2 (some_of m1) (some_of m2), hr.stlt⟩, hst, ?_, by simp [E'], rfl⟩
  · intro j hj
    have : j ≠ id := fun e => by
      subst e
      have := (List.getElem?_eq_some_iff.1 ho).1; omega
    simp only [E', if_neg this]; exact hr.dom j hj
  · intro j e' sz' vs' h m hmj
    by_cases hj : j = id
    · subst hj
      simp only [E', if_true] at hmj
      cases hmj
      have : vs' = [] := by
        rcases h with h | h <;> rcases hoid with k | k <;> rw [k] at h <;> cases h <;> rfl
      exact .inl ⟨rfl, this⟩
    · simp only [E', if_neg hj] at hmj
      rcases hr.row j e' sz' vs' h m hmj with h | ⟨b, c', fz', h1, h2, h3, h4, h5⟩
      · exact .inl h
      · refine .inr ⟨b, c', fz', h1, h2, h3, h4, fun i v hi => ⟨(h5 i v hi).1, fun k cc hk => ?_⟩⟩
        obtain ⟨u, a1, a2⟩ := (h5 i v hi).2 k cc hk
        exact ⟨u, a1, a2.mono hx⟩
  · intro j h1 h2
    by_cases hj : j = id
    · exact hj
    · simp only [E', if_neg hj] at h2; exact absurd h1 h2


/-! ### Reading objects -/
def objAt (H : AH) (id : Nat) : Option (TypeId × Nat × List AV) :=
  match H[id]? with
  | some (.arr e sz vs) => some (e, sz, vs)
  | some (.frz e sz vs) => some (e, sz, vs)
  | _ => none

theorem objAt_cases {H : AH} {id : Nat} {e : TypeId} {sz : Nat} {vs : List AV} (h : objAt H id = some (e, sz, vs)) : H[id]? = some (.arr e sz vs) ∨ H[id]? = some (.frz e sz vs) := by
  unfold objAt at h
  split at h <;> first | (cases h; done) | (next hh => cases h; rw [hh]; simp)

theorem objAt_has {H HD : AH} {id : Nat} {e : TypeId} {sz : Nat} {vs : List AV} (h : objAt H id = some (e, sz, vs)) (hh : Has H id HD) : objAt HD id = some (e, sz, vs) := by
  rcases objAt_cases h with h | h
  · obtain ⟨o', h1, h2⟩ := hh _ h
    rcases h2 with rfl | ⟨_, _, _, h3, h4⟩
    · simp [objAt, h1]
    · cases h3; subst h4; simp [objAt, h1]
  · obtain ⟨o', h1, h2⟩ := hh _ h
    rcases h2 with rfl | ⟨_, _, _, h3, h4⟩
    · simp [objAt, h1]
    · cases h3

theorem objAt_hl {H : AH} {E : Env} (hr : Rel H E) {id : Nat} {e : TypeId} {sz : Nat} {vs : List AV} (h : objAt H id = some (e, sz, vs)) : E.hl id = some vs.length := by
  rw [hr.hl]
  unfold hlOf
  rcases objAt_cases h with h | h <;> rw [h] <;> rfl

/-- What lies behind a pointer. -/
theorem ptr_read {H : AH} {E : Env} (hr : Rel H E) {id sz len idx off : Nat} {v : Value} (hv : VR E (.ptr id sz len idx off) v) {e : TypeId} {vs : List AV}
    (h : objAt H id = some (e, sz, vs)) (hl : vs.length = len) {x : AV} (hx : vs[idx]? = some x) :
    ∃ b, E.M id = some (some b) ∧ v = .pointer (some ⟨b, idx * sz + off, none⟩) ∧ x.cells.length = sz ∧
      ∃ c fz, E.W.heap[b]? = some (.cells c e fz) ∧ Thaw fz c.size ∧ vs.length * sz ≤ c.size ∧ ∀ (j : Nat) cc, x.cells[j]? = some cc → ∃ u, c[idx * sz + j]? = some u ∧ VR E cc u := by
  cases hv with
  | ptr _ _ _ _ _ a hm hh =>
    obtain ⟨b, hb, rfl⟩ := (hh _ (objAt_hl hr h)).2 hl.symm
    rcases hr.row id e sz vs (objAt_cases h) _ hb with ⟨h, _⟩ | ⟨b', c, fz, hb', hw, hc, hz, hv⟩
    · cases h
    · cases hb'
      exact ⟨b, hb, rfl, (hv _ _ hx).1, c, fz, hw, hz, hc, (hv _ _ hx).2⟩

def ldCells (P : Program) (t : TypeId) (cs : List AV) (off : Nat) : Option AV :=
  match (tk P t).cells with
  | some (true, n) => if off + n ≤ cs.length then some (.agg (cutL cs off (off + n))) else none
  | some (false, _) => cs[off]?
  | none => none

theorem load_run {P : Program} {t : TypeId} {cs : List AV} {off : Nat} {V : AV} (h : ldCells P t cs off = some V) {E : Env} {b o : Nat}
    (hc : ∀ (j : Nat) c, cs[j]? = some c → ∃ u, E.W.cell? ⟨b, o + j, none⟩ = some u ∧ VR E c u) :
    ∃ v, VR E V v ∧ (loadVar t ⟨b, o + off, none⟩).run P E.W = .ok v E.W := by
  unfold ldCells at h
  split at h
  · next n hk =>
    split at h
    · next hle =>
      cases h
      obtain ⟨ha, i, hi, hsz⟩ := tk_cells hk E.W
      have hall : ∀ j, j < n → ∃ u, E.W.cell? ⟨b, o + off + j, none⟩ = some u ∧ ∀ c, cs[off + j]? = some c → VR E c u := by
        intro j hj
        obtain ⟨u, h1, h2⟩ := hc (off + j) (cs[off + j]'(by omega)) (by simp)
        refine ⟨u, by rw [Nat.add_assoc]; exact h1, fun c h3 => ?_⟩
        have : cs[off + j]? = some (cs[off + j]'(by omega)) := by simp
        rw [this] at h3; cases h3; exact h2
      let f : Nat → Value := fun j => (E.W.cell? ⟨b, o + off + j, none⟩).getD Go.undef
      have hf : ∀ j, j < n → E.W.cell? ((⟨b, o + off, none⟩ : Addr).add j) = some (f j) := by
        intro j hj
        obtain ⟨u, h1, _⟩ := hall j hj
        rw [add_addr]; simp [f, h1]
      refine ⟨.agg ((List.range n).map f).toArray, .agg _ _ (by simp [cutL]; omega) (fun j c hj => ?_), ?_⟩
      · unfold cutL at hj
        rw [List.getElem?_take] at hj
        split at hj
        · next hlt =>
          rw [List.getElem?_drop] at hj
          have hjn : j < n := by omega
          obtain ⟨u, h1, h2⟩ := hall j hjn
          have : ((List.range n).map f).toArray.getD j Go.undef = u := by simp [hjn, f, h1]
          rw [this]; exact h2 c hj
        · cases hj
      · simp only [loadVar, Sem.run_bind, ha, Result.andThen_ok, if_true, sizeOf, typeInfo, run_program, hi, Sem.run_pure, hsz]
        rw [run_loadCells E.W _ n f hf]
        rfl
    · cases h
  · next n hk =>
    obtain ⟨ha, i, hi, hsz⟩ := tk_cells hk E.W
    obtain ⟨u, h1, h2⟩ := hc off V h
    refine ⟨u, h2, ?_⟩
    simp only [loadVar, Sem.run_bind, ha, Result.andThen_ok, Bool.false_eq_true, if_false, run_load, h1]
  · cases h

/-! ### Storing -/
theorem run_storeCells_thaw {P : Program} (g o : Nat) (t : TypeId) (fz : Nat × Nat) : ∀ (vs : List Value) (i : Nat) (cur : Array Value) (w : World), w.heap[g]? = some (.cells cur t fz) → Thaw fz cur.size → o + i + vs.length ≤ cur.size → (∀ v ∈ vs, v.oneCell' = true) →
    (storeCells ⟨g, o, none⟩ vs i).run P w = .ok () (w.setRow g (cur.toList.take (o + i) ++ vs ++ cur.toList.drop (o + i + vs.length)).toArray)
  | [], i, cur, w, hg, _, _, _ => by
    simp only [storeCells, List.append_nil, List.length_nil, Nat.add_zero, List.take_append_drop, Array.toArray_toList]
    rw [setRow_self w g cur t fz hg]
    rfl
  | v :: rest, i, cur, w, hg, hz, hl, h1 => by
    have hi : o + i < cur.size := by simp at hl; omega
    have hadd : (⟨g, o, none⟩ : Addr).add i = ⟨g, o + i, none⟩ := add_addr g o i
    have hcell : w.cell? ⟨g, o + i, none⟩ = some cur[o + i] := by simp [World.cell?, hg, hi]
    have hfro : w.frozen? ⟨g, o + i, none⟩ = false := by
      have := hz (o + i) hi
      obtain ⟨lo, hi'⟩ := fz
      simp only [World.frozen?, hg, Bool.and_eq_false_iff, decide_eq_false_iff_not]
      simp only at this
      omega
    have hst : (store ((⟨g, o, none⟩ : Addr).add i) v).run P w = .ok () (w.setRow g (cur.setIfInBounds (o + i) v)) := by
      rw [hadd, run_store P w _ v _ (h1 v (by simp)), hcell]
      simp [hfro, setCell_eq_setRow w g (o + i) cur t fz v hg]
    have ih := run_storeCells_thaw (P := P) g o t fz rest (i + 1) (cur.setIfInBounds (o + i) v) (w.setRow g (cur.setIfInBounds (o + i) v)) (setRow_heap w g cur _ t fz hg) (by simpa using hz) (by simp at hl ⊢; omega) (fun x hx => h1 x (by simp [hx]))
    simp only [storeCells, Sem.run_bind, hst, Result.andThen_ok, ih, setRow_setRow]
    congr 3
    have e := list_seg_step cur.toList (o + i) v rest (by simp at hl ⊢; omega)
    simpa [Array.toList_setIfInBounds, Nat.add_assoc] using e

/-- One cell, known. -/
def AV.leaf : AV → Bool
  | .top | .undef | .agg _ | .tuple _ | .cond _ _ => false
  | _ => true

theorem leaf_one {E : Env} {x : AV} {v : Value} (h : VR E x v) (hl : x.leaf = true) : v.oneCell' = true := by
  cases h <;> first | rfl | (simp [AV.leaf] at hl)

/-- An object's cells are written: the new reading. -/
theorem write_rel {HD : AH} {E : Env} (hr : Rel HD E) {id : Nat} {e : TypeId} {sz : Nat} {vs vs' : List AV} {b : Nat} {c c' : Array Value} {fz : Nat × Nat}
    (ho : HD[id]? = some (.arr e sz vs)) (hm : E.M id = some (some b)) (hw : E.W.heap[b]? = some (.cells c e fz)) (hz : Thaw fz c.size) (hsz : c'.size = c.size)
    (hlen : vs.length ≤ vs'.length) (hcap : vs'.length * sz ≤ c.size)
    (hv : ∀ (i : Nat) v, vs'[i]? = some v → v.cells.length = sz ∧ ∀ (j : Nat) cc, v.cells[j]? = some cc → ∃ u, c'[i * sz + j]? = some u ∧ VR E cc u) :
    ∃ E', E'.W = E.W.setRow b c' ∧ Rel (HD.set id (.arr e sz vs')) E' ∧ Step HD E (HD.set id (.arr e sz vs')) E' ∧ E'.M = E.M := by
  have hbl : b < E.W.heap.size := (Array.getElem?_eq_some_iff.1 hw).1
  have hidl : id < HD.length := (List.getElem?_eq_some_iff.1 ho).1
  have hwb : (E.W.setRow b c').heap[b]? = some (.cells c' e fz) := setRow_heap E.W b c c' e fz hw
  have hwo : ∀ k, k ≠ b → (E.W.setRow b c').heap[k]? = E.W.heap[k]? := fun k hk => setRow_other E.W b k c' hk
  have hget : ∀ j : Nat, (HD.set id (AO.arr e sz vs'))[j]? = if j = id then some (AO.arr e sz vs') else HD[j]? := by
    intro j
    rw [List.getElem?_set]
    by_cases h : id = j
    · subst h; simp [hidl]
    · rw [if_neg h, if_neg (fun x => h x.symm)]
  let E' : Env := { W := E.W.setRow b c', M := E.M, st := E.st, hl := hlOf (HD.set id (.arr e sz vs')) }
  have hlive : ∀ k, Live (HD.set id (.arr e sz vs')) E.M k → Live HD E.M k := by
    rintro k ⟨j, e', s', v', h1, h2⟩
    rw [hget] at h1
    split at h1
    · next hj => subst hj; exact ⟨j, e, sz, vs, ho, h2⟩
    · exact ⟨j, e', s', v', h1, h2⟩
  have hst : Step HD E (HD.set id (.arr e sz vs')) E' := by
    refine ⟨⟨rfl, rfl, rfl, by simp [E'], fun k _ hL => hwo k (fun hk => hL (by subst hk; exact ⟨id, e, sz, vs, ho, hm⟩)), ?_, fun k _ h => .inl h, fun k h => h⟩, ⟨fun _ h => h, fun j L' hj hL => ?_⟩, fun k hk => .inl (hlive k hk)⟩
    · intro k c0 ty0 fz0 hk
      by_cases hkb : k = b
      · subst hkb
        rw [hw] at hk; cases hk
        exact ⟨c', hwb, hsz⟩
      · exact ⟨c0, by rw [← hk]; exact hwo k hkb, rfl⟩
    · simp only [E', hlOf, hget] at hL
      rw [hr.hl]
      split at hL
      · next hj =>
        subst hj
        simp only [Option.bind_some, AO.len] at hL
        cases hL
        exact ⟨vs.length, by simp [hlOf, ho, AO.len], hlen, fun _ => rfl⟩
      · exact ⟨L', hL, Nat.le_refl _, fun _ => rfl⟩
  have hx := hst.ext hr
  refine ⟨E', rfl, ⟨rfl, fun j hj => hr.dom j (by simpa using hj), ?_, ?_, ?_, ?_, fun k hk => by show k < (E.W.setRow b c').heap.size; simp; exact hr.stlt k hk⟩, hst, rfl⟩
  · intro j e' s' v' h m hmj
    simp only [hget] at h
    by_cases hj : j = id
    · subst hj
      simp only [if_true, Option.some.injEq, AO.arr.injEq, reduceCtorEq, or_false] at h
      obtain ⟨rfl, rfl, rfl⟩ := h
      have : m = some b := by have := hmj.symm.trans hm; cases this; rfl
      subst this
      refine .inr ⟨b, c', fz, rfl, hwb, by omega, by rw [hsz]; exact hz, fun i v hi => ⟨(hv i v hi).1, fun k cc hk => ?_⟩⟩
      obtain ⟨u, h1, h2⟩ := (hv i v hi).2 k cc hk
      exact ⟨u, h1, h2.mono hx⟩
    · simp only [if_neg hj] at h
      rcases hr.row j e' s' v' h m hmj with h0 | ⟨b', c0, fz', h1, h2, h3, h4, h5⟩
      · exact .inl h0
      · have hbb : b' ≠ b := by
          rintro rfl
          subst h1
          rcases h with h | h
          · exact hj (hr.inj j id _ _ _ _ _ _ b' h ho hmj hm)
          · exact hr.nst id e sz vs b' ho hm (hr.fst j e' s' v' b' h hmj)
        refine .inr ⟨b', c0, fz', h1, by rw [← h2]; exact hwo b' hbb, h3, h4, fun i v hi => ⟨(h5 i v hi).1, fun k cc hk => ?_⟩⟩
        obtain ⟨u, a1, a2⟩ := (h5 i v hi).2 k cc hk
        exact ⟨u, a1, a2.mono hx⟩
  · intro j e' s' v' k h hmj
    rw [hget] at h
    split at h
    · next hj => subst hj; exact hr.nst j e sz vs k ho hmj
    · exact hr.nst j e' s' v' k h hmj
  · intro j e' s' v' k h hmj
    rw [hget] at h
    split at h
    · cases h
    · exact hr.fst j e' s' v' k h hmj
  · intro j j' e1 s1 v1 e2 s2 v2 k h1 h2 m1 m2
    have conv : ∀ {j : Nat} {e1 s1 v1}, (HD.set id (AO.arr e sz vs'))[j]? = some (AO.arr e1 s1 v1) → ∃ e0 s0 v0, HD[j]? = some (AO.arr e0 s0 v0) := by
      intro j e1 s1 v1 h
      rw [hget] at h
      split at h
      · next hj => subst hj; exact ⟨_, _, _, ho⟩
      · exact ⟨_, _, _, h⟩
    obtain ⟨_, _, _, k1⟩ := conv h1
    obtain ⟨_, _, _, k2⟩ := conv h2
    exact hr.inj j j' _ _ _ _ _ _ k k1 k2 m1 m2

end Go.Pg
