/- Pg, part 8: the writing of a slice that grows. -/
import Derived.Test.YtefihnkbelhneaaDoorPgHeap2
namespace Go.Pg
open Go

/-- A slice's array moves to a new block as it grows. -/
theorem move_rel {HD : AH} {E : Env} (hr : Rel HD E) {id : Nat} {e : TypeId} {sz : Nat} {vs vs' : List AV} {m0 : Option Nat} (ho : HD[id]? = some (.arr e sz vs)) (hm : E.M id = some m0) (hlt : vs.length < vs'.length)
    {w' : World} {c : Array Value} (hs : SameBut E.W w') (hh : w'.heap = E.W.heap.push (.cells c e (0, 0))) (hc : vs'.length * sz ≤ c.size)
    (hv : ∀ (i : Nat) v, vs'[i]? = some v → v.cells.length = sz ∧ ∀ (j : Nat) cc, v.cells[j]? = some cc → ∃ u, c[i * sz + j]? = some u ∧ VR E cc u) :
    ∃ E', E'.W = w' ∧ Rel (HD.set id (.arr e sz vs')) E' ∧ Step HD E (HD.set id (.arr e sz vs')) E' ∧ (∀ j, E.M j = none → E'.M j = none) ∧ E'.M id = some (some E.W.heap.size) := by
  have hidl : id < HD.length := (List.getElem?_eq_some_iff.1 ho).1
  have hold : ∀ b, b < E.W.heap.size → w'.heap[b]? = E.W.heap[b]? := fun b hb => by
    rw [hh, Array.getElem?_push, if_neg (by omega)]
  have hget : ∀ j : Nat, (HD.set id (AO.arr e sz vs'))[j]? = if j = id then some (AO.arr e sz vs') else HD[j]? := by
    intro j
    rw [List.getElem?_set]
    by_cases h : id = j
    · subst h; simp [hidl]
    · rw [if_neg h, if_neg (fun x => h x.symm)]
  let E' : Env := { W := w', M := fun j => if j = id then some (some E.W.heap.size) else E.M j, st := E.st, hl := hlOf (HD.set id (.arr e sz vs')) }
  have hlive : ∀ b, Live (HD.set id (.arr e sz vs')) E'.M b → Live HD E.M b ∨ E.W.heap.size ≤ b := by
    rintro b ⟨j, e', sz', v', h1, h2⟩
    by_cases hj : j = id
    · subst hj
      simp only [E', if_true] at h2
      cases h2; exact .inr (Nat.le_refl _)
    · simp only [E', if_neg hj] at h2
      rw [hget, if_neg hj] at h1
      exact .inl ⟨j, e', sz', v', h1, h2⟩
  have hst : Step HD E (HD.set id (.arr e sz vs')) E' := by
    refine ⟨⟨hs.os, hs.tape, hs.output, by show E.W.heap.size ≤ w'.heap.size; rw [hh]; simp, fun b hb _ => hold b hb, ?_, fun b _ h => .inl h, fun b hb => hb⟩, ⟨fun j hj => ?_, fun j L' hj hL => ?_⟩, hlive⟩
    · intro b c' ty fz' hb
      exact ⟨c', by show w'.heap[b]? = _; rw [hold b (Array.getElem?_eq_some_iff.1 hb).1]; exact hb, rfl⟩
    · simp only [E']; split
      · rfl
      · exact hj
    · simp only [E', hlOf, hget] at hL
      rw [hr.hl]
      split at hL
      · next hj =>
        subst hj
        simp only [Option.bind_some, AO.len] at hL
        cases hL
        exact ⟨vs.length, by simp [hlOf, ho, AO.len], by omega, fun h => by omega⟩
      · next hj => exact ⟨L', hL, Nat.le_refl _, fun _ => by simp only [E', if_neg hj]⟩
  have hx := hst.ext hr
  refine ⟨E', rfl, ⟨rfl, ?_, ?_, ?_, ?_, ?_, ?_⟩, hst, ?_, by simp [E']⟩
  · intro j hj
    have : j ≠ id := fun e => by subst e; simp at hj; omega
    simp only [E', if_neg this]; exact hr.dom j (by simpa using hj)
  · intro j e' s' v' h m hmj
    simp only [hget] at h
    by_cases hj : j = id
    · subst hj
      simp only [if_true, Option.some.injEq, AO.arr.injEq, reduceCtorEq, or_false] at h
      obtain ⟨rfl, rfl, rfl⟩ := h
      simp only [E', if_true] at hmj
      cases hmj
      refine .inr ⟨E.W.heap.size, c, (0, 0), rfl, by show w'.heap[_]? = _; rw [hh]; simp, hc, fun k _ hk => by simp at hk, fun i v hi => ⟨(hv i v hi).1, fun k cc hk => ?_⟩⟩
      obtain ⟨u, h1, h2⟩ := (hv i v hi).2 k cc hk
      exact ⟨u, h1, h2.mono hx⟩
    · simp only [if_neg hj] at h
      simp only [E', if_neg hj] at hmj
      rcases hr.row j e' s' v' h m hmj with h0 | ⟨b', c0, fz', h1, h2, h3, h4, h5⟩
      · exact .inl h0
      · refine .inr ⟨b', c0, fz', h1, by show w'.heap[b']? = _; rw [hold b' (Array.getElem?_eq_some_iff.1 h2).1]; exact h2, h3, h4, fun i v hi => ⟨(h5 i v hi).1, fun k cc hk => ?_⟩⟩
        obtain ⟨u, a1, a2⟩ := (h5 i v hi).2 k cc hk
        exact ⟨u, a1, a2.mono hx⟩
  · intro j e' s' v' b h hmj
    rw [hget] at h
    split at h
    · next hj =>
      subst hj
      simp only [E', if_true] at hmj
      cases hmj
      intro h'; have := hr.stlt _ h'; omega
    · next hj =>
      simp only [E', if_neg hj] at hmj
      exact hr.nst j e' s' v' b h hmj
  · intro j e' s' v' b h hmj
    rw [hget] at h
    split at h
    · cases h
    · next hj =>
      simp only [E', if_neg hj] at hmj
      exact hr.fst j e' s' v' b h hmj
  · intro j j' e1 s1 v1 e2 s2 v2 b h1 h2 m1 m2
    rw [hget] at h1 h2
    by_cases hj : j = id <;> by_cases hj' : j' = id
    · rw [hj, hj']
    · subst hj
      simp only [E', if_true] at m1
      simp only [E', if_neg hj'] at m2
      cases m1
      rw [if_neg hj'] at h2
      have := hr.block_lt (.inl h2) m2; omega
    · subst hj'
      simp only [E', if_true] at m2
      simp only [E', if_neg hj] at m1
      cases m2
      rw [if_neg hj] at h1
      have := hr.block_lt (.inl h1) m1; omega
    · simp only [E', if_neg hj] at m1
      simp only [E', if_neg hj'] at m2
      rw [if_neg hj] at h1
      rw [if_neg hj'] at h2
      exact hr.inj j j' _ _ _ _ _ _ b h1 h2 m1 m2
  · intro b h
    have := hr.stlt b h
    show b < w'.heap.size
    rw [hh]; simp; omega
  · intro j h
    have : j ≠ id := fun e => by subst e; rw [hm] at h; cases h
    simp only [E', if_neg this]; exact h

/-- A new block that nobody will write. -/
theorem alloc_st {HD : AH} {E : Env} (hr : Rel HD E) {w' : World} {o : Obj} (hs : SameBut E.W w') (hh : w'.heap = E.W.heap.push o) :
    ∃ E', E'.W = w' ∧ Rel HD E' ∧ Step HD E HD E' ∧ E'.M = E.M ∧ E'.st E.W.heap.size := by
  have hold : ∀ b, b < E.W.heap.size → w'.heap[b]? = E.W.heap[b]? := fun b hb => by
    rw [hh, Array.getElem?_push, if_neg (by omega)]
  let E' : Env := { W := w', M := E.M, st := fun b => E.st b ∨ b = E.W.heap.size, hl := E.hl }
  have hst : Step HD E HD E' := by
    refine ⟨⟨hs.os, hs.tape, hs.output, by show E.W.heap.size ≤ w'.heap.size; rw [hh]; simp, fun b hb _ => hold b hb, ?_, ?_, fun b hb => .inl hb⟩, ⟨fun j hj => hj, fun j L' hj hL => ⟨L', hL, Nat.le_refl _, fun _ => rfl⟩⟩, fun b h => .inl h⟩
    · intro b c' ty fz' hb
      exact ⟨c', by show w'.heap[b]? = _; rw [hold b (Array.getElem?_eq_some_iff.1 hb).1]; exact hb, rfl⟩
    · rintro b hb (h | h)
      · exact .inl h
      · omega
  have hx := hst.ext hr
  refine ⟨E', rfl, ⟨hr.hl, hr.dom, ?_, ?_, fun j e' s' v' b h hmj => .inl (hr.fst j e' s' v' b h hmj), hr.inj, ?_⟩, hst, rfl, .inr rfl⟩
  · intro j e' s' v' h m hmj
    rcases hr.row j e' s' v' h m hmj with h0 | ⟨b', c0, fz', h1, h2, h3, h4, h5⟩
    · exact .inl h0
    · refine .inr ⟨b', c0, fz', h1, by show w'.heap[b']? = _; rw [hold b' (Array.getElem?_eq_some_iff.1 h2).1]; exact h2, h3, h4, fun i v hi => ⟨(h5 i v hi).1, fun k cc hk => ?_⟩⟩
      obtain ⟨u, a1, a2⟩ := (h5 i v hi).2 k cc hk
      exact ⟨u, a1, a2.mono hx⟩
  · rintro j e' s' v' b h hmj (h' | h')
    · exact hr.nst j e' s' v' b h hmj h'
    · have := hr.block_lt (.inl h) hmj; omega
  · rintro b (h | h)
    · have := hr.stlt b h
      show b < w'.heap.size
      rw [hh]; simp; omega
    · show b < w'.heap.size
      rw [hh]; simp; omega

/-! ### Operations that touch memory -/
/-- An element type: its bytes, where its zero value is known and of its size. -/
def eb (P : Program) (e : TypeId) : Option Nat :=
  match P.info? e with
  | some i => match i.zero with
    | some z => if z.cells.size = i.size ∧ i.bytes ≠ 0 then some i.bytes else none
    | none => none
  | none => none

theorem eb_spec {P : Program} {e : TypeId} {n : Nat} (h : eb P e = some n) : ∃ i z, P.info? e = some i ∧ i.zero = some z ∧ z.cells.size = i.size ∧ i.bytes = n ∧ n ≠ 0 := by
  unfold eb at h
  split at h
  · next i hi =>
    split at h
    · next z hz =>
      split at h
      · next hh => cases h; exact ⟨i, z, hi, hz, hh.1, rfl, hh.2⟩
      · cases h
    · cases h
  · cases h

/-- The second argument of append. -/
def srcE (P : Program) (H : AH) (t' : TypeId) (sz : Nat) (x : AV) : Option (List AV × List Nat) :=
  match tk P t', x with
  | .str, .str s => if sz = 1 then some (s.map fun b => .int .u8 b.toNat, []) else none
  | .slice _ _, .nls => some ([], [])
  | .slice _ z', y => match srcV H y with
    | some (z, vs, fp) => if z = sz ∧ z' = sz then some (vs, fp) else none
    | none => none
  | _, _ => none

def AV.leafy (v : AV) : Bool := v.cells.all AV.leaf

/-- One cell that hangs on no object. -/
def AV.pureLeaf : AV → Bool
  | .nls | .int _ _ | .bool _ | .str _ | .sl _ _ | .slc _ _ => true
  | _ => false

def AV.pureB (v : AV) : Bool := v.cells.all AV.pureLeaf

theorem pureLeaf_VP {E : Env} {c : AV} {u : Value} (h : VR E c u) (hp : c.pureLeaf = true) : VP E.W E.st c u := by
  cases h <;> first
    | (simp [AV.pureLeaf] at hp; done)
    | exact .nls
    | exact .int _ _
    | exact .bool _
    | exact .str _
    | (next sz vs a cap f h1 h2 h3 => exact .sl sz vs a cap f h1 h2 h3)
    | (next sz vs a f h2 h3 => exact .slc sz vs a f h2 h3)

abbrev HK := AV → AH → List Nat → List Nat → List Nat → Prop

def appK (H : AH) (e : TypeId) (sz by_ : Nat) (d : AV) (new : List AV) (fp : List Nat) (K : HK) : Prop :=
  match d with
  | .own id z len => match H[id]? with
    | some (.arr e' z' vs) => z = sz ∧ z' = sz ∧ e' = e ∧ vs.length = len ∧ id ∉ fp ∧ new.all AV.leafy = true ∧ (len + new.length) * by_ ≤ 140737488355328 ∧
        K (.own id sz (len + new.length)) (H.set id (.arr e sz (vs ++ new))) [] (id :: fp) [id]
    | _ => False
  | .nls => new.length * by_ ≤ 140737488355328 ∧ K (.own H.length sz new.length) (H ++ [.arr e sz new]) [H.length] fp []
  | .slc z [] => z = sz ∧ new.length * by_ ≤ 140737488355328 ∧ K (.own H.length sz new.length) (H ++ [.arr e sz new]) [H.length] fp []
  | .slc z vs => z = sz ∧ new.all AV.pureB = true ∧ (vs.length + new.length) * by_ ≤ 140737488355328 ∧ K (.sl sz (vs ++ new)) H [] fp []
  | _ => False


theorem growZ {z : Value} {n sz : Nat} (hz : z.cells.size = sz) : (Builtin.zeroCells z.cells n).size = n * sz := by simp [Builtin.zeroCells, hz]

theorem flat_cells {E : Env} {sz : Nat} {vs : List AV} {us : List Value} (h : FlatVR E sz vs us) (rest : Array Value) :
    ∀ (i : Nat) v, vs[i]? = some v → v.cells.length = sz ∧ ∀ (j : Nat) cc, v.cells[j]? = some cc → ∃ u, (us.toArray ++ rest)[i * sz + j]? = some u ∧ VR E cc u := by
  intro i v hi
  refine ⟨(h.at_ i v hi).1, fun j cc hj => ?_⟩
  obtain ⟨u, h1, h2⟩ := (h.at_ i v hi).2 j cc hj
  refine ⟨u, ?_, h2⟩
  have hlt := (List.getElem?_eq_some_iff.1 h1).1
  rw [Array.getElem?_append_left (by simpa using hlt)]
  simpa using h1

theorem news_one {E : Env} {sz : Nat} {vs : List AV} {us : List Value} (h : FlatVR E sz vs us) (hl : vs.all AV.leafy = true) : ∀ u ∈ us, u.oneCell' = true := by
  intro u hu
  obtain ⟨k, hk, rfl⟩ := List.mem_iff_getElem.1 hu
  have hk' : k < vs.length * sz := by rw [← h.len]; exact hk
  have hz : 0 < sz := by
    rcases Nat.eq_zero_or_pos sz with h0 | h0
    · subst h0; simp at hk'
    · exact h0
  have hi : k / sz < vs.length := Nat.div_lt_of_lt_mul (by rw [Nat.mul_comm]; exact hk')
  obtain ⟨h1, h2⟩ := h.at_ (k / sz) (vs[k / sz]) (by simp [hi])
  have hj : k % sz < (vs[k / sz]).cells.length := by rw [h1]; exact Nat.mod_lt _ hz
  obtain ⟨u, h3, h4⟩ := h2 (k % sz) ((vs[k / sz]).cells[k % sz]) (by simp [hj])
  rw [Nat.mul_comm, Nat.div_add_mod, List.getElem?_eq_getElem hk] at h3
  cases h3
  have hleaf := List.all_eq_true.1 hl (vs[k / sz]) (List.getElem_mem hi)
  exact leaf_one h4 (List.all_eq_true.1 hleaf _ (List.getElem_mem hj))

theorem drew_same (w : World) (o : Obj) : SameBut w (w.drew.alloc o) ∧ (w.drew.alloc o).heap = w.heap.push o := ⟨⟨rfl, rfl, rfl⟩, rfl⟩

section
variable {P : Program} {t t' ty e : TypeId} {sz by_ : Nat} (ht : P.underlying t = some (.slice e)) {i : TypeInfo} {z : Value} (hi : P.info? e = some i) (hz : i.zero = some z) (hzs : z.cells.size = i.size) (hsz : i.size = sz) (hby : i.bytes = by_) (hb0 : by_ ≠ 0)
include ht hi hz hzs hsz hby hb0

theorem app_own {HD : AH} {E : Env} (hr : Rel HD E) {id len : Nat} {vs new : List AV} {dv x : Value} (hd : VR E (.own id sz len) dv) (ho : HD[id]? = some (.arr e sz vs)) (hl : vs.length = len)
    {news : List Value} (hs : SrcRun P x t' sz new.length news E.W) (hf : FlatVR E sz new news) (hleaf : new.all AV.leafy = true) (hbound : (len + new.length) * by_ ≤ 140737488355328) :
    ∃ E' v, (Builtin.append_ #[t, t'] ty #[dv, x]).run P E.W = .ok v E'.W ∧ VR E' (.own id sz (len + new.length)) v ∧ Rel (HD.set id (.arr e sz (vs ++ new))) E' ∧
      Step HD E (HD.set id (.arr e sz (vs ++ new))) E' ∧ (∀ j, E.M j = none → E'.M j = none) := by
  subst hl
  have hoa : objAt HD id = some (e, sz, vs) := by simp [objAt, ho]
  cases hd with
  | own _ _ _ a cap hm ha hlen =>
  have hown := (hlen _ (objAt_hl hr hoa)).2 rfl
  have hmax : vs.length + new.length ≤ maxLen := by
    have : (vs.length + new.length) * 1 ≤ (vs.length + new.length) * by_ := Nat.mul_le_mul_left _ (by omega)
    unfold maxLen; omega
  -- its cells
  have hcells : ∃ olds, FlatVR E sz vs olds ∧ ∀ k u, olds[k]? = some u → ∃ ad, a = some ad ∧ E.W.cell? (ad.add k) = some u := by
    obtain ⟨a', cap', us, h1, _, h2, h3⟩ := src_read hr (x := .own id sz vs.length) (VR.own id sz vs.length a cap hm ha hlen) (z := sz) (vs := vs) (fp := [id]) (by simp [srcV, hoa])
    cases h1
    exact ⟨us, h2, h3⟩
  obtain ⟨olds, hfo, holds⟩ := hcells
  by_cases hroom : vs.length + new.length ≤ cap
  · rcases hown with ⟨h1, h2, h3⟩ | ⟨b, c, tyb, fz, h1, h2, h3, h4, h5, h6⟩
    · -- nothing there, nothing put
      have hv0 : vs = [] := List.eq_nil_of_length_eq_zero h2
      have hn0 : new = [] := List.eq_nil_of_length_eq_zero (by omega)
      subst hv0; subst hn0
      have hnews : news = [] := List.eq_nil_of_length_eq_zero (by rw [hf.len]; simp)
      subst hnews
      have hrun := run_append_room' (P := P) (w := E.W) (t := t) (t' := t') (ty := ty) ht hi (base := a) (len := 0) (cap := cap) (m := 0) (by rw [hsz]; exact hs) (by omega) (w' := E.W) (by cases a <;> simp [storeCells])
      have hid : HD.set id (.arr e sz ([] ++ [])) = HD := by
        have hidl := (List.getElem?_eq_some_iff.1 ho).1
        apply List.ext_getElem?
        intro j
        rw [List.getElem?_set]
        split
        · next h => subst h; rw [ho]; rfl
        · rfl
      rw [hid]
      exact ⟨E, _, hrun, VR.own id sz 0 a cap hm ha hlen, hr, Step.refl _ _, fun j h => h⟩
    · rcases hr.row id e sz vs (.inl ho) _ h1 with ⟨h, _⟩ | ⟨b', c', fz', hb', hw, hc, hth, hv⟩
      · cases h
      · cases hb'
        rw [h5] at hw; cases hw
        subst h2
        have hstore := run_storeCells_thaw (P := P) b (vs.length * sz) e fz news 0 c E.W h5 hth (by
          rw [hf.len, h6, Nat.add_zero, ← Nat.add_mul]; exact Nat.mul_le_mul_right _ hroom) (news_one hf hleaf)
        simp only [Nat.add_zero] at hstore
        have hrun := run_append_room' (P := P) (w := E.W) (t := t) (t' := t') (ty := ty) ht hi (base := some ⟨b, 0, none⟩) (len := vs.length) (cap := cap) (m := new.length) (by rw [hsz]; exact hs) hroom (by
          simp only [add_addr, Nat.zero_add, hsz]; exact hstore)
        have holdc : ∀ (k : Nat) (u : Value), olds[k]? = some u → c[k]? = some u := by
          intro k u hk
          obtain ⟨ad, had, hcell⟩ := holds k u hk
          cases had
          rw [add_addr] at hcell
          simpa [World.cell?, h5] using hcell
        have htake : c.toList.take (vs.length * sz) = olds := by
          apply List.ext_getElem?
          intro k
          rw [List.getElem?_take]
          split
          · next hlt =>
            have hk : k < olds.length := by rw [hfo.len]; exact hlt
            have := holdc k olds[k] (by simp [hk])
            simp only [Array.getElem?_toList, this, List.getElem?_eq_getElem hk]
          · next hge => exact (List.getElem?_eq_none (by rw [hfo.len]; omega)).symm
        obtain ⟨E', hW, hr', hst, hM⟩ := write_rel hr (vs' := vs ++ new) (c' := (c.toList.take (vs.length * sz) ++ news ++ c.toList.drop (vs.length * sz + news.length)).toArray) ho h1 h5 hth
          (by
            have : news.length = new.length * sz := hf.len
            have h7 : (vs.length + new.length) * sz ≤ c.size := by rw [h6]; exact Nat.mul_le_mul_right _ hroom
            rw [Nat.add_mul] at h7
            simp only [List.size_toArray, List.length_append, List.length_take, List.length_drop, Array.length_toList]; omega)
          (by simp) (by rw [h6, List.length_append]; exact Nat.mul_le_mul_right _ hroom) (by
            rw [htake]
            have := flat_cells (hfo.append hf) (c.toList.drop (vs.length * sz + news.length)).toArray
            simpa using this)
        refine ⟨E', _, by rw [hrun, hW], ?_, hr', hst, fun j h => by rw [hM]; exact h⟩
        refine .own id sz _ _ cap (by rw [hM, h1]; rfl) (fun h => by cases h) fun L hL => ?_
        have : L = vs.length + new.length := by
          rw [hr'.hl] at hL
          have hidl := (List.getElem?_eq_some_iff.1 ho).1
          simp [hlOf, hidl, AO.len] at hL
          omega
        subst this
        refine ⟨Nat.le_refl _, fun _ => .inr ⟨b, _, e, fz, by rw [hM, h1], rfl, hroom, h4, by rw [hW]; exact setRow_heap E.W b c _ e fz h5, ?_⟩⟩
        have : news.length = new.length * sz := hf.len
        have h7 : (vs.length + new.length) * sz ≤ c.size := by rw [h6]; exact Nat.mul_le_mul_right _ hroom
        rw [Nat.add_mul] at h7
        simp only [List.size_toArray, List.length_append, List.length_take, List.length_drop, Array.length_toList]; omega
  · -- a new block
    obtain ⟨m0, hm0⟩ := Option.isSome_iff_exists.1 hm
    have hold : (Builtin.firstCells i.size vs.length (.slice a vs.length cap)).run P E.W.drew = .ok olds.toArray E.W.drew := by
      cases a with
      | none =>
        have : vs.length = 0 := ha rfl
        have h0 : olds = [] := List.eq_nil_of_length_eq_zero (by rw [hfo.len, this]; simp)
        subst h0
        exact run_firstCells_none E.W.drew i.size _ _ _
      | some ad =>
        exact run_firstCells_some E.W.drew i.size vs.length ad _ _ olds (by rw [hfo.len, hsz]) (fun j u hj => by
          obtain ⟨ad', h1, h2⟩ := holds j u hj
          cases h1; simpa using h2)
    have hrun := run_append_new (P := P) (w := E.W) (t := t) (t' := t') (ty := ty) ht hi hz (base := a) (len := vs.length) (cap := cap) (m := new.length) (olds := olds) (by rw [hsz]; exact hs) (by omega) hold (by unfold maxLen at hmax; exact hmax) (by rw [hby]; exact hbound)
    have hge := grownCap_ge E.W (vs.length + new.length) cap e
    obtain ⟨hsb, hh⟩ := drew_same E.W (.cells (olds.toArray ++ news.toArray ++ Builtin.zeroCells z.cells (grownCap E.W (vs.length + new.length) cap e - (vs.length + new.length))) e)
    have hcs : (olds.toArray ++ news.toArray ++ Builtin.zeroCells z.cells (grownCap E.W (vs.length + new.length) cap e - (vs.length + new.length))).size = grownCap E.W (vs.length + new.length) cap e * sz := by
      rw [Array.size_append, Array.size_append, growZ (hzs.trans hsz)]
      simp only [List.size_toArray, hfo.len, hf.len, ← Nat.add_mul]
      congr 1; omega
    obtain ⟨E', hW, hr', hst, hM, hMid⟩ := move_rel hr (vs' := vs ++ new) ho hm0 (by
      have : cap < vs.length + new.length := by omega
      have hcl : vs.length ≤ cap := by
        rcases hown with ⟨_, h2, h3⟩ | ⟨_, _, _, _, _, _, h3, _⟩ <;> omega
      simp; omega) hsb hh (by
        rw [hcs, List.length_append]
        exact Nat.mul_le_mul_right _ hge) (by
        have := flat_cells (hfo.append hf) (Builtin.zeroCells z.cells (grownCap E.W (vs.length + new.length) cap e - (vs.length + new.length)))
        simpa [Array.append_assoc] using this)
    refine ⟨E', _, by rw [hrun, hW], ?_, hr', hst, hM⟩
    refine .own id sz _ _ _ (by rw [hMid]; rfl) (fun h => by cases h) fun L hL => ?_
    have : L = vs.length + new.length := by
      rw [hr'.hl] at hL
      have hidl := (List.getElem?_eq_some_iff.1 ho).1
      simp [hlOf, hidl, AO.len] at hL
      omega
    subst this
    refine ⟨Nat.le_refl _, fun _ => .inr ⟨E.W.heap.size, _, e, (0, 0), hMid, rfl, hge, grownCap_le_maxLen E.W _ cap e hmax, by rw [hW, hh]; simp, hcs⟩⟩


theorem app_new {HD : AH} {E : Env} (hr : Rel HD E) {id : Nat} {o' : AO} {new : List AV} (hm : E.M id = none) (ho : HD[id]? = some o') (hle : AOle (.arr e sz new) o') {a : Option Addr} {x : Value}
    {news : List Value} (hs : SrcRun P x t' sz new.length news E.W) (hf : FlatVR E sz new news) (hbound : new.length * by_ ≤ 140737488355328) :
    ∃ E' v, (Builtin.append_ #[t, t'] ty #[.slice a 0 0, x]).run P E.W = .ok v E'.W ∧ VR E' (.own id sz new.length) v ∧ Rel HD E' ∧
      Step HD E HD E' ∧ (∀ j, E.M j = none → E'.M j ≠ none → j = id) := by
  have hmax : new.length ≤ maxLen := by
    have : new.length * 1 ≤ new.length * by_ := Nat.mul_le_mul_left _ (by omega)
    unfold maxLen; omega
  have hlen : ∀ E' : Env, Rel HD E' → ∀ L, E'.hl id = some L → L = new.length := by
    intro E' hr' L hL
    rw [hr'.hl] at hL
    simp only [hlOf, ho, Option.bind_some] at hL
    rw [hle.len] at hL
    simp only [AO.len] at hL
    cases hL; rfl
  by_cases h0 : new = []
  · subst h0
    have hnews : news = [] := List.eq_nil_of_length_eq_zero (by rw [hf.len]; simp)
    subst hnews
    have hrun := run_append_room' (P := P) (w := E.W) (t := t) (t' := t') (ty := ty) ht hi (base := a) (len := 0) (cap := 0) (m := 0) (by rw [hsz]; exact hs) (by omega) (w' := E.W) (by cases a <;> simp [storeCells])
    obtain ⟨E', hW, hr', hst, hM, hMid, _⟩ := alloc_nil hr hm ho hle
    refine ⟨E', _, by rw [hrun, hW], .own id sz 0 a 0 (by rw [hMid]; rfl) (fun _ => rfl) (fun L hL => ?_), hr', hst, hM⟩
    have := hlen E' hr' L hL
    simp at this
    subst this
    exact ⟨Nat.le_refl _, fun _ => .inl ⟨hMid, rfl, rfl⟩⟩
  · have hpos : 0 < new.length := List.length_pos_iff.2 h0
    have hold : (Builtin.firstCells i.size 0 (.slice a 0 0)).run P E.W.drew = .ok ([] : List Value).toArray E.W.drew := by
      cases a with
      | none => exact run_firstCells_none E.W.drew i.size _ _ _
      | some ad => exact run_firstCells_some E.W.drew i.size 0 ad _ _ [] (by simp) (fun j u hj => by simp at hj)
    have hrun := run_append_new (P := P) (w := E.W) (t := t) (t' := t') (ty := ty) ht hi hz (base := a) (len := 0) (cap := 0) (m := new.length) (olds := []) (by rw [hsz]; exact hs) (by omega) hold (by unfold maxLen at hmax; omega) (by rw [hby]; simpa using hbound)
    rw [Nat.zero_add] at hrun
    have hge := grownCap_ge E.W new.length 0 e
    obtain ⟨hsb, hh⟩ := drew_same E.W (.cells (([] : List Value).toArray ++ news.toArray ++ Builtin.zeroCells z.cells (grownCap E.W new.length 0 e - new.length)) e)
    have hcs : (([] : List Value).toArray ++ news.toArray ++ Builtin.zeroCells z.cells (grownCap E.W new.length 0 e - new.length)).size = grownCap E.W new.length 0 e * sz := by
      rw [Array.size_append, Array.size_append, growZ (hzs.trans hsz)]
      simp only [List.size_toArray, List.length_nil, Nat.zero_add, hf.len, ← Nat.add_mul]
      congr 1; omega
    obtain ⟨E', hW, hr', hst, hM, hMid, _⟩ := alloc_rel hr hm ho hle hsb hh (by rw [hcs]; exact Nat.mul_le_mul_right _ hge) (fun k _ hk => by simp at hk) (by
      have := flat_cells hf (Builtin.zeroCells z.cells (grownCap E.W new.length 0 e - new.length))
      simpa using this)
    refine ⟨E', _, by rw [hrun, hW], ?_, hr', hst, hM⟩
    refine .own id sz _ _ _ (by rw [hMid]; rfl) (fun h => by cases h) fun L hL => ?_
    have := hlen E' hr' L hL
    subst this
    exact ⟨Nat.le_refl _, fun _ => .inr ⟨E.W.heap.size, _, e, (0, 0), hMid, rfl, hge, grownCap_le_maxLen E.W _ 0 e hmax, by rw [hW, hh]; simp, hcs⟩⟩

omit hzs in
theorem app_slc {HD : AH} {E : Env} (hr : Rel HD E) {vs new : List AV} {dv x : Value} (hd : VR E (.slc sz vs) dv)
    {news : List Value} (hs : SrcRun P x t' sz new.length news E.W) (hf : FlatVR E sz new news) (hpure : new.all AV.pureB = true) (hbound : (vs.length + new.length) * by_ ≤ 140737488355328) :
    ∃ E' v, (Builtin.append_ #[t, t'] ty #[dv, x]).run P E.W = .ok v E'.W ∧ VR E' (.sl sz (vs ++ new)) v ∧ Rel HD E' ∧ Step HD E HD E' ∧ E'.M = E.M := by
  have hmax : vs.length + new.length ≤ maxLen := by
    have : (vs.length + new.length) * 1 ≤ (vs.length + new.length) * by_ := Nat.mul_le_mul_left _ (by omega)
    unfold maxLen; omega
  obtain ⟨a, cap, olds, hdv, hcap, hfo, holds⟩ := src_read hr hd (z := sz) (vs := vs) (fp := []) rfl
  obtain ⟨a', f, hdv', hsl, hvv⟩ := hd.slc_inv
  rw [hdv] at hdv'
  cases hdv'
  subst hdv
  by_cases h0 : new = []
  · subst h0
    have hnews : news = [] := List.eq_nil_of_length_eq_zero (by rw [hf.len]; simp)
    subst hnews
    have hrun := run_append_room' (P := P) (w := E.W) (t := t) (t' := t') (ty := ty) ht hi (base := a) (len := vs.length) (cap := vs.length) (m := 0) (by rw [hsz]; exact hs) (by omega) (w' := E.W) (by cases a <;> simp [storeCells])
    refine ⟨E, _, hrun, ?_, hr, Step.refl _ _, rfl⟩
    rw [List.append_nil]
    exact .sl sz vs a vs.length f (Nat.le_refl _) hsl hvv
  · have hpos : 0 < new.length := List.length_pos_iff.2 h0
    have hold : (Builtin.firstCells i.size vs.length (.slice a vs.length vs.length)).run P E.W.drew = .ok olds.toArray E.W.drew := by
      cases a with
      | none =>
        have h0 : olds = [] := by
          cases ho : olds with
          | nil => rfl
          | cons u r => obtain ⟨ad, h, _⟩ := holds 0 u (by rw [ho]; rfl); cases h
        subst h0
        exact run_firstCells_none E.W.drew i.size _ _ _
      | some ad =>
        exact run_firstCells_some E.W.drew i.size vs.length ad _ _ olds (by rw [hfo.len, hsz]) (fun j u hj => by
          obtain ⟨ad', h1, h2⟩ := holds j u hj
          cases h1; simpa using h2)
    have hrun := run_append_new (P := P) (w := E.W) (t := t) (t' := t') (ty := ty) ht hi hz (base := a) (len := vs.length) (cap := vs.length) (m := new.length) (olds := olds) (by rw [hsz]; exact hs) (by omega) hold (by unfold maxLen at hmax; exact hmax) (by rw [hby]; exact hbound)
    obtain ⟨hsb, hh⟩ := drew_same E.W (.cells (olds.toArray ++ news.toArray ++ Builtin.zeroCells z.cells (grownCap E.W (vs.length + new.length) vs.length e - (vs.length + new.length))) e)
    obtain ⟨E', hW, hr', hst, hM, hstb⟩ := alloc_st hr hsb hh
    refine ⟨E', _, by rw [hrun, hW], ?_, hr', hst, hM⟩
    have hge := grownCap_ge E.W (vs.length + new.length) vs.length e
    have hfl := flat_cells ((hfo.append hf).mono (hst.ext hr)) (Builtin.zeroCells z.cells (grownCap E.W (vs.length + new.length) vs.length e - (vs.length + new.length)))
    have := VR.sl (E := E') sz (vs ++ new) (some ⟨E.W.heap.size, 0, none⟩) (grownCap E.W (vs.length + new.length) vs.length e)
      (fun i j => ((olds ++ news).toArray ++ Builtin.zeroCells z.cells (grownCap E.W (vs.length + new.length) vs.length e - (vs.length + new.length))).getD (i * sz + j) Go.undef) (by simpa using hge) (fun k v hk => ?_) (fun k v j c hk hj => ?_)
    · simpa using this
    · refine ⟨(hfl k v hk).1, E.W.heap.size, 0, rfl, hstb, fun j hj => ?_⟩
      obtain ⟨u, h1, _⟩ := (hfl k v hk).2 j (v.cells[j]'(by rw [(hfl k v hk).1]; exact hj)) (by simp)
      have hcell : E'.W.heap[E.W.heap.size]? = some (.cells (olds.toArray ++ news.toArray ++ Builtin.zeroCells z.cells (grownCap E.W (vs.length + new.length) vs.length e - (vs.length + new.length))) e (0, 0)) := by rw [hW, hh]; simp
      simp only [World.cell?, hcell, Nat.zero_add]
      have e1 : olds.toArray ++ news.toArray = (olds ++ news).toArray := by simp
      rw [e1] at *
      simp [h1]
    · obtain ⟨u, h1, h2⟩ := (hfl k v hk).2 j c hj
      simp only [Array.getD_eq_getD_getElem?, h1, Option.getD_some]
      by_cases hkl : k < vs.length
      · rw [List.getElem?_append_left hkl] at hk
        obtain ⟨hvl, b, o, ha, hstb', hcell⟩ := hsl k v hk
        have hjl : j < sz := by rw [← hvl]; exact (List.getElem?_eq_some_iff.1 hj).1
        have hin : k * sz + j < olds.length := by
          rw [hfo.len]
          have : (k + 1) * sz ≤ vs.length * sz := Nat.mul_le_mul_right _ hkl
          rw [Nat.add_mul, Nat.one_mul] at this; omega
        have hou : olds[k * sz + j]? = some u := by
          rw [Array.getElem?_append_left (by simp; omega)] at h1
          simp only [List.getElem?_toArray] at h1
          rwa [List.getElem?_append_left hin] at h1
        obtain ⟨ad, had, hc1⟩ := holds _ _ hou
        rw [ha] at had; cases had
        rw [add_addr, ← Nat.add_assoc, hcell j hjl] at hc1
        cases hc1
        exact (hvv k v j c hk hj).mono (hst.ext hr).st (hst.ext hr).same
      · rw [List.getElem?_append_right (by omega)] at hk
        have := List.all_eq_true.1 hpure v (List.mem_of_getElem? hk)
        exact pureLeaf_VP h2 (List.all_eq_true.1 this c (List.mem_of_getElem? hj))

end
end Go.Pg
