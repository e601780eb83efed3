/- Pg, part 9: all operations that touch memory. -/
import Derived.Test.YtefihnkbelhneaaDoorPgHeap3
import Derived.Laws.BytesString
namespace Go.Pg
open Go

def putCells (y : AV) (off : Nat) (x : AV) : AV :=
  match y with
  | .agg cs => .agg (lay cs off x.cells)
  | _ => x

def bytesOf : List AV → Option (List UInt8)
  | [] => some []
  | .int .u8 n :: r => match bytesOf r with
    | some l => some (UInt8.ofNat n.toNat :: l)
    | none => none
  | _ => none

def ofBytes (s : List UInt8) : List AV := s.map fun b => .int .u8 b.toNat

theorem bytesOf_ofBytes (s : List UInt8) : bytesOf (ofBytes s) = some s := by
  induction s with
  | nil => rfl
  | cons b s ih => simp only [ofBytes, List.map_cons, bytesOf] at *; rw [ih]; simp

def heapK (P : Program) (ev : AEnv) (H : AH) (o : Oper) (K : HK) : Prop :=
  match o.op with
  | .load t x => match opnd ev x with
    | .rp cs => ∃ v, ldCells P t cs 0 = some v ∧ K v H [] [] []
    | .ptr id sz len idx off => match objAt H id with
      | some (e, sz', vs) => sz' = sz ∧ vs.length = len ∧ idx < vs.length ∧ ∃ v, ldCells P t (vs.getD idx (dz P e)).cells off = some v ∧ K v H [] [id] []
      | none => False
    | _ => False
  | .box t x => (opnd ev x).definite = true ∧ K (.ptr H.length (opnd ev x).cells.length 1 0 0) (H ++ [.arr t (opnd ev x).cells.length [opnd ev x]]) [H.length] [] []
  | .alloc t => (tz P t).definite = true ∧ K (.ptr H.length (tz P t).cells.length 1 0 0) (H ++ [.arr t (tz P t).cells.length [tz P t]]) [H.length] [] []
  | .store t a x => match opnd ev a, (tk P t).cells with
    | .ptr id sz len idx off, some (_, n) => match H[id]? with
      | some (.arr e sz' vs) => sz' = sz ∧ vs.length = len ∧ idx < vs.length ∧ (opnd ev x).cells.length = n ∧ 0 < n ∧ off + n ≤ (vs.getD idx (dz P e)).cells.length ∧ (opnd ev x).leafy = true ∧
          K .undef (H.set id (.arr e sz (vs.set idx (putCells (vs.getD idx (dz P e)) off (opnd ev x))))) [] [id] [id]
      | _ => False
    | _, _ => False
  | .buildSlice t len parts => match tk P t with
    | .slice e sz => (eb P e).isSome = true ∧ len * sz ≤ 2 ^ 24 ∧ len ≤ 2 ^ 24 ∧ parts.toList.map (·.1) = List.range len ∧ (parts.toList.all fun p => (opnd ev p.2).definite && (opnd ev p.2).cells.length == sz) = true ∧
        K (.own H.length sz len) (H ++ [.arr e sz (parts.toList.map fun p => opnd ev p.2)]) [H.length] [] []
    | _ => False
  | .makeSlice t l c => match tk P t, opnd ev l, opnd ev c with
    | .slice e sz, .int _ n, .int _ m => n = m ∧ 0 ≤ n ∧ ∃ b, eb P e = some b ∧ n * b ≤ 140737488355328 ∧ (tz P e).definite = true ∧ (tz P e).cells.length = sz ∧
        K (.own H.length sz n.toNat) (H ++ [.arr e sz (List.replicate n.toNat (tz P e))]) [H.length] [] []
    | _, _, _ => False
  | .convert src dst x => match tk P src, tk P dst, opnd ev x with
    | .str, .slice e sz, .str s => sz = 1 ∧ tk P e = .int .u8 ∧ s.length ≤ 140737488355328 ∧ K (.own H.length 1 s.length) (H ++ [.arr e 1 (ofBytes s)]) [H.length] [] []
    | .slice e _, .str, .nls => tk P e = .int .u8 ∧ K (.str []) H [] [] []
    | .slice e _, .str, y => tk P e = .int .u8 ∧ match srcV H y with
      | some (z, vs, fp) => z = 1 ∧ ∃ bs, bytesOf vs = some bs ∧ K (.str bs) H [] fp []
      | none => False
    | _, _, _ => False
  | .slice t x lo hi mx => match tk P t, opnd ev x, lo, hi, mx with
    | .slice _ sz, .own id z len, none, none, none => z = sz ∧ K (.own id z len) H [] [] []
    | _, _, _, _, _ => False
  | .call { callee := .builtin .append, args, argTypes } => match args.toList, argTypes.toList with
    | [s, x], [t, t'] => match tk P t with
      | .slice e sz => match eb P e, srcE P H t' sz (opnd ev x) with
        | some b, some (new, fp) => appK H e sz b (opnd ev s) new fp K
        | _, _ => False
      | _ => False
    | _, _ => False
  | _ => False

structure HCond (H H1 : AH) (new fp wr : List Nat) : Prop where
  wrfp : ∀ id ∈ wr, id ∈ fp
  wrlt : ∀ id ∈ wr, id < H.length
  le : ∀ id, id ∉ wr → Has H id H1
  newlt : ∀ id ∈ new, H.length ≤ id
  newup : ∀ id ∈ new, id < H1.length
  len : H.length ≤ H1.length

theorem HCond.read (H : AH) (fp : List Nat) : HCond H H [] fp [] :=
  ⟨by simp, by simp, fun id _ => Has.refl H id, by simp, by simp, Nat.le_refl _⟩

theorem HCond.alloc (H : AH) (o : AO) (fp : List Nat) : HCond H (H ++ [o]) [H.length] fp [] := by
  refine ⟨by simp, by simp, fun id _ x hx => ⟨x, ?_, .refl x⟩, by simp, by simp, by simp⟩
  rw [List.getElem?_append_left (List.getElem?_eq_some_iff.1 hx).1]; exact hx

theorem HCond.write (H : AH) (id : Nat) (o : AO) (fp : List Nat) (h : id < H.length) (hf : id ∈ fp) : HCond H (H.set id o) [] fp [id] := by
  refine ⟨by simpa using hf, by simpa using h, fun j hj x hx => ⟨x, ?_, .refl x⟩, by simp, by simp, by simp⟩
  rw [List.getElem?_set_ne (fun e => hj (by simp [e]))]; exact hx

def HSnd (P : Program) (ev : AEnv) (H : AH) (o : Oper) (K : HK) : Prop :=
  ∃ V H1 new fp wr, K V H1 new fp wr ∧ HCond H H1 new fp wr ∧ HeapOK P o (fun E a => Opd ev E a o) V new fp wr H H1

/-- An operation that only reads. -/
theorem heapOK_read {P : Program} {o : Oper} {look : Env → Act → Prop} {V : AV} {fp : List Nat} {H : AH}
    (h : ∀ (HD : AH) E a, look E a → Rel HD E → (∀ id ∈ fp, Has H id HD) → ∃ v, VR E V v ∧ (execOp a.eval o).run P E.W = .ok (.value v) E.W) : HeapOK P o look V [] fp [] H H := by
  intro HD E a hl hr _ hfp _ _ K Q hK
  obtain ⟨v, hv, hrun⟩ := h HD E a hl hr (fun id hid => hfp id hid (by simp))
  exact wp_of_value hrun (hK HD E v rfl (fun _ _ => rfl) (by simp) hv hr (Step.refl _ _) (fun id h1 h2 => absurd h1 h2))

/-- An operation that makes one object. -/
theorem heapOK_new {P : Program} {o : Oper} {look : Env → Act → Prop} {V : AV} {fp : List Nat} {H : AH} {x : AO}
    (h : ∀ (HD : AH) E a, look E a → Rel HD E → (∀ id ∈ fp, id < H.length → Has H id HD) → E.M H.length = none → (∃ o', HD[H.length]? = some o' ∧ AOle x o') →
      ∃ E' v, E'.W = E'.W ∧ VR E' V v ∧ (execOp a.eval o).run P E.W = .ok (.value v) E'.W ∧ Rel HD E' ∧ Step HD E HD E' ∧ (∀ j, E.M j = none → E'.M j ≠ none → j = H.length)) :
    HeapOK P o look V [H.length] fp [] H (H ++ [x]) := by
  intro HD E a hl hr _ hfp _ hnew K Q hK
  obtain ⟨hm, hh⟩ := hnew H.length (by simp)
  obtain ⟨E', v, _, hv, hrun, hr', hst, hM⟩ := h HD E a hl hr (fun id hid hlt y hy => hfp id hid (by simp) y (by rw [List.getElem?_append_left hlt]; exact hy)) hm (hh x (by simp))
  exact wp_of_value hrun (hK HD E' v rfl (fun _ _ => rfl) (by simp) hv hr' hst (fun id h1 h2 => by simpa using hM id h1 h2))

theorem box_new {HD : AH} {E : Env} (hr : Rel HD E) {id : Nat} (hm : E.M id = none) {t : TypeId} {x : AV} {v : Value} (hv : VR E x v) (hd : x.definite = true) {o' : AO} (ho : HD[id]? = some o') (hle : AOle (.arr t x.cells.length [x]) o') :
    ∃ E', E'.W = E.W.alloc (.cells v.cells t) ∧ VR E' (.ptr id x.cells.length 1 0 0) (.pointer (some ⟨E.W.heap.size, 0, none⟩)) ∧ Rel HD E' ∧ Step HD E HD E' ∧ (∀ j, E.M j = none → E'.M j ≠ none → j = id) := by
  have hc := cells_VR hv hd
  obtain ⟨E', hW, hr', hst, hM, hMid, hhl⟩ := alloc_rel hr hm ho hle (w' := E.W.alloc (.cells v.cells t)) (c := v.cells) (fz := (0, 0)) ⟨rfl, rfl, rfl⟩ rfl (by simp [hc.1]) (fun k _ hk => by simp at hk) (fun i y hi => by
    cases i with
    | zero =>
      simp at hi; subst hi
      refine ⟨rfl, fun j cc hj => ?_⟩
      have hlt : j < v.cells.size := by rw [hc.1]; exact (List.getElem?_eq_some_iff.1 hj).1
      have := hc.2 j cc hj
      simp only [Array.getD_eq_getD_getElem?, Array.getElem?_eq_getElem hlt, Option.getD_some] at this
      exact ⟨v.cells[j], by simp [hlt], this⟩
    | succ i => simp at hi)
  refine ⟨E', hW, .ptr id _ 1 0 0 _ (by rw [hMid]; rfl) (fun L hL => ?_), hr', hst, hM⟩
  have : L = 1 := by
    rw [hr'.hl] at hL
    simp only [hlOf, ho, Option.bind_some] at hL
    rw [hle.len] at hL
    simpa [AO.len] using hL.symm
  subst this
  exact ⟨Nat.le_refl _, fun _ => ⟨E.W.heap.size, hMid, by simp⟩⟩

/-- A new array of the call's own, of a block that is laid whole. -/
theorem arr_new {HD : AH} {E : Env} (hr : Rel HD E) {id : Nat} (hm : E.M id = none) {e : TypeId} {sz : Nat} {vs : List AV} {o' : AO} (ho : HD[id]? = some o') (hle : AOle (.arr e sz vs) o')
    {w' : World} {c : Array Value} {fz : Nat × Nat} {cap : Nat} (hs : SameBut E.W w') (hh : w'.heap = E.W.heap.push (.cells c e fz)) (hz : Thaw fz c.size) (hcap : c.size = cap * sz) (hvc : vs.length ≤ cap) (hcm : cap ≤ maxLen)
    (hv : ∀ (i : Nat) v, vs[i]? = some v → v.cells.length = sz ∧ ∀ (j : Nat) cc, v.cells[j]? = some cc → ∃ u, c[i * sz + j]? = some u ∧ VR E cc u) :
    ∃ E', E'.W = w' ∧ VR E' (.own id sz vs.length) (.slice (some ⟨E.W.heap.size, 0, none⟩) vs.length cap) ∧ Rel HD E' ∧ Step HD E HD E' ∧ (∀ j, E.M j = none → E'.M j ≠ none → j = id) := by
  obtain ⟨E', hW, hr', hst, hM, hMid, hhl⟩ := alloc_rel hr hm ho hle hs hh (by rw [hcap]; exact Nat.mul_le_mul_right _ hvc) hz hv
  refine ⟨E', hW, .own id sz _ _ cap (by rw [hMid]; rfl) (fun h => by cases h) (fun L hL => ?_), hr', hst, hM⟩
  have : L = vs.length := by
    rw [hr'.hl] at hL
    simp only [hlOf, ho, Option.bind_some] at hL
    rw [hle.len] at hL
    simpa [AO.len] using hL.symm
  subst this
  exact ⟨Nat.le_refl _, fun _ => .inr ⟨E.W.heap.size, c, e, fz, hMid, rfl, hvc, hcm, by rw [hW, hh]; simp, hcap⟩⟩

theorem AV.cells_cases (y : AV) : (∃ cs, y = .agg cs) ∨ (y.cells = [y] ∧ ∀ (off : Nat) (x : AV), putCells y off x = x) := by
  cases y <;> first | (right; exact ⟨rfl, fun _ _ => rfl⟩) | (left; exact ⟨_, rfl⟩)

theorem putCells_cells {y x : AV} {off n : Nat} (hn : x.cells.length = n) (h0 : 0 < n) (hoff : off + n ≤ y.cells.length) : (putCells y off x).cells = lay y.cells off x.cells := by
  rcases y.cells_cases with ⟨cs, rfl⟩ | ⟨h1, h2⟩
  · rfl
  · rw [h2, h1]
    rw [h1] at hoff
    simp only [List.length_cons, List.length_nil, Nat.zero_add] at hoff
    have ho : off = 0 := by omega
    have hn1 : n = 1 := by omega
    subst ho; subst hn1
    simp [lay, hn]

theorem setCells_VR {E : Env} {y x : AV} {off n sz idx : Nat} {vs : List AV} {c : Array Value} {v : Value} (hy : vs[idx]? = some y) (hx : VR E x v) (hd : x.definite = true) (hn : x.cells.length = n) (h0 : 0 < n) (hoff : off + n ≤ y.cells.length)
    (hc : vs.length * sz ≤ c.size)
    (hv : ∀ (i : Nat) v, vs[i]? = some v → v.cells.length = sz ∧ ∀ (j : Nat) cc, v.cells[j]? = some cc → ∃ u, c[i * sz + j]? = some u ∧ VR E cc u) :
    ∀ (i : Nat) w, (vs.set idx (putCells y off x))[i]? = some w → w.cells.length = sz ∧ ∀ (j : Nat) cc, w.cells[j]? = some cc →
      ∃ u, (c.toList.take (idx * sz + off) ++ v.cells.toList ++ c.toList.drop (idx * sz + off + v.cells.toList.length)).toArray[i * sz + j]? = some u ∧ VR E cc u := by
  have hcv := cells_VR hx hd
  have hvl : v.cells.toList.length = n := by rw [Array.length_toList, hcv.1, hn]
  have hysz := (hv idx y hy).1
  have hidx : idx < vs.length := (List.getElem?_eq_some_iff.1 hy).1
  have hrow : idx * sz + sz ≤ c.size := by
    have : (idx + 1) * sz ≤ vs.length * sz := Nat.mul_le_mul_right _ hidx
    rw [Nat.add_mul, Nat.one_mul] at this; omega
  have hpc := putCells_cells (y := y) hn h0 hoff
  -- where a place of the new row comes from
  have hget : ∀ k, (c.toList.take (idx * sz + off) ++ v.cells.toList ++ c.toList.drop (idx * sz + off + v.cells.toList.length)).toArray[k]? =
      if idx * sz + off ≤ k ∧ k < idx * sz + off + n then v.cells[k - (idx * sz + off)]? else c[k]? := by
    intro k
    have htl : (c.toList.take (idx * sz + off)).length = idx * sz + off := by simp; omega
    rw [List.getElem?_toArray]
    by_cases h1 : k < idx * sz + off
    · rw [if_neg (by omega), List.append_assoc, List.getElem?_append_left (by omega), List.getElem?_take, if_pos h1]; simp
    · by_cases h2 : k < idx * sz + off + n
      · rw [if_pos (by omega), List.append_assoc, List.getElem?_append_right (by omega), htl, List.getElem?_append_left (by omega)]; simp
      · rw [if_neg (by omega), List.getElem?_append_right (by rw [List.length_append]; omega), List.getElem?_drop, List.length_append, htl, hvl]
        have : idx * sz + off + n + (k - (idx * sz + off + n)) = k := by omega
        rw [this]; simp
  intro i w hw
  rw [List.getElem?_set] at hw
  by_cases hi : idx = i
  · subst hi
    rw [if_pos rfl, if_pos hidx] at hw
    cases hw
    have hll : (lay y.cells off x.cells).length = sz := by rw [← hysz]; simp [lay]; omega
    refine ⟨by rw [hpc, hll], fun j cc hj => ?_⟩
    rw [hpc] at hj
    have hjl : j < sz := by rw [← hll]; exact (List.getElem?_eq_some_iff.1 hj).1
    rw [hget]
    unfold lay at hj
    by_cases h1 : j < off
    · rw [if_neg (by omega)]
      rw [List.append_assoc, List.getElem?_append_left (by simp; omega), List.getElem?_take, if_pos h1] at hj
      exact (hv idx y hy).2 j cc hj
    · by_cases h2 : j < off + n
      · rw [if_pos (by omega)]
        rw [List.append_assoc, List.getElem?_append_right (by simp; omega), List.getElem?_append_left (by simp; omega)] at hj
        have e1 : j - (y.cells.take off).length = j - off := by simp; omega
        rw [e1] at hj
        have hlt : j - off < v.cells.size := by rw [hcv.1]; exact (List.getElem?_eq_some_iff.1 hj).1
        have := hcv.2 _ cc hj
        simp only [Array.getD_eq_getD_getElem?, Array.getElem?_eq_getElem hlt, Option.getD_some] at this
        refine ⟨v.cells[j - off], ?_, this⟩
        have e2 : idx * sz + j - (idx * sz + off) = j - off := by omega
        rw [e2]; simp [hlt]
      · rw [if_neg (by omega)]
        rw [List.getElem?_append_right (by simp; omega), List.getElem?_drop] at hj
        have e1 : off + x.cells.length + (j - (y.cells.take off ++ x.cells).length) = j := by simp; omega
        rw [e1] at hj
        exact (hv idx y hy).2 j cc hj
  · rw [if_neg hi] at hw
    refine ⟨(hv i w hw).1, fun j cc hj => ?_⟩
    rw [hget]
    have hjl : j < sz := by rw [← (hv i w hw).1]; exact (List.getElem?_eq_some_iff.1 hj).1
    rw [if_neg ?_]
    · exact (hv i w hw).2 j cc hj
    · intro ⟨h1, h2⟩
      rcases Nat.lt_or_gt_of_ne hi with h | h
      · have : (idx + 1) * sz ≤ i * sz := Nat.mul_le_mul_right _ h
        rw [Nat.add_mul, Nat.one_mul] at this; omega
      · have : (i + 1) * sz ≤ idx * sz := Nat.mul_le_mul_right _ h
        rw [Nat.add_mul, Nat.one_mul] at this; omega

end Go.Pg
