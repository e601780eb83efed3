/- Pg, part 10: the operations that touch memory are sound. -/
import Derived.Test.YtefihnkbelhneaaDoorPgHeap4
namespace Go.Pg
open Go

theorem load_sound {P : Program} {ev : AEnv} {H : AH} {K : HK} {dst : Option Tmp} {t : TypeId} {x : Operand} {ty : TypeId} {pos : String} {after : Array Edge} {guard : Option (Nat × Bool)}
    (h : heapK P ev H ⟨dst, .load t x, ty, pos, after, guard⟩ K) : HSnd P ev H ⟨dst, .load t x, ty, pos, after, guard⟩ K := by
  unfold heapK at h
  simp only at h
  split at h
  · next cs hx =>
    obtain ⟨V, hV, hK⟩ := h
    refine ⟨V, H, [], [], [], hK, HCond.read H [], heapOK_read fun HD E a hl hr _ => ?_⟩
    have h1 := hl x (by simp [Op.operands])
    rw [hx] at h1
    cases h1v : a.eval x <;> rw [h1v] at h1 <;> cases h1
    next b o g hst hc hv =>
    obtain ⟨v, h2, h3⟩ := load_run hV (E := E) (b := b) (o := o) (fun j c hj => ⟨_, hc j c hj, (hv j c hj).vr⟩)
    rw [Nat.add_zero] at h3
    exact ⟨v, h2, by simp only [execOp, Instr.loadAt, h1v, Instr.sureAddr, Sem.run_bind, Sem.run_pure, Result.andThen_ok, h3]⟩
  · next id sz len idx off hx =>
    split at h
    · next e sz' vs ho =>
      obtain ⟨rfl, hlen, hlt0, V, hV, hK⟩ := h
      have hy : vs[idx]? = some (vs.getD idx (dz P e)) := by simp [hlt0]
      refine ⟨V, H, [], [id], [], hK, HCond.read H [id], heapOK_read fun HD E a hl hr hfp => ?_⟩
      have h1 := hl x (by simp [Op.operands])
      rw [hx] at h1
      obtain ⟨b, hb, hav, hysz, c, fz, hw, _, hc, hv⟩ := ptr_read hr h1 (objAt_has ho (hfp id (by simp))) hlen hy
      obtain ⟨v, h2, h3⟩ := load_run hV (E := E) (b := b) (o := idx * sz') (fun j cc hj => by
        obtain ⟨u, h1, h2⟩ := hv j cc hj
        exact ⟨u, by simp [World.cell?, hw, h1], h2⟩)
      exact ⟨v, h2, by simp only [execOp, Instr.loadAt, hav, Instr.sureAddr, Sem.run_bind, Sem.run_pure, Result.andThen_ok, h3]⟩
    · exact h.elim
  · exact h.elim

theorem box_sound {P : Program} {ev : AEnv} {H : AH} {K : HK} {dst : Option Tmp} {t : TypeId} {x : Operand} {ty : TypeId} {pos : String} {after : Array Edge} {guard : Option (Nat × Bool)}
    (h : heapK P ev H ⟨dst, .box t x, ty, pos, after, guard⟩ K) : HSnd P ev H ⟨dst, .box t x, ty, pos, after, guard⟩ K := by
  unfold heapK at h
  simp only at h
  obtain ⟨hd, hK⟩ := h
  refine ⟨_, _, _, _, _, hK, HCond.alloc H _ [], heapOK_new fun HD E a hl hr _ hm ⟨o', ho, hle⟩ => ?_⟩
  obtain ⟨E', hW, hv, hr', hst, hM⟩ := box_new hr hm (hl x (by simp [Op.operands])) hd ho hle
  exact ⟨E', _, rfl, hv, by rw [hW]; simp [execOp, Instr.box, newVar, newRow], hr', hst, hM⟩

theorem alloc_sound {P : Program} {ev : AEnv} {H : AH} {K : HK} {dst : Option Tmp} {t : TypeId} {ty : TypeId} {pos : String} {after : Array Edge} {guard : Option (Nat × Bool)}
    (h : heapK P ev H ⟨dst, .alloc t, ty, pos, after, guard⟩ K) : HSnd P ev H ⟨dst, .alloc t, ty, pos, after, guard⟩ K := by
  unfold heapK at h
  simp only at h
  obtain ⟨hd, hK⟩ := h
  refine ⟨_, _, _, _, _, hK, HCond.alloc H _ [], heapOK_new fun HD E a hl hr _ hm ⟨o', ho, hle⟩ => ?_⟩
  have hz : ∃ i z, P.info? t = some i ∧ i.zero = some z ∧ VR E (tz P t) z := by
    unfold tz at hd ⊢
    split at hd
    · next i hi =>
      split at hd
      · next v hv => exact ⟨i, v, hi, hv, ofV_VR E v⟩
      · simp [AV.definite] at hd
    · simp [AV.definite] at hd
  obtain ⟨i, z, hi, hz, hv⟩ := hz
  obtain ⟨E', hW, hv, hr', hst, hM⟩ := box_new hr hm hv hd ho hle
  exact ⟨E', _, rfl, hv, by rw [hW]; simp [execOp, Instr.alloc, newVar, newRow, zeroValue, typeInfo, hi, hz], hr', hst, hM⟩

theorem store_sound {P : Program} {ev : AEnv} {H : AH} {K : HK} {dst : Option Tmp} {t : TypeId} {ad x : Operand} {ty : TypeId} {pos : String} {after : Array Edge} {guard : Option (Nat × Bool)}
    (h : heapK P ev H ⟨dst, .store t ad x, ty, pos, after, guard⟩ K) : HSnd P ev H ⟨dst, .store t ad x, ty, pos, after, guard⟩ K := by
  unfold heapK at h
  simp only at h
  split at h
  · next id sz len idx off b n hx hk =>
    split at h
    · next e sz' vs ho =>
      obtain ⟨rfl, hlen, hlt0, hn, h0, hoff, hleaf, hK⟩ := h
      have hy : vs[idx]? = some (vs.getD idx (dz P e)) := by simp [hlt0]
      have hidl : id < H.length := (List.getElem?_eq_some_iff.1 ho).1
      refine ⟨_, _, _, _, _, hK, HCond.write H id _ [id] hidl (by simp), ?_⟩
      intro HD E a hl hr _ hfp hwr _ K' Q hK'
      have hD : HD[id]? = some (.arr e sz' vs) := by rw [hwr id (by simp)]; exact ho
      have h1 := hl ad (by simp [Op.operands])
      have h2 := hl x (by simp [Op.operands])
      rw [hx] at h1
      have hoa : objAt HD id = some (e, sz', vs) := by simp [objAt, hD]
      obtain ⟨bl, hb, hav, hysz, c, fz, hw, hth, hc, hv⟩ := ptr_read hr h1 hoa hlen hy
      have hd : (opnd ev x).definite = true := by
        cases hxx : opnd ev x <;> rw [hxx] at hleaf <;> first | rfl | (simp [AV.leafy, AV.cells, AV.leaf] at hleaf)
      have hcv := cells_VR h2 hd
      have hidx : idx < vs.length := (List.getElem?_eq_some_iff.1 hy).1
      have hrow : idx * sz' + sz' ≤ c.size := by
        have : (idx + 1) * sz' ≤ vs.length * sz' := Nat.mul_le_mul_right _ hidx
        rw [Nat.add_mul, Nat.one_mul] at this; omega
      have hvl : (a.eval x).cells.toList.length = n := by rw [Array.length_toList, hcv.1, hn]
      have hone : ∀ v ∈ (a.eval x).cells.toList, v.oneCell' = true := by
        intro v hv
        obtain ⟨k, hk, rfl⟩ := List.mem_iff_getElem.1 hv
        have hk' : k < (opnd ev x).cells.length := by rw [hn, ← hvl]; exact hk
        have := hcv.2 k ((opnd ev x).cells[k]) (by simp [hk'])
        have hka : k < (a.eval x).cells.size := by simpa using hk
        simp only [Array.getD_eq_getD_getElem?, Array.getElem?_eq_getElem hka, Option.getD_some] at this
        simp only [Array.getElem_toList]
        exact leaf_one this (List.all_eq_true.1 hleaf _ (List.getElem_mem hk'))
      have hrowv := hr.row id e sz' vs (.inl hD) _ hb
      have hvall : ∀ (i : Nat) v, vs[i]? = some v → v.cells.length = sz' ∧ ∀ (j : Nat) cc, v.cells[j]? = some cc → ∃ u, c[i * sz' + j]? = some u ∧ VR E cc u := by
        rcases hrowv with ⟨h, _⟩ | ⟨b', c', fz', hb', hw', _, _, hv'⟩
        · cases h
        · cases hb'; rw [hw] at hw'; cases hw'; exact hv'
      have hst := run_storeCells_thaw (P := P) bl (idx * sz' + off) e fz (a.eval x).cells.toList 0 c E.W hw hth (by rw [hvl]; omega) hone
      simp only [Nat.add_zero] at hst
      have hset := setCells_VR hy h2 hd hn h0 hoff hc hvall
      obtain ⟨E', hW, hr', hstep, hM⟩ := write_rel hr (vs' := vs.set idx (putCells (vs.getD idx (dz P e)) off (opnd ev x))) hD hb hw hth (c' := (c.toList.take (idx * sz' + off) ++ (a.eval x).cells.toList ++ c.toList.drop (idx * sz' + off + (a.eval x).cells.toList.length)).toArray)
        (by simp only [List.size_toArray, List.length_append, List.length_take, List.length_drop, Array.length_toList] at hvl ⊢; omega) (by simp) (by simpa using hc) hset
      obtain ⟨_, ti, hti, htsz⟩ := tk_cells hk E.W
      have hrun : (execOp a.eval ⟨dst, .store t ad x, ty, pos, after, guard⟩).run P E.W = .ok .skip E'.W := by
        rw [hW]
        have hsz : (a.eval x).cells.size = n := by rw [← Array.length_toList]; exact hvl
        simp only [execOp, Instr.storeAt, hav, Instr.sureAddr, storeVar, Sem.run_bind, Sem.run_pure, Result.andThen_ok, sizeOf, typeInfo, run_program, hti, htsz, hsz, ne_eq, not_true_eq_false, if_false, hst]
      refine wp_of_skip hrun (hK' (HD.set id (.arr e sz' (vs.set idx (putCells (vs.getD idx (dz P e)) off (opnd ev x))))) E' Go.undef (by simp) (fun j hj => List.getElem?_set_ne (fun e => hj (by simp [e]))) (fun j hj => ?_) .undef hr' hstep (fun j h1 h2 => by rw [hM] at h2; exact absurd h1 h2))
      have : j = id := by simpa using hj
      subst this
      have hidD : j < HD.length := (List.getElem?_eq_some_iff.1 hD).1
      rw [List.getElem?_set_self hidD, List.getElem?_set_self hidl]
    · exact h.elim
  · exact h.elim

theorem srcE_run {P : Program} {H HD : AH} {E : Env} (hr : Rel HD E) {t' : TypeId} {sz : Nat} {x : AV} {v : Value} (hv : VR E x v) {new : List AV} {fp : List Nat} (h : srcE P H t' sz x = some (new, fp)) (hfp : ∀ id ∈ fp, Has H id HD) :
    ∃ news, SrcRun P v t' sz new.length news E.W ∧ FlatVR E sz new news := by
  have srcHD : ∀ {y : AV} {z : Nat} {vs : List AV} {fp : List Nat}, srcV H y = some (z, vs, fp) → (∀ id ∈ fp, Has H id HD) → srcV HD y = some (z, vs, fp) := by
    intro y z vs fp h hfp
    cases y <;> simp only [srcV] at h ⊢ <;> try exact h
    next id s len =>
      split at h
      · next e s' vs' ho =>
        split at h
        · next hh =>
          cases h
          rw [objAt_has ho (hfp id (by simp))]
          simp [hh]
        · cases h
      · cases h
  unfold srcE at h
  split at h
  · next s hk =>
    split at h
    · next hsz =>
      subst hsz
      cases h
      obtain ⟨s', rfl, rfl⟩ := hv.str_inv
      refine ⟨s'.data.toList.map fun b => .int .u8 b.toNat, ⟨.inr (tk_str hk).1, by show Result.ok s'.size E.W = Result.ok _ E.W; rw [List.length_map]; rfl, ?_, ?_⟩, ⟨by simp, fun i y hi => ?_⟩⟩
      · have e : s'.extract 0 s'.data.toList.length = s' := by
          have : s'.data.toList.length = s'.size := rfl
          rw [this]; exact ByteArray.extract_zero_size
        simp only [Builtin.firstCells, List.length_map, e, Sem.run_pure]
        congr 1
        apply Array.ext'
        simp
      · have e : s'.extract 0 s'.data.toList.length = s' := by
          have : s'.data.toList.length = s'.size := rfl
          rw [this]; exact ByteArray.extract_zero_size
        simp only [Builtin.firstCells, List.length_map, e, Sem.run_pure]
        congr 1
        apply Array.ext'
        simp
      · simp only [List.getElem?_map, Option.map_eq_some_iff] at hi
        obtain ⟨b, hb, rfl⟩ := hi
        refine ⟨rfl, fun j c hj => ?_⟩
        cases j with
        | zero => simp [AV.cells] at hj; subst hj; exact ⟨_, by simp [hb], .int _ _⟩
        | succ j => simp [AV.cells] at hj
    · cases h
  · next e' z' hk =>
    cases h
    have := hv.nls_inv
    subst this
    exact ⟨[], ⟨.inl ⟨_, (tk_slice hk).1⟩, by simp [Builtin.lenOf], by simp [Builtin.firstCells], by simp [Builtin.firstCells]⟩, FlatVR.nil E sz⟩
  · next e' z' y hk hny =>
    split at h
    · next z vs fp' hs =>
      split at h
      · next hh =>
        obtain ⟨rfl, rfl⟩ := hh
        cases h
        obtain ⟨a, cap, us, rfl, _, hf, hc⟩ := src_read hr hv (srcHD hs hfp)
        refine ⟨us, ⟨.inl ⟨_, (tk_slice hk).1⟩, by simp [Builtin.lenOf], ?_, ?_⟩, hf⟩
        · cases a with
          | none =>
            have : us = [] := by
              cases us with
              | nil => rfl
              | cons u r => obtain ⟨ad, h, _⟩ := hc 0 u rfl; cases h
            subst this
            exact run_firstCells_none E.W _ _ _ _
          | some ad => exact run_firstCells_some E.W _ _ ad _ _ us hf.len (fun j u hj => by obtain ⟨ad', h1, h2⟩ := hc j u hj; cases h1; exact h2)
        · cases a with
          | none =>
            have : us = [] := by
              cases us with
              | nil => rfl
              | cons u r => obtain ⟨ad, h, _⟩ := hc 0 u rfl; cases h
            subst this
            exact run_firstCells_none E.W.drew _ _ _ _
          | some ad => exact run_firstCells_some E.W.drew _ _ ad _ _ us hf.len (fun j u hj => by obtain ⟨ad', h1, h2⟩ := hc j u hj; cases h1; exact h2)
      · cases h
    · cases h
  · cases h

theorem srcV_fp {H : AH} {y : AV} {z : Nat} {vs : List AV} {fp : List Nat} (h : srcV H y = some (z, vs, fp)) : ∀ id ∈ fp, id < H.length := by
  intro id hid
  cases y <;> simp only [srcV] at h <;> try (cases h; done)
  · cases h; simp at hid
  · cases h; simp at hid
  · split at h
    · next ho =>
      split at h
      · cases h
        simp only [List.mem_singleton] at hid
        subst hid
        rcases objAt_cases ho with h | h <;> exact (List.getElem?_eq_some_iff.1 h).1
      · cases h
    · cases h

theorem srcE_fp {P : Program} {H : AH} {t' : TypeId} {sz : Nat} {y : AV} {new : List AV} {fp : List Nat} (h : srcE P H t' sz y = some (new, fp)) : ∀ id ∈ fp, id < H.length := by
  intro id hid
  unfold srcE at h
  split at h
  · split at h
    · cases h; simp at hid
    · cases h
  · cases h; simp at hid
  · split at h
    · next hs =>
      split at h
      · cases h; exact srcV_fp hs id hid
      · cases h
    · cases h
  · cases h

theorem append_sound {P : Program} {ev : AEnv} {H : AH} {K : HK} {dst : Option Tmp} {args : Array Operand} {argTypes : Array TypeId} {ty : TypeId} {pos : String} {after : Array Edge} {guard : Option (Nat × Bool)}
    (h : heapK P ev H ⟨dst, .call { callee := .builtin .append, args, argTypes }, ty, pos, after, guard⟩ K) : HSnd P ev H ⟨dst, .call { callee := .builtin .append, args, argTypes }, ty, pos, after, guard⟩ K := by
  unfold heapK at h
  simp only at h
  split at h
  · next s x t t' hargs htys =>
    have ha : args = #[s, x] := by rw [← Array.toList_inj]; exact hargs
    have ht : argTypes = #[t, t'] := by rw [← Array.toList_inj]; exact htys
    subst ha; subst ht
    split at h
    · next e sz hk =>
      split at h
      · next b new fp hb hs =>
        obtain ⟨i, z, hi, hz, hzs, hby, hb0⟩ := eb_spec hb
        obtain ⟨hu, ⟨i', hi', hsz⟩, _⟩ := tk_slice hk
        rw [hi] at hi'; cases hi'
        have hrunop : ∀ {a : Act} {w w' : World} {v : Value}, (Builtin.append_ #[t, t'] ty #[a.eval s, a.eval x]).run P w = .ok v w' → (execOp a.eval ⟨dst, .call { callee := .builtin .append, args := #[s, x], argTypes := #[t, t'] }, ty, pos, after, guard⟩).run P w = .ok (.value v) w' := by
          intro a w w' v h
          simp only [execOp, resolve, invoke, builtin, Sem.run_bind, Sem.run_pure, Result.andThen_ok, List.map_toArray, List.map_cons, List.map_nil, h]
        have hos : ∀ E a, Opd ev E a ⟨dst, .call { callee := .builtin .append, args := #[s, x], argTypes := #[t, t'] }, ty, pos, after, guard⟩ → VR E (opnd ev s) (a.eval s) ∧ VR E (opnd ev x) (a.eval x) :=
          fun E a hl => ⟨hl s (by simp [Op.operands, Call.operands]), hl x (by simp [Op.operands, Call.operands])⟩
        have fpl : ∀ id ∈ fp, id < H.length := srcE_fp hs
        unfold appK at h
        split at h
        · next id z' len hd =>
          split at h
          · next e' z'' vs ho =>
            obtain ⟨rfl, rfl, rfl, hlen, hnot, hleaf, hbound, hK⟩ := h
            have hidl : id < H.length := (List.getElem?_eq_some_iff.1 ho).1
            refine ⟨_, _, _, _, _, hK, HCond.write H id _ (id :: fp) hidl (by simp), ?_⟩
            intro HD E a hl hr _ hfp hwr _ K' Q hK'
            have hD : HD[id]? = some (.arr e' z'' vs) := by rw [hwr id (by simp)]; exact ho
            obtain ⟨h1, h2⟩ := hos E a hl
            rw [hd] at h1
            obtain ⟨news, hsr, hfl⟩ := srcE_run hr h2 hs (fun j hj => by
              have hne : j ≠ id := fun e => hnot (by rw [← e]; exact hj)
              have := hfp j (by simp [hj]) (by simpa using hne)
              intro y hy
              exact this y (by rw [List.getElem?_set_ne (fun e => hne e.symm)]; exact hy))
            obtain ⟨E', v, hrun, hv, hr', hst, hM⟩ := app_own (ty := ty) hu hi hz hzs hsz hby hb0 hr h1 hD hlen hsr hfl hleaf hbound
            refine wp_of_value (hrunop hrun) (hK' _ E' v (by simp) (fun j hj => List.getElem?_set_ne (fun e => hj (by simp [e]))) (fun j hj => ?_) hv hr' hst (fun j h1 h2 => absurd (hM j h1) h2))
            have : j = id := by simpa using hj
            subst this
            have hidD : j < HD.length := (List.getElem?_eq_some_iff.1 hD).1
            rw [List.getElem?_set_self hidD, List.getElem?_set_self hidl]
          · exact h.elim
        · next hd =>
          obtain ⟨hbound, hK⟩ := h
          refine ⟨_, _, _, _, _, hK, HCond.alloc H _ fp, heapOK_new fun HD E a hl hr hfp hm ⟨o', ho, hle⟩ => ?_⟩
          obtain ⟨h1, h2⟩ := hos E a hl
          rw [hd] at h1
          obtain ⟨news, hsr, hfl⟩ := srcE_run hr h2 hs (fun j hj => hfp j hj (fpl j hj))
          obtain ⟨E', v, hrun, hv, hr', hst, hM⟩ := app_new (ty := ty) hu hi hz hzs hsz hby hb0 hr hm ho hle (a := none) hsr hfl hbound
          exact ⟨E', v, rfl, hv, hrunop (by rw [h1.nls_inv]; exact hrun), hr', hst, hM⟩
        · next z' hd =>
          obtain ⟨rfl, hbound, hK⟩ := h
          refine ⟨_, _, _, _, _, hK, HCond.alloc H _ fp, heapOK_new fun HD E a hl hr hfp hm ⟨o', ho, hle⟩ => ?_⟩
          obtain ⟨h1, h2⟩ := hos E a hl
          rw [hd] at h1
          obtain ⟨news, hsr, hfl⟩ := srcE_run hr h2 hs (fun j hj => hfp j hj (fpl j hj))
          obtain ⟨ad, f, hav, _, _⟩ := h1.slc_inv
          obtain ⟨E', v, hrun, hv, hr', hst, hM⟩ := app_new (ty := ty) hu hi hz hzs hsz hby hb0 hr hm ho hle (a := ad) hsr hfl hbound
          exact ⟨E', v, rfl, hv, hrunop (by rw [hav]; exact hrun), hr', hst, hM⟩
        · next z' vs _ hd =>
          obtain ⟨rfl, hpure, hbound, hK⟩ := h
          refine ⟨_, _, _, _, _, hK, HCond.read H fp, ?_⟩
          intro HD E a hl hr _ hfp _ _ K' Q hK'
          obtain ⟨h1, h2⟩ := hos E a hl
          rw [hd] at h1
          obtain ⟨news, hsr, hfl⟩ := srcE_run hr h2 hs (fun j hj => hfp j hj (by simp))
          obtain ⟨E', v, hrun, hv, hr', hst, hM⟩ := app_slc (ty := ty) hu hi hz hsz hby hb0 hr h1 hsr hfl hpure hbound
          exact wp_of_value (hrunop hrun) (hK' HD E' v rfl (fun _ _ => rfl) (by simp) hv hr' hst (fun j h1 h2 => by rw [hM] at h2; exact absurd h1 h2))
        · exact h.elim
      · exact h.elim
    · exact h.elim
  · exact h.elim


theorem buildSlice_sound {P : Program} {ev : AEnv} {H : AH} {K : HK} {dst : Option Tmp} {t : TypeId} {len : Nat} {parts : Array (Nat × Operand)} {ty : TypeId} {pos : String} {after : Array Edge} {guard : Option (Nat × Bool)}
    (h : heapK P ev H ⟨dst, .buildSlice t len parts, ty, pos, after, guard⟩ K) : HSnd P ev H ⟨dst, .buildSlice t len parts, ty, pos, after, guard⟩ K := by
  unfold heapK at h
  simp only at h
  split at h
  · next e sz hk =>
    obtain ⟨hb, h24, hl24, hidx, hall, hK⟩ := h
    obtain ⟨b, hb⟩ := Option.isSome_iff_exists.1 hb
    obtain ⟨i, z, hi, hz, hzs, hby, hb0⟩ := eb_spec hb
    obtain ⟨hu, ⟨i', hi', hsz⟩, _⟩ := tk_slice hk
    rw [hi] at hi'; cases hi'
    have hlen : parts.toList.length = len := by have := congrArg List.length hidx; simpa using this
    have hlenA : parts.size = len := by simpa using hlen
    refine ⟨_, _, _, _, _, hK, HCond.alloc H _ [], heapOK_new fun HD E a hl hr _ hm ⟨o', ho, hle⟩ => ?_⟩
    -- the parts, one by one
    have hpart : ∀ (k : Nat) (p : Nat × Operand), parts.toList[k]? = some p → p.1 = k ∧ VR E (opnd ev p.2) (a.eval p.2) ∧ (opnd ev p.2).definite = true ∧ (opnd ev p.2).cells.length = sz := by
      intro k p hp
      have h1 : (parts.toList.map (·.1))[k]? = some p.1 := by simp [hp]
      rw [hidx] at h1
      have hkl : k < len := by rw [← hlen]; exact (List.getElem?_eq_some_iff.1 hp).1
      rw [List.getElem?_range hkl] at h1
      have h2 := List.all_eq_true.1 hall p (List.mem_of_getElem? hp)
      simp only [Bool.and_eq_true, beq_iff_eq] at h2
      refine ⟨by simpa using h1.symm, hl p.2 ?_, h2.1, h2.2⟩
      simp only [Op.operands, List.mem_toArray, List.mem_map, Array.mem_toList_iff]
      exact ⟨p, by have := List.mem_of_getElem? hp; simpa using this, rfl⟩
    -- filling
    have key : ∀ (l : List (Nat × Operand)) (s : Nat) (cells : Array Value), cells.size = len * sz → s + l.length = len → (∀ (k : Nat) (p : Nat × Operand), l[k]? = some p → parts.toList[s + k]? = some p) →
        (∀ (k : Nat) (p : Nat × Operand), k < s → parts.toList[k]? = some p → ∀ (j : Nat) cc, (opnd ev p.2).cells[j]? = some cc → ∃ u, cells[k * sz + j]? = some u ∧ VR E cc u) →
        ∃ cells', Instr.fill (fun i => some (i * sz, sz)) cells (l.map fun (i, x) => (i, a.eval x)) = some cells' ∧ cells'.size = len * sz ∧
          ∀ (k : Nat) (p : Nat × Operand), parts.toList[k]? = some p → ∀ (j : Nat) cc, (opnd ev p.2).cells[j]? = some cc → ∃ u, cells'[k * sz + j]? = some u ∧ VR E cc u := by
      intro l
      induction l with
      | nil =>
        intro s cells hs hsl _ hdone
        refine ⟨cells, rfl, hs, fun k p hp => hdone k p ?_ hp⟩
        have := (List.getElem?_eq_some_iff.1 hp).1
        simp at hsl; omega
      | cons p l ih =>
        intro s cells hs hsl hsub hdone
        have hp := hsub 0 p rfl
        rw [Nat.add_zero] at hp
        obtain ⟨h1, h2, h3, h4⟩ := hpart s p hp
        obtain ⟨pi, px⟩ := p
        simp only at h1 h2 h3 h4
        subst h1
        have hcv := cells_VR h2 h3
        have hvs : (a.eval px).cells.size = sz := by rw [hcv.1, h4]
        have hroom : pi * sz + sz ≤ len * sz := by
          have : (pi + 1) * sz ≤ len * sz := Nat.mul_le_mul_right _ (by simp at hsl; omega)
          rw [Nat.add_mul, Nat.one_mul] at this; exact this
        simp only [List.map_cons, Instr.fill]
        rw [if_neg (by simp only [hvs, hs, Bool.or_eq_true, decide_eq_true_eq, ne_eq, not_true_eq_false, false_or]; omega)]
        have hfold := foldl_set (pi * sz) (a.eval px).cells.toList 0 cells
        have efold : (a.eval px).cells.zipIdx.foldl (fun cs (p : Value × Nat) => cs.setIfInBounds (pi * sz + p.2) p.1) cells =
            ((a.eval px).cells.toList.zipIdx 0).foldl (fun cs (p : Value × Nat) => cs.setIfInBounds (pi * sz + p.2) p.1) cells := by
          rw [← Array.foldl_toList, Array.toList_zipIdx]
        have hget : ∀ k, k < len * sz → ((a.eval px).cells.zipIdx.foldl (fun cs (p : Value × Nat) => cs.setIfInBounds (pi * sz + p.2) p.1) cells)[k]? =
            some (if pi * sz ≤ k ∧ k < pi * sz + sz then (a.eval px).cells.toList.getD (k - pi * sz) Go.undef else cells.getD k Go.undef) := by
          intro k hk
          have hk' : k < ((a.eval px).cells.zipIdx.foldl (fun cs (p : Value × Nat) => cs.setIfInBounds (pi * sz + p.2) p.1) cells).size := by rw [efold, hfold.1, hs]; exact hk
          have := hfold.2 k (by rw [hs]; exact hk)
          rw [← efold] at this
          simp only [Nat.add_zero, Array.length_toList, hvs] at this
          rw [Array.getElem?_eq_getElem hk']
          simp only [Array.getD_eq_getD_getElem?, Array.getElem?_eq_getElem hk', Option.getD_some] at this
          rw [this]; simp [Array.getD_eq_getD_getElem?]
        refine ih (pi + 1) _ (by rw [efold, hfold.1, hs]) (by simp at hsl; omega) (fun k p hk => by have := hsub (k + 1) p (by simpa using hk); rwa [show pi + (k + 1) = pi + 1 + k by omega] at this) ?_
        intro k q hk hq j cc hj
        have hjl : j < sz := by rw [← (hpart k q hq).2.2.2]; exact (List.getElem?_eq_some_iff.1 hj).1
        by_cases he : k = pi
        · subst he
          rw [hp] at hq; cases hq
          have hlt : k * sz + j < len * sz := by omega
          refine ⟨_, hget _ hlt, ?_⟩
          rw [if_pos (by omega)]
          have := hcv.2 j cc hj
          have e1 : k * sz + j - k * sz = j := by omega
          rw [e1]
          have e3 : (a.eval px).cells.toList.getD j Go.undef = (a.eval px).cells.getD j Go.undef := by simp [List.getD]
          rw [e3]; exact this
        · have hkp : k < pi := by omega
          obtain ⟨u, h5, h6⟩ := hdone k q hkp hq j cc hj
          have hkk : k * sz + sz ≤ pi * sz := by
            have : (k + 1) * sz ≤ pi * sz := Nat.mul_le_mul_right _ hkp
            rw [Nat.add_mul, Nat.one_mul] at this; exact this
          refine ⟨u, ?_, h6⟩
          rw [hget _ (by omega), if_neg (by omega)]
          have hlt := (Array.getElem?_eq_some_iff.1 h5)
          simp [h5]
    have h0 : ((Array.range (len * sz)).map fun k => z.cells[k % z.cells.size]!).size = len * sz := by simp
    obtain ⟨cells', hfill, hcs, hcv⟩ := key parts.toList 0 ((Array.range (len * sz)).map fun k => z.cells[k % z.cells.size]!) h0 (by omega) (fun k p h => by simpa using h) (fun k p h => by omega)
    obtain ⟨E', hW, hv, hr', hst, hM⟩ := arr_new hr hm ho hle (w' := E.W.alloc (.cells cells' e)) (c := cells') (fz := (0, 0)) (cap := len) ⟨rfl, rfl, rfl⟩ rfl (fun k _ hk => by simp at hk) hcs (by simp [hlenA]) (by unfold maxLen; omega) (fun k y hk => by
      simp only [List.getElem?_map, Option.map_eq_some_iff] at hk
      obtain ⟨p, hp, rfl⟩ := hk
      exact ⟨(hpart k p hp).2.2.2, fun j cc hj => hcv k p hp j cc hj⟩)
    have hl0 : (parts.toList.map fun p => opnd ev p.2).length = len := by simp [hlenA]
    rw [hl0] at hv
    refine ⟨E', _, rfl, hv, ?_, hr', hst, hM⟩
    rw [hW]
    by_cases hz0 : len * sz = 0
    · have hfill' : Instr.fill (fun i => some (i * sz, sz)) #[] (parts.map fun (i, x) => (i, a.eval x)).toList = some cells' := by
        have e0 : (Array.range (len * sz)).map (fun k => z.cells[k % z.cells.size]!) = #[] := Array.eq_empty_of_size_eq_zero (by simp [hz0])
        rw [e0] at hfill
        simpa using hfill
      have e1 : ∀ f : Nat → Value, (Array.range 0).map f = #[] := fun f => Array.eq_empty_of_size_eq_zero (by simp)
      have h24' : ¬ len * sz > 2 ^ 24 := by omega
      simp only [execOp, Instr.buildSlice, Sem.run_bind, run_underlying hu, Result.andThen_ok, sizeOf, typeInfo, run_program, hi, Sem.run_pure, hsz, if_neg h24', if_pos hz0]
      rw [hz0]
      simp only [e1, hfill', Sem.run_bind, newRow, run_newObj, Sem.run_pure, Result.andThen_ok]
      rfl
    · have hfill' : Instr.fill (fun i => some (i * sz, sz)) ((Array.range (len * sz)).map fun k => z.cells[k % z.cells.size]!) (parts.map fun (i, x) => (i, a.eval x)).toList = some cells' := by
        simpa using hfill
      simp only [execOp, Instr.buildSlice, Sem.run_bind, run_underlying hu, Result.andThen_ok, sizeOf, typeInfo, run_program, hi, Sem.run_pure, hsz, if_neg (show ¬ len * sz > 2 ^ 24 by omega), if_neg hz0, zeroValue, hz, hfill', newRow, run_newObj]
      rfl
  · exact h.elim

end Go.Pg
