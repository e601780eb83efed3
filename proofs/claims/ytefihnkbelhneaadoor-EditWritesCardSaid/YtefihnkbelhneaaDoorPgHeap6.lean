/- Pg, part 11: make, conversions; all operations. -/
import Derived.Test.YtefihnkbelhneaaDoorPgHeap5
import Derived.Lib.ConvBytes
import Derived.Laws.MakeOwn
namespace Go.Pg
open Go

theorem makeSlice_sound {P : Program} {ev : AEnv} {H : AH} {K : HK} {dst : Option Tmp} {t : TypeId} {l c : Operand} {ty : TypeId} {pos : String} {after : Array Edge} {guard : Option (Nat × Bool)}
    (h : heapK P ev H ⟨dst, .makeSlice t l c, ty, pos, after, guard⟩ K) : HSnd P ev H ⟨dst, .makeSlice t l c, ty, pos, after, guard⟩ K := by
  unfold heapK at h
  simp only at h
  split at h
  · next e sz k n k' m hk hl hc =>
    obtain ⟨rfl, h0, b, hb, hbound, hd, hsz0, hK⟩ := h
    obtain ⟨i, z, hi, hz, hzs, hby, hb0⟩ := eb_spec hb
    obtain ⟨hu, ⟨i', hi', hsz⟩, _⟩ := tk_slice hk
    rw [hi] at hi'; cases hi'
    have hnb : n ≤ 140737488355328 := by
      have : n * 1 ≤ n * (b : Int) := Int.mul_le_mul_of_nonneg_left (by omega) h0
      omega
    refine ⟨_, _, _, _, _, hK, HCond.alloc H _ [], heapOK_new fun HD E a hl' hr _ hm ⟨o', ho, hle⟩ => ?_⟩
    have h1 := hl' l (by simp [Op.operands])
    have h2 := hl' c (by simp [Op.operands])
    rw [hl] at h1
    rw [hc] at h2
    have hrun := run_make (P := P) E.W t e i z hu hi hz k k' n n h0 (Int.le_refl _) (by rw [hby, Int.mul_comm]; omega) (by omega)
    have hzv : VRl E (tz P e).cells z.cells := by
      have : VR E (tz P e) z := by
        have e1 : tz P e = ofV z := by simp [tz, hi, hz]
        rw [e1]; exact ofV_VR E z
      exact cells_VR this hd
    have hlen : (List.replicate n.toNat (tz P e)).length = n.toNat := by simp
    obtain ⟨E', hW, hv, hr', hst, hM⟩ := arr_new hr hm ho hle (w' := E.W.alloc (.cells (madeCells z.cells (n.toNat * i.size)) e)) (c := madeCells z.cells (n.toNat * i.size)) (fz := (0, 0)) (cap := n.toNat) ⟨rfl, rfl, rfl⟩ rfl (fun k _ hk => by simp at hk) (by simp [madeCells, hsz]) (by simp) (by unfold maxLen; omega) (fun j y hj => by
      have hjl : j < n.toNat := by rw [← hlen]; exact (List.getElem?_eq_some_iff.1 hj).1
      have hy : y = tz P e := by
        rw [List.getElem?_replicate, if_pos hjl] at hj
        exact (Option.some.inj hj).symm
      subst hy
      refine ⟨hsz0, fun q cc hq => ?_⟩
      have hql : q < sz := by rw [← hsz0]; exact (List.getElem?_eq_some_iff.1 hq).1
      have hlt : j * sz + q < n.toNat * i.size := by
        rw [hsz]
        have : (j + 1) * sz ≤ n.toNat * sz := Nat.mul_le_mul_right _ hjl
        rw [Nat.add_mul, Nat.one_mul] at this; omega
      have hzz : z.cells.size = sz := hzs.trans hsz
      have hmod : (j * sz + q) % z.cells.size = q := by rw [hzz, Nat.mul_comm, Nat.mul_add_mod, Nat.mod_eq_of_lt hql]
      have hqz : q < z.cells.size := by omega
      have := hzv.2 q cc hq
      simp only [Array.getD_eq_getD_getElem?, Array.getElem?_eq_getElem hqz, Option.getD_some] at this
      refine ⟨z.cells[q], ?_, this⟩
      simp only [madeCells, Array.getElem?_map, Array.getElem?_range, hlt, if_true, Option.map_some, hmod]
      congr 1
      exact getElem!_pos z.cells q hqz)
    rw [hlen] at hv
    exact ⟨E', _, rfl, hv, by rw [hW]; simp only [execOp, Sem.run_bind, h1.int_inv, h2.int_inv, hrun]; rfl, hr', hst, hM⟩
  · exact h.elim

theorem convert_sound {P : Program} {ev : AEnv} {H : AH} {K : HK} {dst : Option Tmp} {src dt : TypeId} {x : Operand} {ty : TypeId} {pos : String} {after : Array Edge} {guard : Option (Nat × Bool)}
    (h : heapK P ev H ⟨dst, .convert src dt x, ty, pos, after, guard⟩ K) : HSnd P ev H ⟨dst, .convert src dt x, ty, pos, after, guard⟩ K := by
  unfold heapK at h
  simp only at h
  split at h
  · next e sz s hks hkd hx =>
    obtain ⟨rfl, hke, hbound, hK⟩ := h
    refine ⟨_, _, _, _, _, hK, HCond.alloc H _ [], heapOK_new fun HD E a hl hr _ hm ⟨o', ho, hle⟩ => ?_⟩
    have h1 := hl x (by simp [Op.operands])
    rw [hx] at h1
    obtain ⟨s', hs', rfl⟩ := h1.str_inv
    have hrun := Lib.run_convert_string_bytes (P := P) E.W src dt e s' (tk_str hks).1 (tk_slice hkd).1 (tk_int hke).1
    have hsz : s'.data.toList.length = s'.size := rfl
    have hge := grownCap_ge E.W s'.size 0 e
    have hmax := grownCap_le_maxLen E.W s'.size 0 e (by unfold maxLen; omega)
    have hcs : (Lib.bytesCells E.W e s').size = grownCap E.W s'.size 0 e * 1 := by
      have : s'.data.size = s'.size := rfl
      simp [Lib.bytesCells]; omega
    have hheap : (Lib.bytesWorld E.W e s').heap = E.W.heap.push (.cells (Lib.bytesCells E.W e s') e ((Lib.bytesCells E.W e s').size, (Lib.bytesCells E.W e s').size + 1)) := by
      apply Array.ext_getElem?
      intro j
      rw [Array.getElem?_push]
      by_cases h : j = E.W.heap.size
      · subst h; rw [if_pos rfl, Lib.bytesWorld_at_new]
      · rw [if_neg h]
        rcases Nat.lt_or_ge j E.W.heap.size with hlt | hge
        · exact Lib.bytesWorld_at_old E.W e s' j hlt
        · rw [Array.getElem?_eq_none (by rw [Lib.bytesWorld_size]; omega), Array.getElem?_eq_none hge]
    have hblen : (ofBytes s'.data.toList).length = s'.size := by simp [ofBytes]
    obtain ⟨E', hW, hv, hr', hst, hM⟩ := arr_new hr hm ho hle (w' := Lib.bytesWorld E.W e s') (cap := grownCap E.W s'.size 0 e) ⟨by simp [Lib.bytesWorld, World.freeze] <;> rfl, by simp [Lib.bytesWorld, World.freeze] <;> rfl, by simp [Lib.bytesWorld, World.freeze] <;> rfl⟩ hheap (fun k hk h => by simp at h; omega) hcs (by rw [hblen]; exact hge) hmax (fun j y hj => by
      simp only [ofBytes, List.getElem?_map, Option.map_eq_some_iff] at hj
      obtain ⟨b, hb, rfl⟩ := hj
      refine ⟨rfl, fun q cc hq => ?_⟩
      cases q with
      | zero =>
        simp [AV.cells] at hq; subst hq
        refine ⟨_, ?_, .int _ _⟩
        have hjl : j < s'.data.size := by have := (List.getElem?_eq_some_iff.1 hb).1; simpa using this
        have hbb : s'.data[j] = b := by have := (List.getElem?_eq_some_iff.1 hb).2; simpa using this
        simp only [Lib.bytesCells, Nat.mul_one, Nat.add_zero]
        rw [Array.getElem?_append_left (by simpa using hjl)]
        rw [Array.getElem?_map, Array.getElem?_eq_getElem hjl, hbb]
        rfl
      | succ q => simp [AV.cells] at hq)
    rw [hblen] at hv
    refine ⟨E', _, rfl, ?_, by rw [hW]; simp only [execOp, Sem.run_bind, hs', hrun]; rfl, hr', hst, hM⟩
    exact hv
  · next e sz hks hkd hx =>
    obtain ⟨hke, hK⟩ := h
    refine ⟨_, _, _, _, _, hK, HCond.read H [], heapOK_read fun HD E a hl hr _ => ?_⟩
    have h1 := hl x (by simp [Op.operands])
    rw [hx] at h1
    refine ⟨.string .empty, .str .empty, ?_⟩
    simp [execOp, convert, run_underlying (tk_slice hks).1, run_underlying (tk_str hkd).1, run_underlying (tk_int hke).1, h1.nls_inv, Conv.bytesToString]
  · next e sz y hks hkd _ =>
    obtain ⟨hke, h⟩ := h
    split at h
    · next z vs fp hs =>
      obtain ⟨rfl, bs, hbs, hK⟩ := h
      refine ⟨_, _, _, _, _, hK, HCond.read H fp, heapOK_read fun HD E a hl hr hfp => ?_⟩
      have h1 := hl x (by simp [Op.operands])
      have hsD : srcV HD (opnd ev x) = some (1, vs, fp) := by
        cases hy : opnd ev x <;> rw [hy] at hs <;> simp only [srcV] at hs ⊢ <;> try exact hs
        split at hs
        · next ho =>
          split at hs
          · next hh =>
            cases hs
            rw [objAt_has ho (hfp _ (by simp))]
            simp [hh]
          · cases hs
        · cases hs
      obtain ⟨ad, cap, us, hav, hcap, hf, hc⟩ := src_read hr h1 hsD
      have hints : ∀ (vs : List AV) (bs : List UInt8) (us : List Value), bytesOf vs = some bs → FlatVR E 1 vs us → ∃ ns : List Int, us = ns.map (Value.int .u8) ∧ bs = ns.map (fun n => UInt8.ofNat n.toNat) := by
        intro vs
        induction vs with
        | nil => intro bs us h hf; simp only [bytesOf] at h; cases h
                 have : us = [] := List.eq_nil_of_length_eq_zero (by rw [hf.len]; simp)
                 subst this; exact ⟨[], rfl, rfl⟩
        | cons v vs ih =>
          intro bs us h hf
          cases v <;> first | (simp [bytesOf] at h; done) | skip
          next k n =>
            cases k <;> first | (simp [bytesOf] at h; done) | skip
            simp only [bytesOf] at h
            split at h
            · next l hl =>
              cases h
              cases us with
              | nil => have := hf.len; simp at this
              | cons u us =>
                have hu : u = .int .u8 n := by
                  obtain ⟨u', h1, h2⟩ := (hf.at_ 0 _ rfl).2 0 _ rfl
                  simp at h1; subst h1; exact h2.int_inv
                obtain ⟨ns, h1, h2⟩ := ih l us hl ⟨by have := hf.len; simp at this ⊢; omega, fun i x hi => ⟨(hf.at_ (i + 1) x hi).1, fun j c hj => by
                  obtain ⟨u', a1, a2⟩ := (hf.at_ (i + 1) x hi).2 j c hj
                  refine ⟨u', ?_, a2⟩
                  have e : (i + 1) * 1 + j = (i * 1 + j) + 1 := by omega
                  rw [e, List.getElem?_cons_succ] at a1; exact a1⟩⟩
                exact ⟨n :: ns, by rw [hu, h1]; rfl, by rw [h2]; rfl⟩
            · cases h
      obtain ⟨ns, hus, hbsn⟩ := hints vs bs us hbs hf
      have hfold : ∀ (ns : List Int) (s : ByteArray), (ns.foldl (fun r n => r.push (UInt8.ofNat n.toNat)) s).data.toList = s.data.toList ++ ns.map (fun n => UInt8.ofNat n.toNat) := by
        intro ns
        induction ns with
        | nil => intro s; simp
        | cons n ns ih => intro s; simp only [List.foldl_cons, ih]; simp [ByteArray.push]
      have hlen : vs.length = ns.length := by have := hf.len; rw [hus] at this; simpa using this.symm
      cases ad with
      | none =>
        have : us = [] := by
          cases hu : us with
          | nil => rfl
          | cons u r => obtain ⟨ad, h, _⟩ := hc 0 u (by rw [hu]; rfl); cases h
        have hn : ns = [] := by rw [this] at hus; cases ns <;> simp at hus ⊢
        subst hn
        rw [hbsn]
        refine ⟨.string .empty, .str .empty, ?_⟩
        simp [execOp, convert, run_underlying (tk_slice hks).1, run_underlying (tk_str hkd).1, run_underlying (tk_int hke).1, hav, Conv.bytesToString]
      | some ad =>
        have hload : (loadCells ad vs.length).run P E.W = .ok (ns.map (Value.int .u8)).toArray E.W := by
          have := run_loadCells_list (P := P) E.W ad us (fun j v hj => by obtain ⟨ad', h1, h2⟩ := hc j v hj; cases h1; exact h2)
          rw [hus] at this
          rw [hlen]
          simpa using this
        have hrun := run_bytesToString (P := P) E.W ad vs.length cap ns hload
        refine ⟨.string (ns.foldl (fun r n => r.push (UInt8.ofNat n.toNat)) ByteArray.empty), ?_, ?_⟩
        · have := hfold ns ByteArray.empty
          have e2 : (ByteArray.empty).data.toList = [] := rfl
          rw [e2, List.nil_append] at this
          rw [hbsn, ← this]; exact .str _
        · simp only [execOp, convert, Sem.run_bind, run_underlying (tk_slice hks).1, run_underlying (tk_str hkd).1, run_underlying (tk_int hke).1, hav, Result.andThen_ok, hrun]
          rfl
    · exact h.elim
  · exact h.elim

theorem ownAll_sound {P : Program} {ev : AEnv} {H : AH} {K : HK} {dst : Option Tmp} {t : TypeId} {x : Operand} {lo hi mx : Option Operand} {ty : TypeId} {pos : String} {after : Array Edge} {guard : Option (Nat × Bool)}
    (h : heapK P ev H ⟨dst, .slice t x lo hi mx, ty, pos, after, guard⟩ K) : HSnd P ev H ⟨dst, .slice t x lo hi mx, ty, pos, after, guard⟩ K := by
  unfold heapK at h
  simp only at h
  split at h
  · next e sz id z len hk hx =>
    obtain ⟨rfl, hK⟩ := h
    refine ⟨_, _, _, _, _, hK, HCond.read H [], heapOK_read fun HD E a hl hr _ => ?_⟩
    have h1 := hl x (by simp [Op.operands])
    rw [hx] at h1
    obtain ⟨hu, ⟨i, hi, hsz⟩, _⟩ := tk_slice hk
    have hel : P.elem t = e := by simp [Program.elem, hu]
    have hu' : P.underlying t = some (.slice (P.elem t)) := by rw [hel]; exact hu
    have hs : (sizeOf (P.elem t)).run P E.W = .ok z E.W := by rw [hel]; simp [sizeOf, typeInfo, hi, hsz]
    refine ⟨_, h1, ?_⟩
    cases h1v : a.eval x <;> rw [h1v] at h1 <;> cases h1
    next ad cap _ _ _ =>
    have := run_slice_all E.W t ad len cap hu'
    simp only [execOp, Sem.run_bind, Option.map_none, h1v, run_sliceAt_slice E.W t _ none none none hu', this, hs, Result.andThen_ok, sliced]
    have e1 : ∀ a : Option Addr, (∀ b, a = some b → b.add (0 * z) = b) → (if cap = 0 then a else a.map (·.add (0 * z))) = a := by
      intro a h
      split
      · rfl
      · cases a with
        | none => rfl
        | some b => rw [Option.map_some, h b rfl]
    rw [e1 ad (fun b _ => by rw [Nat.zero_mul]; rfl)]
    rfl
  · exact h.elim

theorem heapK_sound {P : Program} {ev : AEnv} {H : AH} {o : Oper} {K : HK} (h : heapK P ev H o K) : HSnd P ev H o K := by
  obtain ⟨dst, op, ty, pos, after, guard⟩ := o
  cases op with
  | load t x => exact load_sound h
  | box t x => exact box_sound h
  | alloc t => exact alloc_sound h
  | store t a x => exact store_sound h
  | buildSlice t n p => exact buildSlice_sound h
  | makeSlice t l c => exact makeSlice_sound h
  | convert s d x => exact convert_sound h
  | slice t x lo hi mx => exact ownAll_sound h
  | call c =>
    obtain ⟨callee, args, argTypes⟩ := c
    cases callee with
    | builtin b => cases b <;> first | exact append_sound h | exact h.elim
    | value f => exact h.elim
    | invoke r m => exact h.elim
  | _ => exact h.elim

end Go.Pg
