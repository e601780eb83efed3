/- Pg, part 5: all pure operations. -/
import Derived.Test.YtefihnkbelhneaaDoorPgOpsS
namespace Go.Pg
open Go

theorem pureK_sound {P : Program} {ev : AEnv} {o : Oper} {K : AV → Prop} (h : pureK P ev o K) : Snd P ev o K := by
  obtain ⟨dst, op, type, pos, after, guard⟩ := o
  unfold pureK at h
  unfold Snd PureOK
  simp only at h ⊢
  cases op with
  | move x => exact ⟨_, fun E a hl => ⟨_, hl x (by simp [Op.operands]), by simp [execOp]⟩, h⟩
  | assign x => exact ⟨_, fun E a hl => ⟨_, hl x (by simp [Op.operands]), by simp [execOp]⟩, h⟩
  | pick c x y =>
    simp only at h
    split at h
    · next b hb =>
      refine ⟨_, fun E a hl => ?_, h⟩
      have h1 := hl c (by simp [Op.operands])
      rw [hb] at h1
      have h2 := hl x (by simp [Op.operands])
      have h3 := hl y (by simp [Op.operands])
      cases b with
      | true => exact ⟨_, h2, by simp [execOp, h1.bool_inv, asBool]⟩
      | false => exact ⟨_, h3, by simp [execOp, h1.bool_inv, asBool]⟩
    · exact h.elim
  | unOp op t x =>
    simp only at h
    split at h
    · next b hb =>
      refine ⟨_, fun E a hl => ?_, h⟩
      have h1 := hl x (by simp [Op.operands])
      rw [hb] at h1
      exact ⟨_, .bool _, by simp [execOp, h1.bool_inv, Op.unary]⟩
    · next k n hb =>
      refine ⟨_, fun E a hl => ?_, h⟩
      have h1 := hl x (by simp [Op.operands])
      rw [hb] at h1
      exact ⟨_, .int _ _, by simp [execOp, h1.int_inv, Op.unary, Op.intArith]⟩
    · exact h.elim
  | binOp op t x y yt =>
    simp only at h
    obtain ⟨V, hK, hr⟩ := binK_sound h
    refine ⟨V, fun E a hl => ?_, hK⟩
    obtain ⟨r, h1, h2⟩ := hr E _ _ x y (hl x (by simp [Op.operands])) (hl y (by simp [Op.operands]))
    refine ⟨r, h1, ?_⟩
    simp only [execOp, Sem.run_bind] at h2 ⊢
    rw [h2]; rfl
  | fieldAddr s x f =>
    simp only at h
    split at h
    · next n offs id sz len idx off hk hx =>
      split at h
      · next o y ho =>
        refine ⟨_, fun E a hl => ?_, h⟩
        have h1 := hl x (by simp [Op.operands])
        rw [hx] at h1
        obtain ⟨fs, hu, _, _, hf⟩ := tk_struct hk
        obtain ⟨fd, j, hfd, rfl, hj, _, hne⟩ := hf f o y ho
        cases h1v : a.eval x <;> rw [h1v] at h1 <;> cases h1
        next ad hm hl' =>
        refine ⟨.pointer (some (ad.add fd.offset)), .ptr _ _ _ _ _ _ hm fun L hL => ⟨(hl' L hL).1, fun he => ?_⟩, ?_⟩
        · obtain ⟨b, hb, rfl⟩ := (hl' L hL).2 he
          exact ⟨b, hb, by rw [add_addr, Nat.add_assoc]⟩
        · simp [execOp, Instr.fieldAt, run_underlying hu, hfd, h1v, Instr.sureAddr, fieldPlace, sizeOf, typeInfo, hj, hne]
      · exact h.elim
    · next n offs cs hk hx =>
      split at h
      · next o y ho =>
        refine ⟨_, fun E a hl => ?_, h⟩
        have h1 := hl x (by simp [Op.operands])
        rw [hx] at h1
        obtain ⟨fs, hu, _, _, hf⟩ := tk_struct hk
        obtain ⟨fd, j, hfd, rfl, hj, _, hne⟩ := hf f o y ho
        cases h1v : a.eval x <;> rw [h1v] at h1 <;> cases h1
        next b o' g hst hc hv =>
        refine ⟨.pointer (some ⟨b, o' + fd.offset, none⟩), .rp _ b _ (fun j => g (fd.offset + j)) hst (fun j c hj => ?_) (fun j c hj => ?_), ?_⟩
        · rw [List.getElem?_drop] at hj; rw [Nat.add_assoc]; exact hc _ c hj
        · rw [List.getElem?_drop] at hj; exact hv _ c hj
        · simp [execOp, Instr.fieldAt, run_underlying hu, hfd, h1v, Instr.sureAddr, fieldPlace, sizeOf, typeInfo, hj, hne, add_addr]
      · exact h.elim
    · exact h.elim
  | indexAddr t x i =>
    simp only at h
    split at h
    · next e sz z vs k n hk hx hi =>
      obtain ⟨hn, hlt0, rfl, hK⟩ := h
      have hv : vs[n.toNat]? = some (vs.getD n.toNat (dz P e)) := by simp [hlt0]
      refine ⟨_, fun E a hl => ?_, hK⟩
      have h1 := hl x (by simp [Op.operands])
      have h2 := hl i (by simp [Op.operands])
      rw [hx] at h1
      rw [hi] at h2
      obtain ⟨ad, cap, f, hav, hcap, hs, hvr⟩ := h1.sl_inv
      obtain ⟨hu, ⟨ti, hti, hsz⟩, _⟩ := tk_slice hk
      obtain ⟨hvl, b, o', rfl, hst, hc⟩ := hs _ _ hv
      have hlt : n.toNat < vs.length := (List.getElem?_eq_some_iff.1 hv).1
      refine ⟨.pointer (some ⟨b, o' + n.toNat * z, none⟩), .rp _ b _ (f n.toNat) hst (fun j c hj => hc j ?_) (fun j c hj => hvr _ _ _ _ hv hj), ?_⟩
      · rw [← hvl]; exact (List.getElem?_eq_some_iff.1 hj).1
      · simp [execOp, Instr.indexAt, hav, h2.int_inv, asIntOf, run_underlying hu, sizeOf, typeInfo, hti, hsz, hn, show n < (vs.length : Int) by omega, add_addr]
    · next e sz z vs k n hk hx hi =>
      obtain ⟨hn, hlt0, rfl, hK⟩ := h
      have hv : vs[n.toNat]? = some (vs.getD n.toNat (dz P e)) := by simp [hlt0]
      refine ⟨_, fun E a hl => ?_, hK⟩
      have h1 := hl x (by simp [Op.operands])
      have h2 := hl i (by simp [Op.operands])
      rw [hx] at h1
      rw [hi] at h2
      obtain ⟨ad, f, hav, hs, hvr⟩ := h1.slc_inv
      obtain ⟨hu, ⟨ti, hti, hsz⟩, _⟩ := tk_slice hk
      obtain ⟨hvl, b, o', rfl, hst, hc⟩ := hs _ _ hv
      have hlt : n.toNat < vs.length := (List.getElem?_eq_some_iff.1 hv).1
      refine ⟨.pointer (some ⟨b, o' + n.toNat * z, none⟩), .rp _ b _ (f n.toNat) hst (fun j c hj => hc j ?_) (fun j c hj => hvr _ _ _ _ hv hj), ?_⟩
      · rw [← hvl]; exact (List.getElem?_eq_some_iff.1 hj).1
      · simp [execOp, Instr.indexAt, hav, h2.int_inv, asIntOf, run_underlying hu, sizeOf, typeInfo, hti, hsz, hn, show n < (vs.length : Int) by omega, add_addr]
    · next e sz id sz' len k n hk hx hi =>
      obtain ⟨rfl, hn, hlt, hK⟩ := h
      refine ⟨_, fun E a hl => ?_, hK⟩
      have h1 := hl x (by simp [Op.operands])
      have h2 := hl i (by simp [Op.operands])
      rw [hx] at h1
      rw [hi] at h2
      obtain ⟨hu, ⟨ti, hti, hsz⟩, _⟩ := tk_slice hk
      cases h1v : a.eval x <;> rw [h1v] at h1 <;> cases h1
      next ad cap hm ha hl' =>
      cases ad with
      | none => have := ha rfl; omega
      | some ad =>
        refine ⟨.pointer (some (ad.add (n.toNat * sz))), .ptr _ _ _ _ _ _ hm fun L hL => ⟨(hl' L hL).1, fun he => ?_⟩, ?_⟩
        · rcases (hl' L hL).2 he with ⟨_, h, _⟩ | ⟨b, c, ty, fz, hb, had, _⟩
          · omega
          · cases had; exact ⟨b, hb, by rw [add_addr]; simp⟩
        · simp [execOp, Instr.indexAt, h1v, h2.int_inv, asIntOf, run_underlying hu, sizeOf, typeInfo, hti, hsz, hn, show n < (len : Int) by omega]
    · next m e sz tot id z len idx off k n hk hx hi =>
      obtain ⟨hn, hlt, hK⟩ := h
      refine ⟨_, fun E a hl => ?_, hK⟩
      have h1 := hl x (by simp [Op.operands])
      have h2 := hl i (by simp [Op.operands])
      rw [hx] at h1
      rw [hi] at h2
      obtain ⟨hu, ⟨ti, hti, hsz⟩, _⟩ := tk_arr hk
      cases h1v : a.eval x <;> rw [h1v] at h1 <;> cases h1
      next ad hm hl' =>
      refine ⟨.pointer (some (ad.add (n.toNat * sz))), .ptr _ _ _ _ _ _ hm fun L hL => ⟨(hl' L hL).1, fun he => ?_⟩, ?_⟩
      · obtain ⟨b, hb, rfl⟩ := (hl' L hL).2 he
        exact ⟨b, hb, by rw [add_addr, Nat.add_assoc]⟩
      · simp [execOp, Instr.indexAt, h1v, h2.int_inv, asIntOf, run_underlying hu, sizeOf, typeInfo, hti, hsz, hn, hlt, Instr.sureAddr]
    · next m e sz tot cs k n hk hx hi =>
      obtain ⟨hn, hlt, hK⟩ := h
      refine ⟨_, fun E a hl => ?_, hK⟩
      have h1 := hl x (by simp [Op.operands])
      have h2 := hl i (by simp [Op.operands])
      rw [hx] at h1
      rw [hi] at h2
      obtain ⟨hu, ⟨ti, hti, hsz⟩, _⟩ := tk_arr hk
      cases h1v : a.eval x <;> rw [h1v] at h1 <;> cases h1
      next b o' g hst hc hv =>
      refine ⟨.pointer (some ⟨b, o' + n.toNat * sz, none⟩), .rp _ b _ (fun j => g (n.toNat * sz + j)) hst (fun j c hj => ?_) (fun j c hj => ?_), ?_⟩
      · rw [List.getElem?_drop] at hj; rw [Nat.add_assoc]; exact hc _ c hj
      · rw [List.getElem?_drop] at hj; exact hv _ c hj
      · simp [execOp, Instr.indexAt, h1v, h2.int_inv, asIntOf, run_underlying hu, sizeOf, typeInfo, hti, hsz, hn, hlt, Instr.sureAddr, add_addr]
    · exact h.elim
  | index t x i =>
    simp only at h
    split at h
    · next s k n hk hx hi =>
      obtain ⟨hn, hlt0, hK⟩ := h
      have hb : s[n.toNat]? = some (s.getD n.toNat 0) := by simp [hlt0]
      generalize s.getD n.toNat 0 = b at hb hK
      refine ⟨_, fun E a hl => ?_, hK⟩
      have h1 := hl x (by simp [Op.operands])
      have h2 := hl i (by simp [Op.operands])
      rw [hx] at h1
      rw [hi] at h2
      obtain ⟨s', hs', rfl⟩ := h1.str_inv
      have hu := (tk_str hk).1
      refine ⟨_, .int _ _, ?_⟩
      have hg : s'[n.toNat]? = some b := by
        obtain ⟨hlt, hb'⟩ := List.getElem?_eq_some_iff.1 hb
        have hlt' : n.toNat < s'.size := hlt
        rw [getElem?_pos s' n.toNat hlt', ← hb']
        rfl
      simp [execOp, Instr.index, hs', h2.int_inv, asIntOf, run_underlying hu, hn, hg]
    · exact h.elim
  | extract t ix =>
    simp only at h
    split at h
    · next vs hx =>
      obtain ⟨v, hv, hK⟩ := h
      refine ⟨_, fun E a hl => ?_, hK⟩
      have h1 := hl t (by simp [Op.operands])
      rw [hx] at h1
      obtain ⟨us, hus, hsz, hvr⟩ := h1.tuple_inv
      have hlt : ix < us.size := by rw [hsz]; exact (List.getElem?_eq_some_iff.1 hv).1
      have := hvr ix v hv
      simp only [Array.getD_eq_getD_getElem?, Array.getElem?_eq_getElem hlt, Option.getD_some] at this
      exact ⟨_, this, by simp [execOp, Instr.extract, hus, hlt]⟩
    · exact h.elim
  | build t parts =>
    simp only at h
    split at h
    · next n offs zs hk hz =>
      obtain ⟨_, hall, cs, hb, hK⟩ := h
      refine ⟨_, fun E a hl => ?_, hK⟩
      obtain ⟨v, h1, h2⟩ := build_sound hz (.inl ⟨n, hk, hall⟩) hb E (parts.map fun (i, x) => (i, a.eval x)) (by simp) (fun i p p' a1 a2 => by
        simp only [List.getElem?_map, Array.getElem?_toList, Option.map_eq_some_iff, Array.getElem?_map] at a1 a2
        obtain ⟨q, hq, rfl⟩ := a1
        obtain ⟨q', hq', rfl⟩ := a2
        rw [hq] at hq'; cases hq'
        refine ⟨rfl, hl q.2 ?_⟩
        simp only [Op.operands, List.mem_toArray, List.mem_map, Array.mem_toList_iff]
        exact ⟨q, Array.mem_of_getElem? hq, rfl⟩)
      exact ⟨v, h1, by simp only [execOp, Sem.run_bind, h2]; rfl⟩
    · next m e sz tot zs hk hz =>
      obtain ⟨_, cs, hb, hK⟩ := h
      refine ⟨_, fun E a hl => ?_, hK⟩
      obtain ⟨v, h1, h2⟩ := build_sound hz (.inr ⟨m, e, sz, tot, hk, rfl⟩) hb E (parts.map fun (i, x) => (i, a.eval x)) (by simp) (fun i p p' a1 a2 => by
        simp only [List.getElem?_map, Array.getElem?_toList, Option.map_eq_some_iff, Array.getElem?_map] at a1 a2
        obtain ⟨q, hq, rfl⟩ := a1
        obtain ⟨q', hq', rfl⟩ := a2
        rw [hq] at hq'; cases hq'
        refine ⟨rfl, hl q.2 ?_⟩
        simp only [Op.operands, List.mem_toArray, List.mem_map, Array.mem_toList_iff]
        exact ⟨q, Array.mem_of_getElem? hq, rfl⟩)
      exact ⟨v, h1, by simp only [execOp, Sem.run_bind, h2]; rfl⟩
    · exact h.elim
  | slice t x lo hi mx =>
    simp only at h
    have opt : ∀ (E : Env) (a : Act) (y : Option Operand), (∀ z, y = some z → VR E (opnd ev z) (a.eval z)) → VRo E (y.map (opnd ev)) (y.map a.eval) := by
      intro E a y hy
      cases y with
      | none => trivial
      | some z => exact hy z rfl
    split at h
    · next hk =>
      obtain ⟨V, hK, hr⟩ := sliceS_sound h hk
      refine ⟨V, fun E a hl => ?_, hK⟩
      obtain ⟨r, h1, h2⟩ := hr E _ _ _ _ (hl x (by simp [Op.operands])) (opt E a lo fun z hz => hl z (by simp [Op.operands, hz])) (opt E a hi fun z hz => hl z (by simp [Op.operands, hz])) (opt E a mx fun z hz => hl z (by simp [Op.operands, hz]))
      exact ⟨r, h1, by simp only [execOp, Sem.run_bind, h2]; rfl⟩
    · next e sz hk =>
      obtain ⟨V, hK, hr⟩ := sliceL_sound h hk
      refine ⟨V, fun E a hl => ?_, hK⟩
      obtain ⟨r, h1, h2⟩ := hr E _ _ _ _ (hl x (by simp [Op.operands])) (opt E a lo fun z hz => hl z (by simp [Op.operands, hz])) (opt E a hi fun z hz => hl z (by simp [Op.operands, hz])) (opt E a mx fun z hz => hl z (by simp [Op.operands, hz]))
      exact ⟨r, h1, by simp only [execOp, Sem.run_bind, h2]; rfl⟩
    · exact h.elim
  | makeFunc fn first cap =>
    simp only at h
    split at h
    · next f =>
      obtain ⟨rfl, hK⟩ := h
      refine ⟨_, fun E a hl => ⟨.func (.func f) #[] (cap.map a.eval), .fn f _ _ (by simp) (fun i c hc => ?_), by simp [execOp, Instr.makeFunc]⟩, hK⟩
      simp only [List.getElem?_map, Array.getElem?_toList, Option.map_eq_some_iff] at hc
      obtain ⟨x, hx, rfl⟩ := hc
      have : (cap.map a.eval).getD i Go.undef = a.eval x := by simp [hx]
      rw [this]
      exact hl x (by simp [Op.operands, Array.mem_of_getElem? hx])
    · exact h.elim
  | nilCheck x =>
    simp only at h
    split at h
    · next id sz len idx off hx =>
      refine ⟨_, fun E a hl => ?_, h⟩
      have h1 := hl x (by simp [Op.operands])
      rw [hx] at h1
      refine ⟨_, h1, ?_⟩
      cases h1v : a.eval x <;> rw [h1v] at h1 <;> cases h1
      simp [execOp, h1v]
    · next cs hx =>
      refine ⟨_, fun E a hl => ?_, h⟩
      have h1 := hl x (by simp [Op.operands])
      rw [hx] at h1
      refine ⟨_, h1, ?_⟩
      cases h1v : a.eval x <;> rw [h1v] at h1 <;> cases h1
      simp [execOp, h1v]
    · exact h.elim
  | convert src dst x =>
    simp only at h
    have hsrc : tk P src ≠ .other → ∃ d, P.underlying src = some d := by
      intro h
      cases hu : P.underlying src with
      | none => simp [tk, hu] at h
      | some d => exact ⟨d, rfl⟩
    split at h
    · next k k' n hk hx =>
      obtain ⟨ho, hK⟩ := h
      obtain ⟨d, hd⟩ := hsrc ho
      refine ⟨_, fun E a hl => ?_, hK⟩
      have h1 := hl x (by simp [Op.operands])
      rw [hx] at h1
      exact ⟨_, .int _ _, by simp [execOp, convert, run_underlying hd, run_underlying (tk_int hk).1, h1.int_inv, Conv.intToInt]⟩
    · next s hk hx =>
      obtain ⟨ho, hK⟩ := h
      obtain ⟨d, hd⟩ := hsrc ho
      refine ⟨_, fun E a hl => ?_, hK⟩
      have h1 := hl x (by simp [Op.operands])
      rw [hx] at h1
      obtain ⟨s', hs', rfl⟩ := h1.str_inv
      exact ⟨_, .str s', by simp [execOp, convert, run_underlying hd, run_underlying (tk_str hk).1, hs']⟩
    · exact h.elim
  | call c =>
    obtain ⟨callee, args, argTypes⟩ := c
    cases callee with
    | builtin b =>
      simp only at h
      have hops : ∀ x ∈ args.toList, x ∈ (Op.call { callee := .builtin b, args, argTypes }).operands := by
        intro x hx; simpa [Op.operands, Call.operands] using hx
      cases b <;> simp only at h <;> try exact h.elim
      case len =>
        split at h
        · next x t hargs htys =>
          have hx0 : ∀ (E : Env) (a : Act), Opd ev E a { dst := dst, op := .call { callee := .builtin .len, args, argTypes }, type := type, pos := pos, after := after, guard := guard } → VR E (opnd ev x) (a.eval x) :=
            fun E a hl => hl x (hops x (by rw [hargs]; simp))
          have ha : args = #[x] := by rw [← Array.toList_inj]; exact hargs
          have ht : argTypes = #[t] := by rw [← Array.toList_inj]; exact htys
          subst ha; subst ht
          split at h
          · next s hk hx =>
            refine ⟨_, fun E a hl => ?_, h⟩
            have h1 := hx0 E a hl
            rw [hx] at h1
            obtain ⟨s', hs', rfl⟩ := h1.str_inv
            exact ⟨_, .int _ _, by simp [execOp, resolve, invoke, builtin, Builtin.len_, run_underlying (tk_str hk).1, hs', goInt]⟩
          · next _ _ e sz hk =>
            obtain ⟨n, hn, hK⟩ := h
            refine ⟨_, fun E a hl => ?_, hK⟩
            obtain ⟨ad, cap, hv⟩ := slen_VR (hx0 E a hl) hn
            exact ⟨_, .int _ _, by simp [execOp, resolve, invoke, builtin, Builtin.len_, run_underlying (tk_slice hk).1, hv, goInt]⟩
          · next _ _ n e sz tot hk =>
            refine ⟨_, fun E a hl => ?_, h⟩
            exact ⟨_, .int _ _, by simp [execOp, resolve, invoke, builtin, Builtin.len_, run_underlying (tk_arr hk).1, goInt]⟩
          · exact h.elim
        · exact h.elim
      case min =>
        split at h
        · next k n r hargs =>
          obtain ⟨m, hm, hK⟩ := h
          refine ⟨_, fun E a hl => ?_, hK⟩
          cases hl0 : args.toList with
          | nil => rw [hl0] at hargs; simp at hargs
          | cons x xs =>
            rw [hl0] at hargs
            simp only [List.map_cons, List.cons.injEq] at hargs
            have h1 := hl x (hops x (by rw [hl0]; simp))
            rw [hargs.1] at h1
            have hv : (args.map a.eval).toList = .int k n :: xs.map a.eval := by rw [Array.toList_map, hl0, List.map_cons, h1.int_inv]
            refine ⟨_, .int k m, ?_⟩
            have := foldInts_run (g := Builtin.min2) min2_run (E := E) r n m (xs.map a.eval) hm (by rw [← hargs.2]; simp) (fun i c v h1 h2 => by
              rw [← hargs.2] at h1
              simp only [List.getElem?_map, Option.map_eq_some_iff] at h1 h2
              obtain ⟨y, hy, rfl⟩ := h1
              obtain ⟨y', hy', rfl⟩ := h2
              rw [hy] at hy'; cases hy'
              exact hl y (hops y (by rw [hl0]; exact List.mem_cons_of_mem _ (List.mem_of_getElem? hy)))) P E.W
            simp only [execOp, resolve, invoke, builtin, Sem.run_bind, Sem.run_pure, Result.andThen_ok, Builtin.min_, hv, this]
        · exact h.elim
      case max =>
        split at h
        · next k n r hargs =>
          obtain ⟨m, hm, hK⟩ := h
          refine ⟨_, fun E a hl => ?_, hK⟩
          cases hl0 : args.toList with
          | nil => rw [hl0] at hargs; simp at hargs
          | cons x xs =>
            rw [hl0] at hargs
            simp only [List.map_cons, List.cons.injEq] at hargs
            have h1 := hl x (hops x (by rw [hl0]; simp))
            rw [hargs.1] at h1
            have hv : (args.map a.eval).toList = .int k n :: xs.map a.eval := by rw [Array.toList_map, hl0, List.map_cons, h1.int_inv]
            refine ⟨_, .int k m, ?_⟩
            have := foldInts_run (g := Builtin.max2) max2_run (E := E) r n m (xs.map a.eval) hm (by rw [← hargs.2]; simp) (fun i c v h1 h2 => by
              rw [← hargs.2] at h1
              simp only [List.getElem?_map, Option.map_eq_some_iff] at h1 h2
              obtain ⟨y, hy, rfl⟩ := h1
              obtain ⟨y', hy', rfl⟩ := h2
              rw [hy] at hy'; cases hy'
              exact hl y (hops y (by rw [hl0]; exact List.mem_cons_of_mem _ (List.mem_of_getElem? hy)))) P E.W
            simp only [execOp, resolve, invoke, builtin, Sem.run_bind, Sem.run_pure, Result.andThen_ok, Builtin.max_, hv, this]
        · exact h.elim
    | value f => simp only at h
    | invoke r m => simp only at h
  | _ => simp only at h

end Go.Pg
