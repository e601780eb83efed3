/- Keys of motions: a command of keys; the seat's motions. A motion by its name: by paragraphs, sentences, brackets; by lines. A motion by its name: by lines. -/
import Derived.Test.YtkkcfkggfpoagaaPgFx9
import Derived.Test.YtkkcfkggfpoagaaPgFx8
open List renaming getElem?_cons_zero → Za, getElem?_cons_succ → Zb, contains_nil → Zd, getD_cons_zero → Ze, nil_append → Zf, cons_append → Zg, length_cons → Zh, length_nil → Zi, append_nil → Zj, drop_succ_cons → Zl, take_succ_cons → Zm, set_cons_zero → Zn, contains_cons → Zo, foldl_nil → Zp, range'_zero → Zq, set_cons_succ → Zs, all_cons → Zu, all_nil → Zx, map_cons → Zy, drop_zero → Z1, take_zero → Z2, map_nil → Z3, drop_nil → Ya, take_nil → Yb
open Bool renaming false_eq_true → Zc, and_self → Zv, or_false → Z4, or_self → Yj, not_false → J6
open Option renaming getD_some → Zk, isSome_none → Qq, isSome_some → Q8
open Nat renaming zero_lt_succ → Zr, zero_add → Zt, sub_zero → Yc, le_refl → Yi, add_zero → Yk, not_lt_zero → Xc, lt_irrefl → Xe, sub_self → Xg
open Go.Pg renaming thenA_normal → Zw, bselH_false → Zz, gselH_plain → Z0, closeQ_succ → Z5, wpH_region → Z6, selC_false → Z7, closeQ_nil → Z8, diagQ_zero → Z9, runH_cons → Yd, regH_none → Ye, subV_succ → Yf, cselH_bool → Yg, iselH_false → Yh, runH_nil → Yl, iselH_true → Ym, diagQ_succ → Yn, wpH_block → Yo, lCons_dec → Yp, dec2_some → Yq, wpH_cond → Yr, res_succ → Ys, wpH_seq → Yt, optP_some → Yu, optV_some → Yv, optH_some → Yw, bselH_true → Yx, lOne_dec → Yy, wpH_ret → Yz, ldCells → Y0, cInt_dec → Y1, normArgs → Y2, putCells → Y3, cAgg_dec → Y4, C1by_pre → Y5, stepEv → Y6, ofLeaf → Y7, isNext → Y8, alives → Y9, pickOf → Qa, blockA_ret → Qb, res8_eq → Qc, C1by_mu → Qd, thenA_ret → Qe, cSl_dec → Qf, aliveO → Qg, pairsA → Qh, pairsO → Qi, pairsE → Qj, pairsC → Qk, pairs0 → Ql, decL_str → Qm, C1mby_mu → Qn, C1by_ns → Qo, C1by_it → Qp, wpA_H → Qr, justK → Qs, pureK → Qt, heapK → Qu, heapV → Qv, footV → Qw, nextF → Qx, nextG → Qy, ptrsE → Qz, subOs → Q0, subEv → Q1, shiftR → Q2, shift1 → Q3, C1by_r → Q4, C1by_H → Q5, envOf → Q6, objAt → Q7, callT → Q9, normA → Ja, pairsL → Jb, oneK → Jc, opnd → Jd, valV → Je, subA → Jf, subQ → Jg, frzO → Jh, subF → Ji, subG → Jj, frzE → Jk, frzC → Jl, frz0 → Jm, frzH → Jn, subM → Jo, normC → Jp, strOp → Jq, callC → Jr, callV → Js, callH → Jt, callP → Ju, mapAt → Jv, nxtQ → Jw, frzA → Jx, subO → Jy, binK → Jz, binV → J0, retA → J1, resK → J2, tupA → J3, resL → J4, resM → J5, msel → J7, cByte_dec → J8, cBool_dec → J9, wpH_skip → Xa, selC_true → Xb, cStr_dec → Xd, length_ofBytes → Xh, pickOK_nil → Xi, blockA_normal → Xj
open Int renaming toNat_natCast → Xf
namespace Go.Pg
open Go Go.Proofs

/-- Keys of a motion, a count ahead. -/
def tryPre (k : List UInt8) : Bool :=
  decide (k.length ≤ 65536) && (decide ((numR k 0 0).2 < k.length) && (k.getD 0 0 != 34 && (k.getD (numR k 0 0).2 0 != 34 && (k.getD (numR k 0 0).2 0 != 27 && (
    ![100, 99, 121, 60, 62].contains (k.getD (numR k 0 0).2 0) && (
    !(k.getD (numR k 0 0).2 0 == 103 && (decide ((numR k 0 0).2 + 1 < k.length) && [126, 117, 85].contains (k.getD ((numR k 0 0).2 + 1) 0))) && restPre (k.drop (numR k 0 0).2)))))))
def tryC (k : List UInt8) : Cm := restC (k.drop (numR k 0 0).2) (numR k 0 0).1
def kRRest : C1 := C1.by [.sl 1 [], .id, .id] (lCons (cSl 1 cByte) (lCons (cAgg lCmR) (lOne cBool))) (fun d => d.2.1 = (0, d.2.1.2.1, [], [], 0, []) ∧ d.2.2 = false ∧ restPre d.1 = true) (fun d => .tuple [.int .i64 1, .agg (aCm (restC d.1 d.2.1.2.1))]) (fun _ => [])
theorem ok_Rrest : C1OK Try.prog 19 kRRest := C1OK.by (by kernel_rfl) (fun d h => by
  obtain ⟨m, c, v⟩ := d
  obtain ⟨h1, rfl, h3⟩ := h
  dsimp only at h1
  have := calls_Rrest m c.2.1 h3
  rw [← h1] at this
  exact this) (fun _ => rfl) (fun _ => rfl)
theorem numL_same : ∀ (t : List UInt8) (n : Int) (i : Nat), (numL t n i).2 = i → (numL t n i).1 = n
  | [], _, _, _ => rfl
  | b :: t, n, i, h => by
    unfold numL at h ⊢
    split at h
    · next hb =>
      have hr := isNum_range hb
      have : ∀ (t : List UInt8) (n : Int) (i : Nat), i ≤ (numL t n i).2 := by
        intro t
        induction t with
        | nil => intro n i; exact Nat.le_refl _
        | cons b t ih =>
          intro n i
          unfold numL
          split
          · exact Nat.le_trans (Nat.le_succ i) (ih _ _)
          · exact Nat.le_refl _
      have := this t (min (10 * n + ((b.toNat : Int) - 48)) 9999) (i + 1)
      omega
    · next hb => rw [if_neg hb]
set_option maxRecDepth 20000 in
set_option maxHeartbeats 8000000 in
theorem calls_RTry (k : List UInt8) (h : tryPre k = true) :
    CallsR Try.prog 8 [.sl 1 (ofBytes k), .bool false] [] (.tuple [.int .i64 1, .agg (aCm (tryC k))]) [] := by
  unfold tryPre at h
  unfold tryC
  have hin := numL_in (k.drop 0) 0 0 (by omega) (by omega)
  have hst := numR_stop k 0 0 (by omega) (by omega)
  have hdef : numR k 0 0 = numL (k.drop 0) 0 0 := rfl
  rw [← hdef] at hin
  obtain ⟨R, hR⟩ : ∃ R, R = numR k 0 0 := ⟨_, rfl⟩
  rw [← hR] at h hin hst ⊢
  obtain ⟨n, i⟩ := R
  dsimp only at h hin hst ⊢
  simp only [Bool.and_eq_true,decide_eq_true_eq,bne_iff_ne,Bool.not_eq_true'] at h
  obtain ⟨h1, h2, h3, h4, h5, h6, h7, h8⟩ := h
  obtain ⟨i1, i2, i3, i4⟩ := hin
  refine callsR_of (mrg := true) (dyn := []) (CtrOK.cons ok_has (CtrOK.cons ok_Rnumber (CtrOK.cons ok_Rrest (CtrOK.nil _)))) mixed Try.func8 rfl (by simp [Try.ntmps8]) (by kernel_rfl) ?_
  rw [show Try.f8.results.toList = [.tmp 4, .cell 5 33] from by kernel_rfl]
  obtain ⟨x, hx⟩ : ∃ x, x = k.getD i 0 := ⟨_, rfl⟩
  rw [← hx] at h4 h5 h6 h7
  have b34 := byte_lit x 34 34 rfl h4
  have b27 := byte_lit x 27 27 rfl h5
  have k34 := byte_lit (k.getD 0 0) 34 34 rfl h3
  have c1 : decide ((i : Int) < (k.length : Int)) = true := decide_eq_true (by omega)
  have c2 : ((i : Int) == (k.length : Int)) = false := beq_eq_false_iff_ne.2 (by omega)
  simp (maxSteps := 4000000) only [↓Qr,↓Yt,↓Yo,↓wpH_loop,↓Z6,Zz,Yl,Yd,gw,Z0,↓chk,Qs,noW,↓Jc,↓Qt,↓Qu,Q6,↓Zw,↓Y6,Jd,Zc,implies_true,true_and,Je,Qv,Qw,Nat.reduceAdd,ofV,Y7,AV.cells,AV.definite,Nat.reduceAdd,Zf,Zg,Zh,Zi,Zt,ite_false,and_self,Zd,Ye,Y8,Qx,Qy,Z7,tz33]
  refine loopH_intro (α := Int × Nat) (fun s => ([(0, .sl 1 (ofBytes k)), (1, .bool false), (4, .int .i64 0), (5, .ptr 0 6 1 0 0), (6, .ptr 1 6 1 0 0), (7, .int .i64 s.2), (8, .int .i64 s.1), (9, .int .i64 0)], [.arr 33 6 [.agg [.int .u8 0, .int .i64 0, .str [], .str [], .int .u8 0, .str []]], .arr 33 6 [.agg [.int .u8 0, .int .i64 0, .str [], .str [], .int .u8 0, .str []]]]))
    (fun s => s = (0, 0) ∨ s = (n, i)) (fun s => k.length - s.2) (0, 0) (.inl rfl) ?_ ?_
  · simp (maxSteps := 4000000) only [Pg.look,true_and,and_true,Y9,Qg,Jw,hdS,Qh,Jx,Z8,Z5,Z9,Jf,Jg,Qz,Qi,Jh,Ji,Jj,Qa,assocN,Qj,Qk,Ql,Jk,Jl,Jm,Jn,Pg.freeze,Zp,Q0,Jy,Q1,Yf,Jo,AV.cells,AV.pureLeaf,AV.pureB,Zb,Za,reduceCtorEq,Nat.reduceEqDiff,Zf,Zj,Zg,Zt,ite_true,ite_false,Zu,Zx,Zv,and_self,Int.cast_ofNat_Int,Xe,Xc]
    (repeat' first | exact subX_eq rfl rfl | apply And.intro | rfl | omega)
  intro s hs
  have hsame := numL_same (k.drop 0) 0 0
  rw [← hdef, ← hR] at hsame
  dsimp only at hsame
  have hs2 : s = (n, i) ∨ (s = (0, 0) ∧ 0 < i) := by
    rcases hs with hs | hs
    · by_cases hi0 : i = 0
      · have := hsame hi0
        subst hi0
        subst this
        exact .inl hs
      · exact .inr ⟨hs, by omega⟩
    · exact .inl hs
  rcases hs2 with rfl | ⟨rfl, hi0⟩
  · have hmul : IntKind.i64.wrap (max n 1 * max 0 1) = max n 1 := by
      have : max n 1 * max 0 1 = max n 1 := by rw [show max (0 : Int) 1 = 1 by decide, Int.mul_one]
      rw [this]; exact wrap64 (by omega) (by omega)
    have D : (decide (n > 0) = true ∧ n = min (max n 1) 9999) ∨ (decide (n > 0) = false ∧ n = 0) := by
      by_cases e : n > 0
      · exact .inl ⟨decide_eq_true e, by omega⟩
      · exact .inr ⟨decide_eq_false e, by omega⟩
    have D2 : ((((x.toNat : Int) == 103) = false) ∧ ((x.toNat : Int) == 103) = false ∧ ((x.toNat : Int) == 103) = false)
        ∨ (((x.toNat : Int) == 103) = true ∧ decide (((i + 1 : Nat) : Int) < (k.length : Int)) = false ∧ decide (((i + 1 : Nat) : Int) < (k.length : Int)) = false)
        ∨ (((x.toNat : Int) == 103) = true ∧ decide (((i + 1 : Nat) : Int) < (k.length : Int)) = true ∧ [126, 117, 85].contains (k.getD (i + 1) 0) = false) := by
      by_cases e : x = 103
      · have e2 : (x == 103) = true := beq_iff_eq.2 e
        rw [e2, Bool.true_and, Bool.and_eq_false_iff] at h7
        by_cases e3 : i + 1 < k.length
        · rcases h7 with h7 | h7
          · rw [decide_eq_true e3] at h7; cases h7
          · exact .inr (.inr ⟨lit_eq x 103 103 rfl e, decide_eq_true (by omega), h7⟩)
        · exact .inr (.inl ⟨lit_eq x 103 103 rfl e, decide_eq_false (by omega), decide_eq_false (by omega)⟩)
      · have := byte_lit x 103 103 rfl e
        exact .inl ⟨this, this, this⟩
    have w1 : IntKind.i64.wrap ((i : Int) + 1) = ((i + 1 : Nat) : Int) := by rw [wrap64 (by omega) (by omega)]; rfl
    have D3 : decide ((i : Int) > 0) = true ∨ decide ((i : Int) > 0) = false := by cases decide ((i : Int) > 0) <;> simp
    obtain ⟨m, hm⟩ : ∃ m, m = k.drop i := ⟨_, rfl⟩
    rw [← hm] at h8 ⊢
    obtain ⟨g, hg⟩ : ∃ g, g = restC m n := ⟨_, rfl⟩
    obtain ⟨y1, y2, y3, y4, y5, y6⟩ := g
    rw [← hg]
    rcases D with ⟨d1, d2⟩ | ⟨d1, d2⟩
    · have d2 := d2.symm
      all_goals
        rcases D3 with d3 | d3
        all_goals
          rcases D2 with ⟨f1, f2, f3⟩ | ⟨f1, f2, f3⟩ | ⟨f1, f2, f3⟩
          all_goals
            simp (maxSteps := 4000000) only [↓Qr,↓Xa,↓Yz,↓wpH_exit,↓Yt,↓Yr,↓Yo,↓Z6,↓Ym,↓Yh,Zz,Yl,Yd,gw,Z0,gselH_if,kselH_1,Yg,gkind,↓chk,Qs,noW,↓Jc,↓Qt,↓Qu,↓Zw,↓thenA_exit,↓blockA_exit,↓Y6,Jd,Pg.look,Jz,intOp,Jq,dstOf,J6,Bool.not_true,Zc,Bool.true_eq_false,false_implies,implies_true,imp_self,true_and,and_true,forall_const,pickC,pickV,unc,gof,mux,mergeK,condsL,Je,Qv,Qw,J0,intV,strV,cutV,Y9,Qg,Jw,hdS,Qh,Jx,Z8,Z5,Z9,Nat.reduceAdd,mergeable,look_stripE,ofV,Y7,sameK,J1,J2,J3,Jf,Jg,Qz,Qi,Jh,Ji,Jj,Qa,assocN,Qj,Qk,Ql,Jk,Jl,frzL,Jm,Jn,Pg.freeze,Zp,Q0,Jy,Q1,Yf,Jo,subL,slen,Y0,Q7,sliceL,↓Q9,Jr,Js,Jt,Y2,Ja,Jp,J4,Qc,Ys,J5,Q2,Q3,AV.cells,TK.cells,AV.leaf,AV.leafy,AV.pureLeaf,AV.pureB,Y3,lay,foldInts,Op.operands,Call.operands,Array.toList_append,List.getElem?_toArray,Zb,Za,Option.bind_some,Option.map_some,Option.map_none,Zk,reduceCtorEq,Nat.reduceEqDiff,Nat.reduceAdd,Zf,Zj,Zg,Zh,Zi,Zy,Z3,Zn,Zs,Zt,Int.reduceToNat,ite_true,ite_false,Option.some.injEq,Qq,AV.int.injEq,Prod.mk.injEq,Zu,Zx,Zv,and_self,exists_eq_left',Xi,Y1,J9,List.toList_toArray,Xh,drop_ofBytes,getD_ofBytes,J8,cByte_lit,Int.reduceLE,Int.reduceLT,UInt8.reduceOfNat,decL_byte,Xd,Qf,Y4,Yy,Yp,Yq,Zo,Zd,Z4,beq_self_eq_true,Zq,Qo,Y5,Q4,Q5,Yu,Yv,Yw,Xf,Ze,cutL,Z1,Zl,Zm,Z2,Yc,Nat.reduceLeDiff,Yi,Xe,Ya,Yb,Xc,Zr,Qp,Ye,Y8,Qx,Qy,Xb,Z7,pureC,↓J7,muC,↓Ju,Qd,Jv,tk3,tk5,dz5,tk9,tk24,tk33,dz33,kHas,kRNumber,kRRest,c1,c2,← hx,b34,b27,hst,h6,d1,d3,f1,f2,f3,w1,hmul,d2,← hm,← hg]
            (repeat' first | exact h1 | exact h8 | exact rfl | (show dynOrd _ _ = true; kernel_rfl) | exact subX_eq rfl rfl | exact trivial | apply And.intro | rfl | omega | (have := of_decide_eq_true f2; omega) | decide)
    · subst d2
      all_goals
        rcases D3 with d3 | d3
        all_goals
          rcases D2 with ⟨f1, f2, f3⟩ | ⟨f1, f2, f3⟩ | ⟨f1, f2, f3⟩
          all_goals
            simp (maxSteps := 4000000) only [↓Qr,↓Xa,↓Yz,↓wpH_exit,↓Yt,↓Yr,↓Yo,↓Z6,↓Ym,↓Yh,Zz,Yl,Yd,gw,Z0,gselH_if,kselH_1,Yg,gkind,↓chk,Qs,noW,↓Jc,↓Qt,↓Qu,↓Zw,↓thenA_exit,↓blockA_exit,↓Y6,Jd,Pg.look,Jz,intOp,Jq,dstOf,J6,Bool.not_true,Zc,Bool.true_eq_false,false_implies,implies_true,imp_self,true_and,and_true,forall_const,pickC,pickV,unc,gof,mux,mergeK,condsL,Je,Qv,Qw,J0,intV,strV,cutV,Y9,Qg,Jw,hdS,Qh,Jx,Z8,Z5,Z9,Nat.reduceAdd,mergeable,look_stripE,ofV,Y7,sameK,J1,J2,J3,Jf,Jg,Qz,Qi,Jh,Ji,Jj,Qa,assocN,Qj,Qk,Ql,Jk,Jl,frzL,Jm,Jn,Pg.freeze,Zp,Q0,Jy,Q1,Yf,Jo,subL,slen,Y0,Q7,sliceL,↓Q9,Jr,Js,Jt,Y2,Ja,Jp,J4,Qc,Ys,J5,Q2,Q3,AV.cells,TK.cells,AV.leaf,AV.leafy,AV.pureLeaf,AV.pureB,Y3,lay,Op.operands,Call.operands,Array.toList_append,List.getElem?_toArray,Zb,Za,Option.bind_some,Option.map_some,Option.map_none,Zk,reduceCtorEq,Nat.reduceEqDiff,Nat.reduceAdd,Zf,Zj,Zg,Zh,Zi,Zy,Z3,Zn,Zt,Int.reduceToNat,ite_true,ite_false,Option.some.injEq,Qq,AV.int.injEq,Prod.mk.injEq,Zu,Zx,Zv,and_self,exists_eq_left',Xi,Y1,J9,List.toList_toArray,Xh,drop_ofBytes,getD_ofBytes,J8,cByte_lit,Int.reduceLE,Int.reduceLT,UInt8.reduceOfNat,decL_byte,Xd,Qf,Y4,Yy,Yp,Yq,Zo,Zd,Z4,beq_self_eq_true,Zq,Qo,Y5,Q4,Q5,Yu,Yv,Yw,Xf,Ze,cutL,Z1,Zl,Zm,Z2,Yc,Nat.reduceLeDiff,Yi,Xe,Ya,Yb,Xc,Zr,Qp,Ye,Y8,Qx,Qy,Xb,Z7,pureC,↓J7,muC,↓Ju,Qd,Jv,tk5,dz5,tk9,tk24,tk33,dz33,kHas,kRNumber,kRRest,c1,c2,← hx,b34,b27,hst,h6,gt_iff_lt,Int.lt_irrefl,decide_false,d3,f1,f2,f3,w1,← hm,← hg]
            (repeat' first | exact h1 | exact h8 | exact rfl | (show dynOrd _ _ = true; kernel_rfl) | exact subX_eq rfl rfl | exact trivial | apply And.intro | rfl | omega | (have := of_decide_eq_true f2; omega) | decide)
  · have c0 : decide ((0 : Int) < (k.length : Int)) = true := decide_eq_true (by omega)
    have c5 : ((i : Int) == 0) = false := beq_eq_false_iff_ne.2 (by omega)
    have hR2 : numR k 0 0 = (n, i) := hR.symm
    have hz : (((0 : Int), (0 : Nat)).2 : Int) = 0 := rfl
    simp (maxSteps := 4000000) only [↓Qr,↓Xa,↓Yt,↓Yr,↓Yo,↓Z6,↓Ym,↓Yh,Zz,Yl,Yd,gw,Z0,Yg,↓chk,Qs,noW,↓Jc,↓Qt,↓Qu,↓Zw,↓Xj,↓Y6,Jd,Pg.look,Jz,intOp,Zc,false_implies,implies_true,true_and,and_true,Je,Qv,Qw,J0,intV,Y9,Qg,Jw,hdS,Qh,Jx,Z8,Z5,Z9,Nat.reduceAdd,ofV,Y7,Jf,Jg,Qz,Qi,Jh,Ji,Jj,Qa,assocN,Qj,Qk,Ql,Jk,Jl,Jm,Jn,Pg.freeze,Zp,Q0,Jy,Q1,Yf,Jo,slen,Y0,↓Q9,Jr,Js,Jt,Y2,Ja,Jp,J4,Qc,Ys,J5,Q2,Q3,AV.cells,TK.cells,AV.pureLeaf,AV.pureB,Zb,Za,Zk,reduceCtorEq,Nat.reduceEqDiff,Nat.reduceAdd,Zf,Zj,Zg,Zh,Zi,Zy,Z3,Zt,Int.reduceToNat,ite_true,ite_false,Option.some.injEq,AV.int.injEq,Prod.mk.injEq,Zu,Zx,Zv,and_self,exists_eq_left',Y1,Xh,getD_ofBytes,Int.reduceLE,decL_byte,Qf,Yy,Yp,Yq,Zd,Zq,Qo,Y5,Q4,Q5,Yu,Yv,Yw,Yc,Xe,Xc,Nat.zero_le,Qp,Ye,Y8,Qx,Qy,Z7,↓J7,muC,↓Ju,Qd,tk5,dz5,tk24,kHas,kRNumber,hz,c0,k34,c5,hR2]
    (repeat' first | exact h1 | exact ⟨(n, i), .inr rfl, by dsimp only; omega, by decide, subX_eq rfl rfl, rfl, rfl⟩ | apply And.intro | rfl | omega)
def kRTry : C1 := C1.by [.sl 1 [], .id] (lCons (cSl 1 cByte) (lOne cBool)) (fun d => d.2 = false ∧ tryPre d.1 = true) (fun d => .tuple [.int .i64 1, .agg (aCm (tryC d.1))]) (fun _ => [])
theorem ok_RTry : C1OK Try.prog 8 kRTry := C1OK.by (by kernel_rfl) (fun d h => by
  obtain ⟨k, v⟩ := d
  obtain ⟨rfl, h2⟩ := h
  exact calls_RTry k h2) (fun _ => rfl) (fun _ => rfl)

def motS : Ls := [[104], [106], [107], [108], [48], [94], [36], [119], [98], [101], [103, 101], [87], [66], [69], [103, 69], [102, 97], [70, 97], [116, 111], [84, 111], [59], [44], [71], [103, 103], [72], [77], [76], [37], [123], [125], [40], [41], [43], [45], [95], [51, 124], [47, 102, 111, 111, 60, 67, 82, 62], [63, 97, 60, 67, 82, 62], [110], [78], [42], [35], [39, 97], [96, 97], [39, 39], [96, 96], [50, 119], [51, 106], [50, 107], [53, 108], [50, 101], [51, 98], [102, 120], [116, 120], [50, 102, 97], [39, 98], [49, 48, 71], [50, 103, 103]]
def parseG (s : List UInt8) : List UInt8 := (parseF s.length s).getD []
/-- A motion's keys, by its number. -/
def motK (n : UInt8) : List UInt8 := parseG (motS.getD (n.toNat % 57) [])
theorem mot_ok : motS.all (fun s => (parseF s.length s).isSome && (decide (s.length ≤ 65536) && tryPre (parseG s))) = true := by kernel_rfl
theorem mot_len : motS.length = 57 := by rfl
theorem mot_at (n : UInt8) : (parseF (motS.getD (n.toNat % 57) []).length (motS.getD (n.toNat % 57) [])).isSome = true ∧ (motS.getD (n.toNat % 57) []).length ≤ 65536 ∧ tryPre (motK n) = true := by
  have hlt : n.toNat % 57 < motS.length := by rw [mot_len]; omega
  have h := List.all_eq_true.1 mot_ok _ (List.getElem_mem hlt)
  unfold motK
  rw [List.getD_eq_getElem?_getD, List.getElem?_eq_getElem hlt]
  simp only [Bool.and_eq_true,decide_eq_true_eq] at h
  exact ⟨h.1, h.2.1, h.2.2⟩
set_option maxRecDepth 20000 in
set_option maxHeartbeats 8000000 in
theorem calls_Motions : CallsR Try.prog 20 [] [] (.sl 1 (motS.map .str)) [] := by
  refine callsR_of (mrg := true) (dyn := []) (CtrOK.nil _) mixed Try.func20 rfl (by simp [Try.ntmps20]) (by kernel_rfl) ?_
  rw [show Try.f20.results.toList = [.tmp 0] from by kernel_rfl]
  simp (maxSteps := 4000000) only [↓Qr,↓Yz,↓Yt,↓Z6,Zz,Yl,Yd,gw,Z0,↓chk,Qs,noW,↓Jc,↓Qt,↓Qu,Q6,↓Zw,↓Y6,Jd,Pg.look,Zc,implies_true,true_and,and_true,Je,Qv,Qw,Y9,Z8,Z9,Nat.reduceAdd,ofV,Y7,J1,J2,J3,Jf,Jg,Qz,Jh,Ji,Jj,Qa,Jk,Jl,Jm,Jn,Pg.freeze,Zp,List.foldl_cons,Q0,Q1,Yf,Jo,Q7,J4,Ys,J5,AV.cells,AV.definite,AV.pureLeaf,AV.pureB,frzAt,Za,reduceCtorEq,Nat.reduceAdd,Zf,Zj,Zh,Zi,Zy,Z3,Zn,Zt,ite_true,ite_false,Q8,AV.sl.injEq,Zu,Zx,Zv,and_self,Xi,resIn,Zo,Zd,Z4,beq_self_eq_true,Nat.reducePow,Nat.reduceLeDiff,Nat.mul_one,Ye,Y8,Qx,Qy,Z7,eb9,tk22]
  (repeat' first | exact rfl | exact subX_eq rfl rfl | apply And.intro | decide)
def kMotions : C1 := C1.by [] lNil (fun _ => True) (fun _ => .sl 1 (motS.map .str)) (fun _ => [])
theorem ok_Motions : C1OK Try.prog 20 kMotions := C1OK.by (by kernel_rfl) (fun _ _ => calls_Motions) (fun _ => by kernel_rfl) (fun _ => rfl)
set_option maxHeartbeats 4000000 in
theorem calls_Motion (n : UInt8) : CallsR Try.prog 9 [byteA n] [] (.sl 1 (ofBytes (motK n))) [] := by
  refine callsR_of (mrg := true) (dyn := []) (CtrOK.cons ok_Motions (CtrOK.cons ok_Keys (CtrOK.nil _))) mixed Try.func9 rfl (by simp [Try.ntmps9]) (by kernel_rfl) ?_
  rw [show Try.f9.results.toList = [.tmp 2] from by kernel_rfl]
  have hn : n.toNat < 256 := n.toNat_lt
  have hl := mot_len
  obtain ⟨h1, h2, h3⟩ := mot_at n
  unfold motK parseG
  have w1 : IntKind.i64.wrap (n.toNat : Int) = (n.toNat : Int) := wrap64 (by omega) (by omega)
  have w2 : (n.toNat : Int).tmod (motS.length : Int) = ((n.toNat % 57 : Nat) : Int) := by rw [hl, Int.tmod_eq_emod_of_nonneg (by omega)]; omega
  have hlt : n.toNat % 57 < motS.length := by rw [hl]; omega
  simp (maxSteps := 4000000) only [↓Qr,↓Yz,↓Yt,↓Z6,Zz,Yl,Yd,gw,Z0,↓chk,Qs,noW,↓Jc,↓Qt,↓Qu,Q6,↓Zw,↓Y6,Jd,Pg.look,Jz,intOp,Zc,false_implies,implies_true,true_and,and_true,Je,Qv,Qw,J0,intV,Y9,Z8,Z9,ofV,Y7,J1,J2,J3,Jf,Jg,Qz,Jh,Ji,Jj,Qa,Jk,Jl,Jm,Jn,Pg.freeze,Zp,Q0,Q1,Yf,Jo,slen,Y0,↓Q9,Jr,Js,Jt,Y2,Ja,J4,Qc,Ys,J5,Q2,Q3,AV.cells,TK.cells,Za,Zk,reduceCtorEq,Nat.reduceEqDiff,Zf,Zj,Zi,Zy,Z3,Zt,ite_true,ite_false,Option.some.injEq,AV.int.injEq,Prod.mk.injEq,ne_eq,not_false_eq_true,and_self,exists_eq_left',Xi,List.length_map,Xd,lNil_dec,Yy,Zd,Zq,Qo,Y5,Q4,Q5,Yu,Yv,Yw,getD_str,Xf,Qp,Ye,Y8,Qx,Qy,Z7,↓J7,muC,↓Ju,Qd,tk3,tk5,tk9,dz9,tk22,kMotions,kKeys,w1,w2]
  (repeat' first | exact h1 | exact h2 | exact hlt | apply And.intro | rfl | (rw [hl]; omega) | omega)
def kMotion : C1 := C1.by [.id] (lOne cByte) (fun _ => True) (fun d => .sl 1 (ofBytes (motK d))) (fun _ => [])
theorem ok_Motion : C1OK Try.prog 9 kMotion := C1OK.by (by kernel_rfl) (fun d _ => calls_Motion d) (fun _ => rfl) (fun _ => rfl)
end Go.Pg
namespace Go.Pg
open Go Go.Proofs

theorem lq125__123 : (([125] : List UInt8) == [123]) = false := rfl
theorem lq40__123 : (([40] : List UInt8) == [123]) = false := rfl
theorem lq40__125 : (([40] : List UInt8) == [125]) = false := rfl
theorem lq41__123 : (([41] : List UInt8) == [123]) = false := rfl
theorem lq41__125 : (([41] : List UInt8) == [125]) = false := rfl
theorem lq41__40 : (([41] : List UInt8) == [40]) = false := rfl
theorem lq37__123 : (([37] : List UInt8) == [123]) = false := rfl
theorem lq37__125 : (([37] : List UInt8) == [125]) = false := rfl
theorem lq37__40 : (([37] : List UInt8) == [40]) = false := rfl
theorem lq37__41 : (([37] : List UInt8) == [41]) = false := rfl
def textA (ls : Ls) (x : Cx) (c : Cm) (n : Int) (op : Bool) : Res :=
  if c.2.2.2.1 = [123] then (parBackP ls (curOf x) n, x)
  else   if c.2.2.2.1 = [125] then (parNextP ls (curOf x) n op, x)
  else   if c.2.2.2.1 = [40] then (sentBackP ls (curOf x) n, x)
  else   if c.2.2.2.1 = [41] then (sentNextP ls (curOf x) n op, x)
  else   if c.2.2.2.1 = [37] then (matchP ls (curOf x), x)
  else searchA ls x c.2.2.2.1 c.2.2.2.2.2 n

set_option maxRecDepth 20000 in
set_option maxHeartbeats 8000000 in
theorem calls_textA (ls : Ls) (x : Cx) (c : Cm) (n : Int) (op : Bool) (hf : okText ls) (hn : n ≤ 9223372036854775807) (hcn : c.2.1 ≤ 9223372036854775807) : CallsR Try.prog 78 [aAsk ls c n op] (cxH x) (aMove (textA ls x c n op).1) (cxH (textA ls x c n op).2) := by
  refine callsR_of (mrg := true) (dyn := [1]) (CtrOK.cons ok_ParBack (CtrOK.cons ok_ParNext (CtrOK.cons ok_SentBack (CtrOK.cons ok_SentNext (CtrOK.cons ok_Match (CtrOK.cons ok_search (CtrOK.nil _))))))) mixed Try.func78 rfl (by simp [Try.ntmps78]) (by kernel_rfl) ?_
  rw [show Try.f78.results.toList = [.cell 2 38, .tmp 3] from by kernel_rfl]
  have hll := hf.1
  obtain ⟨x1, x2, w, t, ky, kc, fd, bk⟩ := x
  obtain ⟨rg, cn, opr, name, arg, text⟩ := c
  unfold textA curOf
  dsimp only
  by_cases h123 : name = [123]
  · subst h123
    rw [if_pos (by decide)]
    simp (maxSteps := 4000000) only [↓Qr,↓Yz,↓Yt,↓Yr,↓Yo,↓Z6,Yx,↓Ym,Zz,Yl,Yd,gw,Z0,Yg,↓chk,Qs,noW,↓Jc,↓Qt,↓Qu,Q6,↓Zw,↓Qe,↓Qb,↓Y6,Jd,Pg.look,Jz,Jq,Zc,false_implies,implies_true,true_and,and_true,forall_const,Je,Qv,Qw,J0,strV,Y9,Qg,Jw,hdS,Qh,Jx,Z8,Z5,Z9,Yn,Nat.reduceAdd,ofV,Y7,J1,J2,J3,Jf,Jg,Qz,Qi,Jh,Ji,Jj,Qa,Qj,Qk,Jb,Ql,Jk,Jl,frzL,Jm,Jn,Pg.freeze,Zp,Q0,Jy,Q1,Yf,Jo,subL,Y0,Q7,↓Q9,Jr,Js,Jt,Y2,Ja,Jp,J4,Qc,Ys,J5,Q2,Q3,AV.cells,TK.cells,AV.definite,AV.leaf,AV.leafy,AV.pureLeaf,AV.pureB,Y3,lay,Zb,Za,Zk,reduceCtorEq,Nat.reduceEqDiff,Nat.reduceAdd,Zf,Zj,Zg,Zh,Zi,Zy,Z3,Zn,Zs,Zt,ite_true,ite_false,Option.some.injEq,Prod.mk.injEq,Zu,Zx,Zv,and_self,exists_eq_left',Y1,Qf,Y4,Yy,Yp,Yq,Zo,Zd,Nat.reduceBEq,Yj,Z4,beq_self_eq_true,Zq,Qm,Qo,Y5,Q4,Q5,Yu,Yv,Yw,Ze,cutL,Z1,Zl,Zm,Z2,Yk,Yc,Nat.reduceLeDiff,Yi,Ya,Yb,Zr,Qp,Ye,Y8,Qx,Qy,Z7,↓J7,muC,↓Ju,Qd,Qn,Jv,tk3,tk9,tk22,tk28,tz28,dz28,tk31,dz31,tk33,tk38,tz38,dz38,tk41,tk57,dz57,kMvN,kMv0,kMvNB,aMove,aMv,kSearchA]
    (repeat' first | exact hf | exact hn | exact ⟨hf, hn⟩ | (show dynOrd _ _ = true; kernel_rfl) | exact subX_eq rfl rfl | exact trivial | apply And.intro | rfl | omega)
  by_cases h125 : name = [125]
  · subst h125
    rw [if_neg (by decide), if_pos (by decide)]
    simp (maxSteps := 4000000) only [↓Qr,↓Yz,↓Yt,↓Yr,↓Yo,↓Z6,Yx,↓Ym,↓Yh,Zz,Yl,Yd,gw,Z0,Yg,↓chk,Qs,noW,↓Jc,↓Qt,↓Qu,Q6,↓Zw,↓Qe,↓Qb,↓Y6,Jd,Pg.look,Jz,Jq,Zc,false_implies,implies_true,true_and,and_true,forall_const,Je,Qv,Qw,J0,strV,Y9,Qg,Jw,hdS,Qh,Jx,Z8,Z5,Z9,Yn,Nat.reduceAdd,ofV,Y7,J1,J2,J3,Jf,Jg,Qz,Qi,Jh,Ji,Jj,Qa,Qj,Qk,Jb,Ql,Jk,Jl,frzL,Jm,Jn,Pg.freeze,Zp,Q0,Jy,Q1,Yf,Jo,subL,Y0,Q7,↓Q9,Jr,Js,Jt,Y2,Ja,Jp,J4,Qc,Ys,J5,Q2,Q3,AV.cells,TK.cells,AV.definite,AV.leaf,AV.leafy,AV.pureLeaf,AV.pureB,Y3,lay,Zb,Za,Zk,reduceCtorEq,Nat.reduceEqDiff,Nat.reduceAdd,Zf,Zj,Zg,Zh,Zi,Zy,Z3,Zn,Zs,Zt,ite_true,ite_false,Option.some.injEq,Prod.mk.injEq,Zu,Zx,Zv,and_self,exists_eq_left',Y1,J9,Qf,Y4,Yy,Yp,Yq,Zo,Zd,Nat.reduceBEq,Yj,Z4,beq_self_eq_true,Zq,Qm,Qo,Y5,Q4,Q5,Yu,Yv,Yw,Ze,cutL,Z1,Zl,Zm,Z2,Yk,Yc,Nat.reduceLeDiff,Yi,Ya,Yb,Zr,Qp,Ye,Y8,Qx,Qy,Z7,↓J7,muC,↓Ju,Qd,Qn,Jv,tk3,tk4,tk9,tk22,tk28,tz28,dz28,tk31,dz31,tk33,tk38,tz38,dz38,tk41,tk57,dz57,kMvN,kMv0,kMvNB,aMove,aMv,kSearchA,lq125__123]
    (repeat' first | exact hf | exact hn | exact ⟨hf, hn⟩ | (show dynOrd _ _ = true; kernel_rfl) | exact subX_eq rfl rfl | exact trivial | apply And.intro | rfl | omega)
  by_cases h40 : name = [40]
  · subst h40
    rw [if_neg (by decide), if_neg (by decide), if_pos (by decide)]
    simp (maxSteps := 4000000) only [↓Qr,↓Yz,↓Yt,↓Yr,↓Yo,↓Z6,Yx,↓Ym,↓Yh,Zz,Yl,Yd,gw,Z0,Yg,↓chk,Qs,noW,↓Jc,↓Qt,↓Qu,Q6,↓Zw,↓Qe,↓Qb,↓Y6,Jd,Pg.look,Jz,Jq,Zc,false_implies,implies_true,true_and,and_true,forall_const,Je,Qv,Qw,J0,strV,Y9,Qg,Jw,hdS,Qh,Jx,Z8,Z5,Z9,Yn,Nat.reduceAdd,ofV,Y7,J1,J2,J3,Jf,Jg,Qz,Qi,Jh,Ji,Jj,Qa,Qj,Qk,Jb,Ql,Jk,Jl,frzL,Jm,Jn,Pg.freeze,Zp,Q0,Jy,Q1,Yf,Jo,subL,Y0,Q7,↓Q9,Jr,Js,Jt,Y2,Ja,Jp,J4,Qc,Ys,J5,Q2,Q3,AV.cells,TK.cells,AV.definite,AV.leaf,AV.leafy,AV.pureLeaf,AV.pureB,Y3,lay,Zb,Za,Zk,reduceCtorEq,Nat.reduceEqDiff,Nat.reduceAdd,Zf,Zj,Zg,Zh,Zi,Zy,Z3,Zn,Zs,Zt,ite_true,ite_false,Option.some.injEq,Prod.mk.injEq,Zu,Zx,Zv,and_self,exists_eq_left',Y1,Qf,Y4,Yy,Yp,Yq,Zo,Zd,Nat.reduceBEq,Yj,Z4,beq_self_eq_true,Zq,Qm,Qo,Y5,Q4,Q5,Yu,Yv,Yw,Ze,cutL,Z1,Zl,Zm,Z2,Yk,Yc,Nat.reduceLeDiff,Yi,Ya,Yb,Zr,Qp,Ye,Y8,Qx,Qy,Z7,↓J7,muC,↓Ju,Qd,Qn,Jv,tk3,tk9,tk22,tk28,tz28,dz28,tk31,dz31,tk33,tk38,tz38,dz38,tk41,tk57,dz57,kMvN,kMv0,kMvNB,aMove,aMv,kSearchA,lq40__123,lq40__125]
    (repeat' first | exact hf | exact hn | exact ⟨hf, hn⟩ | (show dynOrd _ _ = true; kernel_rfl) | exact subX_eq rfl rfl | exact trivial | apply And.intro | rfl | omega)
  by_cases h41 : name = [41]
  · subst h41
    rw [if_neg (by decide), if_neg (by decide), if_neg (by decide), if_pos (by decide)]
    simp (maxSteps := 4000000) only [↓Qr,↓Yz,↓Yt,↓Yr,↓Yo,↓Z6,Yx,↓Ym,↓Yh,Zz,Yl,Yd,gw,Z0,Yg,↓chk,Qs,noW,↓Jc,↓Qt,↓Qu,Q6,↓Zw,↓Qe,↓Qb,↓Y6,Jd,Pg.look,Jz,Jq,Zc,false_implies,implies_true,true_and,and_true,forall_const,Je,Qv,Qw,J0,strV,Y9,Qg,Jw,hdS,Qh,Jx,Z8,Z5,Z9,Yn,Nat.reduceAdd,ofV,Y7,J1,J2,J3,Jf,Jg,Qz,Qi,Jh,Ji,Jj,Qa,Qj,Qk,Jb,Ql,Jk,Jl,frzL,Jm,Jn,Pg.freeze,Zp,Q0,Jy,Q1,Yf,Jo,subL,Y0,Q7,↓Q9,Jr,Js,Jt,Y2,Ja,Jp,J4,Qc,Ys,J5,Q2,Q3,AV.cells,TK.cells,AV.definite,AV.leaf,AV.leafy,AV.pureLeaf,AV.pureB,Y3,lay,Zb,Za,Zk,reduceCtorEq,Nat.reduceEqDiff,Nat.reduceAdd,Zf,Zj,Zg,Zh,Zi,Zy,Z3,Zn,Zs,Zt,ite_true,ite_false,Option.some.injEq,Prod.mk.injEq,Zu,Zx,Zv,and_self,exists_eq_left',Y1,J9,Qf,Y4,Yy,Yp,Yq,Zo,Zd,Nat.reduceBEq,Yj,Z4,beq_self_eq_true,Zq,Qm,Qo,Y5,Q4,Q5,Yu,Yv,Yw,Ze,cutL,Z1,Zl,Zm,Z2,Yk,Yc,Nat.reduceLeDiff,Yi,Ya,Yb,Zr,Qp,Ye,Y8,Qx,Qy,Z7,↓J7,muC,↓Ju,Qd,Qn,Jv,tk3,tk4,tk9,tk22,tk28,tz28,dz28,tk31,dz31,tk33,tk38,tz38,dz38,tk41,tk57,dz57,kMvN,kMv0,kMvNB,aMove,aMv,kSearchA,lq41__123,lq41__125,lq41__40]
    (repeat' first | exact hf | exact hn | exact ⟨hf, hn⟩ | (show dynOrd _ _ = true; kernel_rfl) | exact subX_eq rfl rfl | exact trivial | apply And.intro | rfl | omega)
  by_cases h37 : name = [37]
  · subst h37
    rw [if_neg (by decide), if_neg (by decide), if_neg (by decide), if_neg (by decide), if_pos (by decide)]
    simp (maxSteps := 4000000) only [↓Qr,↓Yz,↓Yt,↓Yr,↓Yo,↓Z6,Yx,↓Ym,↓Yh,Zz,Yl,Yd,gw,Z0,Yg,↓chk,Qs,noW,↓Jc,↓Qt,↓Qu,Q6,↓Zw,↓Qe,↓Qb,↓Y6,Jd,Pg.look,Jz,Jq,Zc,false_implies,implies_true,true_and,and_true,forall_const,Je,Qv,Qw,J0,strV,Y9,Qg,Jw,hdS,Qh,Jx,Z8,Z5,Z9,Yn,Nat.reduceAdd,ofV,Y7,J1,J2,J3,Jf,Jg,Qz,Qi,Jh,Ji,Jj,Qa,Qj,Qk,Jb,Ql,Jk,Jl,frzL,Jm,Jn,Pg.freeze,Zp,Q0,Jy,Q1,Yf,Jo,subL,Y0,Q7,↓Q9,Jr,Js,Jt,Y2,Ja,Jp,J4,Qc,Ys,J5,Q2,Q3,AV.cells,TK.cells,AV.definite,AV.leaf,AV.leafy,AV.pureLeaf,AV.pureB,Y3,lay,Zb,Za,Zk,reduceCtorEq,Nat.reduceEqDiff,Nat.reduceAdd,Zf,Zj,Zg,Zh,Zi,Zy,Z3,Zn,Zs,Zt,ite_true,ite_false,Option.some.injEq,Prod.mk.injEq,Zu,Zx,Zv,and_self,exists_eq_left',Y1,Qf,Y4,Yy,Yp,Yq,Zo,Zd,Nat.reduceBEq,Yj,Z4,beq_self_eq_true,Zq,Qm,Qo,Y5,Q4,Q5,Yu,Yv,Yw,Ze,cutL,Z1,Zl,Zm,Z2,Yk,Yc,Nat.reduceLeDiff,Yi,Ya,Yb,Zr,Qp,Ye,Y8,Qx,Qy,Z7,↓J7,muC,↓Ju,Qd,Qn,Jv,tk3,tk9,tk22,tk28,tz28,dz28,tk31,dz31,tk33,tk38,tz38,dz38,tk41,tk57,dz57,kMvN,kMv0,kMvNB,aMove,aMv,kSearchA,lq37__123,lq37__125,lq37__40,lq37__41]
    (repeat' first | exact hf | exact hn | exact ⟨hf, hn⟩ | (show dynOrd _ _ = true; kernel_rfl) | exact subX_eq rfl rfl | exact trivial | apply And.intro | rfl | omega)
  have e123 := str_ne h123
  have e125 := str_ne h125
  have e40 := str_ne h40
  have e41 := str_ne h41
  have e37 := str_ne h37
  rw [if_neg (h123)]
  rw [if_neg (h125)]
  rw [if_neg (h40)]
  rw [if_neg (h41)]
  rw [if_neg (h37)]
  simp (maxSteps := 4000000) only [↓Qr,↓Xa,↓Yz,↓Yt,↓Yr,↓Yo,↓Z6,Yx,↓Yh,Zz,Yl,Yd,gw,Z0,Yg,↓chk,Qs,noW,↓Jc,↓Qt,↓Qu,Q6,↓Zw,↓Xj,↓Y6,Jd,Pg.look,Jz,Jq,J6,Zc,implies_true,true_and,and_true,forall_const,Je,Qv,Qw,J0,strV,Y9,Qg,Jw,hdS,Qh,Jx,Z8,Z5,Z9,Yn,Nat.reduceAdd,ofV,Y7,J1,J2,J3,Jf,Jg,Qz,Qi,Jh,Ji,Jj,Qa,Qj,Qk,Jb,Ql,Jk,Jl,frzL,Jm,Jn,Pg.freeze,Zp,Q0,Jy,Q1,Yf,Jo,subL,Y0,Q7,↓Q9,Ja,Jp,J4,Qc,Ys,J5,AV.cells,TK.cells,AV.definite,AV.leaf,AV.leafy,AV.pureLeaf,AV.pureB,Y3,lay,Zb,Za,Zk,reduceCtorEq,Nat.reduceEqDiff,Nat.reduceAdd,Zf,Zj,Zg,Zh,Zi,Zy,Z3,Zn,Zs,Zt,ite_true,ite_false,Option.some.injEq,Zu,Zx,Zv,and_self,exists_eq_left',Y1,J9,J8,Xd,Qf,Y4,Yy,Yp,Yq,Zo,Zd,Nat.reduceBEq,Yj,Z4,beq_self_eq_true,Zq,Qm,Ze,cutL,Z1,Zl,Zm,Z2,Yk,Yc,Xg,Nat.reduceLeDiff,Yi,Ya,Yb,Zr,Ye,Y8,Qx,Qy,Z7,↓J7,muC,↓callU,↓callUV,↓callUH,↓callUF,Qd,Qn,runM_eq,mkM_some,hNil_dec,hCons_dec,app3_some,hP_dec,hP1_some,hP2_some,hB1_some,hB2_arr,hBox_dec,hAgg_dec,pickF,nodupB,somes,fresh,gids,putO,ren,renL,renO,Jv,tk3,tk9,tk22,tk28,tz28,dz28,tk31,dz31,tk33,tk38,tz38,dz38,tk41,tk57,dz57,kMvN,kMv0,kMvNB,aMove,aMv,kSearchA,e123,e125,e40,e41,e37]
  (repeat' first | exact hf | exact hn | exact ⟨hf, hn⟩ | (show dynOrd _ _ = true; kernel_rfl) | exact subX_eq rfl rfl | exact trivial | apply And.intro | rfl | omega)
def kTextA : C1 := C1.mby (hCons (hAgg lAskd) hNil) (fun d => okText d.1.1 ∧ d.1.2.2.2.2.2.2.2.2.1 ≤ 9223372036854775807 ∧ d.1.2.2.2.1 ≤ 9223372036854775807) (fun d => aMove (textA d.1.1 d.1.2.1 (d.1.2.2.1, d.1.2.2.2.1, d.1.2.2.2.2.1, d.1.2.2.2.2.2.1, d.1.2.2.2.2.2.2.1, d.1.2.2.2.2.2.2.2.1) d.1.2.2.2.2.2.2.2.2.1 d.1.2.2.2.2.2.2.2.2.2.1).1) (fun d => cxH (textA d.1.1 d.1.2.1 (d.1.2.2.1, d.1.2.2.2.1, d.1.2.2.2.2.1, d.1.2.2.2.2.2.1, d.1.2.2.2.2.2.2.1, d.1.2.2.2.2.2.2.2.1) d.1.2.2.2.2.2.2.2.2.1 d.1.2.2.2.2.2.2.2.2.2.1).2)
theorem ok_textA : C1OK Try.prog 78 kTextA := C1OK.mby (by kernel_rfl) (fun d h => calls_textA d.1.1 d.1.2.1 (d.1.2.2.1, d.1.2.2.2.1, d.1.2.2.2.2.1, d.1.2.2.2.2.2.1, d.1.2.2.2.2.2.2.1, d.1.2.2.2.2.2.2.2.1) d.1.2.2.2.2.2.2.2.2.1 d.1.2.2.2.2.2.2.2.2.2.1 h.1 h.2.1 h.2.2) (fun _ _ => Nat.le_refl _)
end Go.Pg
namespace Go.Pg
open Go Go.Proofs

def numF (cn none_ : Int) : Int := if cn = 0 then none_ else cn
set_option maxHeartbeats 4000000 in
theorem calls_number (ls : Ls) (x : Cx) (c : Cm) (n : Int) (op : Bool) (k : Int) : CallsR Try.prog 76 [aAsk ls c n op, .int .i64 k] (cxH x) (.int .i64 (numF c.2.1 k)) (cxH x) := by
  refine callsR_of (mrg := true) (dyn := []) (CtrOK.nil _) mixed Try.func76 rfl (by simp [Try.ntmps76]) (by kernel_rfl) ?_
  rw [show Try.f76.results.toList = [.tmp 4] from by kernel_rfl]
  obtain ⟨rg, cn, opr, name, arg, text⟩ := c
  unfold numF
  dsimp only
  by_cases h : cn = 0
  · have c1 : (cn == 0) = true := beq_iff_eq.2 h
    rw [if_pos h]
    simp (maxSteps := 4000000) only [↓Qr,↓Yz,↓Yt,↓Yr,↓Z6,↓Ym,Zz,Yl,Yd,gw,Z0,Yg,↓chk,Qs,noW,↓Jc,↓Qt,↓Qu,Q6,↓Zw,↓Qe,↓Y6,Jd,Pg.look,Jz,intOp,Zc,implies_true,true_and,and_true,Je,Qv,Qw,J0,intV,Y9,Qg,Jw,hdS,Qh,Jx,Z8,Z5,Z9,Yn,Nat.reduceAdd,ofV,Y7,J1,J2,J3,Jf,Jg,Qz,Qi,Jh,Ji,Jj,Qa,assocN,Qj,Qk,Ql,Jk,Jl,Jm,Jn,Pg.freeze,Zp,Q0,Jy,Q1,Yf,Jo,Y0,Q7,AV.cells,TK.cells,AV.definite,AV.pureLeaf,AV.pureB,Zb,Za,Zk,reduceCtorEq,Nat.reduceEqDiff,Nat.reduceAdd,Zf,Zj,Zg,Zh,Zi,Zt,ite_true,ite_false,Option.some.injEq,Zu,Zx,Zv,and_self,exists_eq_left',Zd,Ze,Zr,Ye,Y8,Qx,Qy,Z7,tk3,tk33,tk57,dz57,c1]
    (repeat' first | (show dynOrd _ _ = true; kernel_rfl) | exact subX_eq rfl rfl | exact trivial | apply And.intro | rfl | omega)
  · have c1 : (cn == 0) = false := beq_eq_false_iff_ne.2 h
    rw [if_neg h]
    simp (maxSteps := 4000000) only [↓Qr,↓Xa,↓Yz,↓Yt,↓Yr,↓Z6,↓Yh,Zz,Yl,Yd,gw,Z0,Yg,↓chk,Qs,noW,↓Jc,↓Qt,↓Qu,Q6,↓Zw,↓Y6,Jd,Pg.look,Jz,intOp,Zc,implies_true,true_and,and_true,Je,Qv,Qw,J0,intV,Y9,Qg,Jw,hdS,Qh,Jx,Z8,Z5,Z9,Yn,Nat.reduceAdd,ofV,Y7,J1,J2,J3,Jf,Jg,Qz,Qi,Jh,Ji,Jj,Qa,assocN,Qj,Qk,Ql,Jk,Jl,Jm,Jn,Pg.freeze,Zp,Q0,Jy,Q1,Yf,Jo,Y0,Q7,AV.cells,TK.cells,AV.definite,AV.pureLeaf,AV.pureB,Zb,Za,Zk,reduceCtorEq,Nat.reduceEqDiff,Nat.reduceAdd,Zf,Zj,Zg,Zh,Zi,Zt,ite_true,ite_false,Option.some.injEq,Zu,Zx,Zv,and_self,exists_eq_left',Zd,Ze,Zr,Ye,Y8,Qx,Qy,Z7,tk3,tk33,tk57,dz57,c1]
    (repeat' first | (show dynOrd _ _ = true; kernel_rfl) | exact subX_eq rfl rfl | exact trivial | apply And.intro | rfl | omega)
def kNumber : C1 := C1.mby (hCons (hAgg lAskd) (hCons (hP .id (cInt .i64)) hNil)) (fun _ => True) (fun d => .int .i64 (numF d.1.2.2.2.1 d.2.1)) (fun d => cxH d.1.2.1)
theorem ok_number : C1OK Try.prog 76 kNumber := C1OK.mby (by kernel_rfl) (fun d _ => calls_number d.1.1 d.1.2.1 (d.1.2.2.1, d.1.2.2.2.1, d.1.2.2.2.2.1, d.1.2.2.2.2.2.1, d.1.2.2.2.2.2.2.1, d.1.2.2.2.2.2.2.2.1) d.1.2.2.2.2.2.2.2.2.1 d.1.2.2.2.2.2.2.2.2.2.1 d.2.1) (fun _ _ => Nat.le_refl _)
theorem numF_le {cn k : Int} (h1 : cn ≤ 9223372036854775807) (h2 : k ≤ 9223372036854775807) : numF cn k ≤ 9223372036854775807 := by unfold numF; split <;> assumption

theorem lq107__106 : (([107] : List UInt8) == [106]) = false := rfl
theorem lq43__106 : (([43] : List UInt8) == [106]) = false := rfl
theorem lq43__107 : (([43] : List UInt8) == [107]) = false := rfl
theorem lq45__106 : (([45] : List UInt8) == [106]) = false := rfl
theorem lq45__107 : (([45] : List UInt8) == [107]) = false := rfl
theorem lq45__43 : (([45] : List UInt8) == [43]) = false := rfl
theorem lq95__106 : (([95] : List UInt8) == [106]) = false := rfl
theorem lq95__107 : (([95] : List UInt8) == [107]) = false := rfl
theorem lq95__43 : (([95] : List UInt8) == [43]) = false := rfl
theorem lq95__45 : (([95] : List UInt8) == [45]) = false := rfl
theorem lq71__106 : (([71] : List UInt8) == [106]) = false := rfl
theorem lq71__107 : (([71] : List UInt8) == [107]) = false := rfl
theorem lq71__43 : (([71] : List UInt8) == [43]) = false := rfl
theorem lq71__45 : (([71] : List UInt8) == [45]) = false := rfl
theorem lq71__95 : (([71] : List UInt8) == [95]) = false := rfl
theorem lq103_103__106 : (([103, 103] : List UInt8) == [106]) = false := rfl
theorem lq103_103__107 : (([103, 103] : List UInt8) == [107]) = false := rfl
theorem lq103_103__43 : (([103, 103] : List UInt8) == [43]) = false := rfl
theorem lq103_103__45 : (([103, 103] : List UInt8) == [45]) = false := rfl
theorem lq103_103__95 : (([103, 103] : List UInt8) == [95]) = false := rfl
theorem lq103_103__71 : (([103, 103] : List UInt8) == [71]) = false := rfl
theorem lq72__106 : (([72] : List UInt8) == [106]) = false := rfl
theorem lq72__107 : (([72] : List UInt8) == [107]) = false := rfl
theorem lq72__43 : (([72] : List UInt8) == [43]) = false := rfl
theorem lq72__45 : (([72] : List UInt8) == [45]) = false := rfl
theorem lq72__95 : (([72] : List UInt8) == [95]) = false := rfl
theorem lq72__71 : (([72] : List UInt8) == [71]) = false := rfl
theorem lq72__103_103 : (([72] : List UInt8) == [103, 103]) = false := rfl
theorem lq77__106 : (([77] : List UInt8) == [106]) = false := rfl
theorem lq77__107 : (([77] : List UInt8) == [107]) = false := rfl
theorem lq77__43 : (([77] : List UInt8) == [43]) = false := rfl
theorem lq77__45 : (([77] : List UInt8) == [45]) = false := rfl
theorem lq77__95 : (([77] : List UInt8) == [95]) = false := rfl
theorem lq77__71 : (([77] : List UInt8) == [71]) = false := rfl
theorem lq77__103_103 : (([77] : List UInt8) == [103, 103]) = false := rfl
theorem lq77__72 : (([77] : List UInt8) == [72]) = false := rfl
theorem lq76__106 : (([76] : List UInt8) == [106]) = false := rfl
theorem lq76__107 : (([76] : List UInt8) == [107]) = false := rfl
theorem lq76__43 : (([76] : List UInt8) == [43]) = false := rfl
theorem lq76__45 : (([76] : List UInt8) == [45]) = false := rfl
theorem lq76__95 : (([76] : List UInt8) == [95]) = false := rfl
theorem lq76__71 : (([76] : List UInt8) == [71]) = false := rfl
theorem lq76__103_103 : (([76] : List UInt8) == [103, 103]) = false := rfl
theorem lq76__72 : (([76] : List UInt8) == [72]) = false := rfl
theorem lq76__77 : (([76] : List UInt8) == [77]) = false := rfl
def vertA (ls : Ls) (x : Cx) (c : Cm) (n : Int) (op : Bool) : Res :=
  if c.2.2.2.1 = [106] then (vertP ls (curOf x) n x.2.2.1 false, x)
  else   if c.2.2.2.1 = [107] then (vertP ls (curOf x) n x.2.2.1 true, x)
  else   if c.2.2.2.1 = [43] then (plusP ls (curOf x) n, x)
  else   if c.2.2.2.1 = [45] then (minusP ls (curOf x) n, x)
  else   if c.2.2.2.1 = [95] then (underP ls (curOf x) n, x)
  else   if c.2.2.2.1 = [71] then (gotoP ls (curOf x) (numF c.2.1 ls.length), x)
  else   if c.2.2.2.1 = [103, 103] then (gotoP ls (curOf x) (numF c.2.1 1), x)
  else   if c.2.2.2.1 = [72] then (screenP ls (curOf x) x.2.2.2.1 72 n, x)
  else   if c.2.2.2.1 = [77] then (screenP ls (curOf x) x.2.2.2.1 77 n, x)
  else   if c.2.2.2.1 = [76] then (screenP ls (curOf x) x.2.2.2.1 76 n, x)
  else textA ls x c n op

set_option maxRecDepth 20000 in
set_option maxHeartbeats 8000000 in
theorem calls_vertA (ls : Ls) (x : Cx) (c : Cm) (n : Int) (op : Bool) (hf : okText ls) (hn : n ≤ 9223372036854775807) (hcn : c.2.1 ≤ 9223372036854775807) : CallsR Try.prog 62 [aAsk ls c n op] (cxH x) (aMove (vertA ls x c n op).1) (cxH (vertA ls x c n op).2) := by
  refine callsR_of (mrg := true) (dyn := [1, 14, 16]) (CtrOK.cons ok_Down (CtrOK.cons ok_Up (CtrOK.cons ok_Plus (CtrOK.cons ok_Minus (CtrOK.cons ok_Under (CtrOK.cons ok_Goto (CtrOK.cons ok_Screen (CtrOK.cons ok_number (CtrOK.cons ok_textA (CtrOK.nil _)))))))))) mixed Try.func62 rfl (by simp [Try.ntmps62]) (by kernel_rfl) ?_
  rw [show Try.f62.results.toList = [.cell 2 38, .tmp 3] from by kernel_rfl]
  have hll := hf.1
  obtain ⟨x1, x2, w, t, ky, kc, fd, bk⟩ := x
  obtain ⟨rg, cn, opr, name, arg, text⟩ := c
  unfold vertA curOf
  dsimp only
  by_cases h106 : name = [106]
  · subst h106
    rw [if_pos (by decide)]
    simp (maxSteps := 4000000) only [↓Qr,↓Yz,↓Yt,↓Yr,↓Yo,↓Z6,Yx,↓Ym,Zz,Yl,Yd,gw,Z0,Yg,↓chk,Qs,noW,↓Jc,↓Qt,↓Qu,Q6,↓Zw,↓Qe,↓Qb,↓Y6,Jd,Pg.look,Jz,Jq,Zc,false_implies,implies_true,true_and,and_true,forall_const,Je,Qv,Qw,J0,strV,Y9,Qg,Jw,hdS,Qh,Jx,Z8,Z5,Z9,Yn,Nat.reduceAdd,ofV,Y7,J1,J2,J3,Jf,Jg,Qz,Qi,Jh,Ji,Jj,Qa,Qj,Qk,Jb,Ql,Jk,Jl,frzL,Jm,Jn,Pg.freeze,Zp,Q0,Jy,Q1,Yf,Jo,subL,Y0,Q7,↓Q9,Jr,Js,Jt,Y2,Ja,Jp,J4,Qc,Ys,J5,Q2,Q3,AV.cells,TK.cells,AV.definite,AV.leaf,AV.leafy,AV.pureLeaf,AV.pureB,Y3,lay,Zb,Za,Zk,reduceCtorEq,Nat.reduceEqDiff,Nat.reduceAdd,Zf,Zj,Zg,Zh,Zi,Zy,Z3,Zn,Zs,Zt,ite_true,ite_false,Option.some.injEq,Q8,Qq,Prod.mk.injEq,Zu,Zx,Zv,and_self,exists_eq_left',Y1,Qf,Y4,Yy,Yp,Yq,Zo,Zd,Nat.reduceBEq,Yj,Z4,beq_self_eq_true,Zq,Qm,Qo,Y5,Q4,Q5,Yu,Yv,Yw,Ze,cutL,Z1,Zl,Zm,Z2,Yk,Yc,Nat.reduceLeDiff,Yi,Ya,Yb,Zr,Qp,Ye,Y8,Qx,Qy,Xb,Z7,pureC,↓J7,muC,↓Ju,Qd,Qn,Jv,tk3,tk9,tk22,tk28,tz28,dz28,tk31,dz31,tk33,tk38,tz38,dz38,tk41,tk57,dz57,kMvN,kVert,kScreen,kNumber,aMove,aMv,kTextA]
    (repeat' first | exact hf | exact hn | exact ⟨hf, hn⟩ | exact numF_le hcn (by omega) | (show dynOrd _ _ = true; kernel_rfl) | exact subX_eq rfl rfl | exact trivial | apply And.intro | rfl | omega)
  by_cases h107 : name = [107]
  · subst h107
    rw [if_neg (by decide), if_pos (by decide)]
    simp (maxSteps := 4000000) only [↓Qr,↓Yz,↓Yt,↓Yr,↓Yo,↓Z6,Yx,↓Ym,↓Yh,Zz,Yl,Yd,gw,Z0,Yg,↓chk,Qs,noW,↓Jc,↓Qt,↓Qu,Q6,↓Zw,↓Qe,↓Qb,↓Y6,Jd,Pg.look,Jz,Jq,Zc,false_implies,implies_true,true_and,and_true,forall_const,Je,Qv,Qw,J0,strV,Y9,Qg,Jw,hdS,Qh,Jx,Z8,Z5,Z9,Yn,Nat.reduceAdd,ofV,Y7,J1,J2,J3,Jf,Jg,Qz,Qi,Jh,Ji,Jj,Qa,Qj,Qk,Jb,Ql,Jk,Jl,frzL,Jm,Jn,Pg.freeze,Zp,Q0,Jy,Q1,Yf,Jo,subL,Y0,Q7,↓Q9,Jr,Js,Jt,Y2,Ja,Jp,J4,Qc,Ys,J5,Q2,Q3,AV.cells,TK.cells,AV.definite,AV.leaf,AV.leafy,AV.pureLeaf,AV.pureB,Y3,lay,Zb,Za,Zk,reduceCtorEq,Nat.reduceEqDiff,Nat.reduceAdd,Zf,Zj,Zg,Zh,Zi,Zy,Z3,Zn,Zs,Zt,ite_true,ite_false,Option.some.injEq,Q8,Qq,Prod.mk.injEq,Zu,Zx,Zv,and_self,exists_eq_left',Y1,Qf,Y4,Yy,Yp,Yq,Zo,Zd,Nat.reduceBEq,Yj,Z4,beq_self_eq_true,Zq,Qm,Qo,Y5,Q4,Q5,Yu,Yv,Yw,Ze,cutL,Z1,Zl,Zm,Z2,Yk,Yc,Nat.reduceLeDiff,Yi,Ya,Yb,Zr,Qp,Ye,Y8,Qx,Qy,Xb,Z7,pureC,↓J7,muC,↓Ju,Qd,Qn,Jv,tk3,tk9,tk22,tk28,tz28,dz28,tk31,dz31,tk33,tk38,tz38,dz38,tk41,tk57,dz57,kMvN,kVert,kScreen,kNumber,aMove,aMv,kTextA,lq107__106]
    (repeat' first | exact hf | exact hn | exact ⟨hf, hn⟩ | exact numF_le hcn (by omega) | (show dynOrd _ _ = true; kernel_rfl) | exact subX_eq rfl rfl | exact trivial | apply And.intro | rfl | omega)
  by_cases h43 : name = [43]
  · subst h43
    rw [if_neg (by decide), if_neg (by decide), if_pos (by decide)]
    simp (maxSteps := 4000000) only [↓Qr,↓Yz,↓Yt,↓Yr,↓Yo,↓Z6,Yx,↓Ym,↓Yh,Zz,Yl,Yd,gw,Z0,Yg,↓chk,Qs,noW,↓Jc,↓Qt,↓Qu,Q6,↓Zw,↓Qe,↓Qb,↓Y6,Jd,Pg.look,Jz,Jq,Zc,false_implies,implies_true,true_and,and_true,forall_const,Je,Qv,Qw,J0,strV,Y9,Qg,Jw,hdS,Qh,Jx,Z8,Z5,Z9,Yn,Nat.reduceAdd,ofV,Y7,J1,J2,J3,Jf,Jg,Qz,Qi,Jh,Ji,Jj,Qa,Qj,Qk,Jb,Ql,Jk,Jl,frzL,Jm,Jn,Pg.freeze,Zp,Q0,Jy,Q1,Yf,Jo,subL,Y0,Q7,↓Q9,Jr,Js,Jt,Y2,Ja,Jp,J4,Qc,Ys,J5,Q2,Q3,AV.cells,TK.cells,AV.definite,AV.leaf,AV.leafy,AV.pureLeaf,AV.pureB,Y3,lay,Zb,Za,Zk,reduceCtorEq,Nat.reduceEqDiff,Nat.reduceAdd,Zf,Zj,Zg,Zh,Zi,Zy,Z3,Zn,Zs,Zt,ite_true,ite_false,Option.some.injEq,Prod.mk.injEq,Zu,Zx,Zv,and_self,exists_eq_left',Y1,Qf,Y4,Yy,Yp,Yq,Zo,Zd,Nat.reduceBEq,Yj,Z4,beq_self_eq_true,Zq,Qm,Qo,Y5,Q4,Q5,Yu,Yv,Yw,Ze,cutL,Z1,Zl,Zm,Z2,Yk,Yc,Nat.reduceLeDiff,Yi,Ya,Yb,Zr,Qp,Ye,Y8,Qx,Qy,Z7,↓J7,muC,↓Ju,Qd,Qn,Jv,tk3,tk9,tk22,tk28,tz28,dz28,tk31,dz31,tk33,tk38,tz38,dz38,tk41,tk57,dz57,kMvN,kVert,kScreen,kNumber,aMove,aMv,kTextA,lq43__106,lq43__107]
    (repeat' first | exact hf | exact hn | exact ⟨hf, hn⟩ | exact numF_le hcn (by omega) | (show dynOrd _ _ = true; kernel_rfl) | exact subX_eq rfl rfl | exact trivial | apply And.intro | rfl | omega)
  by_cases h45 : name = [45]
  · subst h45
    rw [if_neg (by decide), if_neg (by decide), if_neg (by decide), if_pos (by decide)]
    simp (maxSteps := 4000000) only [↓Qr,↓Yz,↓Yt,↓Yr,↓Yo,↓Z6,Yx,↓Ym,↓Yh,Zz,Yl,Yd,gw,Z0,Yg,↓chk,Qs,noW,↓Jc,↓Qt,↓Qu,Q6,↓Zw,↓Qe,↓Qb,↓Y6,Jd,Pg.look,Jz,Jq,Zc,false_implies,implies_true,true_and,and_true,forall_const,Je,Qv,Qw,J0,strV,Y9,Qg,Jw,hdS,Qh,Jx,Z8,Z5,Z9,Yn,Nat.reduceAdd,ofV,Y7,J1,J2,J3,Jf,Jg,Qz,Qi,Jh,Ji,Jj,Qa,Qj,Qk,Jb,Ql,Jk,Jl,frzL,Jm,Jn,Pg.freeze,Zp,Q0,Jy,Q1,Yf,Jo,subL,Y0,Q7,↓Q9,Jr,Js,Jt,Y2,Ja,Jp,J4,Qc,Ys,J5,Q2,Q3,AV.cells,TK.cells,AV.definite,AV.leaf,AV.leafy,AV.pureLeaf,AV.pureB,Y3,lay,Zb,Za,Zk,reduceCtorEq,Nat.reduceEqDiff,Nat.reduceAdd,Zf,Zj,Zg,Zh,Zi,Zy,Z3,Zn,Zs,Zt,ite_true,ite_false,Option.some.injEq,Prod.mk.injEq,Zu,Zx,Zv,and_self,exists_eq_left',Y1,Qf,Y4,Yy,Yp,Yq,Zo,Zd,Nat.reduceBEq,Yj,Z4,beq_self_eq_true,Zq,Qm,Qo,Y5,Q4,Q5,Yu,Yv,Yw,Ze,cutL,Z1,Zl,Zm,Z2,Yk,Yc,Nat.reduceLeDiff,Yi,Ya,Yb,Zr,Qp,Ye,Y8,Qx,Qy,Z7,↓J7,muC,↓Ju,Qd,Qn,Jv,tk3,tk9,tk22,tk28,tz28,dz28,tk31,dz31,tk33,tk38,tz38,dz38,tk41,tk57,dz57,kMvN,kVert,kScreen,kNumber,aMove,aMv,kTextA,lq45__106,lq45__107,lq45__43]
    (repeat' first | exact hf | exact hn | exact ⟨hf, hn⟩ | exact numF_le hcn (by omega) | (show dynOrd _ _ = true; kernel_rfl) | exact subX_eq rfl rfl | exact trivial | apply And.intro | rfl | omega)
  by_cases h95 : name = [95]
  · subst h95
    rw [if_neg (by decide), if_neg (by decide), if_neg (by decide), if_neg (by decide), if_pos (by decide)]
    simp (maxSteps := 4000000) only [↓Qr,↓Yz,↓Yt,↓Yr,↓Yo,↓Z6,Yx,↓Ym,↓Yh,Zz,Yl,Yd,gw,Z0,Yg,↓chk,Qs,noW,↓Jc,↓Qt,↓Qu,Q6,↓Zw,↓Qe,↓Qb,↓Y6,Jd,Pg.look,Jz,Jq,Zc,false_implies,implies_true,true_and,and_true,forall_const,Je,Qv,Qw,J0,strV,Y9,Qg,Jw,hdS,Qh,Jx,Z8,Z5,Z9,Yn,Nat.reduceAdd,ofV,Y7,J1,J2,J3,Jf,Jg,Qz,Qi,Jh,Ji,Jj,Qa,Qj,Qk,Jb,Ql,Jk,Jl,frzL,Jm,Jn,Pg.freeze,Zp,Q0,Jy,Q1,Yf,Jo,subL,Y0,Q7,↓Q9,Jr,Js,Jt,Y2,Ja,Jp,J4,Qc,Ys,J5,Q2,Q3,AV.cells,TK.cells,AV.definite,AV.leaf,AV.leafy,AV.pureLeaf,AV.pureB,Y3,lay,Zb,Za,Zk,reduceCtorEq,Nat.reduceEqDiff,Nat.reduceAdd,Zf,Zj,Zg,Zh,Zi,Zy,Z3,Zn,Zs,Zt,ite_true,ite_false,Option.some.injEq,Prod.mk.injEq,Zu,Zx,Zv,and_self,exists_eq_left',Y1,Qf,Y4,Yy,Yp,Yq,Zo,Zd,Nat.reduceBEq,Yj,Z4,beq_self_eq_true,Zq,Qm,Qo,Y5,Q4,Q5,Yu,Yv,Yw,Ze,cutL,Z1,Zl,Zm,Z2,Yk,Yc,Nat.reduceLeDiff,Yi,Ya,Yb,Zr,Qp,Ye,Y8,Qx,Qy,Z7,↓J7,muC,↓Ju,Qd,Qn,Jv,tk3,tk9,tk22,tk28,tz28,dz28,tk31,dz31,tk33,tk38,tz38,dz38,tk41,tk57,dz57,kMvN,kVert,kScreen,kNumber,aMove,aMv,kTextA,lq95__106,lq95__107,lq95__43,lq95__45]
    (repeat' first | exact hf | exact hn | exact ⟨hf, hn⟩ | exact numF_le hcn (by omega) | (show dynOrd _ _ = true; kernel_rfl) | exact subX_eq rfl rfl | exact trivial | apply And.intro | rfl | omega)
  by_cases h71 : name = [71]
  · subst h71
    rw [if_neg (by decide), if_neg (by decide), if_neg (by decide), if_neg (by decide), if_neg (by decide), if_pos (by decide)]
    simp (maxSteps := 4000000) only [↓Qr,↓Yz,↓Yt,↓Yr,↓Yo,↓Z6,Yx,↓Ym,↓Yh,Zz,Yl,Yd,gw,Z0,Yg,↓chk,Qs,noW,↓Jc,↓Qt,↓Qu,Q6,↓Zw,↓Qe,↓Qb,↓Y6,Jd,Pg.look,Jz,Jq,J6,Zc,implies_true,true_and,and_true,forall_const,Je,Qv,Qw,J0,strV,Y9,Qg,Jw,hdS,Qh,Jx,Z8,Z5,Z9,Yn,Nat.reduceAdd,ofV,Y7,J1,J2,J3,Jf,Jg,Qz,Qi,Jh,Ji,Jj,Qa,Qj,Qk,Jb,Ql,Jk,Jl,frzL,Jm,Jn,Pg.freeze,Zp,Q0,Jy,Q1,Yf,Jo,subL,slen,Y0,Q7,↓Q9,Jr,Js,Jt,Y2,Ja,Jp,J4,Qc,Ys,J5,Q2,Q3,AV.cells,TK.cells,AV.definite,AV.leaf,AV.leafy,AV.pureLeaf,AV.pureB,Y3,lay,Zb,Za,Zk,reduceCtorEq,Nat.reduceEqDiff,Nat.reduceAdd,Zf,Zj,Zg,Zh,Zi,Zy,Z3,Zn,Zs,Zt,ite_true,ite_false,Option.some.injEq,AV.int.injEq,Prod.mk.injEq,Zu,Zx,Zv,and_self,exists_eq_left',List.length_map,Y1,J9,J8,Xd,Qf,Y4,Yy,Yp,Yq,Zo,Zd,Nat.reduceBEq,Yj,Z4,beq_self_eq_true,Bool.or_true,Zq,Qm,Qo,Y5,Q4,Q5,Yu,Yv,Yw,Ze,cutL,Z1,Zl,Zm,Z2,Yk,Yc,Xg,Nat.reduceLeDiff,Yi,Ya,Yb,Zr,Qp,Ye,Y8,Qx,Qy,Z7,↓J7,muC,↓Ju,↓callU,↓callUV,↓callUH,↓callUF,Qd,Qn,runM_eq,mkM_some,hNil_dec,hCons_dec,app3_some,hP_dec,hP1_some,hP2_some,hB1_some,hB2_arr,hBox_dec,hAgg_dec,pickF,nodupB,somes,fresh,gids,putO,ren,renL,renO,Jv,tk3,tk9,tk22,tk28,tz28,dz28,tk31,dz31,tk33,tk38,tz38,dz38,tk41,tk57,dz57,kMvN,kVert,kScreen,kNumber,aMove,aMv,kTextA,lq71__106,lq71__107,lq71__43,lq71__45,lq71__95]
    (repeat' first | exact hf | exact hn | exact ⟨hf, hn⟩ | exact numF_le hcn (by omega) | (show dynOrd _ _ = true; kernel_rfl) | exact subX_eq rfl rfl | exact trivial | apply And.intro | rfl | omega)
  by_cases h103_103 : name = [103, 103]
  · subst h103_103
    rw [if_neg (by decide), if_neg (by decide), if_neg (by decide), if_neg (by decide), if_neg (by decide), if_neg (by decide), if_pos (by decide)]
    simp (maxSteps := 4000000) only [↓Qr,↓Yz,↓Yt,↓Yr,↓Yo,↓Z6,Yx,↓Ym,↓Yh,Zz,Yl,Yd,gw,Z0,Yg,↓chk,Qs,noW,↓Jc,↓Qt,↓Qu,Q6,↓Zw,↓Qe,↓Qb,↓Y6,Jd,Pg.look,Jz,Jq,J6,Zc,implies_true,true_and,and_true,forall_const,Je,Qv,Qw,J0,strV,Y9,Qg,Jw,hdS,Qh,Jx,Z8,Z5,Z9,Yn,Nat.reduceAdd,ofV,Y7,J1,J2,J3,Jf,Jg,Qz,Qi,Jh,Ji,Jj,Qa,Qj,Qk,Jb,Ql,Jk,Jl,frzL,Jm,Jn,Pg.freeze,Zp,Q0,Jy,Q1,Yf,Jo,subL,Y0,Q7,↓Q9,Jr,Js,Jt,Y2,Ja,Jp,J4,Qc,Ys,J5,Q2,Q3,AV.cells,TK.cells,AV.definite,AV.leaf,AV.leafy,AV.pureLeaf,AV.pureB,Y3,lay,Zb,Za,Zk,reduceCtorEq,Nat.reduceEqDiff,Nat.reduceAdd,Zf,Zj,Zg,Zh,Zi,Zy,Z3,Zn,Zs,Zt,ite_true,ite_false,Option.some.injEq,Prod.mk.injEq,Zu,Zx,Zv,and_self,exists_eq_left',Y1,J9,J8,Xd,Qf,Y4,Yy,Yp,Yq,Zo,Zd,Nat.reduceBEq,Yj,Z4,beq_self_eq_true,Bool.or_true,Zq,Qm,Qo,Y5,Q4,Q5,Yu,Yv,Yw,Ze,cutL,Z1,Zl,Zm,Z2,Yk,Yc,Xg,Nat.reduceLeDiff,Yi,Ya,Yb,Zr,Qp,Ye,Y8,Qx,Qy,Z7,↓J7,muC,↓Ju,↓callU,↓callUV,↓callUH,↓callUF,Qd,Qn,runM_eq,mkM_some,hNil_dec,hCons_dec,app3_some,hP_dec,hP1_some,hP2_some,hB1_some,hB2_arr,hBox_dec,hAgg_dec,pickF,nodupB,somes,fresh,gids,putO,ren,renL,renO,Jv,tk3,tk9,tk22,tk28,tz28,dz28,tk31,dz31,tk33,tk38,tz38,dz38,tk41,tk57,dz57,kMvN,kVert,kScreen,kNumber,aMove,aMv,kTextA,lq103_103__106,lq103_103__107,lq103_103__43,lq103_103__45,lq103_103__95,lq103_103__71]
    (repeat' first | exact hf | exact hn | exact ⟨hf, hn⟩ | exact numF_le hcn (by omega) | (show dynOrd _ _ = true; kernel_rfl) | exact subX_eq rfl rfl | exact trivial | apply And.intro | rfl | omega)
  by_cases h72 : name = [72]
  · subst h72
    rw [if_neg (by decide), if_neg (by decide), if_neg (by decide), if_neg (by decide), if_neg (by decide), if_neg (by decide), if_neg (by decide), if_pos (by decide)]
    simp (maxSteps := 4000000) only [↓Qr,↓Xa,↓Yz,↓Yt,↓Yr,↓Yo,↓Z6,Yx,↓Ym,↓Yh,Zz,Yl,Yd,gw,Z0,Yg,↓chk,Qs,noW,↓Jc,↓Qt,↓Qu,Q6,↓Zw,↓Qe,↓Qb,↓Y6,Jd,Pg.look,Jz,Jq,Zc,false_implies,implies_true,true_and,and_true,forall_const,Je,Qv,Qw,J0,strV,Y9,Qg,Jw,hdS,Qh,Jx,Z8,Z5,Z9,Yn,Nat.reduceAdd,ofV,Y7,J1,J2,J3,Jf,Jg,Qz,Qi,Jh,Ji,Jj,Qa,Qj,Qk,Jb,Ql,Jk,Jl,frzL,Jm,Jn,Pg.freeze,Zp,Q0,Jy,Q1,Yf,Jo,subL,Y0,Q7,↓Q9,Jr,Js,Jt,Y2,Ja,Jp,J4,Qc,Ys,J5,Q2,Q3,AV.cells,TK.cells,AV.definite,AV.leaf,AV.leafy,AV.pureLeaf,AV.pureB,Y3,lay,Zb,Za,Zk,reduceCtorEq,Nat.reduceEqDiff,Nat.reduceAdd,Zf,Zj,Zg,Zh,Zi,Zy,Z3,Zn,Zs,Zt,Int.reduceToNat,ite_true,ite_false,Option.some.injEq,Q8,Qq,Prod.mk.injEq,Zu,Zx,Zv,and_self,exists_eq_left',Y1,J8,Int.reduceLE,Qf,Y4,Yy,Yp,Yq,Zo,Zd,Nat.reduceBEq,Yj,Z4,beq_self_eq_true,Zq,Qm,Qo,Y5,Q4,Q5,Yu,Yv,Yw,Ze,cutL,Z1,Zl,Zm,Z2,Yk,Yc,Nat.reduceLeDiff,Yi,Ya,Yb,Zr,Qp,Ye,Y8,Qx,Qy,Xb,Z7,pureC,↓J7,muC,↓Ju,Qd,Qn,Jv,tk3,tk9,tk22,tk28,tz28,dz28,tk31,dz31,tk33,tk38,tz38,dz38,tk41,tk57,dz57,kMvN,kVert,kScreen,kNumber,aMove,aMv,kTextA,lq72__106,lq72__107,lq72__43,lq72__45,lq72__95,lq72__71,lq72__103_103]
    (repeat' first | exact hf | exact hn | exact ⟨hf, hn⟩ | exact numF_le hcn (by omega) | (show dynOrd _ _ = true; kernel_rfl) | exact subX_eq rfl rfl | exact trivial | apply And.intro | rfl | omega)
  by_cases h77 : name = [77]
  · subst h77
    rw [if_neg (by decide), if_neg (by decide), if_neg (by decide), if_neg (by decide), if_neg (by decide), if_neg (by decide), if_neg (by decide), if_neg (by decide), if_pos (by decide)]
    simp (maxSteps := 4000000) only [↓Qr,↓Xa,↓Yz,↓Yt,↓Yr,↓Yo,↓Z6,Yx,↓Ym,↓Yh,Zz,Yl,Yd,gw,Z0,Yg,↓chk,Qs,noW,↓Jc,↓Qt,↓Qu,Q6,↓Zw,↓Qe,↓Qb,↓Y6,Jd,Pg.look,Jz,Jq,Zc,false_implies,implies_true,true_and,and_true,forall_const,Je,Qv,Qw,J0,strV,Y9,Qg,Jw,hdS,Qh,Jx,Z8,Z5,Z9,Yn,Nat.reduceAdd,ofV,Y7,J1,J2,J3,Jf,Jg,Qz,Qi,Jh,Ji,Jj,Qa,Qj,Qk,Jb,Ql,Jk,Jl,frzL,Jm,Jn,Pg.freeze,Zp,Q0,Jy,Q1,Yf,Jo,subL,Y0,Q7,↓Q9,Jr,Js,Jt,Y2,Ja,Jp,J4,Qc,Ys,J5,Q2,Q3,AV.cells,TK.cells,AV.definite,AV.leaf,AV.leafy,AV.pureLeaf,AV.pureB,Y3,lay,Zb,Za,Zk,reduceCtorEq,Nat.reduceEqDiff,Nat.reduceAdd,Zf,Zj,Zg,Zh,Zi,Zy,Z3,Zn,Zs,Zt,Int.reduceToNat,ite_true,ite_false,Option.some.injEq,Q8,Qq,Prod.mk.injEq,Zu,Zx,Zv,and_self,exists_eq_left',Y1,J8,Int.reduceLE,Qf,Y4,Yy,Yp,Yq,Zo,Zd,Nat.reduceBEq,Yj,Z4,beq_self_eq_true,Zq,Qm,Qo,Y5,Q4,Q5,Yu,Yv,Yw,Ze,cutL,Z1,Zl,Zm,Z2,Yk,Yc,Nat.reduceLeDiff,Yi,Ya,Yb,Zr,Qp,Ye,Y8,Qx,Qy,Xb,Z7,pureC,↓J7,muC,↓Ju,Qd,Qn,Jv,tk3,tk9,tk22,tk28,tz28,dz28,tk31,dz31,tk33,tk38,tz38,dz38,tk41,tk57,dz57,kMvN,kVert,kScreen,kNumber,aMove,aMv,kTextA,lq77__106,lq77__107,lq77__43,lq77__45,lq77__95,lq77__71,lq77__103_103,lq77__72]
    (repeat' first | exact hf | exact hn | exact ⟨hf, hn⟩ | exact numF_le hcn (by omega) | (show dynOrd _ _ = true; kernel_rfl) | exact subX_eq rfl rfl | exact trivial | apply And.intro | rfl | omega)
  by_cases h76 : name = [76]
  · subst h76
    rw [if_neg (by decide), if_neg (by decide), if_neg (by decide), if_neg (by decide), if_neg (by decide), if_neg (by decide), if_neg (by decide), if_neg (by decide), if_neg (by decide), if_pos (by decide)]
    simp (maxSteps := 4000000) only [↓Qr,↓Yz,↓Yt,↓Yr,↓Yo,↓Z6,Yx,↓Ym,↓Yh,Zz,Yl,Yd,gw,Z0,Yg,↓chk,Qs,noW,↓Jc,↓Qt,↓Qu,Q6,↓Zw,↓Qe,↓Qb,↓Y6,Jd,Pg.look,Jz,Jq,Zc,false_implies,implies_true,true_and,and_true,forall_const,Je,Qv,Qw,J0,strV,Y9,Qg,Jw,hdS,Qh,Jx,Z8,Z5,Z9,Yn,Nat.reduceAdd,ofV,Y7,J1,J2,J3,Jf,Jg,Qz,Qi,Jh,Ji,Jj,Qa,Qj,Qk,Jb,Ql,Jk,Jl,frzL,Jm,Jn,Pg.freeze,Zp,Q0,Jy,Q1,Yf,Jo,subL,Y0,Q7,↓Q9,Jr,Js,Jt,Y2,Ja,Jp,J4,Qc,Ys,J5,Q2,Q3,AV.cells,TK.cells,AV.definite,AV.leaf,AV.leafy,AV.pureLeaf,AV.pureB,Y3,lay,Zb,Za,Zk,reduceCtorEq,Nat.reduceEqDiff,Nat.reduceAdd,Zf,Zj,Zg,Zh,Zi,Zy,Z3,Zn,Zs,Zt,Int.reduceToNat,ite_true,ite_false,Option.some.injEq,Q8,Qq,Prod.mk.injEq,Zu,Zx,Zv,and_self,exists_eq_left',Y1,J8,Int.reduceLE,Qf,Y4,Yy,Yp,Yq,Zo,Zd,Nat.reduceBEq,Yj,Z4,beq_self_eq_true,Zq,Qm,Qo,Y5,Q4,Q5,Yu,Yv,Yw,Ze,cutL,Z1,Zl,Zm,Z2,Yk,Yc,Nat.reduceLeDiff,Yi,Ya,Yb,Zr,Qp,Ye,Y8,Qx,Qy,Xb,Z7,pureC,↓J7,muC,↓Ju,Qd,Qn,Jv,tk3,tk9,tk22,tk28,tz28,dz28,tk31,dz31,tk33,tk38,tz38,dz38,tk41,tk57,dz57,kMvN,kVert,kScreen,kNumber,aMove,aMv,kTextA,lq76__106,lq76__107,lq76__43,lq76__45,lq76__95,lq76__71,lq76__103_103,lq76__72,lq76__77]
    (repeat' first | exact hf | exact hn | exact ⟨hf, hn⟩ | exact numF_le hcn (by omega) | (show dynOrd _ _ = true; kernel_rfl) | exact subX_eq rfl rfl | exact trivial | apply And.intro | rfl | omega)
  have e106 := str_ne h106
  have e107 := str_ne h107
  have e43 := str_ne h43
  have e45 := str_ne h45
  have e95 := str_ne h95
  have e71 := str_ne h71
  have e103_103 := str_ne h103_103
  have e72 := str_ne h72
  have e77 := str_ne h77
  have e76 := str_ne h76
  rw [if_neg (h106)]
  rw [if_neg (h107)]
  rw [if_neg (h43)]
  rw [if_neg (h45)]
  rw [if_neg (h95)]
  rw [if_neg (h71)]
  rw [if_neg (h103_103)]
  rw [if_neg (h72)]
  rw [if_neg (h77)]
  rw [if_neg (h76)]
  simp (maxSteps := 4000000) only [↓Qr,↓Xa,↓Yz,↓Yt,↓Yr,↓Yo,↓Z6,Yx,↓Yh,Zz,Yl,Yd,gw,Z0,Yg,↓chk,Qs,noW,↓Jc,↓Qt,↓Qu,Q6,↓Zw,↓Xj,↓Y6,Jd,Pg.look,Jz,Jq,J6,Zc,implies_true,true_and,and_true,forall_const,Je,Qv,Qw,J0,strV,Y9,Qg,Jw,hdS,Qh,Jx,Z8,Z5,Z9,Yn,Nat.reduceAdd,ofV,Y7,J1,J2,J3,Jf,Jg,Qz,Qi,Jh,Ji,Jj,Qa,Qj,Qk,Jb,Ql,Jk,Jl,frzL,Jm,Jn,Pg.freeze,Zp,Q0,Jy,Q1,Yf,Jo,subL,Y0,Q7,↓Q9,Ja,Jp,J4,Qc,Ys,J5,AV.cells,TK.cells,AV.definite,AV.leaf,AV.leafy,AV.pureLeaf,AV.pureB,Y3,lay,Zb,Za,Zk,reduceCtorEq,Nat.reduceEqDiff,Nat.reduceAdd,Zf,Zj,Zg,Zh,Zi,Zy,Z3,Zn,Zs,Zt,ite_true,ite_false,Option.some.injEq,Zu,Zx,Zv,and_self,exists_eq_left',Y1,J9,J8,Xd,Qf,Y4,Yy,Yp,Yq,Zo,Zd,Nat.reduceBEq,Yj,Z4,beq_self_eq_true,Zq,Qm,Ze,cutL,Z1,Zl,Zm,Z2,Yk,Yc,Xg,Nat.reduceLeDiff,Yi,Ya,Yb,Zr,Ye,Y8,Qx,Qy,Z7,↓J7,muC,↓callU,↓callUV,↓callUH,↓callUF,Qd,Qn,runM_eq,mkM_some,hNil_dec,hCons_dec,app3_some,hP_dec,hP1_some,hP2_some,hB1_some,hB2_arr,hBox_dec,hAgg_dec,pickF,nodupB,somes,fresh,gids,putO,ren,renL,renO,Jv,tk3,tk9,tk22,tk28,tz28,dz28,tk31,dz31,tk33,tk38,tz38,dz38,tk41,tk57,dz57,kMvN,kVert,kScreen,kNumber,aMove,aMv,kTextA,e106,e107,e43,e45,e95,e71,e103_103,e72,e77,e76]
  (repeat' first | exact hf | exact hn | exact ⟨hf, hn⟩ | exact numF_le hcn (by omega) | (show dynOrd _ _ = true; kernel_rfl) | exact subX_eq rfl rfl | exact trivial | apply And.intro | rfl | omega)
def kVertA : C1 := C1.mby (hCons (hAgg lAskd) hNil) (fun d => okText d.1.1 ∧ d.1.2.2.2.2.2.2.2.2.1 ≤ 9223372036854775807 ∧ d.1.2.2.2.1 ≤ 9223372036854775807) (fun d => aMove (vertA d.1.1 d.1.2.1 (d.1.2.2.1, d.1.2.2.2.1, d.1.2.2.2.2.1, d.1.2.2.2.2.2.1, d.1.2.2.2.2.2.2.1, d.1.2.2.2.2.2.2.2.1) d.1.2.2.2.2.2.2.2.2.1 d.1.2.2.2.2.2.2.2.2.2.1).1) (fun d => cxH (vertA d.1.1 d.1.2.1 (d.1.2.2.1, d.1.2.2.2.1, d.1.2.2.2.2.1, d.1.2.2.2.2.2.1, d.1.2.2.2.2.2.2.1, d.1.2.2.2.2.2.2.2.1) d.1.2.2.2.2.2.2.2.2.1 d.1.2.2.2.2.2.2.2.2.2.1).2)
theorem ok_vertA : C1OK Try.prog 62 kVertA := C1OK.mby (by kernel_rfl) (fun d h => calls_vertA d.1.1 d.1.2.1 (d.1.2.2.1, d.1.2.2.2.1, d.1.2.2.2.2.1, d.1.2.2.2.2.2.1, d.1.2.2.2.2.2.2.1, d.1.2.2.2.2.2.2.2.1) d.1.2.2.2.2.2.2.2.2.1 d.1.2.2.2.2.2.2.2.2.2.1 h.1 h.2.1 h.2.2) (fun _ _ => Nat.le_refl _)
end Go.Pg
