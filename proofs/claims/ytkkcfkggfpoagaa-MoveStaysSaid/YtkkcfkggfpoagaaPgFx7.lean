/- The n-th place of a pattern: the program's. The word at a place: the program's. Motions by sentences: the program's. -/
import Derived.Test.YtkkcfkggfpoagaaPgFx6
import Derived.Test.YtkkcfkggfpoagaaPgFx2
import Derived.Test.YtkkcfkggfpoagaaPgFx5
open List renaming getElem?_cons_zero → Za, getElem?_cons_succ → Zb, cons_append → Zc, nil_append → Zd, append_nil → Ze, getD_cons_zero → Zg, foldl_nil → Zh, length_cons → Zi, contains_nil → Zj, length_nil → Zl, range'_zero → Zm, take_succ_cons → Zo, all_cons → Zq, drop_zero → Zs, set_cons_zero → Zt, set_cons_succ → Zu, all_nil → Zv, drop_succ_cons → Zw, map_nil → Zx, map_cons → Zy, take_zero → Z4, take_nil → Z5, drop_nil → Yf, foldl_cons → Y2, length_map → Y6, getElem?_toArray → Qk, contains_cons → Qn, toList_toArray → Q2, length_append → Xa, length_reverse → Xu
open Bool renaming false_eq_true → Zf, and_self → Zn, true_eq_false → Yj, not_false → Ql, and_true → Q6, not_true → Ji, or_self → J5, not_eq_true' → Xx
open Nat renaming zero_lt_succ → Zk, zero_add → Zp, sub_zero → Ya, le_refl → Ye, lt_irrefl → Yt, not_lt_zero → Jh, one_mul → X0, mul_one → X1
open Option renaming getD_some → Zr, isSome_some → Z6, bind_some → Jp
open Go.Pg renaming thenA_normal → Zz, bselH_false → Z0, gselH_plain → Z1, closeQ_nil → Z2, diagQ_zero → Z3, wpH_region → Z7, selC_false → Z8, subV_succ → Z9, cselH_bool → Yb, runH_cons → Yc, regH_none → Yd, optP_some → Yg, optV_some → Yh, optH_some → Yi, runH_nil → Yk, res_succ → Yl, wpH_cond → Ym, normArgs → Yn, lOne_dec → Yo, C1by_pre → Yp, lCons_dec → Yq, dec2_some → Yr, wpH_seq → Ys, closeQ_succ → Yu, res8_eq → Yv, C1by_ns → Yw, C1by_it → Yx, C1by_mu → Yy, cInt_dec → Yz, alives → Y0, pickOf → Y1, iselH_false → Y3, ldCells → Y4, blockA_normal → Y5, stepEv → Y7, isNext → Y8, iselH_true → Y9, ofLeaf → Qa, shiftR → Qb, shift1 → Qc, C1by_r → Qd, C1by_H → Qe, putCells → Qf, pickOK_nil → Qg, ptrsE → Qh, subOs → Qi, subEv → Qj, wpH_block → Qm, wpA_H → Qo, justK → Qp, pureK → Qq, heapV → Qr, footV → Qs, nextF → Qt, nextG → Qu, objAt → Qv, callT → Qw, callC → Qx, callV → Qy, normA → Qz, callP → Q0, cAgg_dec → Q3, heapK → Q4, wpH_skip → Q5, subA → Q7, subQ → Q8, frzO → Q9, subF → Ja, subG → Jb, frzE → Jc, frzC → Jd, frz0 → Je, frzH → Jf, subM → Jg, callH → Jj, C1itBy_pre → Jk, oneK → Jl, opnd → Jm, valV → Jn, resM → Jo, wpH_ret → Jq, resL → Jr, msel → Js, aliveO → Jt, pairsA → Ju, pairsO → Jv, assocN → Jw, pairsE → Jx, pairsC → Jy, pairs0 → Jz, C1itBy_it → J0, C1itBy_mu → J1, normC → J2, diagQ_succ → J3, thenA_ret → J4, intOp → J6, cutL → J7, frzL → J8, subL → J9, look_stripE → Xb, mapAt → Xc, binK → Xd, binV → Xe, intV → Xf, buildL → Xg, cSl_dec → Xh, parE_cons → Xi, rqH_normal → Xj, blockA_exit → Xk, mergeable → Xl, parE_nil → Xm, cRp_dec → Xn, frzAt → Xo, thenA_exit → Xp, gselH_if → Xr, decL_str → Xs, cStr_dec → Xt, kselH_1 → Xv, wpH_exit → Xw, mergeK → Xy, condsL → Xz, consO_some → X2
open Array renaming toList_append → Q1
open Int renaming toNat_natCast → Xq
namespace Go.Pg
open Go Go.Proofs

theorem decL_posL (l : List (Int × Int)) : decL cPos2.dec (l.map aPos) = some l := decL_map (fun a => by simp [aPos, cAgg, lCons, lOne, cInt, dec2]) l
theorem renL_posL (ρ : Nat → Nat) (l : List (Int × Int)) : renL ρ (l.map aPos) = l.map aPos := renL_pure ρ _ (pureB_posL l)
def roundS (ls : Ls) (p : Int × Int) (pat : List UInt8) (back : Bool) : List (Int × Int) :=
  if back = true then ((hits pat ls).filter fun q => less q p).reverse ++ (((hits pat ls).filter fun q => !less q p && less p q).reverse ++ (hits pat ls).filter fun q => !less q p && !less p q)
  else ((hits pat ls).filter fun q => !less q p && less p q) ++ (((hits pat ls).filter fun q => less q p) ++ (hits pat ls).filter fun q => !less q p && !less p q)
def pickS (l : List (Int × Int)) (n : Int) : Mv × Bool := if l.length = 0 then mNone else (jumpM (l.getD ((min n 1073741824 - 1) % l.length).toNat (0, 0)), true)
def searchP (ls : Ls) (p : Int × Int) (pat : List UInt8) (back : Bool) (n : Int) : Mv × Bool := whenMay ls p n (pickS (roundS ls p pat back) n)
theorem hits_len (pat : List UInt8) (ls : Ls) (hf : okText ls) : (hits pat ls).length ≤ 4295032832 := by
  unfold hits
  split
  · simp
  · have h1 := marksTo_len false (hitB pat) ls 65536 (fits_getD hf) ls.length
    have h2 : ls.length * (65536 + 1) ≤ 65536 * 65537 := Nat.mul_le_mul hf.1 (by omega)
    omega

set_option maxRecDepth 20000 in
set_option maxHeartbeats 8000000 in
theorem calls_Search (ls : Ls) (p : Int × Int) (pat : List UInt8) (back : Bool) (n : Int) (hf : okText ls) : CallsR Try.prog 101 [.sl 1 (ls.map .str), aPos p, .str pat, .bool back, .int .i64 n] [] (aMove (searchP ls p pat back n)) [] := by
  obtain ⟨p1, p2⟩ := p
  refine callsR_of (mrg := true) (dyn := []) (CtrOK.cons ok_CPlace (CtrOK.cons ok_AllF (CtrOK.cons ok_all1 (CtrOK.cons ok_Less (CtrOK.cons ok_Reverse (CtrOK.cons ok_ConcatR (CtrOK.nil _))))))) mixed Try.func101 rfl (by simp [Try.ntmps101]) (by kernel_rfl) ?_
  rw [show Try.f101.results.toList = [.cell 10 38, .tmp 11] from by kernel_rfl]
  unfold searchP whenMay
  have hpl : may ls (p1, p2) n = (place ls p1 p2 && decide (n ≥ 1)) := rfl
  cases hm : may ls (p1, p2) n with
  | false =>
    rw [if_neg (by simp)]
    have c1 : (decide (n < 1) || !place ls p1 p2) = true := by
      rw [hpl, Bool.and_eq_false_iff] at hm
      simp only [Bool.or_eq_true,decide_eq_true_eq,Xx,decide_eq_false_iff_not] at hm ⊢
      rcases hm with hm | hm
      · exact .inr hm
      · exact .inl (by omega)
    simp (maxSteps := 4000000) only [↓Qo,↓Jq,↓Ys,↓Ym,↓Z7,↓Y9,Z0,Yk,Yc,gw,Z1,Xr,Xv,Yb,gkind,↓chk,Qp,noW,↓Jl,↓Qq,↓Q4,envOf,↓Zz,↓J4,↓Y7,Jm,Pg.look,Xd,J6,dstOf,Zf,implies_true,imp_self,true_and,and_true,pickC,pickV,unc,gof,mux,Xy,Xz,Jn,Qr,Qs,Xe,Xf,Y0,Z2,Z3,Nat.reduceAdd,Xl,Xb,ofV,Qa,sameK,retA,resK,tupA,Q7,Q8,Qh,Q9,Ja,Jb,Y1,Jc,Jd,J8,Je,Jf,Pg.freeze,Zh,Qi,Qj,Z9,Jg,J9,Y4,Qv,↓Qw,Qx,Qy,Yn,Qz,J2,Jr,Yv,Yl,Jo,Qb,Qc,AV.cells,TK.cells,AV.definite,AV.leaf,AV.leafy,Qf,lay,Xg,Op.operands,Call.operands,Q1,Qk,Zb,Za,Jp,Zr,reduceCtorEq,Nat.reduceEqDiff,Nat.reduceAdd,Zd,Ze,Zc,Zi,Zl,Zy,Zx,Zt,Zu,Zp,ite_true,ite_false,Option.some.injEq,Z6,AV.agg.injEq,Bool.if_true_left,decide_eq_true_eq,decide_eq_false_iff_not,Int.not_lt,Zq,Zv,Zn,and_self,Xx,exists_eq_left',Qg,Yz,Q2,Xh,Q3,Yo,Yq,Yr,Zj,Zm,Xs,Yw,Yp,Qd,Qe,Yg,Yh,Yi,Zg,J7,Zs,Zw,Zo,Z4,Ya,Ye,Yf,Z5,Zk,Yx,Yd,Y8,Qt,Qu,Z8,↓Js,muC,↓Q0,Yy,Xc,tk28,dz28,tk38,tz38,dz38,kRPlace,aPos,aMove,aMv,mNone,c1]
    all_goals (intros; simp_all)
  | true =>
    rw [if_pos rfl]
    have hi := (may_iff _ _ _).1 hm
    dsimp only at hi
    have c1 : decide (n < 1) = false := decide_eq_false (by omega)
    have c2 : place ls p1 p2 = true := by rw [hpl, Bool.and_eq_true] at hm; exact hm.1
    have hml := hits_len pat ls hf
    simp (maxSteps := 4000000) only [↓Qo,↓Q5,↓Ys,↓Ym,↓Qm,↓Z7,↓Y3,Z0,Yk,Yc,gw,Z1,Xr,Xv,Yb,gkind,↓chk,Qp,noW,↓Jl,↓Qq,↓Q4,envOf,↓Zz,↓Y7,Jm,Pg.look,Xd,J6,dstOf,Ql,Ji,Zf,Yj,false_implies,implies_true,true_and,and_true,pickC,pickV,unc,gof,mux,Xy,Xz,Jn,Qr,Qs,Xe,Xf,Nat.reduceAdd,Xl,Xb,ofV,Qa,sameK,Pg.freeze,Zh,Y4,Qv,↓Qw,Qx,Qy,Jj,Yn,Qz,J2,Jr,Yv,Yl,Jo,Qb,Qc,AV.cells,TK.cells,AV.definite,Op.operands,Call.operands,Q1,Qk,Zb,Za,Jp,Zr,reduceCtorEq,Nat.reduceEqDiff,Nat.reduceAdd,Zd,Ze,Zc,Zi,Zl,Zy,Zx,Zp,ite_true,ite_false,Option.some.injEq,Prod.mk.injEq,Zn,and_self,exists_eq_left',Yz,Q2,Xt,Xh,Q3,Xn,Yo,Yq,Yr,Zj,Zm,Xs,Yw,Yp,Qd,Qe,Yg,Yh,Yi,Zg,J7,Zs,Zo,Ya,Ye,Z5,Zk,↓wpH_range,rangH_fn,rangR_some,iterC,Yx,J0,Jk,C1itBy_xs,optL_some,Yd,Y8,Qt,Qu,Z8,↓Js,muC,↓Q0,Yy,J1,tk28,dz28,tz38,tz61,kRPlace,kAllF,aAll,kAll1,kLess,aPos,c1,c2]
    refine ⟨hf, ?_⟩
    unfold roundS
    generalize hM : hits pat ls = M at hml ⊢
    rw [mark_eq]
    obtain ⟨gA, hgA⟩ : ∃ gA : Int × Int → Bool, gA = fun q => less q (p1, p2) := ⟨_, rfl⟩
    obtain ⟨gB, hgB⟩ : ∃ gB : Int × Int → Bool, gB = fun q => !less q (p1, p2) && less (p1, p2) q := ⟨_, rfl⟩
    obtain ⟨gC, hgC⟩ : ∃ gC : Int × Int → Bool, gC = fun q => !less q (p1, p2) && !less (p1, p2) q := ⟨_, rfl⟩
    rw [← hgA, ← hgB, ← hgC]
    refine rangG_intro M (fun p => [.agg [.int .i64 p.1, .int .i64 p.2]]) (0, 0) [(3, .bool back), (4, .int .i64 n), (6, .ptr 0 2 1 0 0), (10, .ptr 1 5 1 0 0), (11, .bool false), (12, .ptr 2 1 1 0 0), (13, .ptr 3 1 1 0 0), (14, .ptr 4 1 1 0 0)]
      [.arr 28 2 [.agg [.int .i64 p1, .int .i64 p2]], .arr 38 5 [.agg [.int .i64 0, .int .i64 0, .int .i64 0, .bool false, .int .i64 0]], .arr 61 1 [.nls], .arr 61 1 [.nls], .arr 61 1 [.nls]]
      (fun k => ([(3, .bool back), (4, .int .i64 n), (6, .ptr 0 2 1 0 0), (10, .ptr 1 5 1 0 0), (11, .bool false), (12, .ptr 2 1 1 0 0), (13, .ptr 3 1 1 0 0), (14, .ptr 4 1 1 0 0)], [.arr 28 2 [.agg [.int .i64 p1, .int .i64 p2]], .arr 38 5 [.agg [.int .i64 0, .int .i64 0, .int .i64 0, .bool false, .int .i64 0]], .arr 61 1 [.own 5 2 ((M.take k).filter gA).length], .arr 61 1 [.own 6 2 ((M.take k).filter gB).length], .arr 61 1 [.own 7 2 ((M.take k).filter gC).length], .arr 28 2 (((M.take k).filter gA).map aPos), .arr 28 2 (((M.take k).filter gB).map aPos), .arr 28 2 (((M.take k).filter gC).map aPos)]))
      (fun _ => True) rfl ?_ ?_ trivial (fun _ => rfl) ?_ ?_
    · simp (maxSteps := 4000000) only [Pg.look,true_and,and_true,Y0,Jt,nxtQ,hdS,Ju,frzA,Z2,Yu,Z3,Nat.reduceAdd,Q7,Q8,Qh,Jv,Q9,Ja,Jb,Y1,Jw,Jx,Jy,Jz,Jc,Jd,Je,Jf,Pg.freeze,Zh,Qi,subO,Qj,Z9,Jg,AV.cells,AV.pureLeaf,AV.pureB,Zb,Za,reduceCtorEq,Nat.reduceEqDiff,Nat.reduceAdd,Zd,Ze,Zc,Zp,ite_true,ite_false,Zq,Zv,Zn,and_self,Yt,Jh]
      (repeat' first | exact trivial | exact subX_eq rfl rfl | exact subX_eq rfl (pureB_posL _) | exact subX_nls rfl | exact subX_own rfl rfl | exact subX_own rfl (by simp) | apply And.intro | decide | omega)
    · simp (maxSteps := 4000000) only [Pg.look,true_and,and_true,Y0,Jt,nxtQ,hdS,Ju,frzA,Z2,Yu,Z3,J3,Nat.reduceAdd,Q7,Q8,Qh,Jv,Q9,Ja,Jb,Y1,Jw,Jx,Jy,Jz,Jc,Jd,Je,Jf,Pg.freeze,Zh,Qi,subO,Qj,Z9,Jg,AV.cells,AV.pureLeaf,AV.pureB,Zb,Za,reduceCtorEq,Nat.reduceEqDiff,Nat.reduceAdd,Nat.reduceLT,Zd,Ze,Zc,Zi,Zl,Zx,Zp,ite_true,ite_false,Zq,Zv,Zn,and_self,Z4,Yt,Zk,List.filter_nil]
      (repeat' first | exact trivial | exact subX_eq rfl rfl | exact subX_eq rfl (pureB_posL _) | exact subX_nls rfl | exact subX_own rfl rfl | exact subX_own rfl (by simp) | apply And.intro | decide | omega)
    · intro k hk _
      have fA := filter_take gA M k (0, 0) hk
      have fB := filter_take gB M k (0, 0) hk
      have fC := filter_take gC M k (0, 0) hk
      have lA : ((M.take k).filter gA).length ≤ k := Nat.le_trans (List.length_filter_le _ _) (by rw [List.length_take]; omega)
      have lB : ((M.take k).filter gB).length ≤ k := Nat.le_trans (List.length_filter_le _ _) (by rw [List.length_take]; omega)
      have lC : ((M.take k).filter gC).length ≤ k := Nat.le_trans (List.length_filter_le _ _) (by rw [List.length_take]; omega)
      have hA : gA (M.getD k (0, 0)) = less (M.getD k (0, 0)) (p1, p2) := by rw [hgA]
      have hB : gB (M.getD k (0, 0)) = (!less (M.getD k (0, 0)) (p1, p2) && less (p1, p2) (M.getD k (0, 0))) := by rw [hgB]
      have hC : gC (M.getD k (0, 0)) = (!less (M.getD k (0, 0)) (p1, p2) && !less (p1, p2) (M.getD k (0, 0))) := by rw [hgC]
      obtain ⟨xA, hxA⟩ : ∃ x, x = (M.take k).filter gA := ⟨_, rfl⟩
      obtain ⟨xB, hxB⟩ : ∃ x, x = (M.take k).filter gB := ⟨_, rfl⟩
      obtain ⟨xC, hxC⟩ : ∃ x, x = (M.take k).filter gC := ⟨_, rfl⟩
      rw [← hxA] at fA lA
      rw [← hxB] at fB lB
      rw [← hxC] at fC lC
      have aA := app1_pos xA (M.getD k (0, 0))
      have aB := app1_pos xB (M.getD k (0, 0))
      have aC := app1_pos xC (M.getD k (0, 0))
      cases b1 : less (M.getD k (0, 0)) (p1, p2) with
      | true =>
        rw [b1] at hA hB hC
        rw [if_pos hA] at fA
        rw [if_neg (by rw [hB]; simp)] at fB
        rw [if_neg (by rw [hC]; simp)] at fC
        simp (maxSteps := 4000000) only [↓Qo,↓Ys,↓Ym,↓Qm,↓Z7,↓Y9,Z0,Yk,Yc,gw,Z1,Yb,↓chk,Qp,noW,↓Jl,↓Qq,↓Q4,↓Zz,↓Y5,↓Y7,Jm,Pg.look,Q6,Zf,Yj,false_implies,implies_true,true_and,and_true,Jn,Qr,Qs,Y0,Jt,nxtQ,hdS,Ju,frzA,Z2,Yu,Z3,J3,Nat.reduceAdd,ofV,Qa,Q7,Q8,Qh,Jv,Q9,Ja,Jb,Y1,Jw,Jx,Jy,Jz,Jc,Jd,Je,Jf,Pg.freeze,Zh,Qi,subO,Qj,Z9,Jg,srcV,srcE,appK,Y4,Qv,↓Qw,Qx,Qy,Jj,Yn,Qz,J2,Jr,Yv,Yl,Jo,Qb,Qc,AV.cells,TK.cells,AV.definite,AV.leaf,AV.leafy,AV.pureLeaf,AV.pureB,Qf,lay,Zb,Za,Zr,reduceCtorEq,Nat.reduceEqDiff,Nat.reduceAdd,Nat.reduceLT,Zd,Ze,Zc,Zi,Zl,Zy,Zx,Zt,Zu,Zp,ite_true,ite_false,Option.some.injEq,Z6,Prod.mk.injEq,Zq,Zv,Zn,and_self,exists_eq_left',Y6,Yz,Xa,rg1,Q3,Yo,Yq,Yr,Zj,beq_self_eq_true,Zm,Nat.reducePow,Yw,Yp,Qd,Qe,Yg,Yh,Yi,Zg,J7,Zs,Zw,Zo,Z4,Ya,Nat.reduceLeDiff,Ye,Yt,X0,Yf,Z5,Zk,Yx,J0,Jk,Xi,Xm,Xj,Yd,Y8,Qt,Qu,Z8,↓Js,muC,↓Q0,Yy,J1,tk28,tz28,dz28,eb28,tk61,dz61,← hxA,← hxB,← hxC,fA,fB,fC,aA,b1,pureB_posL]
        (repeat' first | exact trivial | exact subX_eq rfl rfl | exact subX_eq rfl (pureB_posL _) | exact subX_nls rfl | exact subX_own rfl rfl | exact subX_own rfl (by simp) | apply And.intro | decide | omega)
      | false =>
        rw [b1] at hA hB hC
        rw [if_neg (by rw [hA]; simp)] at fA
        cases b2 : less (p1, p2) (M.getD k (0, 0)) with
        | true =>
          rw [b2] at hB hC
          rw [if_pos (by rw [hB]; rfl)] at fB
          rw [if_neg (by rw [hC]; simp)] at fC
          simp (maxSteps := 4000000) only [↓Qo,↓Ys,↓Ym,↓Qm,↓Z7,↓Y9,↓Y3,Z0,Yk,Yc,gw,Z1,Yb,↓chk,Qp,noW,↓Jl,↓Qq,↓Q4,↓Zz,↓Y5,↓Y7,Jm,Pg.look,Q6,Zf,Yj,false_implies,implies_true,true_and,and_true,Jn,Qr,Qs,Y0,Jt,nxtQ,hdS,Ju,frzA,Z2,Yu,Z3,J3,Nat.reduceAdd,ofV,Qa,Q7,Q8,Qh,Jv,Q9,Ja,Jb,Y1,Jw,Jx,Jy,Jz,Jc,Jd,Je,Jf,Pg.freeze,Zh,Qi,subO,Qj,Z9,Jg,srcV,srcE,appK,Y4,Qv,↓Qw,Qx,Qy,Jj,Yn,Qz,J2,Jr,Yv,Yl,Jo,Qb,Qc,AV.cells,TK.cells,AV.definite,AV.leaf,AV.leafy,AV.pureLeaf,AV.pureB,Qf,lay,Zb,Za,Zr,reduceCtorEq,Nat.reduceEqDiff,Nat.reduceAdd,Nat.reduceLT,Zd,Ze,Zc,Zi,Zl,Zy,Zx,Zt,Zu,Zp,ite_true,ite_false,Option.some.injEq,Z6,Prod.mk.injEq,Zq,Zv,Zn,and_self,exists_eq_left',Y6,Yz,Xa,rg1,Q3,Yo,Yq,Yr,Zj,beq_self_eq_true,Zm,Nat.reducePow,Yw,Yp,Qd,Qe,Yg,Yh,Yi,Zg,J7,Zs,Zw,Zo,Z4,Ya,Nat.reduceLeDiff,Ye,Yt,X0,Yf,Z5,Zk,Yx,J0,Jk,Xi,Xm,Xj,Yd,Y8,Qt,Qu,Z8,↓Js,muC,↓Q0,Yy,J1,tk28,tz28,dz28,eb28,tk61,dz61,← hxA,← hxB,← hxC,fA,fB,fC,aB,b1,b2,pureB_posL]
          (repeat' first | exact trivial | exact subX_eq rfl rfl | exact subX_eq rfl (pureB_posL _) | exact subX_nls rfl | exact subX_own rfl rfl | exact subX_own rfl (by simp) | apply And.intro | decide | omega)
        | false =>
          rw [b2] at hB hC
          rw [if_neg (by rw [hB]; simp)] at fB
          rw [if_pos (by rw [hC]; rfl)] at fC
          simp (maxSteps := 4000000) only [↓Qo,↓Ys,↓Ym,↓Qm,↓Z7,↓Y3,Z0,Yk,Yc,gw,Z1,Yb,↓chk,Qp,noW,↓Jl,↓Qq,↓Q4,↓Zz,↓Y5,↓Y7,Jm,Pg.look,Q6,Zf,Yj,false_implies,implies_true,true_and,and_true,Jn,Qr,Qs,Y0,Jt,nxtQ,hdS,Ju,frzA,Z2,Yu,Z3,J3,Nat.reduceAdd,ofV,Qa,Q7,Q8,Qh,Jv,Q9,Ja,Jb,Y1,Jw,Jx,Jy,Jz,Jc,Jd,Je,Jf,Pg.freeze,Zh,Qi,subO,Qj,Z9,Jg,srcV,srcE,appK,Y4,Qv,↓Qw,Qx,Qy,Jj,Yn,Qz,J2,Jr,Yv,Yl,Jo,Qb,Qc,AV.cells,TK.cells,AV.definite,AV.leaf,AV.leafy,AV.pureLeaf,AV.pureB,Qf,lay,Zb,Za,Zr,reduceCtorEq,Nat.reduceEqDiff,Nat.reduceAdd,Nat.reduceLT,Zd,Ze,Zc,Zi,Zl,Zy,Zx,Zt,Zu,Zp,ite_true,ite_false,Option.some.injEq,Z6,Prod.mk.injEq,Zq,Zv,Zn,and_self,exists_eq_left',Y6,Yz,Xa,rg1,Q3,Yo,Yq,Yr,Zj,beq_self_eq_true,Zm,Nat.reducePow,Yw,Yp,Qd,Qe,Yg,Yh,Yi,Zg,J7,Zs,Zw,Zo,Z4,Ya,Nat.reduceLeDiff,Ye,Yt,X0,Yf,Z5,Zk,Yx,J0,Jk,Xi,Xm,Xj,Yd,Y8,Qt,Qu,Z8,↓Js,muC,↓Q0,Yy,J1,tk28,tz28,dz28,eb28,tk61,dz61,← hxA,← hxB,← hxC,fA,fB,fC,aC,b1,b2,pureB_posL]
          (repeat' first | exact trivial | exact subX_eq rfl rfl | exact subX_eq rfl (pureB_posL _) | exact subX_nls rfl | exact subX_own rfl rfl | exact subX_own rfl (by simp) | apply And.intro | decide | omega)
    · intro _
      rw [List.take_of_length_le (Nat.le_refl M.length)]
      have lA : (M.filter gA).length ≤ M.length := List.length_filter_le _ _
      have lB : (M.filter gB).length ≤ M.length := List.length_filter_le _ _
      have lC : (M.filter gC).length ≤ M.length := List.length_filter_le _ _
      generalize M.filter gA = xA at lA ⊢
      generalize M.filter gB = xB at lB ⊢
      generalize M.filter gC = xC at lC ⊢
      cases back with
      | true =>
        rw [if_pos rfl]
        have hfl : [xA.reverse, xB.reverse, xC].flatten = xA.reverse ++ (xB.reverse ++ xC) := by simp
        have hLl : (xA.reverse ++ (xB.reverse ++ xC)).length ≤ 1099511627776 := by simp only [Xa,Xu]; omega
        generalize xA.reverse ++ (xB.reverse ++ xC) = L at hfl hLl ⊢
        have w1 : IntKind.i64.wrap (min n 1073741824 - 1) = min n 1073741824 - 1 := wrap64 (by omega) (by omega)
        by_cases hL : L.length = 0
        · have c3 : ((L.length : Int) == 0) = true := by rw [hL]; rfl
          rw [pickS, if_pos hL]
          simp (maxSteps := 4000000) only [↓Qo,↓Jq,↓Ys,↓Ym,↓Z7,↓Y9,Z0,Yk,Yc,gw,Z1,Yb,↓chk,Qp,noW,↓Jl,↓Qq,↓Q4,↓Zz,↓J4,↓Y5,↓Y7,Jm,Pg.look,Xd,J6,Q6,Ql,Zf,false_implies,implies_true,true_and,and_true,Jn,Qr,Qs,Xe,Xf,Y0,Z2,Z3,Nat.reduceAdd,ofV,Qa,retA,resK,tupA,Q7,Q8,Qh,Q9,Ja,Jb,Y1,Jc,Jd,J8,Je,Jf,Pg.freeze,Zh,Y2,Qi,Qj,Z9,Jg,J9,slen,Y4,Qv,↓Qw,Qx,Qy,Jj,Yn,Qz,J2,normE,Jr,Yv,Yl,Jo,Qb,Qc,AV.cells,TK.cells,AV.definite,AV.leaf,AV.leafy,AV.pureLeaf,AV.pureB,Qf,lay,Xg,Xo,Zb,Za,Zr,Nat.reduceEqDiff,Nat.reduceAdd,Zd,Ze,Zc,Zi,Zl,Zy,Zx,Zt,Zu,Zp,ite_true,ite_false,Option.some.injEq,Z6,AV.int.injEq,AV.agg.injEq,Prod.mk.injEq,Zq,Zv,Zn,and_self,exists_eq_left',Qg,Y6,rg3,Xh,Yo,Zj,beq_self_eq_true,decL_nil,decL_cons,X2,Zm,Nat.reducePow,Yw,Yp,Qd,Qe,Yg,Yh,Yi,Zg,J7,Zs,Zw,Zo,Z4,Ya,Nat.sub_self,Nat.reduceLeDiff,Ye,X1,Yf,Z5,Zk,Yx,Yd,Y8,Qt,Qu,Z8,↓Js,muC,↓Q0,↓callU,↓callUV,↓callUH,↓callUF,Yy,C1mby_mu,runM_eq,mkM_some,hNil_dec,hCons_dec,app3_some,hO1_some,hO2_arr,hOwn_dec,pickF,nodupB,somes,fresh,gids,putO,ren,renL,renO,Xc,tk38,tz38,dz38,tk61,dz61,eb61,tk120,kReverse,hPoss,kConcatR,aMove,aMv,mNone,pureB_posL,decL_posL,renL_posL,Xu,hfl,c3]
          (repeat' first | exact trivial | apply And.intro | decide | omega)
        · have c3 : ((L.length : Int) == 0) = false := beq_eq_false_iff_ne.2 (by omega)
          have w2 : (min n 1073741824 - 1).tmod (L.length : Int) = (min n 1073741824 - 1) % (L.length : Int) := Int.tmod_eq_emod_of_nonneg (by omega)
          have h1 := Int.emod_nonneg (min n 1073741824 - 1) (b := (L.length : Int)) (by omega)
          have h2 := Int.emod_lt_of_pos (min n 1073741824 - 1) (b := (L.length : Int)) (by omega)
          rw [pickS, if_neg hL]
          simp (maxSteps := 4000000) only [↓Qo,↓Q5,↓Jq,↓Ys,↓Ym,↓Z7,↓Y9,↓Y3,Z0,Yk,Yc,gw,Z1,Yb,↓chk,Qp,noW,↓Jl,↓Qq,↓Q4,↓Zz,↓Y5,↓Y7,Jm,Pg.look,Xd,J6,Q6,Ql,Zf,false_implies,implies_true,true_and,and_true,Jn,Qr,Qs,Xe,Xf,Y0,Z2,Z3,Nat.reduceAdd,ofV,Qa,retA,resK,tupA,Q7,Q8,Qh,Q9,Ja,Jb,Y1,Jc,Jd,J8,Je,Jf,Pg.freeze,Zh,Y2,Qi,Qj,Z9,Jg,J9,slen,Y4,Qv,↓Qw,Qx,Qy,Jj,Yn,Qz,J2,normE,Jr,Yv,Yl,Jo,Qb,Qc,AV.cells,TK.cells,AV.definite,AV.leaf,AV.leafy,AV.pureLeaf,AV.pureB,Qf,lay,Xg,foldInts,Xo,Zb,Za,Zr,Nat.reduceEqDiff,Nat.reduceAdd,Zd,Ze,Zc,Zi,Zl,Zy,Zx,Zt,Zu,Zp,ite_true,ite_false,Option.some.injEq,Z6,AV.int.injEq,AV.agg.injEq,Prod.mk.injEq,ne_eq,Zq,Zv,Zn,and_self,exists_eq_left',Qg,Y6,rg3,Xh,Yo,Zj,beq_self_eq_true,decL_nil,decL_cons,X2,Zm,Nat.reducePow,Yw,Yp,Qd,Qe,Yg,Yh,Yi,Zg,J7,Zs,Zw,Zo,Z4,Ya,Nat.sub_self,Nat.reduceLeDiff,Ye,X1,Yf,Z5,Zk,Yx,Yd,Y8,Qt,Qu,Z8,↓Js,muC,↓Q0,↓callU,↓callUV,↓callUH,↓callUF,Yy,C1mby_mu,runM_eq,mkM_some,hNil_dec,hCons_dec,app3_some,hO1_some,hO2_arr,hOwn_dec,pickF,nodupB,somes,fresh,gids,putO,ren,renL,renO,Xc,tk28,dz28,tk38,tz38,dz38,tk61,dz61,eb61,tk120,kReverse,hPoss,kConcatR,aMove,aMv,jumpM,pureB_posL,decL_posL,renL_posL,Xu,aPos_def,getD_pos,hfl,w1,w2,c3]
          (repeat' first | exact trivial | apply And.intro | decide | omega)
      | false =>
        rw [if_neg (by simp)]
        have hfl : [xB, xA, xC].flatten = xB ++ (xA ++ xC) := by simp
        have hLl : (xB ++ (xA ++ xC)).length ≤ 1099511627776 := by simp only [Xa]; omega
        generalize xB ++ (xA ++ xC) = L at hfl hLl ⊢
        have w1 : IntKind.i64.wrap (min n 1073741824 - 1) = min n 1073741824 - 1 := wrap64 (by omega) (by omega)
        by_cases hL : L.length = 0
        · have c3 : ((L.length : Int) == 0) = true := by rw [hL]; rfl
          rw [pickS, if_pos hL]
          simp (maxSteps := 4000000) only [↓Qo,↓Q5,↓Jq,↓Ys,↓Ym,↓Z7,↓Y9,↓Y3,Z0,Yk,Yc,gw,Z1,Yb,↓chk,Qp,noW,↓Jl,↓Qq,↓Q4,↓Zz,↓J4,↓Y5,↓Y7,Jm,Pg.look,Xd,J6,Q6,Zf,false_implies,implies_true,true_and,and_true,Jn,Qr,Qs,Xe,Xf,Y0,Z2,Z3,Nat.reduceAdd,ofV,Qa,retA,resK,tupA,Q7,Q8,Qh,Q9,Ja,Jb,Y1,Jc,Jd,J8,Je,Jf,Pg.freeze,Zh,Y2,Qi,Qj,Z9,Jg,J9,slen,Y4,Qv,↓Qw,Qx,Qy,Jj,Yn,Qz,J2,normE,Jr,Yv,Yl,Jo,Qb,Qc,AV.cells,TK.cells,AV.definite,AV.leaf,AV.leafy,AV.pureLeaf,AV.pureB,Qf,lay,Xg,Xo,Zb,Za,Zr,Nat.reduceEqDiff,Nat.reduceAdd,Zd,Ze,Zc,Zi,Zl,Zy,Zx,Zt,Zu,Zp,ite_true,ite_false,Option.some.injEq,Z6,AV.int.injEq,AV.agg.injEq,Prod.mk.injEq,Zq,Zv,Zn,and_self,exists_eq_left',Qg,Y6,rg3,Xh,Yo,Zj,beq_self_eq_true,decL_nil,decL_cons,X2,Zm,Nat.reducePow,Yw,Yp,Qd,Qe,Yg,Yh,Yi,Zg,J7,Zs,Zw,Zo,Z4,Ya,Nat.reduceLeDiff,Ye,X1,Yf,Z5,Zk,Yx,Yd,Y8,Qt,Qu,Z8,↓Js,muC,↓Q0,Yy,C1mby_mu,Xc,tk38,tz38,dz38,tk61,dz61,eb61,tk120,kReverse,hPoss,kConcatR,aMove,aMv,mNone,pureB_posL,decL_posL,hfl,c3]
          (repeat' first | exact trivial | apply And.intro | decide | omega)
        · have c3 : ((L.length : Int) == 0) = false := beq_eq_false_iff_ne.2 (by omega)
          have w2 : (min n 1073741824 - 1).tmod (L.length : Int) = (min n 1073741824 - 1) % (L.length : Int) := Int.tmod_eq_emod_of_nonneg (by omega)
          have h1 := Int.emod_nonneg (min n 1073741824 - 1) (b := (L.length : Int)) (by omega)
          have h2 := Int.emod_lt_of_pos (min n 1073741824 - 1) (b := (L.length : Int)) (by omega)
          rw [pickS, if_neg hL]
          simp (maxSteps := 4000000) only [↓Qo,↓Q5,↓Jq,↓Ys,↓Ym,↓Z7,↓Y3,Z0,Yk,Yc,gw,Z1,Yb,↓chk,Qp,noW,↓Jl,↓Qq,↓Q4,↓Zz,↓Y5,↓Y7,Jm,Pg.look,Xd,J6,Q6,Zf,false_implies,implies_true,true_and,and_true,Jn,Qr,Qs,Xe,Xf,Y0,Z2,Z3,Nat.reduceAdd,ofV,Qa,retA,resK,tupA,Q7,Q8,Qh,Q9,Ja,Jb,Y1,Jc,Jd,J8,Je,Jf,Pg.freeze,Zh,Y2,Qi,Qj,Z9,Jg,J9,slen,Y4,Qv,↓Qw,Qx,Qy,Jj,Yn,Qz,J2,normE,Jr,Yv,Yl,Jo,Qb,Qc,AV.cells,TK.cells,AV.definite,AV.leaf,AV.leafy,AV.pureLeaf,AV.pureB,Qf,lay,Xg,foldInts,Xo,Zb,Za,Zr,Nat.reduceEqDiff,Nat.reduceAdd,Zd,Ze,Zc,Zi,Zl,Zy,Zx,Zt,Zu,Zp,ite_true,ite_false,Option.some.injEq,Z6,AV.int.injEq,AV.agg.injEq,Prod.mk.injEq,ne_eq,Zq,Zv,Zn,and_self,exists_eq_left',Qg,Y6,rg3,Xh,Yo,Zj,beq_self_eq_true,decL_nil,decL_cons,X2,Zm,Nat.reducePow,Yw,Yp,Qd,Qe,Yg,Yh,Yi,Zg,J7,Zs,Zw,Zo,Z4,Ya,Nat.reduceLeDiff,Ye,X1,Yf,Z5,Zk,Yx,Yd,Y8,Qt,Qu,Z8,↓Js,muC,↓Q0,Yy,C1mby_mu,Xc,tk28,dz28,tk38,tz38,dz38,tk61,dz61,eb61,tk120,kReverse,hPoss,kConcatR,aMove,aMv,jumpM,pureB_posL,decL_posL,aPos_def,getD_pos,hfl,w1,w2,c3]
          (repeat' first | exact trivial | apply And.intro | decide | omega)
def kSearch : C1 := C1.by [.sl 1 [], .id, .id, .id, .id] (lCons cStrs (lCons cPos2 (lCons cStr (lCons cBool (lOne (cInt .i64)))))) (fun d => okText d.1) (fun d => aMove (searchP d.1 d.2.1 d.2.2.1 d.2.2.2.1 d.2.2.2.2)) (fun _ => [])
theorem ok_Search : C1OK Try.prog 101 kSearch := C1OK.by (by kernel_rfl) (fun d h => calls_Search d.1 d.2.1 d.2.2.1 d.2.2.2.1 d.2.2.2.2 h) (fun _ => rfl) (fun _ => rfl)
end Go.Pg
namespace Go.Pg
open Go Go.Proofs

/-- Is it a byte of a word. -/
def isW (s : List UInt8) (i : Int) : Bool := decide (0 ≤ i) && (decide (i < s.length) && (cls (s.getD i.toNat 0).toNat false == 1))
theorem calls_isW (s : List UInt8) (i : Int) : CallsR Try.prog 106 [.int .i64 i, .rp [.str s]] [] (.bool (isW s i)) [] := by
  refine callsR_of (mrg := true) (dyn := []) (CtrOK.cons ok_Of (CtrOK.nil _)) mixed Try.func106 rfl (by simp [Try.ntmps106]) (by kernel_rfl) ?_
  rw [show Try.f106.results.toList = [.tmp 3] from by kernel_rfl]
  simp (maxSteps := 4000000) only [↓Qo,↓Jq,↓Ys,↓Z7,Z0,Yk,Yc,gw,Z1,Xr,Xv,gkind,↓chk,Qp,noW,↓Jl,↓Qq,↓Q4,envOf,↓Zz,↓Y7,Jm,Pg.look,Xd,J6,dstOf,Zf,implies_true,imp_self,true_and,and_true,pickC,pickV,unc,gof,mux,Xy,Xz,Jn,Qr,Qs,Xe,Xf,Y0,Z2,Z3,Xl,Xb,ofV,Qa,sameK,retA,resK,tupA,Q7,Q8,Qh,Q9,Ja,Jb,Y1,Jc,Jd,Je,Jf,Pg.freeze,Zh,Qi,Qj,Z9,Jg,Y4,↓Qw,Qx,Qy,Yn,Qz,Jr,Yv,Yl,Jo,Qb,Qc,TK.cells,Op.operands,Call.operands,Q1,Qk,Zb,Za,Jp,Zr,reduceCtorEq,Nat.reduceEqDiff,Zd,Ze,Zc,Zl,Zy,Zx,Zp,ite_true,ite_false,Option.some.injEq,Bool.if_false_right,Bool.decide_eq_true,decide_eq_true_eq,decide_eq_false_iff_not,Int.not_le,Zn,and_self,exists_eq_left',Qg,Yz,cBool_dec,Q2,Yo,Yq,Yr,Zj,Zm,Yw,Yp,Qd,Qe,Yg,Yh,Yi,Yx,Yd,Y8,Qt,Qu,Z8,↓Js,muC,↓Q0,Yy,tk9,kOf,isW]
  refine ⟨fun h => ⟨h, ?_⟩, ?_⟩
  · simp only [Bool.and_eq_true,decide_eq_true_eq] at h
    omega
  · rw [Bool.and_assoc]
def kIsW : C1 := C1.by [.id, .id] (lCons (cInt .i64) (lOne (cRp (lOne cStr)))) (fun _ => True) (fun d => .bool (isW d.2 d.1)) (fun _ => [])
theorem ok_isW : C1OK Try.prog 106 kIsW := C1OK.by (by kernel_rfl) (fun d _ => calls_isW d.2 d.1) (fun _ => rfl) (fun _ => rfl)

def wAt (s : List UInt8) (i : Nat) : Bool := cls (s.getD i 0).toNat false == 1
/-- Where the word's beginning is, going back. -/
def wBeg (s : List UInt8) : Nat → Nat
  | 0 => 0
  | k + 1 => if wAt s k = true then wBeg s k else k + 1
def wEndF (s : List UInt8) (i : Nat) : Nat := (findUp (fun k => !wAt s k) (s.length - i) i).getD s.length
abbrev Wd := (Int × Int) × List UInt8 × Bool
def wdB (l : Int) (s : List UInt8) (b : Nat) : Wd := ((l, b), cutL s b (wEndF s b), true)
def wordL (l : Int) (s : List UInt8) (c : Nat) : Wd := match findUp (wAt s) (s.length - c) c with
  | some i => wdB l s (wBeg s i)
  | none => ((0, 0), [], false)
def aWd (w : Wd) : AV := .tuple [aPos w.1, .str w.2.1, .bool w.2.2]
def wordP (ls : Ls) (p : Int × Int) : Wd := if place ls p.1 p.2 = true then wordL p.1 (ls.getD p.1.toNat []) p.2.toNat else ((0, 0), [], false)
theorem isW_nat (s : List UInt8) (i : Nat) : isW s i = (decide (i < s.length) && wAt s i) := by
  unfold isW wAt
  rw [decide_eq_true (by omega : (0 : Int) ≤ i), Bool.true_and, Int.toNat_natCast]
  congr 1
  rw [Bool.eq_iff_iff, decide_eq_true_eq, decide_eq_true_eq]; omega

set_option maxRecDepth 20000 in
set_option maxHeartbeats 8000000 in
theorem calls_Word (ls : Ls) (p : Int × Int) (hf : okText ls) : CallsR Try.prog 100 [.sl 1 (ls.map .str), aPos p] [] (aWd (wordP ls p)) [] := by
  refine callsR_of (mrg := true) (dyn := [15]) (CtrOK.cons ok_CPlace (CtrOK.cons ok_isW (CtrOK.nil _))) mixed Try.func100 rfl (by simp [Try.ntmps100]) (by kernel_rfl) ?_
  rw [show Try.f100.results.toList = [.cell 4 28, .tmp 5, .tmp 6] from by kernel_rfl]
  obtain ⟨p1, p2⟩ := p
  unfold wordP
  dsimp only
  cases hm : place ls p1 p2 with
  | false =>
    rw [if_neg (by simp)]
    simp (maxSteps := 4000000) only [↓Qo,↓Jq,↓Ys,↓Ym,↓Z7,↓Y9,Z0,Yk,Yc,gw,Z1,Yb,↓chk,Qp,noW,↓Jl,↓Qq,↓Q4,envOf,↓Zz,↓J4,↓Y7,Jm,Pg.look,Ql,Zf,false_implies,implies_true,true_and,and_true,Jn,Qr,Qs,Y0,Z2,Z3,Nat.reduceAdd,ofV,Qa,retA,resK,tupA,Q7,Q8,Qh,Q9,Ja,Jb,Y1,Jc,Jd,J8,Je,Jf,Pg.freeze,Zh,Qi,Qj,Z9,Jg,J9,Y4,Qv,↓Qw,Qx,Qy,Jj,Yn,Qz,J2,Jr,Yv,Yl,Jo,Qb,Qc,AV.cells,TK.cells,AV.definite,AV.leaf,AV.leafy,Qf,lay,Xg,Zb,Za,Zr,reduceCtorEq,Nat.reduceEqDiff,Nat.reduceAdd,Zd,Ze,Zc,Zi,Zl,Zy,Zx,Zt,Zu,Zp,ite_true,ite_false,Option.some.injEq,Z6,AV.agg.injEq,Prod.mk.injEq,Zq,Zv,Zn,and_self,exists_eq_left',Qg,Yz,Xh,Q3,Yo,Yq,Yr,Qn,Zj,Nat.reduceBEq,J5,Zm,Xs,Yw,Yp,Qd,Qe,Yg,Yh,Yi,Zg,J7,Zs,Zw,Zo,Z4,Ya,Ye,Yf,Z5,Zk,Yx,Yd,Y8,Qt,Qu,Z8,↓Js,muC,↓Q0,Yy,Xc,tk28,tz28,dz28,kRPlace,aPos,aWd,hm]
  | true =>
    rw [if_pos rfl]
    obtain ⟨g1, g2, g3, g4⟩ := (place_iff _ _ _).1 hm
    obtain ⟨l, rfl⟩ := Int.eq_ofNat_of_zero_le g1
    obtain ⟨c, rfl⟩ := Int.eq_ofNat_of_zero_le g3
    rw [Int.toNat_natCast] at g2 g4
    have h5 := fits_getD hf l
    rw [Int.toNat_natCast, Int.toNat_natCast]
    obtain ⟨s, hs⟩ : ∃ s, s = ls.getD l [] := ⟨_, rfl⟩
    rw [← hs] at g4 h5 ⊢
    have hR : wordL (l : Int) s c = match findUp (wAt s) (s.length - c) c with
      | some i => wdB l s (wBeg s i)
      | none => ((0, 0), [], false) := rfl
    generalize wordL (l : Int) s c = R at hR ⊢
    simp (maxSteps := 4000000) only [↓Qo,↓Q5,↓Ys,↓Ym,↓Qm,↓wpH_loop,↓Z7,↓Y3,Z0,Yk,Yc,gw,Z1,Yb,↓chk,Qp,noW,↓Jl,↓Qq,↓Q4,envOf,↓Zz,↓Y7,Jm,Pg.look,Ji,Zf,false_implies,implies_true,true_and,and_true,Jn,Qr,Qs,Nat.reduceAdd,ofV,Qa,Pg.freeze,Zh,Y4,Qv,↓Qw,Qx,Qy,Jj,Yn,Qz,J2,Jr,Yv,Yl,Jo,Qb,Qc,AV.cells,TK.cells,AV.definite,AV.leaf,AV.leafy,Qf,Zb,Za,Zr,reduceCtorEq,Nat.reduceEqDiff,Nat.reduceAdd,Zd,Ze,Zc,Zi,Zl,Zy,Zx,Zt,Zu,Zp,ite_true,ite_false,Option.some.injEq,Prod.mk.injEq,Zq,Zv,Zn,and_self,exists_eq_left',Y6,Yz,Xh,Q3,Yo,Yq,Yr,Qn,Zj,Nat.reduceBEq,J5,Zm,Xs,Yw,Yp,Qd,Qe,Yg,Yh,Yi,getD_str,Xq,Zg,J7,Zs,Zo,Nat.add_zero,Ya,Ye,Z5,Zk,Yx,Yd,Y8,Qt,Qu,Z8,↓Js,muC,↓Q0,Yy,tk3,tk9,tz9,dz9,tk22,tk28,tz28,dz28,kRPlace,aPos,hm,← hs]
    refine ⟨⟨by omega, g2⟩, ?_⟩
    refine loopH_intro (α := Nat) (fun i => ([(3, .ptr 0 2 1 0 0), (4, .ptr 1 2 1 0 0), (5, .str []), (6, .bool false), (7, .ptr 2 1 1 0 0), (8, .fn 106 [.ptr 2 1 1 0 0]), (9, .int .i64 i)], [.arr 28 2 [.agg [.int .i64 l, .int .i64 c]], .arr 28 2 [.agg [.int .i64 0, .int .i64 0]], .frz 9 1 [.str s]]))
      (fun i => i ≤ s.length ∧ R = match findUp (wAt s) (s.length - i) i with
        | some i => wdB l s (wBeg s i)
        | none => ((0, 0), [], false)) (fun i => s.length - i) c ⟨by omega, hR⟩ ?_ ?_
    · simp (maxSteps := 4000000) only [Pg.look,true_and,and_true,Y0,Jt,nxtQ,hdS,Ju,frzA,Z2,Yu,Z3,Nat.reduceAdd,Q7,Q8,Qh,Jv,Q9,Ja,Jb,Y1,Jw,Jx,Jy,pairsL,Jz,Jc,Jd,J8,Je,Jf,Pg.freeze,Zh,Y2,Qi,subO,Qj,Z9,Jg,J9,AV.cells,AV.pureLeaf,AV.pureB,Xo,Zb,Za,reduceCtorEq,Nat.reduceEqDiff,Nat.reduceAdd,Zd,Ze,Zc,Zt,Zu,Zp,ite_true,ite_false,Zq,Zv,Zn,and_self,Yt,Jh]
      exact ⟨by decide, subX_eq rfl rfl, subX_eq rfl rfl, subX_eq rfl rfl⟩
    rintro i ⟨hi, hR⟩
    by_cases hlt : i < s.length
    · have c1 : decide ((i : Int) < (s.length : Int)) = true := decide_eq_true (by omega)
      have w1 : IntKind.i64.wrap ((i : Int) + 1) = ((i + 1 : Nat) : Int) := by rw [wrap64 (by omega) (by omega)]; rfl
      have hw := isW_nat s i
      rw [decide_eq_true hlt, Bool.true_and] at hw
      rw [show s.length - i = (s.length - (i + 1)) + 1 by omega, findUp] at hR
      cases hb : wAt s i with
      | false =>
        rw [hb] at hw hR
        simp only [Zf,if_false] at hR
        simp (maxSteps := 4000000) only [↓Qo,↓Q5,↓Ys,↓Ym,↓Qm,↓Z7,↓Y9,Z0,Yk,Yc,gw,Z1,Xr,Xv,Yb,gkind,↓chk,Qp,noW,↓Jl,↓Qq,↓Q4,↓Zz,↓Y5,↓Y7,Jm,Pg.look,Xd,J6,dstOf,Ql,Ji,Zf,Yj,implies_true,true_and,and_true,pickC,pickV,unc,gof,mux,Xy,Xz,Jn,Qr,Qs,Xe,Xf,Y0,Jt,nxtQ,hdS,Ju,frzA,Z2,Yu,Z3,Nat.reduceAdd,Xl,Xb,ofV,Qa,sameK,Q7,Q8,Qh,Jv,Q9,Ja,Jb,Y1,Jw,Jx,Jy,pairsL,Jz,Jc,Jd,J8,Je,Jf,Pg.freeze,Zh,Y2,Qi,subO,Qj,Z9,Jg,J9,Y4,Qv,↓Qw,Qx,Qy,Yn,Qz,Jr,Yv,Yl,Jo,Qb,Qc,AV.cells,TK.cells,AV.pureLeaf,AV.pureB,Xo,Op.operands,Call.operands,Q1,Qk,Zb,Za,Jp,Zr,reduceCtorEq,Nat.reduceEqDiff,Nat.reduceAdd,Zd,Ze,Zc,Zi,Zl,Zy,Zx,Zp,ite_true,ite_false,Option.some.injEq,Zq,Zv,Zn,and_self,exists_eq_left',Yz,Q2,Xt,Xn,Yo,Yq,Yr,Qn,Zj,Nat.reduceBEq,J5,Zm,Yw,Yp,Qd,Qe,Yg,Yh,Yi,Zg,Zs,Yt,Jh,Zk,Yx,Yd,Y8,Qt,Qu,Z8,↓Js,muC,↓Q0,Yy,tk9,dz9,kIsW,c1,w1,hw]
        exact ⟨i + 1, ⟨by omega, hR⟩, by omega, by decide, ⟨subX_eq rfl rfl, subX_eq rfl rfl, subX_eq rfl rfl⟩, rfl⟩
      | true =>
        rw [hb] at hw hR
        simp only [if_true] at hR
        have c2 : decide ((i : Int) ≥ (s.length : Int)) = false := decide_eq_false (by omega)
        simp (maxSteps := 4000000) only [↓Qo,↓Q5,↓Xw,↓Ys,↓Ym,↓Qm,↓wpH_loop,↓Z7,↓Y3,Z0,Yk,Yc,gw,Z1,Xr,Xv,Yb,gkind,↓chk,Qp,noW,↓Jl,↓Qq,↓Q4,↓Zz,↓Xp,↓Xk,↓Y7,Jm,Pg.look,Xd,J6,dstOf,Ji,Zf,Yj,implies_true,true_and,and_true,pickC,pickV,unc,gof,mux,Xy,Xz,Jn,Qr,Qs,Xe,Xf,Nat.reduceAdd,Xl,Xb,ofV,Qa,sameK,retA,Pg.freeze,Zh,Y2,Y4,Qv,↓Qw,Qx,Qy,Yn,Qz,Jr,Yv,Yl,Jo,Qb,Qc,AV.cells,TK.cells,Xo,Op.operands,Call.operands,Q1,Qk,Zb,Za,Jp,Zr,Nat.reduceEqDiff,Nat.reduceAdd,Zd,Ze,Zc,Zi,Zl,Zy,Zx,Zp,ite_true,ite_false,Option.some.injEq,Zn,and_self,exists_eq_left',Yz,Q2,Xt,Xn,Yo,Yq,Yr,Qn,Zj,Nat.reduceBEq,J5,Zm,Yw,Yp,Qd,Qe,Yg,Yh,Yi,Zg,Zs,Zk,Yx,Yd,Y8,Qt,Qu,Z8,↓Js,muC,↓Q0,Yy,tk9,dz9,kIsW,c1,hw,c2]
        refine loopH_intro (α := Nat) (fun k => ([(3, .ptr 0 2 1 0 0), (4, .ptr 1 2 1 0 0), (5, .str []), (6, .bool false), (7, .ptr 2 1 1 0 0), (8, .fn 106 [.ptr 2 1 1 0 0]), (9, .int .i64 k)], [.arr 28 2 [.agg [.int .i64 l, .int .i64 c]], .arr 28 2 [.agg [.int .i64 0, .int .i64 0]], .frz 9 1 [.str s]]))
          (fun k => k ≤ i ∧ R = wdB l s (wBeg s k)) (fun k => k) i ⟨by omega, hR⟩ ?_ ?_
        · simp (maxSteps := 4000000) only [Pg.look,true_and,and_true,Y0,Jt,nxtQ,hdS,Ju,frzA,Z2,Yu,Z3,Nat.reduceAdd,Q7,Q8,Qh,Jv,Q9,Ja,Jb,Y1,Jw,Jx,Jy,pairsL,Jz,Jc,Jd,J8,Je,Jf,Pg.freeze,Zh,Y2,Qi,subO,Qj,Z9,Jg,J9,AV.cells,AV.pureLeaf,AV.pureB,Xo,Zb,Za,reduceCtorEq,Nat.reduceEqDiff,Nat.reduceAdd,Zd,Ze,Zc,Zp,ite_true,ite_false,Zq,Zv,Zn,and_self,Yt,Jh]
          exact ⟨by decide, subX_eq rfl rfl, subX_eq rfl rfl, subX_eq rfl rfl⟩
        rintro k ⟨hk, hR⟩
        cases hwk : isW s ((k : Int) - 1) with
        | true =>
          obtain ⟨j, rfl⟩ : ∃ j, k = j + 1 := by
            cases k with
            | zero =>
              unfold isW at hwk
              rw [decide_eq_false (by omega)] at hwk
              cases hwk
            | succ j => exact ⟨j, rfl⟩
          have e1 : (((j + 1 : Nat) : Int) - 1) = (j : Int) := by omega
          rw [e1, isW_nat, Bool.and_eq_true] at hwk
          rw [wBeg, if_pos hwk.2] at hR
          have w2 : IntKind.i64.wrap (((j + 1 : Nat) : Int) - 1) = (j : Int) := by rw [wrap64 (by omega) (by omega)]; omega
          have hw2 : isW s (j : Int) = true := by rw [isW_nat, Bool.and_eq_true]; exact hwk
          simp (maxSteps := 4000000) only [↓Qo,↓Q5,↓Ys,↓Ym,↓Qm,↓Z7,↓Y9,Z0,Yk,Yc,gw,Z1,Yb,↓chk,Qp,↓Jl,↓Qq,↓Zz,↓Y5,↓Y7,Jm,Pg.look,Xd,J6,Zf,false_implies,implies_true,true_and,and_true,Jn,Qr,Qs,Xe,Xf,Y0,Jt,nxtQ,hdS,Ju,frzA,Z2,Yu,Z3,Nat.reduceAdd,ofV,Qa,Q7,Q8,Qh,Jv,Q9,Ja,Jb,Y1,Jw,Jx,Jy,pairsL,Jz,Jc,Jd,J8,Je,Jf,Pg.freeze,Zh,Y2,Qi,subO,Qj,Z9,Jg,J9,Qv,↓Qw,Qx,Qy,Jj,Yn,Qz,Jr,Yv,Yl,Jo,Qb,Qc,AV.cells,AV.pureLeaf,AV.pureB,Xo,Zb,Za,reduceCtorEq,Nat.reduceEqDiff,Nat.reduceAdd,Zd,Ze,Zc,Zi,Zl,Zy,Zx,Zp,ite_true,ite_false,Prod.mk.injEq,Zq,Zv,Zn,and_self,Yz,Xt,Xn,Yo,Yq,Yr,Qn,Zj,Nat.reduceBEq,J5,Zm,Yw,Yp,Qd,Qe,Yg,Yh,Yi,Zg,Zs,Yt,Jh,Zk,Yx,Yd,Y8,Qt,Qu,Z8,↓Js,muC,↓Q0,Yy,kIsW,w2,hw2]
          exact ⟨j, ⟨by omega, hR⟩, by omega, by decide, ⟨subX_eq rfl rfl, subX_eq rfl rfl, subX_eq rfl rfl⟩, rfl⟩
        | false =>
          have w2 : IntKind.i64.wrap ((k : Int) - 1) = (k : Int) - 1 := wrap64 (by omega) (by omega)
          have hb0 : wBeg s k = k := by
            cases k with
            | zero => rfl
            | succ j =>
              have e1 : (((j + 1 : Nat) : Int) - 1) = (j : Int) := by omega
              rw [e1, isW_nat, decide_eq_true (by omega : j < s.length), Bool.true_and] at hwk
              rw [wBeg, if_neg (by rw [hwk]; simp)]
          rw [hb0] at hR
          simp (maxSteps := 4000000) only [↓Qo,↓Xw,↓Ys,↓Ym,↓Qm,↓wpH_loop,↓Z7,↓Y3,Z0,Yk,Yc,gw,Z1,Yb,↓chk,Qp,↓Jl,↓Qq,↓Zz,↓Xp,↓Xk,↓Y7,Jm,Pg.look,Xd,J6,Zf,false_implies,implies_true,true_and,and_true,Jn,Qr,Qs,Xe,Xf,Nat.reduceAdd,ofV,Qa,retA,Pg.freeze,Zh,Y2,Qv,↓Qw,Qx,Qy,Jj,Yn,Qz,Jr,Yv,Yl,Jo,Qb,Qc,AV.cells,Xo,Zb,Za,Nat.reduceEqDiff,Nat.reduceAdd,Zd,Ze,Zc,Zi,Zl,Zy,Zx,Zp,ite_true,ite_false,Prod.mk.injEq,and_self,Yz,Xt,Xn,Yo,Yq,Yr,Qn,Zj,Nat.reduceBEq,J5,Zm,Yw,Yp,Qd,Qe,Yg,Yh,Yi,Zg,Zs,Zk,Yx,Yd,Y8,Qt,Qu,Z8,↓Js,muC,↓Q0,Yy,kIsW,w2,hwk]
          refine loopH_intro (α := Nat) (fun m => ([(3, .ptr 0 2 1 0 0), (4, .ptr 1 2 1 0 0), (5, .str []), (6, .bool false), (7, .ptr 2 1 1 0 0), (8, .fn 106 [.ptr 2 1 1 0 0]), (9, .int .i64 k), (10, .int .i64 m)], [.arr 28 2 [.agg [.int .i64 l, .int .i64 c]], .arr 28 2 [.agg [.int .i64 0, .int .i64 0]], .frz 9 1 [.str s]]))
            (fun m => k ≤ m ∧ m ≤ s.length ∧ wEndF s k = (findUp (fun k => !wAt s k) (s.length - m) m).getD s.length) (fun m => s.length - m) k ⟨by omega, by omega, rfl⟩ ?_ ?_
          · simp (maxSteps := 4000000) only [Pg.look,true_and,and_true,Y0,Jt,nxtQ,hdS,Ju,frzA,Z2,Yu,Z3,Nat.reduceAdd,Q7,Q8,Qh,Jv,Q9,Ja,Jb,Y1,Jw,Jx,Jy,pairsL,Jz,Jc,Jd,J8,Je,Jf,Pg.freeze,Zh,Y2,Qi,subO,Qj,Z9,Jg,J9,AV.cells,AV.pureLeaf,AV.pureB,Xo,Zb,Za,reduceCtorEq,Nat.reduceEqDiff,Nat.reduceAdd,Zd,Ze,Zc,Zp,ite_true,ite_false,Zq,Zv,Zn,and_self,Yt,Jh]
            exact ⟨by decide, subX_eq rfl rfl, subX_eq rfl rfl, subX_eq rfl rfl⟩
          rintro m ⟨hkm, hms, hE⟩
          cases hwm : isW s (m : Int) with
          | true =>
            have hwm' := hwm
            rw [isW_nat, Bool.and_eq_true, decide_eq_true_eq] at hwm'
            have w3 : IntKind.i64.wrap ((m : Int) + 1) = ((m + 1 : Nat) : Int) := by rw [wrap64 (by omega) (by omega)]; rfl
            rw [show s.length - m = (s.length - (m + 1)) + 1 by omega, findUp, if_neg (by rw [hwm'.2]; simp)] at hE
            simp (maxSteps := 4000000) only [↓Qo,↓Q5,↓Ys,↓Ym,↓Qm,↓Z7,↓Y9,Z0,Yk,Yc,gw,Z1,Yb,↓chk,Qp,↓Jl,↓Qq,↓Zz,↓Y5,↓Y7,Jm,Pg.look,Xd,J6,Zf,false_implies,implies_true,true_and,and_true,Jn,Qr,Qs,Xe,Xf,Y0,Jt,nxtQ,hdS,Ju,frzA,Z2,Yu,Z3,Nat.reduceAdd,ofV,Qa,Q7,Q8,Qh,Jv,Q9,Ja,Jb,Y1,Jw,Jx,Jy,pairsL,Jz,Jc,Jd,J8,Je,Jf,Pg.freeze,Zh,Y2,Qi,subO,Qj,Z9,Jg,J9,Qv,↓Qw,Qx,Qy,Jj,Yn,Qz,Jr,Yv,Yl,Jo,Qb,Qc,AV.cells,AV.pureLeaf,AV.pureB,Xo,Zb,Za,reduceCtorEq,Nat.reduceEqDiff,Nat.reduceAdd,Zd,Ze,Zc,Zi,Zl,Zy,Zx,Zp,ite_true,ite_false,Prod.mk.injEq,Zq,Zv,Zn,and_self,Yz,Xt,Xn,Yo,Yq,Yr,Qn,Zj,Nat.reduceBEq,J5,Zm,Yw,Yp,Qd,Qe,Yg,Yh,Yi,Zg,Zs,Yt,Jh,Zk,Yx,Yd,Y8,Qt,Qu,Z8,↓Js,muC,↓Q0,Yy,kIsW,hwm,w3]
            exact ⟨m + 1, ⟨by omega, by omega, hE⟩, by omega, by decide, ⟨subX_eq rfl rfl, subX_eq rfl rfl, subX_eq rfl rfl⟩, rfl⟩
          | false =>
            have hE2 : wEndF s k = m := by
              rw [hE]
              by_cases hml : m < s.length
              · rw [isW_nat, decide_eq_true hml, Bool.true_and] at hwm
                rw [show s.length - m = (s.length - (m + 1)) + 1 by omega, findUp, if_pos (by rw [hwm]; rfl)]; rfl
              · rw [show s.length - m = 0 by omega, findUp]
                show s.length = m
                omega
            rw [wdB, hE2] at hR
            subst hR
            simp (maxSteps := 4000000) only [↓Qo,↓Jq,↓Xw,↓Ys,↓Ym,↓Z7,bselH_true,↓Y3,Z0,Yk,Yc,gw,Z1,Yb,↓chk,Qp,noW,↓Jl,↓Qq,↓Q4,↓Zz,↓Xp,↓Xk,↓Y7,Jm,Pg.look,Zf,false_implies,implies_true,true_and,and_true,forall_const,Jn,Qr,Qs,cutV,Y0,Z2,Z3,Nat.reduceAdd,ofV,Qa,retA,resK,tupA,Q7,Q8,Qh,Q9,Ja,Jb,Y1,Jc,Jd,J8,Je,Jf,Pg.freeze,Zh,Y2,Qi,Qj,Z9,Jg,J9,Y4,Qv,sliceS,↓Qw,Qx,Qy,Jj,Yn,Qz,Jr,Yv,Yl,Jo,Qb,Qc,AV.cells,TK.cells,AV.definite,AV.leaf,AV.leafy,Qf,lay,Xg,Xo,Zb,Za,Option.map_some,Option.map_none,Zr,Nat.reduceEqDiff,Nat.reduceAdd,Zd,Ze,Zc,Zi,Zl,Zy,Zx,Zt,Zu,Zp,ite_true,ite_false,Option.some.injEq,Z6,AV.agg.injEq,Prod.mk.injEq,Zq,Zv,Zn,and_self,exists_eq_left',Qg,Yz,Xt,Xn,Yo,Yq,Yr,Qn,Zj,Nat.reduceBEq,J5,Bool.or_false,beq_self_eq_true,Zm,Yw,Yp,Qd,Qe,Yg,Yh,Yi,Xq,Zg,J7,Zs,Zw,Zo,Z4,Nat.add_zero,Ya,Nat.reduceLeDiff,Ye,Yf,Z5,Zk,Yx,Yd,Y8,Qt,Qu,Z8,↓Js,muC,↓Q0,Yy,Xc,tk3,tk9,dz9,tk28,tz28,dz28,kIsW,aPos,aWd,hwm]
            exact ⟨⟨by omega, by omega, by omega⟩, by kernel_rfl⟩
    · have c1 : decide ((i : Int) < (s.length : Int)) = false := decide_eq_false (by omega)
      have c2 : decide ((i : Int) ≥ (s.length : Int)) = true := decide_eq_true (by omega)
      rw [show s.length - i = 0 by omega, findUp] at hR
      subst hR
      simp (maxSteps := 4000000) only [↓Qo,↓Jq,↓Xw,↓Ys,↓Ym,↓Z7,↓Y9,↓Y3,Z0,Yk,Yc,gw,Z1,Xr,Xv,Yb,gkind,↓chk,Qp,noW,↓Jl,↓Qq,↓Q4,↓Zz,↓J4,↓Xp,↓Xk,↓Y7,Jm,Pg.look,Xd,J6,dstOf,Ql,Zf,implies_true,imp_self,true_and,and_true,pickC,pickV,unc,gof,mux,Xy,Xz,Jn,Qr,Qs,Xe,Xf,Y0,Z2,Z3,Nat.reduceAdd,Xl,Xb,ofV,Qa,sameK,retA,resK,tupA,Q7,Q8,Qh,Q9,Ja,Jb,Y1,Jc,Jd,J8,Je,Jf,Pg.freeze,Zh,Y2,Qi,Qj,Z9,Jg,J9,Y4,Qv,↓Qw,Qx,Qy,Yn,Qz,Jr,Yv,Yl,Jo,Qb,Qc,AV.cells,TK.cells,AV.leaf,AV.leafy,Qf,lay,Xg,Xo,Op.operands,Call.operands,Q1,Qk,Zb,Za,Jp,Zr,Nat.reduceEqDiff,Nat.reduceAdd,Zd,Ze,Zc,Zi,Zl,Zy,Zx,Zt,Zu,Zp,ite_true,ite_false,Option.some.injEq,Z6,AV.agg.injEq,Zq,Zv,Zn,and_self,exists_eq_left',Qg,Yz,Q2,Xt,Xn,Yo,Yq,Yr,Qn,Zj,Nat.reduceBEq,J5,Zm,Yw,Yp,Qd,Qe,Yg,Yh,Yi,Zg,J7,Zs,Zw,Zo,Z4,Ya,Ye,Yf,Z5,Zk,Yx,Yd,Y8,Qt,Qu,Z8,↓Js,muC,↓Q0,Yy,Xc,tk9,dz9,tk28,tz28,dz28,kIsW,aPos,aWd,c1,c2]
def kWord : C1 := C1.by [.sl 1 [], .id] (lCons cStrs (lOne cPos2)) (fun d => okText d.1) (fun d => aWd (wordP d.1 d.2)) (fun _ => [])
theorem ok_Word : C1OK Try.prog 100 kWord := C1OK.by (by kernel_rfl) (fun d h => calls_Word d.1 d.2 h) (fun _ => rfl) (fun _ => rfl)
end Go.Pg
namespace Go.Pg
open Go Go.Proofs

theorem sentLine_len (ls : Ls) (hf : okText ls) (k : Nat) : (sentLine ls k).length ≤ 65536 := by
  unfold sentLine
  split
  · split <;> simp
  · rw [List.length_map]
    exact Nat.le_trans (sentTo_len _ _ _) (fits_getD hf k)
theorem sents_len (ls : Ls) (hf : okText ls) : (sents ls).length ≤ 4294967296 := by
  have h1 := flatTo_len (sentLine ls) 65536 (sentLine_len ls hf) ls.length
  have h2 : ls.length * 65536 ≤ 65536 * 65536 := Nat.mul_le_mul hf.1 (by omega)
  show (flatTo (sentLine ls) ls.length).length ≤ _
  omega

def sentNextL (ls : Ls) (p : Int × Int) (n : Int) (op : Bool) (l : List (Int × Int)) : Mv × Bool :=
  if n ≤ l.length then (jumpM (l.getD (n - 1).toNat (0, 0)), true)
  else if (op && (n - l.length == 1) && less p (endPos ls)) = true then (jumpM (endPos ls), true) else mNone
def sentNextP (ls : Ls) (p : Int × Int) (n : Int) (op : Bool) : Mv × Bool := whenMay ls p n (sentNextL ls p n op (behind (sents ls) p false))

theorem getD_of {α : Type} {l : List α} {k : Nat} {q d : α} (h : l[k]? = some q) : l.getD k d = q := by
  rw [List.getD_eq_getElem?_getD, h]; rfl

set_option maxRecDepth 20000 in
set_option maxHeartbeats 8000000 in
theorem calls_SentNext (ls : Ls) (p : Int × Int) (n : Int) (op : Bool) (hf : okText ls) (hn9 : n ≤ 9223372036854775807) : CallsR Try.prog 88 [.sl 1 (ls.map .str), aPos p, .int .i64 n, .bool op] [] (aMove (sentNextP ls p n op)) [] := by
  obtain ⟨p1, p2⟩ := p
  refine callsR_of (mrg := true) (dyn := []) (CtrOK.cons ok_pfails (CtrOK.cons ok_SentsF (CtrOK.cons ok_sents1 (CtrOK.cons ok_Less (CtrOK.cons ok_pjump (CtrOK.nil _)))))) mixed Try.func88 rfl (by simp [Try.ntmps88]) (by kernel_rfl) ?_
  rw [show Try.f88.results.toList = [.cell 8 38, .cell 9 4] from by kernel_rfl]
  cases hm : may ls (p1, p2) n with
  | false =>
    rw [sentNextP, whenMay, if_neg (by rw [hm]; simp)]
    simp (maxSteps := 4000000) only [↓Qo,↓Jq,↓Ys,↓Ym,↓Z7,↓Y9,Z0,Yk,Yc,gw,Z1,Yb,↓chk,Qp,noW,↓Jl,↓Qq,↓Q4,envOf,↓Zz,↓J4,↓Y7,Jm,Pg.look,Ql,Zf,false_implies,implies_true,true_and,and_true,Jn,Qr,Qs,Y0,Z2,Z3,Nat.reduceAdd,ofV,Qa,retA,resK,tupA,Q7,Q8,Qh,Q9,Ja,Jb,Y1,Jc,Jd,J8,Je,Jf,Pg.freeze,Zh,Qi,Qj,Z9,Jg,J9,Y4,Qv,↓Qw,Qx,Qy,Jj,Yn,Qz,J2,Jr,Yv,Yl,Jo,Qb,Qc,AV.cells,TK.cells,AV.definite,AV.leaf,AV.leafy,Qf,lay,Xg,Zb,Za,Zr,reduceCtorEq,Nat.reduceEqDiff,Nat.reduceAdd,Zd,Ze,Zc,Zi,Zl,Zy,Zx,Zt,Zu,Zp,ite_true,ite_false,Option.some.injEq,Z6,AV.agg.injEq,Prod.mk.injEq,Zq,Zv,Zn,and_self,exists_eq_left',Qg,Yz,Xh,Q3,Yo,Yq,Yr,Zj,Zm,Xs,Yw,Yp,Qd,Qe,Yg,Yh,Yi,Zg,J7,Zs,Zw,Zo,Z4,Ya,Ye,Yf,Z5,Zk,Yx,Yd,Y8,Qt,Qu,Z8,↓Js,muC,↓Q0,Yy,Xc,tk3,dz3,tk4,tz4,dz4,tk28,dz28,tk38,tz38,dz38,kCFails,aPos,aMove,aMv,mNone,hm]
  | true =>
    rw [sentNextP, whenMay, if_pos hm]
    have hi := (may_iff _ _ _).1 hm
    dsimp only at hi
    have hll := hf.1
    have hsl := sents_len ls hf
    simp (maxSteps := 4000000) only [↓Qo,↓Q5,↓Ys,↓Ym,↓Qm,↓Z7,↓Y3,Z0,Yk,Yc,gw,Z1,Yb,↓chk,Qp,noW,↓Jl,↓Qq,↓Q4,envOf,↓Zz,↓Y7,Jm,Pg.look,Ji,Zf,Yj,false_implies,implies_true,true_and,and_true,Jn,Qr,Qs,Nat.reduceAdd,Pg.freeze,Zh,Y4,Qv,↓Qw,Qx,Qy,Jj,Yn,Qz,J2,Jr,Yv,Yl,Jo,Qb,Qc,AV.cells,TK.cells,AV.definite,Zb,Za,Zr,reduceCtorEq,Nat.reduceEqDiff,Nat.reduceAdd,Zd,Ze,Zc,Zi,Zl,Zy,Zx,Zp,ite_true,ite_false,Option.some.injEq,Prod.mk.injEq,and_self,exists_eq_left',Yz,Xh,Q3,Xn,Yo,Yq,Yr,Zj,Zm,Xs,Yw,Yp,Qd,Qe,Yg,Yh,Yi,Zg,J7,Zs,Zo,Ya,Ye,Z5,Zk,↓wpH_range,rangH_fn,rangR_some,iterC,Yx,J0,Jk,C1itBy_xs,optL_some,Yd,Y8,Qt,Qu,Z8,↓Js,muC,↓Q0,Yy,J1,tk3,dz3,tz4,tk28,dz28,tz38,kCFails,kSentsF,aSent,kSents1,kLess,kPJump,aPos,aMv,hm]
    refine ⟨hf, ?_⟩
    generalize hM : sents ls = M at hsl ⊢
    rw [mark_eq]
    refine rangG_intro M (fun p => [aPos p]) (0, 0) [(0, .sl 1 (ls.map .str)), (3, .bool op), (5, .ptr 0 2 1 0 0), (6, .ptr 1 1 1 0 0), (8, .ptr 2 5 1 0 0), (9, .ptr 3 1 1 0 0)]
      [.arr 28 2 [.agg [.int .i64 p1, .int .i64 p2]], .arr 3 1 [.int .i64 n], .arr 38 5 [.agg [.int .i64 0, .int .i64 0, .int .i64 0, .bool false, .int .i64 0]], .arr 4 1 [.bool false]]
      (fun k => ([(0, .sl 1 (ls.map .str)), (3, .bool op), (5, .ptr 0 2 1 0 0), (6, .ptr 1 1 1 0 0), (8, .ptr 2 5 1 0 0), (9, .ptr 3 1 1 0 0)], [.arr 28 2 [.agg [.int .i64 p1, .int .i64 p2]], .arr 3 1 [.int .i64 (n - (behind (M.take k) (p1, p2) false).length)], .arr 38 5 [.agg [.int .i64 0, .int .i64 0, .int .i64 0, .bool false, .int .i64 0]], .arr 4 1 [.bool false]]))
      (fun k => ((behind (M.take k) (p1, p2) false).length : Int) < n) rfl ?_ ?_ ?_ (fun _ => rfl) ?_ ?_
    · simp (maxSteps := 4000000) only [Pg.look,true_and,and_true,Y0,Jt,nxtQ,hdS,Ju,frzA,Z2,Yu,Z3,Nat.reduceAdd,Q7,Q8,Qh,Jv,Q9,Ja,Jb,Y1,Jw,Jx,Jy,Jz,Jc,Jd,Je,Jf,Pg.freeze,Zh,Qi,subO,Qj,Z9,Jg,AV.cells,AV.pureLeaf,AV.pureB,Zb,Za,reduceCtorEq,Nat.reduceEqDiff,Nat.reduceAdd,Zd,Ze,Zc,Zp,ite_true,ite_false,Zq,Zv,Zn,and_self,Yt,Jh]
      exact ⟨by decide, subX_eq rfl rfl, subX_eq rfl rfl, subX_eq rfl rfl, subX_eq rfl rfl⟩
    · simp (maxSteps := 4000000) only [Pg.look,true_and,and_true,Y0,Jt,nxtQ,hdS,Ju,frzA,Z2,Yu,Z3,J3,Nat.reduceAdd,Q7,Q8,Qh,Jv,Q9,Ja,Jb,Y1,Jw,Jx,Jy,Jz,Jc,Jd,Je,Jf,Pg.freeze,Zh,Qi,subO,Qj,Z9,Jg,AV.cells,AV.pureLeaf,AV.pureB,Zb,Za,reduceCtorEq,Nat.reduceEqDiff,Nat.reduceAdd,Nat.reduceLT,Zd,Ze,Zc,Zi,Zl,Zp,ite_true,ite_false,Zq,Zv,Zn,and_self,Z4,Zk]
      exact ⟨by decide, subX_eq rfl rfl, subX_eq (by simp [behind]) rfl, subX_eq rfl rfl, subX_eq rfl rfl⟩
    · show ((behind [] (p1, p2) false).length : Int) < n
      simp only [behind,List.filter_nil,Zl]
      omega
    · intro k hk hpk
      have hpk : ((behind (M.take k) (p1, p2) false).length : Int) < n := hpk
      have hsu := behind_succ M (p1, p2) false k hk
      have hw : IntKind.i64.wrap (n - (behind (M.take k) (p1, p2) false).length - 1) = n - (behind (M.take k) (p1, p2) false).length - 1 := wrap64 (by omega) (by omega)
      have hbe : isBehind (p1, p2) false (M.getD k (0, 0)) = less (p1, p2) (M.getD k (0, 0)) := by unfold isBehind; simp
      cases hb : less (p1, p2) (M.getD k (0, 0)) with
      | true =>
        rw [hb] at hbe
        have hat := behind_at M (p1, p2) false k hk hbe
        rw [if_pos hbe] at hsu
        by_cases hn : n - (behind (M.take k) (p1, p2) false).length - 1 = 0
        · have hct : (n - ((behind (M.take k) (p1, p2) false).length : Int) - 1 == 0) = true := by rw [hn]; rfl
          have hlt := (List.getElem?_eq_some_iff.1 hat).1
          have e : sentNextL ls (p1, p2) n op (behind M (p1, p2) false) = (jumpM (M.getD k (0, 0)), true) := by
            unfold sentNextL
            rw [if_pos (by omega), show (n - 1).toNat = (behind (M.take k) (p1, p2) false).length by omega, getD_of hat]
          rw [e]
          simp (maxSteps := 4000000) only [↓Qo,↓Q5,↓Jq,↓Ys,↓Ym,↓Qm,↓Z7,↓Y9,↓Y3,Z0,Yk,Yc,gw,Z1,Yb,↓chk,Qp,noW,↓Jl,↓Qq,↓Q4,↓Zz,↓J4,↓blockA_ret,↓Y7,Jm,Pg.look,Xd,J6,Ji,Zf,Yj,false_implies,implies_true,true_and,and_true,Jn,Qr,Qs,Xe,Xf,Y0,Z2,Z3,Nat.reduceAdd,ofV,Qa,retA,resK,tupA,Q7,Q8,Qh,Q9,Ja,Jb,Y1,Jc,Jd,J8,Je,Jf,Pg.freeze,Zh,Qi,Qj,Z9,Jg,J9,Y4,Qv,↓Qw,Qx,Qy,Jj,Yn,Qz,J2,Jr,Yv,Yl,Jo,Qb,Qc,AV.cells,TK.cells,AV.definite,AV.leaf,AV.leafy,Qf,lay,Zb,Za,Zr,reduceCtorEq,Nat.reduceEqDiff,Nat.reduceAdd,Zd,Ze,Zc,Zi,Zl,Zy,Zx,Zt,Zu,Zp,ite_true,ite_false,Option.some.injEq,Prod.mk.injEq,Zq,Zv,Zn,and_self,exists_eq_left',Qg,Yz,Q3,Yo,Yq,Yr,Zj,Zm,Yw,Yp,Qd,Qe,Yg,Yh,Yi,Zg,J7,Zs,Zw,Zo,Z4,Ya,Ye,Yf,Z5,Zk,Yx,J0,Jk,Xi,Xm,rqH_ret,Yd,Y8,Qt,Qu,Z8,↓Js,muC,↓Q0,Yy,J1,Xc,tk3,dz3,tk4,dz4,tk28,tz28,dz28,tk38,dz38,aPos_def,aMove,aMv,jumpM,hb,hw,hct]
        · have hct : (n - ((behind (M.take k) (p1, p2) false).length : Int) - 1 == 0) = false := by rw [beq_eq_false_iff_ne]; exact hn
          simp (maxSteps := 4000000) only [↓Qo,↓Q5,↓Ys,↓Ym,↓Qm,↓Z7,↓Y3,Z0,Yk,Yc,gw,Z1,Yb,↓chk,Qp,noW,↓Jl,↓Qq,↓Q4,↓Zz,↓Y5,↓Y7,Jm,Pg.look,Xd,J6,Ji,Zf,Yj,false_implies,implies_true,true_and,and_true,Jn,Qr,Qs,Xe,Xf,Y0,Jt,nxtQ,hdS,Ju,frzA,Z2,Yu,Z3,J3,Nat.reduceAdd,ofV,Qa,Q7,Q8,Qh,Jv,Q9,Ja,Jb,Y1,Jw,Jx,Jy,Jz,Jc,Jd,Je,Jf,Pg.freeze,Zh,Qi,subO,Qj,Z9,Jg,Y4,Qv,↓Qw,Qx,Qy,Jj,Yn,Qz,J2,Jr,Yv,Yl,Jo,Qb,Qc,AV.cells,TK.cells,AV.definite,AV.leaf,AV.leafy,AV.pureLeaf,AV.pureB,Qf,lay,Zb,Za,Zr,reduceCtorEq,Nat.reduceEqDiff,Nat.reduceAdd,Nat.reduceLT,Zd,Ze,Zc,Zi,Zl,Zy,Zx,Zt,Zu,Zp,ite_true,ite_false,Option.some.injEq,Prod.mk.injEq,Zq,Zv,Zn,and_self,exists_eq_left',Yz,Q3,Yo,Yq,Yr,Zj,Zm,Yw,Yp,Qd,Qe,Yg,Yh,Yi,Zg,J7,Zs,Zw,Zo,Z4,Ya,Ye,Yf,Z5,Zk,Yx,J0,Jk,Xi,Xm,Xj,Yd,Y8,Qt,Qu,Z8,↓Js,muC,↓Q0,Yy,J1,tk3,dz3,tk28,tz28,dz28,aPos_def,jumpM,hb,hw,hct]
          exact ⟨by rw [hsu, List.length_append, List.length_singleton]; omega, by decide, subX_eq rfl rfl, subX_eq (by rw [hsu, List.length_append, List.length_singleton]; congr 2; omega) rfl, subX_eq rfl rfl, subX_eq rfl rfl⟩
      | false =>
        rw [hb] at hbe
        rw [if_neg (by rw [hbe]; simp)] at hsu
        simp (maxSteps := 4000000) only [↓Qo,↓Q5,↓Jq,↓Xw,↓Ys,↓Ym,↓Qm,↓Z7,↓Y9,iselH_if,Z0,Yk,Yc,gw,Z1,Xr,Xv,Yb,gkind,↓chk,Qp,noW,↓Jl,↓Qq,↓Q4,↓Zz,↓J4,↓Xp,↓Xk,↓Y7,Jm,Pg.look,Xd,J6,dstOf,Ql,Zf,Yj,false_implies,implies_true,imp_self,true_and,and_true,pickC,pickV,unc,gof,mux,Xy,Xz,Jn,Qr,Qs,Xe,Xf,Y0,Jt,nxtQ,hdS,Ju,frzA,Z2,Yu,Z3,J3,Nat.reduceAdd,Xl,Xb,ofV,Qa,sameK,retA,resK,tupA,Q7,Q8,Qh,Jv,Q9,Ja,Jb,Y1,Jw,Jx,Jy,Jz,Jc,Jd,J8,Je,Jf,Pg.freeze,Zh,Qi,subO,Qj,Z9,Jg,J9,slen,Y4,Qv,↓Qw,Qx,Qy,Jj,Yn,Qz,J2,Jr,Yv,Yl,Jo,Qb,Qc,AV.cells,TK.cells,AV.definite,AV.leaf,AV.leafy,AV.pureLeaf,AV.pureB,Qf,lay,Xg,Op.operands,Call.operands,Q1,Qk,Zb,Za,Jp,Zr,reduceCtorEq,Nat.reduceEqDiff,Nat.reduceAdd,Nat.reduceLT,Zd,Ze,Zc,Zi,Zl,Zy,Zx,Zt,Zu,Zp,ite_true,ite_false,Option.some.injEq,Z6,AV.int.injEq,AV.agg.injEq,Prod.mk.injEq,Bool.if_true_left,Bool.decide_eq_true,Zq,Zv,Zn,and_self,Xx,exists_eq_left',Qg,Y6,Yz,Q2,Q3,Yo,Yq,Yr,Zj,Zm,Yw,Yp,Qd,Qe,Yg,Yh,Yi,getD_str,Zg,J7,Zs,Zw,Zo,Z4,Ya,Nat.reduceLeDiff,Ye,Yf,Z5,Zk,Yx,J0,Jk,Xi,Xm,Xj,rqH_exit,Yd,Y8,Qt,Qu,Z8,↓Js,muC,↓Q0,Yy,J1,Xc,tk3,dz3,tk4,dz4,tk9,dz9,tk22,tk28,tz28,dz28,tk38,tz38,dz38,kCFails,kSentsF,aSent,kSents1,kLess,kPJump,aPos_def,aMove,aMv,jumpM,hb]
        exact ⟨by rw [hsu]; exact hpk, by decide, subX_eq rfl rfl, subX_eq (by rw [hsu]) rfl, subX_eq rfl rfl, subX_eq rfl rfl⟩
    · intro hpk
      have hpk : ((behind (M.take M.length) (p1, p2) false).length : Int) < n := hpk
      rw [List.take_of_length_le (Nat.le_refl M.length)] at hpk ⊢
      generalize hB : behind M (p1, p2) false = B at hpk ⊢
      have w1 : IntKind.i64.wrap ((ls.length : Int) - 1) = (ls.length : Int) - 1 := wrap64 (by omega) (by omega)
      have e1 : ((ls.length : Int) - 1).toNat = ls.length - 1 := by omega
      have e2 : endPos ls = ((ls.length : Int) - 1, ((ls.getD (ls.length - 1) []).length : Int)) := rfl
      rw [sentNextL, if_neg (by omega), e2]
      cases hc1 : (n - (B.length : Int) == 1) <;> cases hc2 : less (p1, p2) ((ls.length : Int) - 1, ((ls.getD (ls.length - 1) []).length : Int)) <;> cases op
      all_goals
        simp (maxSteps := 4000000) only [↓Qo,↓Q5,↓Jq,↓Ys,↓Ym,↓Z7,↓Y9,↓Y3,Z0,Yk,Yc,gw,Z1,Xr,Xv,Yb,gkind,↓chk,Qp,noW,↓Jl,↓Qq,↓Q4,↓Zz,↓J4,↓Y5,↓Y7,Jm,Pg.look,Xd,J6,dstOf,Bool.and_false,Q6,Ql,Ji,Zf,Yj,false_implies,implies_true,imp_self,true_and,and_true,pickC,pickV,unc,gof,mux,Xy,Xz,Jn,Qr,Qs,Xe,Xf,Y0,Z2,Z3,Nat.reduceAdd,Xl,Xb,ofV,Qa,sameK,retA,resK,tupA,Q7,Q8,Qh,Q9,Ja,Jb,Y1,Jc,Jd,J8,Je,Jf,Pg.freeze,Zh,Qi,Qj,Z9,Jg,J9,slen,Y4,Qv,↓Qw,Qx,Qy,Jj,Yn,Qz,J2,Jr,Yv,Yl,Jo,Qb,Qc,AV.cells,TK.cells,AV.definite,AV.leaf,AV.leafy,Qf,lay,Xg,Op.operands,Call.operands,Q1,Qk,Zb,Za,Jp,Zr,reduceCtorEq,Nat.reduceEqDiff,Nat.reduceAdd,Zd,Ze,Zc,Zi,Zl,Zy,Zx,Zt,Zu,Zp,ite_true,ite_false,Option.some.injEq,Z6,AV.int.injEq,AV.agg.injEq,Prod.mk.injEq,Zq,Zv,Zn,and_self,exists_eq_left',Qg,Y6,Yz,Q2,Q3,Yo,Yq,Yr,Zj,Zm,Yw,Yp,Qd,Qe,Yg,Yh,Yi,getD_str,Zg,J7,Zs,Zw,Zo,Z4,Ya,Nat.reduceLeDiff,Ye,Yf,Z5,Zk,Yx,J0,Jk,Yd,Y8,Qt,Qu,Z8,↓Js,muC,↓Q0,Yy,J1,Xc,tk3,dz3,tk4,dz4,tk9,dz9,tk22,tk28,tz28,dz28,tk38,tz38,dz38,kCFails,kSentsF,aSent,kSents1,kLess,kPJump,aPos_def,aMove,aMv,mNone,jumpM,w1,e1,hc1,hc2,bne]
        exact ⟨by omega, by omega⟩
theorem ok_SentNext : C1OK Try.prog 88 (kMvNB sentNextP) := C1OK.by (by kernel_rfl) (fun d h => calls_SentNext d.1 d.2.1 d.2.2.1 d.2.2.2 h.1 h.2) (fun _ => rfl) (fun _ => rfl)

def sentBackL (M : List (Int × Int)) (p : Int × Int) (n : Int) : Mv × Bool := if (wBack M p n).2 = true then (jumpM (wBack M p n).1, true) else mNone
def sentBackP (ls : Ls) (p : Int × Int) (n : Int) : Mv × Bool := whenMay ls p n (sentBackL (sents ls) p n)
set_option maxRecDepth 20000 in
set_option maxHeartbeats 8000000 in
theorem calls_SentBack (ls : Ls) (p : Int × Int) (n : Int) (hf : okText ls) : CallsR Try.prog 87 [.sl 1 (ls.map .str), aPos p, .int .i64 n] [] (aMove (sentBackP ls p n)) [] := by
  obtain ⟨p1, p2⟩ := p
  refine callsR_of (mrg := true) (dyn := []) (CtrOK.cons ok_pfails (CtrOK.cons ok_SentsF (CtrOK.cons ok_sents1 (CtrOK.cons ok_Less (CtrOK.cons ok_pjump (CtrOK.nil _)))))) mixed Try.func87 rfl (by simp [Try.ntmps87]) (by kernel_rfl) ?_
  rw [show Try.f87.results.toList = [.cell 6 38, .tmp 7] from by kernel_rfl]
  cases hm : may ls (p1, p2) n with
  | false =>
    rw [sentBackP, whenMay, if_neg (by rw [hm]; simp)]
    simp (maxSteps := 4000000) only [↓Qo,↓Jq,↓Ys,↓Ym,↓Z7,↓Y9,Z0,Yk,Yc,gw,Z1,Yb,↓chk,Qp,noW,↓Jl,↓Qq,↓Q4,envOf,↓Zz,↓J4,↓Y7,Jm,Pg.look,Ql,Zf,false_implies,implies_true,true_and,and_true,Jn,Qr,Qs,Y0,Z2,Z3,Nat.reduceAdd,ofV,Qa,retA,resK,tupA,Q7,Q8,Qh,Q9,Ja,Jb,Y1,Jc,Jd,J8,Je,Jf,Pg.freeze,Zh,Qi,Qj,Z9,Jg,J9,Y4,Qv,↓Qw,Qx,Qy,Jj,Yn,Qz,J2,Jr,Yv,Yl,Jo,Qb,Qc,AV.cells,TK.cells,AV.definite,AV.leaf,AV.leafy,Qf,lay,Xg,Zb,Za,Zr,reduceCtorEq,Nat.reduceEqDiff,Nat.reduceAdd,Zd,Ze,Zc,Zi,Zl,Zy,Zx,Zt,Zu,Zp,ite_true,ite_false,Option.some.injEq,Z6,AV.agg.injEq,Prod.mk.injEq,Zq,Zv,Zn,and_self,exists_eq_left',Qg,Yz,Xh,Q3,Yo,Yq,Yr,Zj,Zm,Xs,Yw,Yp,Qd,Qe,Yg,Yh,Yi,Zg,J7,Zs,Zw,Zo,Z4,Ya,Ye,Yf,Z5,Zk,Yx,Yd,Y8,Qt,Qu,Z8,↓Js,muC,↓Q0,Yy,Xc,tk28,dz28,tk38,tz38,dz38,kCFails,aPos,aMove,aMv,mNone,hm]
  | true =>
    rw [sentBackP, whenMay, if_pos hm]
    have h1 : 1 ≤ n := ((may_iff _ _ _).1 hm).1
    have hml := sents_len ls hf
    simp (maxSteps := 4000000) only [↓Qo,↓Q5,↓Ys,↓Ym,↓Qm,↓Z7,↓Y3,Z0,Yk,Yc,gw,Z1,Yb,↓chk,Qp,noW,↓Jl,↓Qq,↓Q4,envOf,↓Zz,↓Y7,Jm,Pg.look,Ji,Zf,Yj,false_implies,implies_true,true_and,and_true,Jn,Qr,Qs,Nat.reduceAdd,ofV,Qa,Pg.freeze,Zh,Y4,Qv,↓Qw,Qx,Qy,Jj,Yn,Qz,J2,Jr,Yv,Yl,Jo,Qb,Qc,AV.cells,TK.cells,AV.definite,Za,Zr,reduceCtorEq,Nat.reduceEqDiff,Nat.reduceAdd,Zd,Ze,Zc,Zi,Zl,Zy,Zx,Zp,ite_true,ite_false,Option.some.injEq,Prod.mk.injEq,and_self,exists_eq_left',Yz,Xh,Q3,Xn,Yo,Yq,Yr,Zj,Zm,Xs,Yw,Yp,Qd,Qe,Yg,Yh,Yi,Zg,J7,Zs,Zo,Ya,Ye,Z5,Zk,↓wpH_range,rangH_fn,rangR_some,iterC,Yx,J0,Jk,C1itBy_xs,optL_some,Yd,Y8,Qt,Qu,Z8,↓Js,muC,↓Q0,Yy,J1,tk28,dz28,tz38,tz61,kCFails,kSentsF,aSent,kSents1,kLess,kPJump,aPos,aMv,hm]
    refine ⟨hf, ?_⟩
    generalize hM : sents ls = M at hml ⊢
    have hend : ∀ k, tw M (p1, p2) = M.take k → k ≤ M.length → (n > (k : Int) → sentBackL M (p1, p2) n = mNone) ∧ (n ≤ (k : Int) → sentBackL M (p1, p2) n = (jumpM ((M.take k).getD (k - n.toNat) (0, 0)), true)) := by
      intro k hk hkl
      have hl : (tw M (p1, p2)).length = k := by rw [hk, List.length_take]; omega
      have e : wBack M (p1, p2) n = if n > (k : Int) then ((0, 0), false) else ((M.take k).getD (k - n.toNat) (0, 0), true) := by
        unfold wBack; rw [hl, hk]
      unfold sentBackL
      exact ⟨fun h => by rw [e, if_pos h]; rfl, fun h => by rw [e, if_neg (show ¬ n > (k : Int) by omega)]; rfl⟩
    rw [mark_eq]
    refine rangG_intro M (fun p => [aPos p]) (0, 0) [(2, .int .i64 n), (4, .ptr 0 2 1 0 0), (6, .ptr 1 5 1 0 0), (8, .ptr 2 1 1 0 0)] [.arr 28 2 [.agg [.int .i64 p1, .int .i64 p2]], .arr 38 5 [.agg [.int .i64 0, .int .i64 0, .int .i64 0, .bool false, .int .i64 0]], .arr 61 1 [.nls]]
      (fun k => ([(2, .int .i64 n), (4, .ptr 0 2 1 0 0), (6, .ptr 1 5 1 0 0), (8, .ptr 2 1 1 0 0)], [.arr 28 2 [.agg [.int .i64 p1, .int .i64 p2]], .arr 38 5 [.agg [.int .i64 0, .int .i64 0, .int .i64 0, .bool false, .int .i64 0]], .arr 61 1 [.own 3 2 k], .arr 28 2 ((M.take k).map aPos)])) (fun k => (M.take k).all (fun q => less q (p1, p2)) = true) rfl ?_ ?_ (by simp) (fun _ => rfl) ?_ ?_
    · simp (maxSteps := 4000000) only [Pg.look,true_and,and_true,Y0,Jt,nxtQ,hdS,Ju,frzA,Z2,Yu,Z3,Nat.reduceAdd,Q7,Q8,Qh,Jv,Q9,Ja,Jb,Y1,Jw,Jx,Jy,Jz,Jc,Jd,Je,Jf,Pg.freeze,Zh,Qi,subO,Qj,Z9,Jg,AV.cells,AV.pureLeaf,AV.pureB,Zb,Za,reduceCtorEq,Nat.reduceEqDiff,Nat.reduceAdd,Zd,Ze,Zc,Zp,ite_true,ite_false,Zq,Zv,Zn,and_self,Yt,Jh]
      exact ⟨by decide, subX_eq rfl rfl, subX_eq rfl rfl, subX_eq rfl rfl⟩
    · simp (maxSteps := 4000000) only [Pg.look,true_and,and_true,Y0,Jt,nxtQ,hdS,Ju,frzA,Z2,Yu,Z3,J3,Nat.reduceAdd,Q7,Q8,Qh,Jv,Q9,Ja,Jb,Y1,Jw,Jx,Jy,Jz,Jc,Jd,Je,Jf,Pg.freeze,Zh,Qi,subO,Qj,Z9,Jg,AV.cells,AV.pureLeaf,AV.pureB,Zb,Za,reduceCtorEq,Nat.reduceEqDiff,Nat.reduceAdd,Nat.reduceLT,Zd,Ze,Zc,Zi,Zl,Zx,Zp,ite_true,ite_false,Zq,Zv,Zn,and_self,Z4,Yt,Zk]
      exact ⟨by decide, subX_eq rfl rfl, subX_eq rfl rfl, subX_nls rfl⟩
    · intro k hk hpk
      have hpk : (M.take k).all (fun q => less q (p1, p2)) = true := hpk
      have hrl : (M.take k).length = k := by rw [List.length_take]; omega
      have hap := app1_pos (M.take k) (M.getD k (0, 0))
      rw [← take_succ_getD M k (0, 0) hk] at hap
      have hrl2 : (M.take (k + 1)).length = k + 1 := by rw [List.length_take]; omega
      cases hb : less (M.getD k (0, 0)) (p1, p2) with
      | true =>
        have hall : (M.take (k + 1)).all (fun q => less q (p1, p2)) = true := by
          rw [take_succ_getD M k (0, 0) hk, List.all_append, hpk]
          simp only [Zq,Zv,hb]; rfl
        simp (maxSteps := 4000000) only [↓Qo,↓Q5,↓Ys,↓Ym,↓Qm,↓Z7,↓Y3,Z0,Yk,Yc,gw,Z1,Yb,↓chk,Qp,noW,↓Jl,↓Qq,↓Q4,↓Zz,↓Y5,↓Y7,Jm,Pg.look,Q6,Ji,Zf,Yj,false_implies,implies_true,true_and,and_true,Jn,Qr,Qs,Y0,Jt,nxtQ,hdS,Ju,frzA,Z2,Yu,Z3,J3,Nat.reduceAdd,ofV,Qa,Q7,Q8,Qh,Jv,Q9,Ja,Jb,Y1,Jw,Jx,Jy,Jz,Jc,Jd,Je,Jf,Pg.freeze,Zh,Qi,subO,Qj,Z9,Jg,srcV,srcE,appK,Y4,Qv,↓Qw,Qx,Qy,Jj,Yn,Qz,J2,Jr,Yv,Yl,Jo,Qb,Qc,AV.cells,TK.cells,AV.definite,AV.leaf,AV.leafy,AV.pureLeaf,AV.pureB,Qf,lay,Zb,Za,Zr,reduceCtorEq,Nat.reduceEqDiff,Nat.reduceAdd,Nat.reduceLT,Zd,Ze,Zc,Zi,Zl,Zy,Zx,Zt,Zu,Zp,ite_true,ite_false,Option.some.injEq,Z6,Prod.mk.injEq,Zq,Zv,Zn,and_self,exists_eq_left',Y6,Yz,rg1,Q3,Yo,Yq,Yr,Zj,beq_self_eq_true,Zm,Nat.reducePow,Yw,Yp,Qd,Qe,Yg,Yh,Yi,Zg,J7,Zs,Zw,Zo,Z4,Ya,Nat.reduceLeDiff,Ye,Yt,X0,Yf,Z5,Zk,Yx,J0,Jk,Xi,Xm,Xj,Yd,Y8,Qt,Qu,Z8,↓Js,muC,↓Q0,Yy,J1,tk28,tz28,dz28,eb28,tk61,dz61,hrl,hap,hb,pureB_posL,aPos_def]
        exact ⟨⟨by decide, by omega⟩, hall, by decide, subX_eq rfl rfl, subX_eq rfl rfl, subX_own rfl rfl, subX_eq rfl (pureB_posL _)⟩
      | false =>
        have hfin := hend k (tw_stop _ M k hk hpk hb) (by omega)
        by_cases hn : n > (k : Int)
        · have hct : decide (n > (k : Int)) = true := decide_eq_true hn
          rw [hfin.1 hn]
          simp (maxSteps := 4000000) only [↓Qo,↓Jq,↓Xw,↓Ys,↓Ym,↓Qm,↓Z7,↓Y9,Z0,Yk,Yc,gw,Z1,Yb,↓chk,Qp,noW,↓Jl,↓Qq,↓Q4,↓Zz,↓J4,↓Xp,↓Xk,↓Y7,Jm,Pg.look,Xd,J6,Q6,Ql,Zf,Yj,false_implies,implies_true,true_and,and_true,Jn,Qr,Qs,Xe,Xf,Y0,Jt,nxtQ,hdS,Ju,frzA,Z2,Yu,Z3,J3,Nat.reduceAdd,ofV,Qa,retA,resK,tupA,Q7,Q8,Qh,Jv,Q9,Ja,Jb,Y1,Jw,Jx,Jy,Jz,Jc,Jd,J8,Je,Jf,Pg.freeze,Zh,Qi,subO,Qj,Z9,Jg,J9,slen,Y4,Qv,↓Qw,Qx,Qy,Jj,Yn,Qz,J2,Jr,Yv,Yl,Jo,Qb,Qc,AV.cells,TK.cells,AV.definite,AV.leaf,AV.leafy,AV.pureLeaf,AV.pureB,Qf,lay,Xg,Zb,Za,Zr,reduceCtorEq,Nat.reduceEqDiff,Nat.reduceAdd,Nat.reduceLT,Zd,Ze,Zc,Zi,Zl,Zy,Zx,Zt,Zu,Zp,ite_true,ite_false,Option.some.injEq,Z6,AV.int.injEq,AV.agg.injEq,Prod.mk.injEq,Zq,Zv,Zn,and_self,exists_eq_left',Qg,Yz,Q3,Yo,Yq,Yr,Zj,Zm,Yw,Yp,Qd,Qe,Yg,Yh,Yi,Zg,J7,Zs,Zw,Zo,Z4,Ya,Ye,Yt,Yf,Z5,Zk,Yx,J0,Jk,Xi,Xm,Xj,rqH_exit,Yd,Y8,Qt,Qu,Z8,↓Js,muC,↓Q0,Yy,J1,Xc,tk28,tz28,dz28,tk38,tz38,dz38,tk61,dz61,kLess,kPJump,aMove,aMv,mNone,hb,hct,pureB_posL,aPos_def]
        · have hct : decide (n > (k : Int)) = false := decide_eq_false hn
          have hw : IntKind.i64.wrap ((k : Int) - n) = ((k - n.toNat : Nat) : Int) := by rw [wrap64 (by omega) (by omega)]; omega
          rw [hfin.2 (by omega)]
          simp (maxSteps := 4000000) only [↓Qo,↓Q5,↓Jq,↓Xw,↓Ys,↓Ym,↓Qm,↓Z7,↓Y9,↓Y3,Z0,Yk,Yc,gw,Z1,Yb,↓chk,Qp,noW,↓Jl,↓Qq,↓Q4,↓Zz,↓Xp,↓Xk,↓Y7,Jm,Pg.look,Xd,J6,Q6,Ql,Zf,Yj,false_implies,implies_true,true_and,and_true,Jn,Qr,Qs,Xe,Xf,Y0,Jt,nxtQ,hdS,Ju,frzA,Z2,Yu,Z3,J3,Nat.reduceAdd,ofV,Qa,retA,resK,tupA,Q7,Q8,Qh,Jv,Q9,Ja,Jb,Y1,Jw,Jx,Jy,Jz,Jc,Jd,J8,Je,Jf,Pg.freeze,Zh,Qi,subO,Qj,Z9,Jg,J9,slen,Y4,Qv,↓Qw,Qx,Qy,Jj,Yn,Qz,J2,Jr,Yv,Yl,Jo,Qb,Qc,AV.cells,TK.cells,AV.definite,AV.leaf,AV.leafy,AV.pureLeaf,AV.pureB,Qf,lay,Zb,Za,Zr,reduceCtorEq,Nat.reduceEqDiff,Nat.reduceAdd,Nat.reduceLT,Zd,Ze,Zc,Zi,Zl,Zy,Zx,Zt,Zu,Zp,ite_true,ite_false,Option.some.injEq,AV.int.injEq,Prod.mk.injEq,Zq,Zv,Zn,and_self,exists_eq_left',Qg,Y6,Yz,Q3,Yo,Yq,Yr,Zj,Zm,Yw,Yp,Qd,Qe,Yg,Yh,Yi,Xq,Zg,J7,Zs,Zw,Zo,Z4,Ya,Ye,Yt,Yf,Z5,Zk,Yx,J0,Jk,Xi,Xm,Xj,rqH_exit,Yd,Y8,Qt,Qu,Z8,↓Js,muC,↓Q0,Yy,J1,Xc,tk28,tz28,dz28,tk38,dz38,tk61,dz61,kLess,kPJump,aMove,aMv,jumpM,hrl,hb,hct,hw,getD_pos,pureB_posL,aPos_def]
          exact ⟨by omega, by omega⟩
    · intro hpk
      have hpk : (M.take M.length).all (fun q => less q (p1, p2)) = true := hpk
      rw [List.take_of_length_le (Nat.le_refl M.length)] at hpk ⊢
      have hfin := hend M.length (by rw [List.take_of_length_le (Nat.le_refl M.length)]; exact tw_all _ M hpk) (Nat.le_refl _)
      rw [List.take_of_length_le (Nat.le_refl M.length)] at hfin
      by_cases hn : n > (M.length : Int)
      · have hct : decide (n > (M.length : Int)) = true := decide_eq_true hn
        rw [hfin.1 hn]
        simp (maxSteps := 4000000) only [↓Qo,↓Jq,↓Ys,↓Ym,↓Z7,↓Y9,Z0,Yk,Yc,gw,Z1,Yb,↓chk,Qp,noW,↓Jl,↓Qq,↓Q4,↓Zz,↓J4,↓Y5,↓Y7,Jm,Pg.look,Xd,J6,Zf,implies_true,true_and,and_true,Jn,Qr,Qs,Xe,Xf,Y0,Z2,Z3,Nat.reduceAdd,ofV,Qa,retA,resK,tupA,Q7,Q8,Qh,Q9,Ja,Jb,Y1,Jc,Jd,J8,Je,Jf,Pg.freeze,Zh,Qi,Qj,Z9,Jg,J9,slen,Y4,Qv,Yl,Jo,AV.cells,TK.cells,AV.leaf,AV.leafy,Qf,lay,Xg,Zb,Za,Zr,Nat.reduceEqDiff,Nat.reduceAdd,Zd,Ze,Zi,Zl,Zx,Zt,Zu,Zp,ite_true,ite_false,Option.some.injEq,Z6,AV.int.injEq,AV.agg.injEq,Zq,Zv,Zn,and_self,exists_eq_left',Qg,Zj,Zg,J7,Zs,Zw,Zo,Z4,Ya,Ye,Yf,Z5,Zk,Yd,Y8,Qt,Qu,Z8,Xc,tk38,tz38,dz38,tk61,dz61,kLess,kPJump,aMove,aMv,mNone,hct]
      · have hct : decide (n > (M.length : Int)) = false := decide_eq_false hn
        have hw : IntKind.i64.wrap ((M.length : Int) - n) = ((M.length - n.toNat : Nat) : Int) := by rw [wrap64 (by omega) (by omega)]; omega
        rw [hfin.2 (by omega)]
        simp (maxSteps := 4000000) only [↓Qo,↓Q5,↓Jq,↓Ys,↓Ym,↓Z7,↓Y3,Z0,Yk,Yc,gw,Z1,Yb,↓chk,Qp,noW,↓Jl,↓Qq,↓Q4,↓Zz,↓Y5,↓Y7,Jm,Pg.look,Xd,J6,Zf,false_implies,implies_true,true_and,and_true,Jn,Qr,Qs,Xe,Xf,Y0,Z2,Z3,Nat.reduceAdd,ofV,Qa,retA,resK,tupA,Q7,Q8,Qh,Q9,Ja,Jb,Y1,Jc,Jd,J8,Je,Jf,Pg.freeze,Zh,Qi,Qj,Z9,Jg,J9,slen,Y4,Qv,↓Qw,Qx,Qy,Jj,Yn,Qz,Jr,Yv,Yl,Jo,Qb,Qc,AV.cells,TK.cells,AV.leaf,AV.leafy,Qf,lay,Zb,Za,Zr,Nat.reduceEqDiff,Nat.reduceAdd,Zd,Ze,Zc,Zi,Zl,Zy,Zx,Zt,Zu,Zp,ite_true,ite_false,Option.some.injEq,AV.int.injEq,Prod.mk.injEq,Zq,Zv,Zn,and_self,exists_eq_left',Qg,Y6,Yz,Q3,Yo,Yq,Yr,Zj,Zm,Yw,Yp,Qd,Qe,Yg,Yh,Yi,Xq,Zg,J7,Zs,Zw,Zo,Z4,Ya,Ye,Yf,Z5,Zk,Yx,Yd,Y8,Qt,Qu,Z8,↓Js,muC,↓Q0,Yy,Xc,tk28,dz28,tk38,dz38,tk61,dz61,kLess,kPJump,aMove,aMv,jumpM,hct,hw,getD_pos,aPos_def]
        exact ⟨by omega, by omega⟩
theorem ok_SentBack : C1OK Try.prog 87 (kMvN sentBackP) := C1OK.by (by kernel_rfl) (fun d h => calls_SentBack d.1 d.2.1 d.2.2 h.1) (fun _ => rfl) (fun _ => rfl)
end Go.Pg
