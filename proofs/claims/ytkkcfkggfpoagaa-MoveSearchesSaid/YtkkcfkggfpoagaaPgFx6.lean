/- The n-th place of a pattern: the program's. The word at a place: the program's. Brackets: the program's. -/
import Derived.Test.YtkkcfkggfpoagaaPgFx2
import Derived.Test.YtkkcfkggfpoagaaPgFx5
import Derived.Test.YtkkcfkggfpoagaaPgFx4
open List renaming getElem?_cons_succ → Za, getElem?_cons_zero → Zb, append_nil → Zd, contains_nil → Ze, foldl_nil → Zf, length_nil → Zg, cons_append → Zh, nil_append → Zi, getD_cons_zero → Zj, length_cons → Zk, take_succ_cons → Zp, all_cons → Zq, set_cons_zero → Zs, drop_succ_cons → Zv, all_nil → Zw, drop_zero → Z1, set_cons_succ → Z5, range'_zero → Z7, take_zero → Z8, map_nil → Yc, map_cons → Yd, drop_nil → Ye, take_nil → Yi, foldl_cons → Ym, length_map → Yu, contains_cons → Qd, getElem?_toArray → Q7, toList_toArray → Jd, length_append → J3, length_reverse → Xh
open Bool renaming false_eq_true → Zc, and_self → Zm, true_eq_false → Jj, or_self → Jk, and_true → J2, not_false → J5, not_true → Xn
open Nat renaming zero_lt_succ → Zl, zero_add → Zo, le_refl → Yh, lt_irrefl → Yn, sub_zero → Yr, not_lt_zero → Yx, add_zero → J6, mul_one → Xs
open Go.Pg renaming thenA_normal → Zn, bselH_false → Zt, gselH_plain → Zu, closeQ_nil → Zx, diagQ_zero → Zy, wpH_region → Zz, selC_false → Z0, cselH_bool → Z2, subV_succ → Z3, runH_cons → Z4, regH_none → Z6, runH_nil → Z9, wpH_cond → Yb, iselH_false → Yf, wpH_seq → Yg, iselH_true → Yj, alives → Yk, pickOf → Yl, wpH_block → Yo, stepEv → Yp, ofLeaf → Yq, isNext → Ys, pickOK_nil → Yt, res_succ → Yv, blockA_normal → Yw, closeQ_succ → Yy, ptrsE → Yz, subOs → Y0, subEv → Y1, optP_some → Y2, optV_some → Y3, optH_some → Y4, wpA_H → Y5, justK → Y6, pureK → Y7, heapV → Y8, footV → Y9, nextF → Qa, nextG → Qb, ldCells → Qc, putCells → Qe, normArgs → Qf, lOne_dec → Qg, C1by_pre → Qh, wpH_skip → Qi, wpH_ret → Qk, intOp → Ql, subA → Qm, subQ → Qn, frzO → Qo, subF → Qp, subG → Qq, frzE → Qr, frzC → Qs, frz0 → Qt, frzH → Qu, subM → Qv, oneK → Qw, opnd → Qx, valV → Qy, lCons_dec → Qz, dec2_some → Q0, res8_eq → Q1, C1by_ns → Q2, C1by_it → Q3, C1by_mu → Q4, objAt → Q5, thenA_ret → Q6, heapK → Q8, cInt_dec → Q9, shiftR → Ja, shift1 → Jb, C1by_r → Je, C1by_H → Jf, binK → Jg, binV → Jh, intV → Ji, frzL → Jm, subL → Jn, aliveO → Jp, pairsA → Jq, pairsO → Jr, assocN → Js, pairsE → Jt, pairsC → Ju, pairs0 → Jv, callT → Jw, callC → Jx, callV → Jy, normA → Jz, callP → J0, resM → J1, retA → J4, blockA_ret → J7, envOf → J8, callH → J9, frzAt → Xa, look_stripE → Xb, blockA_exit → Xc, cStr_dec → Xd, buildL → Xe, mapAt → Xf, thenA_exit → Xg, cSl_dec → Xi, cAgg_dec → Xj, cRp_dec → Xk, normC → Xl, mergeable → Xm, gselH_if → Xo, getD_str → Xp, wpH_exit → Xq, kselH_1 → Xt, C1itBy_pre → Xu, diagQ_succ → Xv, consO_some → Xw, wpH_loop → Xx
open Option renaming getD_some → Zr, isSome_some → Ya, bind_some → Jo, map_none → Xr
open Int renaming cast_ofNat_Int → Qj, toNat_natCast → Jl
open Array renaming toList_append → Jc
namespace Go.Pg
open Go Go.Proofs

theorem decL_posL (l : List (Int × Int)) : decL cPos2.dec (l.map aPos) = some l := decL_map (fun a => by simp [aPos, cAgg, lCons, lOne, cInt, dec2]) l
theorem renL_posL (ρ : Nat → Nat) (l : List (Int × Int)) : renL ρ (l.map aPos) = l.map aPos := renL_pure ρ _ (pureB_posL l)
def roundS (ls : Ls) (p : Int × Int) (pat : List UInt8) (back : Bool) : List (Int × Int) :=
  if back = true then ((hits pat ls).filter fun q => less q p).reverse ++ (((hits pat ls).filter fun q => !less q p && less p q).reverse ++ (hits pat ls).filter fun q => !less q p && !less p q)
  else ((hits pat ls).filter fun q => !less q p && less p q) ++ (((hits pat ls).filter fun q => less q p) ++ (hits pat ls).filter fun q => !less q p && !less p q)
def pickS (l : List (Int × Int)) (n : Int) : Mv × Bool := if l.length = 0 then mNone else (jumpM (l.getD ((min n 1073741824 - 1) % l.length).toNat (0, 0)), true)
def searchP (ls : Ls) (p : Int × Int) (pat : List UInt8) (back : Bool) (n : Int) : Mv × Bool := whenMay ls p n (pickS (roundS ls p pat back) n)
theorem hits_len (pat : List UInt8) (ls : Ls) (hf : okText ls) : (hits pat ls).length ≤ 4295032832 := by
  unfold hits
  split
  · simp
  · have h1 := marksTo_len false (hitB pat) ls 65536 (fits_getD hf) ls.length
    have h2 : ls.length * (65536 + 1) ≤ 65536 * 65537 := Nat.mul_le_mul hf.1 (by omega)
    omega

set_option maxRecDepth 20000 in
set_option maxHeartbeats 8000000 in
theorem calls_Search (ls : Ls) (p : Int × Int) (pat : List UInt8) (back : Bool) (n : Int) (hf : okText ls) : CallsR Try.prog 101 [.sl 1 (ls.map .str), aPos p, .str pat, .bool back, .int .i64 n] [] (aMove (searchP ls p pat back n)) [] := by
  obtain ⟨p1, p2⟩ := p
  refine callsR_of (mrg := true) (dyn := []) (CtrOK.cons ok_CPlace (CtrOK.cons ok_AllF (CtrOK.cons ok_all1 (CtrOK.cons ok_Less (CtrOK.cons ok_Reverse (CtrOK.cons ok_ConcatR (CtrOK.nil _))))))) mixed Try.func101 rfl (by simp [Try.ntmps101]) (by kernel_rfl) ?_
  rw [show Try.f101.results.toList = [.cell 10 38, .tmp 11] from by kernel_rfl]
  unfold searchP whenMay
  have hpl : may ls (p1, p2) n = (place ls p1 p2 && decide (n ≥ 1)) := rfl
  cases hm : may ls (p1, p2) n with
  | false =>
    rw [if_neg (by simp)]
    have c1 : (decide (n < 1) || !place ls p1 p2) = true := by
      rw [hpl, Bool.and_eq_false_iff] at hm
      simp only [Bool.or_eq_true,decide_eq_true_eq,Bool.not_eq_true',decide_eq_false_iff_not] at hm ⊢
      rcases hm with hm | hm
      · exact .inr hm
      · exact .inl (by omega)
    simp (maxSteps := 4000000) only [↓Y5,↓Qk,↓Yg,↓Yb,↓Zz,↓Yj,Zt,Z9,Z4,gw,Zu,Xo,Xt,Z2,gkind,↓chk,Y6,noW,↓Qw,↓Y7,↓Q8,J8,↓Zn,↓Q6,↓Yp,Qx,Pg.look,Jg,Ql,dstOf,Zc,implies_true,imp_self,true_and,and_true,pickC,pickV,unc,gof,mux,mergeK,condsL,Qy,Y8,Y9,Jh,Ji,Yk,Zx,Zy,Nat.reduceAdd,Xm,Xb,ofV,Yq,sameK,J4,resK,tupA,Qm,Qn,Yz,Qo,Qp,Qq,Yl,Qr,Qs,Jm,Qt,Qu,Pg.freeze,Zf,Y0,Y1,Z3,Qv,Jn,Qc,Q5,↓Jw,Jx,Jy,Qf,Jz,Xl,resL,Q1,Yv,J1,Ja,Jb,AV.cells,TK.cells,AV.definite,AV.leaf,AV.leafy,Qe,lay,Xe,Op.operands,Call.operands,Jc,Q7,Za,Zb,Jo,Zr,reduceCtorEq,Nat.reduceEqDiff,Nat.reduceAdd,Zi,Zd,Zh,Zk,Zg,Yd,Yc,Zs,Z5,Zo,ite_true,ite_false,Option.some.injEq,Ya,AV.agg.injEq,Bool.if_true_left,decide_eq_true_eq,decide_eq_false_iff_not,Int.not_lt,Zq,Zw,Zm,and_self,Bool.not_eq_true',exists_eq_left',Yt,Q9,Jd,Xi,Xj,Qg,Qz,Q0,Ze,Z7,decL_str,Q2,Qh,Je,Jf,Y2,Y3,Y4,Zj,cutL,Z1,Zv,Zp,Z8,Yr,Yh,Ye,Yi,Zl,Q3,Z6,Ys,Qa,Qb,Z0,↓msel,muC,↓J0,Q4,Xf,tk28,dz28,tk38,tz38,dz38,kRPlace,aPos,aMove,aMv,mNone,c1]
    all_goals (intros; simp_all)
  | true =>
    rw [if_pos rfl]
    have hi := (may_iff _ _ _).1 hm
    dsimp only at hi
    have c1 : decide (n < 1) = false := decide_eq_false (by omega)
    have c2 : place ls p1 p2 = true := by rw [hpl, Bool.and_eq_true] at hm; exact hm.1
    have hml := hits_len pat ls hf
    simp (maxSteps := 4000000) only [↓Y5,↓Qi,↓Yg,↓Yb,↓Yo,↓Zz,↓Yf,Zt,Z9,Z4,gw,Zu,Xo,Xt,Z2,gkind,↓chk,Y6,noW,↓Qw,↓Y7,↓Q8,J8,↓Zn,↓Yp,Qx,Pg.look,Jg,Ql,dstOf,J5,Xn,Zc,Jj,false_implies,implies_true,true_and,and_true,pickC,pickV,unc,gof,mux,mergeK,condsL,Qy,Y8,Y9,Jh,Ji,Nat.reduceAdd,Xm,Xb,ofV,Yq,sameK,Pg.freeze,Zf,Qc,Q5,↓Jw,Jx,Jy,J9,Qf,Jz,Xl,resL,Q1,Yv,J1,Ja,Jb,AV.cells,TK.cells,AV.definite,Op.operands,Call.operands,Jc,Q7,Za,Zb,Jo,Zr,reduceCtorEq,Nat.reduceEqDiff,Nat.reduceAdd,Zi,Zd,Zh,Zk,Zg,Yd,Yc,Zo,ite_true,ite_false,Option.some.injEq,Prod.mk.injEq,Zm,and_self,exists_eq_left',Q9,Jd,Xd,Xi,Xj,Xk,Qg,Qz,Q0,Ze,Z7,decL_str,Q2,Qh,Je,Jf,Y2,Y3,Y4,Zj,cutL,Z1,Zp,Yr,Yh,Yi,Zl,↓wpH_range,rangH_fn,rangR_some,iterC,Q3,C1itBy_it,Xu,C1itBy_xs,optL_some,Z6,Ys,Qa,Qb,Z0,↓msel,muC,↓J0,Q4,C1itBy_mu,tk28,dz28,tz38,tz61,kRPlace,kAllF,aAll,kAll1,kLess,aPos,c1,c2]
    refine ⟨hf, ?_⟩
    unfold roundS
    generalize hM : hits pat ls = M at hml ⊢
    rw [mark_eq]
    obtain ⟨gA, hgA⟩ : ∃ gA : Int × Int → Bool, gA = fun q => less q (p1, p2) := ⟨_, rfl⟩
    obtain ⟨gB, hgB⟩ : ∃ gB : Int × Int → Bool, gB = fun q => !less q (p1, p2) && less (p1, p2) q := ⟨_, rfl⟩
    obtain ⟨gC, hgC⟩ : ∃ gC : Int × Int → Bool, gC = fun q => !less q (p1, p2) && !less (p1, p2) q := ⟨_, rfl⟩
    rw [← hgA, ← hgB, ← hgC]
    refine rangG_intro M (fun p => [.agg [.int .i64 p.1, .int .i64 p.2]]) (0, 0) [(3, .bool back), (4, .int .i64 n), (6, .ptr 0 2 1 0 0), (10, .ptr 1 5 1 0 0), (11, .bool false), (12, .ptr 2 1 1 0 0), (13, .ptr 3 1 1 0 0), (14, .ptr 4 1 1 0 0)]
      [.arr 28 2 [.agg [.int .i64 p1, .int .i64 p2]], .arr 38 5 [.agg [.int .i64 0, .int .i64 0, .int .i64 0, .bool false, .int .i64 0]], .arr 61 1 [.nls], .arr 61 1 [.nls], .arr 61 1 [.nls]]
      (fun k => ([(3, .bool back), (4, .int .i64 n), (6, .ptr 0 2 1 0 0), (10, .ptr 1 5 1 0 0), (11, .bool false), (12, .ptr 2 1 1 0 0), (13, .ptr 3 1 1 0 0), (14, .ptr 4 1 1 0 0)], [.arr 28 2 [.agg [.int .i64 p1, .int .i64 p2]], .arr 38 5 [.agg [.int .i64 0, .int .i64 0, .int .i64 0, .bool false, .int .i64 0]], .arr 61 1 [.own 5 2 ((M.take k).filter gA).length], .arr 61 1 [.own 6 2 ((M.take k).filter gB).length], .arr 61 1 [.own 7 2 ((M.take k).filter gC).length], .arr 28 2 (((M.take k).filter gA).map aPos), .arr 28 2 (((M.take k).filter gB).map aPos), .arr 28 2 (((M.take k).filter gC).map aPos)]))
      (fun _ => True) rfl ?_ ?_ trivial (fun _ => rfl) ?_ ?_
    · simp (maxSteps := 4000000) only [Pg.look,true_and,and_true,Yk,Jp,nxtQ,hdS,Jq,frzA,Zx,Yy,Zy,Nat.reduceAdd,Qm,Qn,Yz,Jr,Qo,Qp,Qq,Yl,Js,Jt,Ju,Jv,Qr,Qs,Qt,Qu,Pg.freeze,Zf,Y0,subO,Y1,Z3,Qv,AV.cells,AV.pureLeaf,AV.pureB,Za,Zb,reduceCtorEq,Nat.reduceEqDiff,Nat.reduceAdd,Zi,Zd,Zh,Zo,ite_true,ite_false,Zq,Zw,Zm,and_self,Yn,Yx]
      (repeat' first | exact trivial | exact subX_eq rfl rfl | exact subX_eq rfl (pureB_posL _) | exact subX_nls rfl | exact subX_own rfl rfl | exact subX_own rfl (by simp) | apply And.intro | decide | omega)
    · simp (maxSteps := 4000000) only [Pg.look,true_and,and_true,Yk,Jp,nxtQ,hdS,Jq,frzA,Zx,Yy,Zy,Xv,Nat.reduceAdd,Qm,Qn,Yz,Jr,Qo,Qp,Qq,Yl,Js,Jt,Ju,Jv,Qr,Qs,Qt,Qu,Pg.freeze,Zf,Y0,subO,Y1,Z3,Qv,AV.cells,AV.pureLeaf,AV.pureB,Za,Zb,reduceCtorEq,Nat.reduceEqDiff,Nat.reduceAdd,Nat.reduceLT,Zi,Zd,Zh,Zk,Zg,Yc,Zo,ite_true,ite_false,Zq,Zw,Zm,and_self,Z8,Yn,Zl,List.filter_nil]
      (repeat' first | exact trivial | exact subX_eq rfl rfl | exact subX_eq rfl (pureB_posL _) | exact subX_nls rfl | exact subX_own rfl rfl | exact subX_own rfl (by simp) | apply And.intro | decide | omega)
    · intro k hk _
      have fA := filter_take gA M k (0, 0) hk
      have fB := filter_take gB M k (0, 0) hk
      have fC := filter_take gC M k (0, 0) hk
      have lA : ((M.take k).filter gA).length ≤ k := Nat.le_trans (List.length_filter_le _ _) (by rw [List.length_take]; omega)
      have lB : ((M.take k).filter gB).length ≤ k := Nat.le_trans (List.length_filter_le _ _) (by rw [List.length_take]; omega)
      have lC : ((M.take k).filter gC).length ≤ k := Nat.le_trans (List.length_filter_le _ _) (by rw [List.length_take]; omega)
      have hA : gA (M.getD k (0, 0)) = less (M.getD k (0, 0)) (p1, p2) := by rw [hgA]
      have hB : gB (M.getD k (0, 0)) = (!less (M.getD k (0, 0)) (p1, p2) && less (p1, p2) (M.getD k (0, 0))) := by rw [hgB]
      have hC : gC (M.getD k (0, 0)) = (!less (M.getD k (0, 0)) (p1, p2) && !less (p1, p2) (M.getD k (0, 0))) := by rw [hgC]
      obtain ⟨xA, hxA⟩ : ∃ x, x = (M.take k).filter gA := ⟨_, rfl⟩
      obtain ⟨xB, hxB⟩ : ∃ x, x = (M.take k).filter gB := ⟨_, rfl⟩
      obtain ⟨xC, hxC⟩ : ∃ x, x = (M.take k).filter gC := ⟨_, rfl⟩
      rw [← hxA] at fA lA
      rw [← hxB] at fB lB
      rw [← hxC] at fC lC
      have aA := app1_pos xA (M.getD k (0, 0))
      have aB := app1_pos xB (M.getD k (0, 0))
      have aC := app1_pos xC (M.getD k (0, 0))
      cases b1 : less (M.getD k (0, 0)) (p1, p2) with
      | true =>
        rw [b1] at hA hB hC
        rw [if_pos hA] at fA
        rw [if_neg (by rw [hB]; simp)] at fB
        rw [if_neg (by rw [hC]; simp)] at fC
        simp (maxSteps := 4000000) only [↓Y5,↓Yg,↓Yb,↓Yo,↓Zz,↓Yj,Zt,Z9,Z4,gw,Zu,Z2,↓chk,Y6,noW,↓Qw,↓Y7,↓Q8,↓Zn,↓Yw,↓Yp,Qx,Pg.look,J2,Zc,Jj,false_implies,implies_true,true_and,and_true,Qy,Y8,Y9,Yk,Jp,nxtQ,hdS,Jq,frzA,Zx,Yy,Zy,Xv,Nat.reduceAdd,ofV,Yq,Qm,Qn,Yz,Jr,Qo,Qp,Qq,Yl,Js,Jt,Ju,Jv,Qr,Qs,Qt,Qu,Pg.freeze,Zf,Y0,subO,Y1,Z3,Qv,srcV,srcE,appK,Qc,Q5,↓Jw,Jx,Jy,J9,Qf,Jz,Xl,resL,Q1,Yv,J1,Ja,Jb,AV.cells,TK.cells,AV.definite,AV.leaf,AV.leafy,AV.pureLeaf,AV.pureB,Qe,lay,Za,Zb,Zr,reduceCtorEq,Nat.reduceEqDiff,Nat.reduceAdd,Nat.reduceLT,Zi,Zd,Zh,Zk,Zg,Yd,Yc,Zs,Z5,Zo,ite_true,ite_false,Option.some.injEq,Ya,Prod.mk.injEq,Zq,Zw,Zm,and_self,exists_eq_left',Yu,Q9,J3,rg1,Xj,Qg,Qz,Q0,Ze,beq_self_eq_true,Z7,Nat.reducePow,Q2,Qh,Je,Jf,Y2,Y3,Y4,Zj,cutL,Z1,Zv,Zp,Z8,Yr,Nat.reduceLeDiff,Yh,Yn,Nat.one_mul,Ye,Yi,Zl,Q3,C1itBy_it,Xu,parE_cons,parE_nil,rqH_normal,Z6,Ys,Qa,Qb,Z0,↓msel,muC,↓J0,Q4,C1itBy_mu,tk28,tz28,dz28,eb28,tk61,dz61,← hxA,← hxB,← hxC,fA,fB,fC,aA,b1,pureB_posL]
        (repeat' first | exact trivial | exact subX_eq rfl rfl | exact subX_eq rfl (pureB_posL _) | exact subX_nls rfl | exact subX_own rfl rfl | exact subX_own rfl (by simp) | apply And.intro | decide | omega)
      | false =>
        rw [b1] at hA hB hC
        rw [if_neg (by rw [hA]; simp)] at fA
        cases b2 : less (p1, p2) (M.getD k (0, 0)) with
        | true =>
          rw [b2] at hB hC
          rw [if_pos (by rw [hB]; rfl)] at fB
          rw [if_neg (by rw [hC]; simp)] at fC
          simp (maxSteps := 4000000) only [↓Y5,↓Yg,↓Yb,↓Yo,↓Zz,↓Yj,↓Yf,Zt,Z9,Z4,gw,Zu,Z2,↓chk,Y6,noW,↓Qw,↓Y7,↓Q8,↓Zn,↓Yw,↓Yp,Qx,Pg.look,J2,Zc,Jj,false_implies,implies_true,true_and,and_true,Qy,Y8,Y9,Yk,Jp,nxtQ,hdS,Jq,frzA,Zx,Yy,Zy,Xv,Nat.reduceAdd,ofV,Yq,Qm,Qn,Yz,Jr,Qo,Qp,Qq,Yl,Js,Jt,Ju,Jv,Qr,Qs,Qt,Qu,Pg.freeze,Zf,Y0,subO,Y1,Z3,Qv,srcV,srcE,appK,Qc,Q5,↓Jw,Jx,Jy,J9,Qf,Jz,Xl,resL,Q1,Yv,J1,Ja,Jb,AV.cells,TK.cells,AV.definite,AV.leaf,AV.leafy,AV.pureLeaf,AV.pureB,Qe,lay,Za,Zb,Zr,reduceCtorEq,Nat.reduceEqDiff,Nat.reduceAdd,Nat.reduceLT,Zi,Zd,Zh,Zk,Zg,Yd,Yc,Zs,Z5,Zo,ite_true,ite_false,Option.some.injEq,Ya,Prod.mk.injEq,Zq,Zw,Zm,and_self,exists_eq_left',Yu,Q9,J3,rg1,Xj,Qg,Qz,Q0,Ze,beq_self_eq_true,Z7,Nat.reducePow,Q2,Qh,Je,Jf,Y2,Y3,Y4,Zj,cutL,Z1,Zv,Zp,Z8,Yr,Nat.reduceLeDiff,Yh,Yn,Nat.one_mul,Ye,Yi,Zl,Q3,C1itBy_it,Xu,parE_cons,parE_nil,rqH_normal,Z6,Ys,Qa,Qb,Z0,↓msel,muC,↓J0,Q4,C1itBy_mu,tk28,tz28,dz28,eb28,tk61,dz61,← hxA,← hxB,← hxC,fA,fB,fC,aB,b1,b2,pureB_posL]
          (repeat' first | exact trivial | exact subX_eq rfl rfl | exact subX_eq rfl (pureB_posL _) | exact subX_nls rfl | exact subX_own rfl rfl | exact subX_own rfl (by simp) | apply And.intro | decide | omega)
        | false =>
          rw [b2] at hB hC
          rw [if_neg (by rw [hB]; simp)] at fB
          rw [if_pos (by rw [hC]; rfl)] at fC
          simp (maxSteps := 4000000) only [↓Y5,↓Yg,↓Yb,↓Yo,↓Zz,↓Yf,Zt,Z9,Z4,gw,Zu,Z2,↓chk,Y6,noW,↓Qw,↓Y7,↓Q8,↓Zn,↓Yw,↓Yp,Qx,Pg.look,J2,Zc,Jj,false_implies,implies_true,true_and,and_true,Qy,Y8,Y9,Yk,Jp,nxtQ,hdS,Jq,frzA,Zx,Yy,Zy,Xv,Nat.reduceAdd,ofV,Yq,Qm,Qn,Yz,Jr,Qo,Qp,Qq,Yl,Js,Jt,Ju,Jv,Qr,Qs,Qt,Qu,Pg.freeze,Zf,Y0,subO,Y1,Z3,Qv,srcV,srcE,appK,Qc,Q5,↓Jw,Jx,Jy,J9,Qf,Jz,Xl,resL,Q1,Yv,J1,Ja,Jb,AV.cells,TK.cells,AV.definite,AV.leaf,AV.leafy,AV.pureLeaf,AV.pureB,Qe,lay,Za,Zb,Zr,reduceCtorEq,Nat.reduceEqDiff,Nat.reduceAdd,Nat.reduceLT,Zi,Zd,Zh,Zk,Zg,Yd,Yc,Zs,Z5,Zo,ite_true,ite_false,Option.some.injEq,Ya,Prod.mk.injEq,Zq,Zw,Zm,and_self,exists_eq_left',Yu,Q9,J3,rg1,Xj,Qg,Qz,Q0,Ze,beq_self_eq_true,Z7,Nat.reducePow,Q2,Qh,Je,Jf,Y2,Y3,Y4,Zj,cutL,Z1,Zv,Zp,Z8,Yr,Nat.reduceLeDiff,Yh,Yn,Nat.one_mul,Ye,Yi,Zl,Q3,C1itBy_it,Xu,parE_cons,parE_nil,rqH_normal,Z6,Ys,Qa,Qb,Z0,↓msel,muC,↓J0,Q4,C1itBy_mu,tk28,tz28,dz28,eb28,tk61,dz61,← hxA,← hxB,← hxC,fA,fB,fC,aC,b1,b2,pureB_posL]
          (repeat' first | exact trivial | exact subX_eq rfl rfl | exact subX_eq rfl (pureB_posL _) | exact subX_nls rfl | exact subX_own rfl rfl | exact subX_own rfl (by simp) | apply And.intro | decide | omega)
    · intro _
      rw [List.take_of_length_le (Nat.le_refl M.length)]
      have lA : (M.filter gA).length ≤ M.length := List.length_filter_le _ _
      have lB : (M.filter gB).length ≤ M.length := List.length_filter_le _ _
      have lC : (M.filter gC).length ≤ M.length := List.length_filter_le _ _
      generalize M.filter gA = xA at lA ⊢
      generalize M.filter gB = xB at lB ⊢
      generalize M.filter gC = xC at lC ⊢
      cases back with
      | true =>
        rw [if_pos rfl]
        have hfl : [xA.reverse, xB.reverse, xC].flatten = xA.reverse ++ (xB.reverse ++ xC) := by simp
        have hLl : (xA.reverse ++ (xB.reverse ++ xC)).length ≤ 1099511627776 := by simp only [J3,Xh]; omega
        generalize xA.reverse ++ (xB.reverse ++ xC) = L at hfl hLl ⊢
        have w1 : IntKind.i64.wrap (min n 1073741824 - 1) = min n 1073741824 - 1 := wrap64 (by omega) (by omega)
        by_cases hL : L.length = 0
        · have c3 : ((L.length : Int) == 0) = true := by rw [hL]; rfl
          rw [pickS, if_pos hL]
          simp (maxSteps := 4000000) only [↓Y5,↓Qk,↓Yg,↓Yb,↓Zz,↓Yj,Zt,Z9,Z4,gw,Zu,Z2,↓chk,Y6,noW,↓Qw,↓Y7,↓Q8,↓Zn,↓Q6,↓Yw,↓Yp,Qx,Pg.look,Jg,Ql,J2,J5,Zc,false_implies,implies_true,true_and,and_true,Qy,Y8,Y9,Jh,Ji,Yk,Zx,Zy,Nat.reduceAdd,ofV,Yq,J4,resK,tupA,Qm,Qn,Yz,Qo,Qp,Qq,Yl,Qr,Qs,Jm,Qt,Qu,Pg.freeze,Zf,Ym,Y0,Y1,Z3,Qv,Jn,slen,Qc,Q5,↓Jw,Jx,Jy,J9,Qf,Jz,Xl,normE,resL,Q1,Yv,J1,Ja,Jb,AV.cells,TK.cells,AV.definite,AV.leaf,AV.leafy,AV.pureLeaf,AV.pureB,Qe,lay,Xe,Xa,Za,Zb,Zr,Nat.reduceEqDiff,Nat.reduceAdd,Zi,Zd,Zh,Zk,Zg,Yd,Yc,Zs,Z5,Zo,ite_true,ite_false,Option.some.injEq,Ya,AV.int.injEq,AV.agg.injEq,Prod.mk.injEq,Zq,Zw,Zm,and_self,exists_eq_left',Yt,Yu,rg3,Xi,Qg,Ze,beq_self_eq_true,decL_nil,decL_cons,Xw,Z7,Nat.reducePow,Q2,Qh,Je,Jf,Y2,Y3,Y4,Zj,cutL,Z1,Zv,Zp,Z8,Yr,Nat.sub_self,Nat.reduceLeDiff,Yh,Xs,Ye,Yi,Zl,Q3,Z6,Ys,Qa,Qb,Z0,↓msel,muC,↓J0,↓callU,↓callUV,↓callUH,↓callUF,Q4,C1mby_mu,runM_eq,mkM_some,hNil_dec,hCons_dec,app3_some,hO1_some,hO2_arr,hOwn_dec,pickF,nodupB,somes,fresh,gids,putO,ren,renL,renO,Xf,tk38,tz38,dz38,tk61,dz61,eb61,tk120,kReverse,hPoss,kConcatR,aMove,aMv,mNone,pureB_posL,decL_posL,renL_posL,Xh,hfl,c3]
          (repeat' first | exact trivial | apply And.intro | decide | omega)
        · have c3 : ((L.length : Int) == 0) = false := beq_eq_false_iff_ne.2 (by omega)
          have w2 : (min n 1073741824 - 1).tmod (L.length : Int) = (min n 1073741824 - 1) % (L.length : Int) := Int.tmod_eq_emod_of_nonneg (by omega)
          have h1 := Int.emod_nonneg (min n 1073741824 - 1) (b := (L.length : Int)) (by omega)
          have h2 := Int.emod_lt_of_pos (min n 1073741824 - 1) (b := (L.length : Int)) (by omega)
          rw [pickS, if_neg hL]
          simp (maxSteps := 4000000) only [↓Y5,↓Qi,↓Qk,↓Yg,↓Yb,↓Zz,↓Yj,↓Yf,Zt,Z9,Z4,gw,Zu,Z2,↓chk,Y6,noW,↓Qw,↓Y7,↓Q8,↓Zn,↓Yw,↓Yp,Qx,Pg.look,Jg,Ql,J2,J5,Zc,false_implies,implies_true,true_and,and_true,Qy,Y8,Y9,Jh,Ji,Yk,Zx,Zy,Nat.reduceAdd,ofV,Yq,J4,resK,tupA,Qm,Qn,Yz,Qo,Qp,Qq,Yl,Qr,Qs,Jm,Qt,Qu,Pg.freeze,Zf,Ym,Y0,Y1,Z3,Qv,Jn,slen,Qc,Q5,↓Jw,Jx,Jy,J9,Qf,Jz,Xl,normE,resL,Q1,Yv,J1,Ja,Jb,AV.cells,TK.cells,AV.definite,AV.leaf,AV.leafy,AV.pureLeaf,AV.pureB,Qe,lay,Xe,foldInts,Xa,Za,Zb,Zr,Nat.reduceEqDiff,Nat.reduceAdd,Zi,Zd,Zh,Zk,Zg,Yd,Yc,Zs,Z5,Zo,ite_true,ite_false,Option.some.injEq,Ya,AV.int.injEq,AV.agg.injEq,Prod.mk.injEq,ne_eq,Zq,Zw,Zm,and_self,exists_eq_left',Yt,Yu,rg3,Xi,Qg,Ze,beq_self_eq_true,decL_nil,decL_cons,Xw,Z7,Nat.reducePow,Q2,Qh,Je,Jf,Y2,Y3,Y4,Zj,cutL,Z1,Zv,Zp,Z8,Yr,Nat.sub_self,Nat.reduceLeDiff,Yh,Xs,Ye,Yi,Zl,Q3,Z6,Ys,Qa,Qb,Z0,↓msel,muC,↓J0,↓callU,↓callUV,↓callUH,↓callUF,Q4,C1mby_mu,runM_eq,mkM_some,hNil_dec,hCons_dec,app3_some,hO1_some,hO2_arr,hOwn_dec,pickF,nodupB,somes,fresh,gids,putO,ren,renL,renO,Xf,tk28,dz28,tk38,tz38,dz38,tk61,dz61,eb61,tk120,kReverse,hPoss,kConcatR,aMove,aMv,jumpM,pureB_posL,decL_posL,renL_posL,Xh,aPos_def,getD_pos,hfl,w1,w2,c3]
          (repeat' first | exact trivial | apply And.intro | decide | omega)
      | false =>
        rw [if_neg (by simp)]
        have hfl : [xB, xA, xC].flatten = xB ++ (xA ++ xC) := by simp
        have hLl : (xB ++ (xA ++ xC)).length ≤ 1099511627776 := by simp only [J3]; omega
        generalize xB ++ (xA ++ xC) = L at hfl hLl ⊢
        have w1 : IntKind.i64.wrap (min n 1073741824 - 1) = min n 1073741824 - 1 := wrap64 (by omega) (by omega)
        by_cases hL : L.length = 0
        · have c3 : ((L.length : Int) == 0) = true := by rw [hL]; rfl
          rw [pickS, if_pos hL]
          simp (maxSteps := 4000000) only [↓Y5,↓Qi,↓Qk,↓Yg,↓Yb,↓Zz,↓Yj,↓Yf,Zt,Z9,Z4,gw,Zu,Z2,↓chk,Y6,noW,↓Qw,↓Y7,↓Q8,↓Zn,↓Q6,↓Yw,↓Yp,Qx,Pg.look,Jg,Ql,J2,Zc,false_implies,implies_true,true_and,and_true,Qy,Y8,Y9,Jh,Ji,Yk,Zx,Zy,Nat.reduceAdd,ofV,Yq,J4,resK,tupA,Qm,Qn,Yz,Qo,Qp,Qq,Yl,Qr,Qs,Jm,Qt,Qu,Pg.freeze,Zf,Ym,Y0,Y1,Z3,Qv,Jn,slen,Qc,Q5,↓Jw,Jx,Jy,J9,Qf,Jz,Xl,normE,resL,Q1,Yv,J1,Ja,Jb,AV.cells,TK.cells,AV.definite,AV.leaf,AV.leafy,AV.pureLeaf,AV.pureB,Qe,lay,Xe,Xa,Za,Zb,Zr,Nat.reduceEqDiff,Nat.reduceAdd,Zi,Zd,Zh,Zk,Zg,Yd,Yc,Zs,Z5,Zo,ite_true,ite_false,Option.some.injEq,Ya,AV.int.injEq,AV.agg.injEq,Prod.mk.injEq,Zq,Zw,Zm,and_self,exists_eq_left',Yt,Yu,rg3,Xi,Qg,Ze,beq_self_eq_true,decL_nil,decL_cons,Xw,Z7,Nat.reducePow,Q2,Qh,Je,Jf,Y2,Y3,Y4,Zj,cutL,Z1,Zv,Zp,Z8,Yr,Nat.reduceLeDiff,Yh,Xs,Ye,Yi,Zl,Q3,Z6,Ys,Qa,Qb,Z0,↓msel,muC,↓J0,Q4,C1mby_mu,Xf,tk38,tz38,dz38,tk61,dz61,eb61,tk120,kReverse,hPoss,kConcatR,aMove,aMv,mNone,pureB_posL,decL_posL,hfl,c3]
          (repeat' first | exact trivial | apply And.intro | decide | omega)
        · have c3 : ((L.length : Int) == 0) = false := beq_eq_false_iff_ne.2 (by omega)
          have w2 : (min n 1073741824 - 1).tmod (L.length : Int) = (min n 1073741824 - 1) % (L.length : Int) := Int.tmod_eq_emod_of_nonneg (by omega)
          have h1 := Int.emod_nonneg (min n 1073741824 - 1) (b := (L.length : Int)) (by omega)
          have h2 := Int.emod_lt_of_pos (min n 1073741824 - 1) (b := (L.length : Int)) (by omega)
          rw [pickS, if_neg hL]
          simp (maxSteps := 4000000) only [↓Y5,↓Qi,↓Qk,↓Yg,↓Yb,↓Zz,↓Yf,Zt,Z9,Z4,gw,Zu,Z2,↓chk,Y6,noW,↓Qw,↓Y7,↓Q8,↓Zn,↓Yw,↓Yp,Qx,Pg.look,Jg,Ql,J2,Zc,false_implies,implies_true,true_and,and_true,Qy,Y8,Y9,Jh,Ji,Yk,Zx,Zy,Nat.reduceAdd,ofV,Yq,J4,resK,tupA,Qm,Qn,Yz,Qo,Qp,Qq,Yl,Qr,Qs,Jm,Qt,Qu,Pg.freeze,Zf,Ym,Y0,Y1,Z3,Qv,Jn,slen,Qc,Q5,↓Jw,Jx,Jy,J9,Qf,Jz,Xl,normE,resL,Q1,Yv,J1,Ja,Jb,AV.cells,TK.cells,AV.definite,AV.leaf,AV.leafy,AV.pureLeaf,AV.pureB,Qe,lay,Xe,foldInts,Xa,Za,Zb,Zr,Nat.reduceEqDiff,Nat.reduceAdd,Zi,Zd,Zh,Zk,Zg,Yd,Yc,Zs,Z5,Zo,ite_true,ite_false,Option.some.injEq,Ya,AV.int.injEq,AV.agg.injEq,Prod.mk.injEq,ne_eq,Zq,Zw,Zm,and_self,exists_eq_left',Yt,Yu,rg3,Xi,Qg,Ze,beq_self_eq_true,decL_nil,decL_cons,Xw,Z7,Nat.reducePow,Q2,Qh,Je,Jf,Y2,Y3,Y4,Zj,cutL,Z1,Zv,Zp,Z8,Yr,Nat.reduceLeDiff,Yh,Xs,Ye,Yi,Zl,Q3,Z6,Ys,Qa,Qb,Z0,↓msel,muC,↓J0,Q4,C1mby_mu,Xf,tk28,dz28,tk38,tz38,dz38,tk61,dz61,eb61,tk120,kReverse,hPoss,kConcatR,aMove,aMv,jumpM,pureB_posL,decL_posL,aPos_def,getD_pos,hfl,w1,w2,c3]
          (repeat' first | exact trivial | apply And.intro | decide | omega)
def kSearch : C1 := C1.by [.sl 1 [], .id, .id, .id, .id] (lCons cStrs (lCons cPos2 (lCons cStr (lCons cBool (lOne (cInt .i64)))))) (fun d => okText d.1) (fun d => aMove (searchP d.1 d.2.1 d.2.2.1 d.2.2.2.1 d.2.2.2.2)) (fun _ => [])
theorem ok_Search : C1OK Try.prog 101 kSearch := C1OK.by (by kernel_rfl) (fun d h => calls_Search d.1 d.2.1 d.2.2.1 d.2.2.2.1 d.2.2.2.2 h) (fun _ => rfl) (fun _ => rfl)
end Go.Pg
namespace Go.Pg
open Go Go.Proofs

/-- Is it a byte of a word. -/
def isW (s : List UInt8) (i : Int) : Bool := decide (0 ≤ i) && (decide (i < s.length) && (cls (s.getD i.toNat 0).toNat false == 1))
theorem calls_isW (s : List UInt8) (i : Int) : CallsR Try.prog 106 [.int .i64 i, .rp [.str s]] [] (.bool (isW s i)) [] := by
  refine callsR_of (mrg := true) (dyn := []) (CtrOK.cons ok_Of (CtrOK.nil _)) mixed Try.func106 rfl (by simp [Try.ntmps106]) (by kernel_rfl) ?_
  rw [show Try.f106.results.toList = [.tmp 3] from by kernel_rfl]
  simp (maxSteps := 4000000) only [↓Y5,↓Qk,↓Yg,↓Zz,Zt,Z9,Z4,gw,Zu,Xo,Xt,gkind,↓chk,Y6,noW,↓Qw,↓Y7,↓Q8,J8,↓Zn,↓Yp,Qx,Pg.look,Jg,Ql,dstOf,Zc,implies_true,imp_self,true_and,and_true,pickC,pickV,unc,gof,mux,mergeK,condsL,Qy,Y8,Y9,Jh,Ji,Yk,Zx,Zy,Xm,Xb,ofV,Yq,sameK,J4,resK,tupA,Qm,Qn,Yz,Qo,Qp,Qq,Yl,Qr,Qs,Qt,Qu,Pg.freeze,Zf,Y0,Y1,Z3,Qv,Qc,↓Jw,Jx,Jy,Qf,Jz,resL,Q1,Yv,J1,Ja,Jb,TK.cells,Op.operands,Call.operands,Jc,Q7,Za,Zb,Jo,Zr,reduceCtorEq,Nat.reduceEqDiff,Zi,Zd,Zh,Zg,Yd,Yc,Zo,ite_true,ite_false,Option.some.injEq,Bool.if_false_right,Bool.decide_eq_true,decide_eq_true_eq,decide_eq_false_iff_not,Int.not_le,Zm,and_self,exists_eq_left',Yt,Q9,cBool_dec,Jd,Qg,Qz,Q0,Ze,Z7,Q2,Qh,Je,Jf,Y2,Y3,Y4,Q3,Z6,Ys,Qa,Qb,Z0,↓msel,muC,↓J0,Q4,tk9,kOf,isW]
  refine ⟨fun h => ⟨h, ?_⟩, ?_⟩
  · simp only [Bool.and_eq_true,decide_eq_true_eq] at h
    omega
  · rw [Bool.and_assoc]
def kIsW : C1 := C1.by [.id, .id] (lCons (cInt .i64) (lOne (cRp (lOne cStr)))) (fun _ => True) (fun d => .bool (isW d.2 d.1)) (fun _ => [])
theorem ok_isW : C1OK Try.prog 106 kIsW := C1OK.by (by kernel_rfl) (fun d _ => calls_isW d.2 d.1) (fun _ => rfl) (fun _ => rfl)

def wAt (s : List UInt8) (i : Nat) : Bool := cls (s.getD i 0).toNat false == 1
/-- Where the word's beginning is, going back. -/
def wBeg (s : List UInt8) : Nat → Nat
  | 0 => 0
  | k + 1 => if wAt s k = true then wBeg s k else k + 1
def wEndF (s : List UInt8) (i : Nat) : Nat := (findUp (fun k => !wAt s k) (s.length - i) i).getD s.length
abbrev Wd := (Int × Int) × List UInt8 × Bool
def wdB (l : Int) (s : List UInt8) (b : Nat) : Wd := ((l, b), cutL s b (wEndF s b), true)
def wordL (l : Int) (s : List UInt8) (c : Nat) : Wd := match findUp (wAt s) (s.length - c) c with
  | some i => wdB l s (wBeg s i)
  | none => ((0, 0), [], false)
def aWd (w : Wd) : AV := .tuple [aPos w.1, .str w.2.1, .bool w.2.2]
def wordP (ls : Ls) (p : Int × Int) : Wd := if place ls p.1 p.2 = true then wordL p.1 (ls.getD p.1.toNat []) p.2.toNat else ((0, 0), [], false)
theorem wBeg_le (s : List UInt8) : ∀ k, wBeg s k ≤ k
  | 0 => Nat.le_refl _
  | k + 1 => by unfold wBeg; split; · exact Nat.le_succ_of_le (wBeg_le s k)
                · exact Nat.le_refl _
theorem isW_nat (s : List UInt8) (i : Nat) : isW s i = (decide (i < s.length) && wAt s i) := by
  unfold isW wAt
  rw [decide_eq_true (by omega : (0 : Int) ≤ i), Bool.true_and, Int.toNat_natCast]
  congr 1
  rw [Bool.eq_iff_iff, decide_eq_true_eq, decide_eq_true_eq]; omega

set_option maxRecDepth 20000 in
set_option maxHeartbeats 8000000 in
theorem calls_Word (ls : Ls) (p : Int × Int) (hf : okText ls) : CallsR Try.prog 100 [.sl 1 (ls.map .str), aPos p] [] (aWd (wordP ls p)) [] := by
  refine callsR_of (mrg := true) (dyn := [15]) (CtrOK.cons ok_CPlace (CtrOK.cons ok_isW (CtrOK.nil _))) mixed Try.func100 rfl (by simp [Try.ntmps100]) (by kernel_rfl) ?_
  rw [show Try.f100.results.toList = [.cell 4 28, .tmp 5, .tmp 6] from by kernel_rfl]
  obtain ⟨p1, p2⟩ := p
  unfold wordP
  dsimp only
  cases hm : place ls p1 p2 with
  | false =>
    rw [if_neg (by simp)]
    simp (maxSteps := 4000000) only [↓Y5,↓Qk,↓Yg,↓Yb,↓Zz,↓Yj,Zt,Z9,Z4,gw,Zu,Z2,↓chk,Y6,noW,↓Qw,↓Y7,↓Q8,J8,↓Zn,↓Q6,↓Yp,Qx,Pg.look,J5,Zc,false_implies,implies_true,true_and,and_true,Qy,Y8,Y9,Yk,Zx,Zy,Nat.reduceAdd,ofV,Yq,J4,resK,tupA,Qm,Qn,Yz,Qo,Qp,Qq,Yl,Qr,Qs,Jm,Qt,Qu,Pg.freeze,Zf,Y0,Y1,Z3,Qv,Jn,Qc,Q5,↓Jw,Jx,Jy,J9,Qf,Jz,Xl,resL,Q1,Yv,J1,Ja,Jb,AV.cells,TK.cells,AV.definite,AV.leaf,AV.leafy,Qe,lay,Xe,Za,Zb,Zr,reduceCtorEq,Nat.reduceEqDiff,Nat.reduceAdd,Zi,Zd,Zh,Zk,Zg,Yd,Yc,Zs,Z5,Zo,ite_true,ite_false,Option.some.injEq,Ya,AV.agg.injEq,Prod.mk.injEq,Zq,Zw,Zm,and_self,exists_eq_left',Yt,Q9,Xi,Xj,Qg,Qz,Q0,Qd,Ze,Nat.reduceBEq,Jk,Z7,decL_str,Q2,Qh,Je,Jf,Y2,Y3,Y4,Zj,cutL,Z1,Zv,Zp,Z8,Yr,Yh,Ye,Yi,Zl,Q3,Z6,Ys,Qa,Qb,Z0,↓msel,muC,↓J0,Q4,Xf,tk28,tz28,dz28,kRPlace,aPos,aWd,hm]
  | true =>
    rw [if_pos rfl]
    obtain ⟨g1, g2, g3, g4⟩ := (place_iff _ _ _).1 hm
    obtain ⟨l, rfl⟩ := Int.eq_ofNat_of_zero_le g1
    obtain ⟨c, rfl⟩ := Int.eq_ofNat_of_zero_le g3
    rw [Int.toNat_natCast] at g2 g4
    have h5 := fits_getD hf l
    rw [Int.toNat_natCast, Int.toNat_natCast]
    obtain ⟨s, hs⟩ : ∃ s, s = ls.getD l [] := ⟨_, rfl⟩
    rw [← hs] at g4 h5 ⊢
    have hR : wordL (l : Int) s c = match findUp (wAt s) (s.length - c) c with
      | some i => wdB l s (wBeg s i)
      | none => ((0, 0), [], false) := rfl
    generalize wordL (l : Int) s c = R at hR ⊢
    simp (maxSteps := 4000000) only [↓Y5,↓Qi,↓Yg,↓Yb,↓Yo,↓Xx,↓Zz,↓Yf,Zt,Z9,Z4,gw,Zu,Z2,↓chk,Y6,noW,↓Qw,↓Y7,↓Q8,J8,↓Zn,↓Yp,Qx,Pg.look,Xn,Zc,false_implies,implies_true,true_and,and_true,Qy,Y8,Y9,Nat.reduceAdd,ofV,Yq,Pg.freeze,Zf,Qc,Q5,↓Jw,Jx,Jy,J9,Qf,Jz,Xl,resL,Q1,Yv,J1,Ja,Jb,AV.cells,TK.cells,AV.definite,AV.leaf,AV.leafy,Qe,Za,Zb,Zr,reduceCtorEq,Nat.reduceEqDiff,Nat.reduceAdd,Zi,Zd,Zh,Zk,Zg,Yd,Yc,Zs,Z5,Zo,ite_true,ite_false,Option.some.injEq,Prod.mk.injEq,Zq,Zw,Zm,and_self,exists_eq_left',Yu,Q9,Xi,Xj,Qg,Qz,Q0,Qd,Ze,Nat.reduceBEq,Jk,Z7,decL_str,Q2,Qh,Je,Jf,Y2,Y3,Y4,Xp,Jl,Zj,cutL,Z1,Zp,J6,Yr,Yh,Yi,Zl,Q3,Z6,Ys,Qa,Qb,Z0,↓msel,muC,↓J0,Q4,tk3,tk9,tz9,dz9,tk22,tk28,tz28,dz28,kRPlace,aPos,hm,← hs]
    refine ⟨⟨by omega, g2⟩, ?_⟩
    refine loopH_intro (α := Nat) (fun i => ([(3, .ptr 0 2 1 0 0), (4, .ptr 1 2 1 0 0), (5, .str []), (6, .bool false), (7, .ptr 2 1 1 0 0), (8, .fn 106 [.ptr 2 1 1 0 0]), (9, .int .i64 i)], [.arr 28 2 [.agg [.int .i64 l, .int .i64 c]], .arr 28 2 [.agg [.int .i64 0, .int .i64 0]], .frz 9 1 [.str s]]))
      (fun i => i ≤ s.length ∧ R = match findUp (wAt s) (s.length - i) i with
        | some i => wdB l s (wBeg s i)
        | none => ((0, 0), [], false)) (fun i => s.length - i) c ⟨by omega, hR⟩ ?_ ?_
    · simp (maxSteps := 4000000) only [Pg.look,true_and,and_true,Yk,Jp,nxtQ,hdS,Jq,frzA,Zx,Yy,Zy,Nat.reduceAdd,Qm,Qn,Yz,Jr,Qo,Qp,Qq,Yl,Js,Jt,Ju,pairsL,Jv,Qr,Qs,Jm,Qt,Qu,Pg.freeze,Zf,Ym,Y0,subO,Y1,Z3,Qv,Jn,AV.cells,AV.pureLeaf,AV.pureB,Xa,Za,Zb,reduceCtorEq,Nat.reduceEqDiff,Nat.reduceAdd,Zi,Zd,Zh,Zs,Z5,Zo,ite_true,ite_false,Zq,Zw,Zm,and_self,Yn,Yx]
      exact ⟨by decide, subX_eq rfl rfl, subX_eq rfl rfl, subX_eq rfl rfl⟩
    rintro i ⟨hi, hR⟩
    by_cases hlt : i < s.length
    · have c1 : decide ((i : Int) < (s.length : Int)) = true := decide_eq_true (by omega)
      have w1 : IntKind.i64.wrap ((i : Int) + 1) = ((i + 1 : Nat) : Int) := by rw [wrap64 (by omega) (by omega)]; rfl
      have hw := isW_nat s i
      rw [decide_eq_true hlt, Bool.true_and] at hw
      rw [show s.length - i = (s.length - (i + 1)) + 1 by omega, findUp] at hR
      cases hb : wAt s i with
      | false =>
        rw [hb] at hw hR
        simp only [Zc,if_false] at hR
        simp (maxSteps := 4000000) only [↓Y5,↓Qi,↓Yg,↓Yb,↓Yo,↓Zz,↓Yj,Zt,Z9,Z4,gw,Zu,Xo,Xt,Z2,gkind,↓chk,Y6,noW,↓Qw,↓Y7,↓Q8,↓Zn,↓Yw,↓Yp,Qx,Pg.look,Jg,Ql,dstOf,J5,Xn,Zc,Jj,implies_true,true_and,and_true,pickC,pickV,unc,gof,mux,mergeK,condsL,Qy,Y8,Y9,Jh,Ji,Yk,Jp,nxtQ,hdS,Jq,frzA,Zx,Yy,Zy,Nat.reduceAdd,Xm,Xb,ofV,Yq,sameK,Qm,Qn,Yz,Jr,Qo,Qp,Qq,Yl,Js,Jt,Ju,pairsL,Jv,Qr,Qs,Jm,Qt,Qu,Pg.freeze,Zf,Ym,Y0,subO,Y1,Z3,Qv,Jn,Qc,Q5,↓Jw,Jx,Jy,Qf,Jz,resL,Q1,Yv,J1,Ja,Jb,AV.cells,TK.cells,AV.pureLeaf,AV.pureB,Xa,Op.operands,Call.operands,Jc,Q7,Za,Zb,Jo,Zr,reduceCtorEq,Nat.reduceEqDiff,Nat.reduceAdd,Zi,Zd,Zh,Zk,Zg,Yd,Yc,Zo,ite_true,ite_false,Option.some.injEq,Zq,Zw,Zm,and_self,exists_eq_left',Q9,Jd,Xd,Xk,Qg,Qz,Q0,Qd,Ze,Nat.reduceBEq,Jk,Z7,Q2,Qh,Je,Jf,Y2,Y3,Y4,Zj,Z1,Yn,Yx,Zl,Q3,Z6,Ys,Qa,Qb,Z0,↓msel,muC,↓J0,Q4,tk9,dz9,kIsW,c1,w1,hw]
        exact ⟨i + 1, ⟨by omega, hR⟩, by omega, by decide, ⟨subX_eq rfl rfl, subX_eq rfl rfl, subX_eq rfl rfl⟩, rfl⟩
      | true =>
        rw [hb] at hw hR
        simp only [if_true] at hR
        have c2 : decide ((i : Int) ≥ (s.length : Int)) = false := decide_eq_false (by omega)
        simp (maxSteps := 4000000) only [↓Y5,↓Qi,↓Xq,↓Yg,↓Yb,↓Yo,↓Xx,↓Zz,↓Yf,Zt,Z9,Z4,gw,Zu,Xo,Xt,Z2,gkind,↓chk,Y6,noW,↓Qw,↓Y7,↓Q8,↓Zn,↓Xg,↓Xc,↓Yp,Qx,Pg.look,Jg,Ql,dstOf,Xn,Zc,Jj,implies_true,true_and,and_true,pickC,pickV,unc,gof,mux,mergeK,condsL,Qy,Y8,Y9,Jh,Ji,Nat.reduceAdd,Xm,Xb,ofV,Yq,sameK,J4,Pg.freeze,Zf,Ym,Qc,Q5,↓Jw,Jx,Jy,Qf,Jz,resL,Q1,Yv,J1,Ja,Jb,AV.cells,TK.cells,Xa,Op.operands,Call.operands,Jc,Q7,Za,Zb,Jo,Zr,Nat.reduceEqDiff,Nat.reduceAdd,Zi,Zd,Zh,Zk,Zg,Yd,Yc,Zo,ite_true,ite_false,Option.some.injEq,Zm,and_self,exists_eq_left',Q9,Jd,Xd,Xk,Qg,Qz,Q0,Qd,Ze,Nat.reduceBEq,Jk,Z7,Q2,Qh,Je,Jf,Y2,Y3,Y4,Zj,Z1,Zl,Q3,Z6,Ys,Qa,Qb,Z0,↓msel,muC,↓J0,Q4,tk9,dz9,kIsW,c1,hw,c2]
        refine loopH_intro (α := Nat) (fun k => ([(3, .ptr 0 2 1 0 0), (4, .ptr 1 2 1 0 0), (5, .str []), (6, .bool false), (7, .ptr 2 1 1 0 0), (8, .fn 106 [.ptr 2 1 1 0 0]), (9, .int .i64 k)], [.arr 28 2 [.agg [.int .i64 l, .int .i64 c]], .arr 28 2 [.agg [.int .i64 0, .int .i64 0]], .frz 9 1 [.str s]]))
          (fun k => k ≤ i ∧ R = wdB l s (wBeg s k)) (fun k => k) i ⟨by omega, hR⟩ ?_ ?_
        · simp (maxSteps := 4000000) only [Pg.look,true_and,and_true,Yk,Jp,nxtQ,hdS,Jq,frzA,Zx,Yy,Zy,Nat.reduceAdd,Qm,Qn,Yz,Jr,Qo,Qp,Qq,Yl,Js,Jt,Ju,pairsL,Jv,Qr,Qs,Jm,Qt,Qu,Pg.freeze,Zf,Ym,Y0,subO,Y1,Z3,Qv,Jn,AV.cells,AV.pureLeaf,AV.pureB,Xa,Za,Zb,reduceCtorEq,Nat.reduceEqDiff,Nat.reduceAdd,Zi,Zd,Zh,Zo,ite_true,ite_false,Zq,Zw,Zm,and_self,Yn,Yx]
          exact ⟨by decide, subX_eq rfl rfl, subX_eq rfl rfl, subX_eq rfl rfl⟩
        rintro k ⟨hk, hR⟩
        cases hwk : isW s ((k : Int) - 1) with
        | true =>
          obtain ⟨j, rfl⟩ : ∃ j, k = j + 1 := by
            cases k with
            | zero =>
              unfold isW at hwk
              rw [decide_eq_false (by omega)] at hwk
              cases hwk
            | succ j => exact ⟨j, rfl⟩
          have e1 : (((j + 1 : Nat) : Int) - 1) = (j : Int) := by omega
          rw [e1, isW_nat, Bool.and_eq_true] at hwk
          rw [wBeg, if_pos hwk.2] at hR
          have w2 : IntKind.i64.wrap (((j + 1 : Nat) : Int) - 1) = (j : Int) := by rw [wrap64 (by omega) (by omega)]; omega
          have hw2 : isW s (j : Int) = true := by rw [isW_nat, Bool.and_eq_true]; exact hwk
          simp (maxSteps := 4000000) only [↓Y5,↓Qi,↓Yg,↓Yb,↓Yo,↓Zz,↓Yj,Zt,Z9,Z4,gw,Zu,Z2,↓chk,Y6,↓Qw,↓Y7,↓Zn,↓Yw,↓Yp,Qx,Pg.look,Jg,Ql,Zc,false_implies,implies_true,true_and,and_true,Qy,Y8,Y9,Jh,Ji,Yk,Jp,nxtQ,hdS,Jq,frzA,Zx,Yy,Zy,Nat.reduceAdd,ofV,Yq,Qm,Qn,Yz,Jr,Qo,Qp,Qq,Yl,Js,Jt,Ju,pairsL,Jv,Qr,Qs,Jm,Qt,Qu,Pg.freeze,Zf,Ym,Y0,subO,Y1,Z3,Qv,Jn,Q5,↓Jw,Jx,Jy,J9,Qf,Jz,resL,Q1,Yv,J1,Ja,Jb,AV.cells,AV.pureLeaf,AV.pureB,Xa,Za,Zb,reduceCtorEq,Nat.reduceEqDiff,Nat.reduceAdd,Zi,Zd,Zh,Zk,Zg,Yd,Yc,Zo,ite_true,ite_false,Prod.mk.injEq,Zq,Zw,Zm,and_self,Q9,Xd,Xk,Qg,Qz,Q0,Qd,Ze,Nat.reduceBEq,Jk,Z7,Q2,Qh,Je,Jf,Y2,Y3,Y4,Zj,Z1,Yn,Yx,Zl,Q3,Z6,Ys,Qa,Qb,Z0,↓msel,muC,↓J0,Q4,kIsW,w2,hw2]
          exact ⟨j, ⟨by omega, hR⟩, by omega, by decide, ⟨subX_eq rfl rfl, subX_eq rfl rfl, subX_eq rfl rfl⟩, rfl⟩
        | false =>
          have w2 : IntKind.i64.wrap ((k : Int) - 1) = (k : Int) - 1 := wrap64 (by omega) (by omega)
          have hb0 : wBeg s k = k := by
            cases k with
            | zero => rfl
            | succ j =>
              have e1 : (((j + 1 : Nat) : Int) - 1) = (j : Int) := by omega
              rw [e1, isW_nat, decide_eq_true (by omega : j < s.length), Bool.true_and] at hwk
              rw [wBeg, if_neg (by rw [hwk]; simp)]
          rw [hb0] at hR
          simp (maxSteps := 4000000) only [↓Y5,↓Xq,↓Yg,↓Yb,↓Yo,↓Xx,↓Zz,↓Yf,Zt,Z9,Z4,gw,Zu,Z2,↓chk,Y6,↓Qw,↓Y7,↓Zn,↓Xg,↓Xc,↓Yp,Qx,Pg.look,Jg,Ql,Zc,false_implies,implies_true,true_and,and_true,Qy,Y8,Y9,Jh,Ji,Nat.reduceAdd,ofV,Yq,J4,Pg.freeze,Zf,Ym,Q5,↓Jw,Jx,Jy,J9,Qf,Jz,resL,Q1,Yv,J1,Ja,Jb,AV.cells,Xa,Za,Zb,Nat.reduceEqDiff,Nat.reduceAdd,Zi,Zd,Zh,Zk,Zg,Yd,Yc,Zo,ite_true,ite_false,Prod.mk.injEq,and_self,Q9,Xd,Xk,Qg,Qz,Q0,Qd,Ze,Nat.reduceBEq,Jk,Z7,Q2,Qh,Je,Jf,Y2,Y3,Y4,Zj,Z1,Zl,Q3,Z6,Ys,Qa,Qb,Z0,↓msel,muC,↓J0,Q4,kIsW,w2,hwk]
          refine loopH_intro (α := Nat) (fun m => ([(3, .ptr 0 2 1 0 0), (4, .ptr 1 2 1 0 0), (5, .str []), (6, .bool false), (7, .ptr 2 1 1 0 0), (8, .fn 106 [.ptr 2 1 1 0 0]), (9, .int .i64 k), (10, .int .i64 m)], [.arr 28 2 [.agg [.int .i64 l, .int .i64 c]], .arr 28 2 [.agg [.int .i64 0, .int .i64 0]], .frz 9 1 [.str s]]))
            (fun m => k ≤ m ∧ m ≤ s.length ∧ wEndF s k = (findUp (fun k => !wAt s k) (s.length - m) m).getD s.length) (fun m => s.length - m) k ⟨by omega, by omega, rfl⟩ ?_ ?_
          · simp (maxSteps := 4000000) only [Pg.look,true_and,and_true,Yk,Jp,nxtQ,hdS,Jq,frzA,Zx,Yy,Zy,Nat.reduceAdd,Qm,Qn,Yz,Jr,Qo,Qp,Qq,Yl,Js,Jt,Ju,pairsL,Jv,Qr,Qs,Jm,Qt,Qu,Pg.freeze,Zf,Ym,Y0,subO,Y1,Z3,Qv,Jn,AV.cells,AV.pureLeaf,AV.pureB,Xa,Za,Zb,reduceCtorEq,Nat.reduceEqDiff,Nat.reduceAdd,Zi,Zd,Zh,Zo,ite_true,ite_false,Zq,Zw,Zm,and_self,Yn,Yx]
            exact ⟨by decide, subX_eq rfl rfl, subX_eq rfl rfl, subX_eq rfl rfl⟩
          rintro m ⟨hkm, hms, hE⟩
          cases hwm : isW s (m : Int) with
          | true =>
            have hwm' := hwm
            rw [isW_nat, Bool.and_eq_true, decide_eq_true_eq] at hwm'
            have w3 : IntKind.i64.wrap ((m : Int) + 1) = ((m + 1 : Nat) : Int) := by rw [wrap64 (by omega) (by omega)]; rfl
            rw [show s.length - m = (s.length - (m + 1)) + 1 by omega, findUp, if_neg (by rw [hwm'.2]; simp)] at hE
            simp (maxSteps := 4000000) only [↓Y5,↓Qi,↓Yg,↓Yb,↓Yo,↓Zz,↓Yj,Zt,Z9,Z4,gw,Zu,Z2,↓chk,Y6,↓Qw,↓Y7,↓Zn,↓Yw,↓Yp,Qx,Pg.look,Jg,Ql,Zc,false_implies,implies_true,true_and,and_true,Qy,Y8,Y9,Jh,Ji,Yk,Jp,nxtQ,hdS,Jq,frzA,Zx,Yy,Zy,Nat.reduceAdd,ofV,Yq,Qm,Qn,Yz,Jr,Qo,Qp,Qq,Yl,Js,Jt,Ju,pairsL,Jv,Qr,Qs,Jm,Qt,Qu,Pg.freeze,Zf,Ym,Y0,subO,Y1,Z3,Qv,Jn,Q5,↓Jw,Jx,Jy,J9,Qf,Jz,resL,Q1,Yv,J1,Ja,Jb,AV.cells,AV.pureLeaf,AV.pureB,Xa,Za,Zb,reduceCtorEq,Nat.reduceEqDiff,Nat.reduceAdd,Zi,Zd,Zh,Zk,Zg,Yd,Yc,Zo,ite_true,ite_false,Prod.mk.injEq,Zq,Zw,Zm,and_self,Q9,Xd,Xk,Qg,Qz,Q0,Qd,Ze,Nat.reduceBEq,Jk,Z7,Q2,Qh,Je,Jf,Y2,Y3,Y4,Zj,Z1,Yn,Yx,Zl,Q3,Z6,Ys,Qa,Qb,Z0,↓msel,muC,↓J0,Q4,kIsW,hwm,w3]
            exact ⟨m + 1, ⟨by omega, by omega, hE⟩, by omega, by decide, ⟨subX_eq rfl rfl, subX_eq rfl rfl, subX_eq rfl rfl⟩, rfl⟩
          | false =>
            have hE2 : wEndF s k = m := by
              rw [hE]
              by_cases hml : m < s.length
              · rw [isW_nat, decide_eq_true hml, Bool.true_and] at hwm
                rw [show s.length - m = (s.length - (m + 1)) + 1 by omega, findUp, if_pos (by rw [hwm]; rfl)]; rfl
              · rw [show s.length - m = 0 by omega, findUp]
                show s.length = m
                omega
            rw [wdB, hE2] at hR
            subst hR
            simp (maxSteps := 4000000) only [↓Y5,↓Qk,↓Xq,↓Yg,↓Yb,↓Zz,bselH_true,↓Yf,Zt,Z9,Z4,gw,Zu,Z2,↓chk,Y6,noW,↓Qw,↓Y7,↓Q8,↓Zn,↓Xg,↓Xc,↓Yp,Qx,Pg.look,Zc,false_implies,implies_true,true_and,and_true,forall_const,Qy,Y8,Y9,cutV,Yk,Zx,Zy,Nat.reduceAdd,ofV,Yq,J4,resK,tupA,Qm,Qn,Yz,Qo,Qp,Qq,Yl,Qr,Qs,Jm,Qt,Qu,Pg.freeze,Zf,Ym,Y0,Y1,Z3,Qv,Jn,Qc,Q5,sliceS,↓Jw,Jx,Jy,J9,Qf,Jz,resL,Q1,Yv,J1,Ja,Jb,AV.cells,TK.cells,AV.definite,AV.leaf,AV.leafy,Qe,lay,Xe,Xa,Za,Zb,Option.map_some,Xr,Zr,Nat.reduceEqDiff,Nat.reduceAdd,Zi,Zd,Zh,Zk,Zg,Yd,Yc,Zs,Z5,Zo,ite_true,ite_false,Option.some.injEq,Ya,AV.agg.injEq,Prod.mk.injEq,Zq,Zw,Zm,and_self,exists_eq_left',Yt,Q9,Xd,Xk,Qg,Qz,Q0,Qd,Ze,Nat.reduceBEq,Jk,Bool.or_false,beq_self_eq_true,Z7,Q2,Qh,Je,Jf,Y2,Y3,Y4,Jl,Zj,cutL,Z1,Zv,Zp,Z8,J6,Yr,Nat.reduceLeDiff,Yh,Ye,Yi,Zl,Q3,Z6,Ys,Qa,Qb,Z0,↓msel,muC,↓J0,Q4,Xf,tk3,tk9,dz9,tk28,tz28,dz28,kIsW,aPos,aWd,hwm]
            exact ⟨⟨by omega, by omega, by omega⟩, by kernel_rfl⟩
    · have c1 : decide ((i : Int) < (s.length : Int)) = false := decide_eq_false (by omega)
      have c2 : decide ((i : Int) ≥ (s.length : Int)) = true := decide_eq_true (by omega)
      rw [show s.length - i = 0 by omega, findUp] at hR
      subst hR
      simp (maxSteps := 4000000) only [↓Y5,↓Qk,↓Xq,↓Yg,↓Yb,↓Zz,↓Yj,↓Yf,Zt,Z9,Z4,gw,Zu,Xo,Xt,Z2,gkind,↓chk,Y6,noW,↓Qw,↓Y7,↓Q8,↓Zn,↓Q6,↓Xg,↓Xc,↓Yp,Qx,Pg.look,Jg,Ql,dstOf,J5,Zc,implies_true,imp_self,true_and,and_true,pickC,pickV,unc,gof,mux,mergeK,condsL,Qy,Y8,Y9,Jh,Ji,Yk,Zx,Zy,Nat.reduceAdd,Xm,Xb,ofV,Yq,sameK,J4,resK,tupA,Qm,Qn,Yz,Qo,Qp,Qq,Yl,Qr,Qs,Jm,Qt,Qu,Pg.freeze,Zf,Ym,Y0,Y1,Z3,Qv,Jn,Qc,Q5,↓Jw,Jx,Jy,Qf,Jz,resL,Q1,Yv,J1,Ja,Jb,AV.cells,TK.cells,AV.leaf,AV.leafy,Qe,lay,Xe,Xa,Op.operands,Call.operands,Jc,Q7,Za,Zb,Jo,Zr,Nat.reduceEqDiff,Nat.reduceAdd,Zi,Zd,Zh,Zk,Zg,Yd,Yc,Zs,Z5,Zo,ite_true,ite_false,Option.some.injEq,Ya,AV.agg.injEq,Zq,Zw,Zm,and_self,exists_eq_left',Yt,Q9,Jd,Xd,Xk,Qg,Qz,Q0,Qd,Ze,Nat.reduceBEq,Jk,Z7,Q2,Qh,Je,Jf,Y2,Y3,Y4,Zj,cutL,Z1,Zv,Zp,Z8,Yr,Yh,Ye,Yi,Zl,Q3,Z6,Ys,Qa,Qb,Z0,↓msel,muC,↓J0,Q4,Xf,tk9,dz9,tk28,tz28,dz28,kIsW,aPos,aWd,c1,c2]
def kWord : C1 := C1.by [.sl 1 [], .id] (lCons cStrs (lOne cPos2)) (fun d => okText d.1) (fun d => aWd (wordP d.1 d.2)) (fun _ => [])
theorem ok_Word : C1OK Try.prog 100 kWord := C1OK.by (by kernel_rfl) (fun d h => calls_Word d.1 d.2 h) (fun _ => rfl) (fun _ => rfl)
end Go.Pg
namespace Go.Pg
open Go Go.Proofs

def kindF (c : UInt8) : UInt8 × UInt8 × Bool × Bool :=
  if c = 40 ∨ c = 41 then (40, 41, c == 40, true) else if c = 91 ∨ c = 93 then (91, 93, c == 91, true) else if c = 123 ∨ c = 125 then (123, 125, c == 123, true) else (0, 0, false, false)
def aKind (k : UInt8 × UInt8 × Bool × Bool) : AV := .tuple [byteA k.1, byteA k.2.1, .bool k.2.2.1, .bool k.2.2.2]
set_option maxHeartbeats 4000000 in
theorem calls_Kind (c : UInt8) : CallsR Try.prog 98 [byteA c] [] (aKind (kindF c)) [] := by
  refine callsR_of (mrg := true) (dyn := []) (CtrOK.nil _) mixed Try.func98 rfl (by simp [Try.ntmps98]) (by kernel_rfl) ?_
  rw [show Try.f98.results.toList = [.tmp 2, .tmp 3, .tmp 4, .tmp 5] from by kernel_rfl]
  by_cases h1 : c = 40
  · subst h1
    rw [show kindF 40 = (40, 41, true, true) by decide]
    simp (maxSteps := 4000000) only [↓Y5,↓Qi,↓Qk,↓Yg,↓Yb,↓Yo,↓Zz,↓Yj,Zt,Z9,Z4,gw,Zu,Z2,↓chk,Y6,↓Qw,↓Y7,J8,↓Zn,↓Q6,↓J7,↓Yp,Qx,Pg.look,Jg,Ql,Zc,implies_true,Qy,Y8,Y9,Jh,Ji,Yk,Zx,Zy,ofV,Yq,J4,resK,tupA,Qm,Qn,Yz,Qo,Qp,Qq,Yl,Qr,Qs,Jm,Qt,Qu,Pg.freeze,Zf,Y0,Y1,Z3,Qv,Jn,reduceCtorEq,Nat.reduceEqDiff,Zd,Zg,ite_true,ite_false,and_self,Yt,Ze,beq_self_eq_true,Qj,Z6,Ys,Qa,Qb,Z0,aKind,byteA,UInt8.reduceToNat]
    all_goals first | rfl | decide
  by_cases h2 : c = 41
  · subst h2
    rw [show kindF 41 = (40, 41, false, true) by decide]
    simp (maxSteps := 4000000) only [↓Y5,↓Qk,↓Yg,↓Yb,↓Yo,↓Zz,↓Yj,↓Yf,Zt,Z9,Z4,gw,Zu,Z2,↓chk,Y6,↓Qw,↓Y7,J8,↓Zn,↓Q6,↓J7,↓Yp,Qx,Pg.look,Jg,Ql,Zc,implies_true,Qy,Y8,Y9,Jh,Ji,Yk,Zx,Zy,ofV,Yq,J4,resK,tupA,Qm,Qn,Yz,Qo,Qp,Qq,Yl,Qr,Qs,Jm,Qt,Qu,Pg.freeze,Zf,Y0,Y1,Z3,Qv,Jn,reduceCtorEq,Nat.reduceEqDiff,Zd,Zg,ite_true,ite_false,and_self,Yt,Ze,beq_self_eq_true,Qj,Int.reduceBEq,Z6,Ys,Qa,Qb,Z0,aKind,byteA,UInt8.reduceToNat]
    all_goals first | rfl | decide
  by_cases h3 : c = 91
  · subst h3
    rw [show kindF 91 = (91, 93, true, true) by decide]
    simp (maxSteps := 4000000) only [↓Y5,↓Qi,↓Qk,↓Yg,↓Yb,↓Yo,↓Zz,↓Yj,↓Yf,Zt,Z9,Z4,gw,Zu,Z2,↓chk,Y6,↓Qw,↓Y7,J8,↓Zn,↓Q6,↓J7,↓Yp,Qx,Pg.look,Jg,Ql,Zc,implies_true,Qy,Y8,Y9,Jh,Ji,Yk,Zx,Zy,ofV,Yq,J4,resK,tupA,Qm,Qn,Yz,Qo,Qp,Qq,Yl,Qr,Qs,Jm,Qt,Qu,Pg.freeze,Zf,Y0,Y1,Z3,Qv,Jn,reduceCtorEq,Nat.reduceEqDiff,Zd,Zg,ite_true,ite_false,and_self,Yt,Ze,beq_self_eq_true,Qj,Int.reduceBEq,Z6,Ys,Qa,Qb,Z0,aKind,byteA,UInt8.reduceToNat]
    all_goals first | rfl | decide
  by_cases h4 : c = 93
  · subst h4
    rw [show kindF 93 = (91, 93, false, true) by decide]
    simp (maxSteps := 4000000) only [↓Y5,↓Qk,↓Yg,↓Yb,↓Yo,↓Zz,↓Yj,↓Yf,Zt,Z9,Z4,gw,Zu,Z2,↓chk,Y6,↓Qw,↓Y7,J8,↓Zn,↓Q6,↓J7,↓Yp,Qx,Pg.look,Jg,Ql,Zc,implies_true,Qy,Y8,Y9,Jh,Ji,Yk,Zx,Zy,ofV,Yq,J4,resK,tupA,Qm,Qn,Yz,Qo,Qp,Qq,Yl,Qr,Qs,Jm,Qt,Qu,Pg.freeze,Zf,Y0,Y1,Z3,Qv,Jn,reduceCtorEq,Nat.reduceEqDiff,Zd,Zg,ite_true,ite_false,and_self,Yt,Ze,beq_self_eq_true,Qj,Int.reduceBEq,Z6,Ys,Qa,Qb,Z0,aKind,byteA,UInt8.reduceToNat]
    all_goals first | rfl | decide
  by_cases h5 : c = 123
  · subst h5
    rw [show kindF 123 = (123, 125, true, true) by decide]
    simp (maxSteps := 4000000) only [↓Y5,↓Qi,↓Qk,↓Yg,↓Yb,↓Yo,↓Zz,↓Yj,↓Yf,Zt,Z9,Z4,gw,Zu,Z2,↓chk,Y6,↓Qw,↓Y7,J8,↓Zn,↓Q6,↓J7,↓Yp,Qx,Pg.look,Jg,Ql,Zc,implies_true,Qy,Y8,Y9,Jh,Ji,Yk,Zx,Zy,ofV,Yq,J4,resK,tupA,Qm,Qn,Yz,Qo,Qp,Qq,Yl,Qr,Qs,Jm,Qt,Qu,Pg.freeze,Zf,Y0,Y1,Z3,Qv,Jn,reduceCtorEq,Nat.reduceEqDiff,Zd,Zg,ite_true,ite_false,and_self,Yt,Ze,beq_self_eq_true,Qj,Int.reduceBEq,Z6,Ys,Qa,Qb,Z0,aKind,byteA,UInt8.reduceToNat]
    all_goals first | rfl | decide
  by_cases h6 : c = 125
  · subst h6
    rw [show kindF 125 = (123, 125, false, true) by decide]
    simp (maxSteps := 4000000) only [↓Y5,↓Qk,↓Yg,↓Yb,↓Yo,↓Zz,↓Yj,↓Yf,Zt,Z9,Z4,gw,Zu,Z2,↓chk,Y6,↓Qw,↓Y7,J8,↓Zn,↓Q6,↓J7,↓Yp,Qx,Pg.look,Jg,Ql,Zc,implies_true,Qy,Y8,Y9,Jh,Ji,Yk,Zx,Zy,ofV,Yq,J4,resK,tupA,Qm,Qn,Yz,Qo,Qp,Qq,Yl,Qr,Qs,Jm,Qt,Qu,Pg.freeze,Zf,Y0,Y1,Z3,Qv,Jn,reduceCtorEq,Nat.reduceEqDiff,Zd,Zg,ite_true,ite_false,and_self,Yt,Ze,beq_self_eq_true,Qj,Int.reduceBEq,Z6,Ys,Qa,Qb,Z0,aKind,byteA,UInt8.reduceToNat]
    all_goals first | rfl | decide
  have e1 := byte_lit c 40 40 rfl h1
  have e2 := byte_lit c 41 41 rfl h2
  have e3 := byte_lit c 91 91 rfl h3
  have e4 := byte_lit c 93 93 rfl h4
  have e5 := byte_lit c 123 123 rfl h5
  have e6 := byte_lit c 125 125 rfl h6
  have e : kindF c = (0, 0, false, false) := by
    unfold kindF
    rw [if_neg (by simp [h1, h2]), if_neg (by simp [h3, h4]), if_neg (by simp [h5, h6])]
  rw [e]
  simp (maxSteps := 4000000) only [↓Y5,↓Qi,↓Qk,↓Yg,↓Yb,↓Yo,↓Zz,↓Yf,Zt,Z9,Z4,gw,Zu,Z2,↓chk,Y6,↓Qw,↓Y7,J8,↓Zn,↓Yw,↓Yp,Qx,Pg.look,Jg,Ql,Zc,implies_true,Qy,Y8,Y9,Jh,Ji,Yk,Zx,Zy,ofV,Yq,J4,resK,tupA,Qm,Qn,Yz,Qo,Qp,Qq,Yl,Qr,Qs,Jm,Qt,Qu,Pg.freeze,Zf,Y0,Y1,Z3,Qv,Jn,reduceCtorEq,Nat.reduceEqDiff,Zd,Zg,ite_true,ite_false,and_self,Yt,Ze,Qj,Z6,Ys,Qa,Qb,Z0,aKind,byteA,UInt8.reduceToNat,e1,e2,e3,e4,e5,e6]
  all_goals first | rfl | decide
def kKind : C1 := C1.by [.id] (lOne cByte) (fun _ => True) (fun d => aKind (kindF d)) (fun _ => [])
theorem ok_Kind : C1OK Try.prog 98 kKind := C1OK.by (by kernel_rfl) (fun d _ => calls_Kind d) (fun _ => rfl) (fun _ => rfl)

def lineEndB (ls : Ls) (l : Nat) : Int × Int := ((l : Int), ((ls.getD l []).length : Int) - 1)
def lineBegB (l : Nat) : Int × Int := ((l : Int), 0)
def full (ls : Ls) (l : Nat) : Bool := (ls.getD l []).length != 0
/-- The next byte's place. -/
def nextB (ls : Ls) (p : Int × Int) (back : Bool) : Option (Int × Int) :=
  if back = true then (if p.2 - 1 ≥ 0 then some (p.1, p.2 - 1) else (findDn (full ls) p.1.toNat).map (lineEndB ls))
  else (if p.2 + 1 < (ls.getD p.1.toNat []).length then some (p.1, p.2 + 1) else (findUp (full ls) (ls.length - (p.1.toNat + 1)) (p.1.toNat + 1)).map lineBegB)
def aOpt (r : Option (Int × Int)) : AV := .tuple [aPos (r.getD (0, 0)), .bool r.isSome]

set_option maxRecDepth 20000 in
set_option maxHeartbeats 4000000 in
theorem calls_bnext (ls : Ls) (p : Int × Int) (back : Bool) (hf : okText ls) (h0 : 0 ≤ p.1) (h1 : p.1 < ls.length) (h2 : 0 ≤ p.2) (h3 : p.2 ≤ 65536) :
    CallsR Try.prog 105 [.sl 1 (ls.map .str), aPos p, .bool back] [] (aOpt (nextB ls p back)) [] := by
  obtain ⟨p1, p2⟩ := p
  dsimp only at h0 h1 h2 h3
  refine callsR_of (mrg := true) (dyn := []) (CtrOK.nil _) mixed Try.func105 rfl (by simp [Try.ntmps105]) (by kernel_rfl) ?_
  rw [show Try.f105.results.toList = [.cell 6 28, .tmp 7] from by kernel_rfl]
  obtain ⟨l, rfl⟩ := Int.eq_ofNat_of_zero_le h0
  have hll := hf.1
  cases back with
  | true =>
    have w1 : IntKind.i64.wrap (p2 - 1) = p2 - 1 := wrap64 (by omega) (by omega)
    have hR : nextB ls ((l : Int), p2) true = if p2 - 1 ≥ 0 then some ((l : Int), p2 - 1) else (findDn (full ls) l).map (lineEndB ls) := rfl
    generalize nextB ls ((l : Int), p2) true = R at hR ⊢
    simp (maxSteps := 4000000) only [↓Y5,↓Yg,↓Yb,↓Yo,↓Xx,↓Zz,↓Yj,Zt,Z9,Z4,gw,Zu,Z2,↓chk,Y6,noW,↓Qw,↓Y7,↓Q8,J8,↓Zn,↓Yp,Qx,Pg.look,Jg,Ql,Zc,implies_true,true_and,and_true,Qy,Y8,Y9,Jh,Ji,Nat.reduceAdd,ofV,Yq,Qc,Q5,AV.cells,TK.cells,AV.definite,AV.leaf,AV.leafy,Qe,lay,Za,Zb,Zr,reduceCtorEq,Nat.reduceEqDiff,Nat.reduceAdd,Zi,Zd,Zh,Zk,Zg,Zs,Zo,ite_true,ite_false,Option.some.injEq,Zq,Zw,Zm,and_self,exists_eq_left',Ze,Zj,Zv,Zp,Z8,Yh,Ye,Zl,Z6,Ys,Qa,Qb,Z0,tk3,tk28,tz28,dz28,aPos,w1]
    refine loopH_intro (α := Nat × Int) (fun x => ([(0, .sl 1 (ls.map .str)), (4, .ptr 0 2 1 0 0), (6, .ptr 1 2 1 0 0)], [.arr 28 2 [.agg [.int .i64 x.1, .int .i64 x.2]], .arr 28 2 [.agg [.int .i64 0, .int .i64 0]]]))
      (fun x => x.1 < ls.length ∧ -1 ≤ x.2 ∧ x.2 ≤ 65536 ∧ R = if x.2 ≥ 0 then some ((x.1 : Int), x.2) else (findDn (full ls) x.1).map (lineEndB ls)) (fun x => x.1) (l, p2 - 1) ⟨by dsimp only; omega, by dsimp only; omega, by dsimp only; omega, hR⟩ ?_ ?_
    · simp (maxSteps := 4000000) only [Pg.look,true_and,and_true,Yk,Jp,nxtQ,hdS,Jq,frzA,Zx,Yy,Zy,Qm,Qn,Yz,Jr,Qo,Qp,Qq,Yl,Js,Jt,Ju,Jv,Qr,Qs,Qt,Qu,Pg.freeze,Zf,Y0,subO,Y1,Z3,Qv,AV.cells,AV.pureLeaf,AV.pureB,Za,Zb,reduceCtorEq,Nat.reduceEqDiff,Zi,Zd,Zh,Zo,ite_true,ite_false,Zq,Zw,Zm,and_self,Yn,Yx]
      exact ⟨by decide, subX_eq rfl rfl, subX_eq rfl rfl⟩
    rintro ⟨i, c⟩ ⟨hi, hc1, hc2, hR⟩
    dsimp only at hi hc1 hc2 hR
    by_cases hc : c ≥ 0
    · have c1 : decide (c < 0) = false := decide_eq_false (by omega)
      rw [if_pos hc] at hR
      subst hR
      simp (maxSteps := 4000000) only [↓Y5,↓Qk,↓Xq,↓Yg,↓Yb,↓Zz,↓Yf,Zt,Z9,Z4,gw,Zu,Z2,↓chk,Y6,noW,↓Qw,↓Y7,↓Q8,↓Zn,↓Q6,↓Xg,↓Xc,↓Yp,Qx,Pg.look,Jg,Ql,Zc,implies_true,true_and,and_true,Qy,Y8,Y9,Jh,Ji,Yk,Zx,Zy,Nat.reduceAdd,ofV,Yq,J4,resK,tupA,Qm,Qn,Yz,Qo,Qp,Qq,Yl,Qr,Qs,Jm,Qt,Qu,Pg.freeze,Zf,Y0,Y1,Z3,Qv,Jn,Qc,Q5,Yv,J1,AV.cells,TK.cells,AV.leaf,AV.leafy,Qe,lay,Za,Zb,Zr,reduceCtorEq,Nat.reduceEqDiff,Nat.reduceAdd,Zi,Zd,Zk,Zg,Zs,Z5,Zo,ite_true,ite_false,Option.some.injEq,Ya,Zq,Zw,Zm,and_self,exists_eq_left',Yt,Ze,Zj,cutL,Z1,Zv,Zp,Z8,Yr,Yh,Ye,Yi,Zl,Z6,Ys,Qa,Qb,Z0,Xf,tk3,tk28,dz28,aPos,aOpt,c1]
    · have c1 : decide (c < 0) = true := decide_eq_true (by omega)
      rw [if_neg hc] at hR
      cases i with
      | zero =>
        have w2 : IntKind.i64.wrap ((0 : Int) - 1) = -1 := rfl
        rw [findDn] at hR
        subst hR
        simp (maxSteps := 4000000) only [↓Y5,↓Qi,↓Qk,↓Yg,↓Yb,↓Yo,↓Zz,↓Yj,iselH_if,Zt,Z9,Z4,gw,Zu,Z2,↓chk,Y6,noW,↓Qw,↓Y7,↓Q8,↓Zn,↓Q6,↓Yw,↓J7,↓Yp,Qx,Pg.look,Jg,Ql,Zc,false_implies,implies_true,true_and,and_true,Qy,Y8,Y9,Jh,Ji,Yk,Jp,nxtQ,hdS,Jq,frzA,Zx,Yy,Zy,Nat.reduceAdd,ofV,Yq,J4,resK,tupA,Qm,Qn,Yz,Jr,Qo,Qp,Qq,Yl,Js,Jt,Ju,Jv,Qr,Qs,Jm,Qt,Qu,Pg.freeze,Zf,Y0,subO,Y1,Z3,Qv,Jn,Qc,Q5,Yv,J1,AV.cells,TK.cells,AV.leaf,AV.leafy,AV.pureLeaf,AV.pureB,Qe,lay,Xe,Za,Zb,Xr,Zr,Option.getD_none,reduceCtorEq,Nat.reduceEqDiff,Nat.reduceAdd,Zi,Zd,Zh,Zk,Zg,Yc,Zs,Z5,Zo,Int.reduceToNat,ite_true,ite_false,Option.some.injEq,Ya,Option.isSome_none,AV.agg.injEq,decide_eq_true_eq,decide_eq_false_iff_not,not_true_eq_false,Zq,Zw,Zm,and_self,exists_eq_left',Yt,Yu,Int.reduceLE,Int.reduceLT,Ze,Qj,Xp,Zj,cutL,Z1,Zv,Zp,Z8,J6,Yr,Nat.reduceLeDiff,Yh,Yn,Ye,Yi,Yx,Zl,Z6,Ys,Qa,Qb,Z0,Xf,tk3,tk9,dz9,tk22,tk28,tz28,dz28,aPos,aOpt,c1,w2]
        all_goals (try exact ⟨⟨rfl, rfl⟩, rfl⟩)
      | succ i =>
        have w2 : IntKind.i64.wrap (((i + 1 : Nat) : Int) - 1) = (i : Int) := by rw [wrap64 (by omega) (by omega)]; omega
        have c2 : decide ((i : Int) < 0) = false := decide_eq_false (by omega)
        have h6 := fits_getD hf i
        have w3 : IntKind.i64.wrap (((ls.getD i []).length : Int) - 1) = ((ls.getD i []).length : Int) - 1 := wrap64 (by omega) (by omega)
        rw [findDn] at hR
        have hR2 : R = if ((ls.getD i []).length : Int) - 1 ≥ 0 then some ((i : Int), ((ls.getD i []).length : Int) - 1) else (findDn (full ls) i).map (lineEndB ls) := by
          rw [hR]
          by_cases hfl : (ls.getD i []).length = 0
          · rw [if_neg (by simp only [full,bne_iff_ne,ne_eq,hfl]; simp), if_neg (by omega)]
          · rw [if_pos (by simp only [full,bne_iff_ne,ne_eq,hfl]; simp), if_pos (by omega)]; rfl
        simp (maxSteps := 4000000) only [↓Y5,↓Qi,↓Yg,↓Yb,↓Yo,↓Zz,↓Yj,↓Yf,Zt,Z9,Z4,gw,Zu,Z2,↓chk,Y6,noW,↓Qw,↓Y7,↓Q8,↓Zn,↓Yw,↓Yp,Qx,Pg.look,Jg,Ql,Zc,implies_true,true_and,and_true,Qy,Y8,Y9,Jh,Ji,Yk,Jp,nxtQ,hdS,Jq,frzA,Zx,Yy,Zy,Nat.reduceAdd,ofV,Yq,Qm,Qn,Yz,Jr,Qo,Qp,Qq,Yl,Js,Jt,Ju,Jv,Qr,Qs,Qt,Qu,Pg.freeze,Zf,Y0,subO,Y1,Z3,Qv,Qc,Q5,AV.cells,TK.cells,AV.leaf,AV.leafy,AV.pureLeaf,AV.pureB,Qe,lay,Za,Zb,Zr,reduceCtorEq,Nat.reduceEqDiff,Nat.reduceAdd,Zi,Zd,Zh,Zk,Zg,Zs,Zo,ite_true,ite_false,Option.some.injEq,Zq,Zw,Zm,and_self,exists_eq_left',Yu,Ze,Xp,Jl,Zj,Z1,Zv,Zp,Z8,J6,Nat.reduceLeDiff,Yh,Yn,Ye,Yx,Zl,Z6,Ys,Qa,Qb,Z0,tk3,tk9,dz9,tk22,tk28,dz28,c1,w2,c2,w3]
        exact ⟨⟨by omega, by omega⟩, (i, _), ⟨by dsimp only; omega, by dsimp only; omega, by dsimp only; omega, hR2⟩, by dsimp only; omega, by decide, subX_eq rfl rfl, subX_eq rfl rfl⟩
  | false =>
    have w1 : IntKind.i64.wrap (p2 + 1) = p2 + 1 := wrap64 (by omega) (by omega)
    have hR : nextB ls ((l : Int), p2) false = if p2 + 1 < (ls.getD l []).length then some ((l : Int), p2 + 1) else (findUp (full ls) (ls.length - (l + 1)) (l + 1)).map lineBegB := rfl
    generalize nextB ls ((l : Int), p2) false = R at hR ⊢
    simp (maxSteps := 4000000) only [↓Y5,↓Qi,↓Yg,↓Yb,↓Yo,↓Xx,↓Zz,↓Yf,Zt,Z9,Z4,gw,Zu,Z2,↓chk,Y6,noW,↓Qw,↓Y7,↓Q8,J8,↓Zn,↓Yp,Qx,Pg.look,Jg,Ql,Zc,implies_true,true_and,and_true,Qy,Y8,Y9,Jh,Ji,Nat.reduceAdd,ofV,Yq,Qc,Q5,AV.cells,TK.cells,AV.definite,AV.leaf,AV.leafy,Qe,lay,Za,Zb,Zr,reduceCtorEq,Nat.reduceEqDiff,Nat.reduceAdd,Zi,Zd,Zh,Zk,Zg,Zs,Zo,ite_true,ite_false,Option.some.injEq,Zq,Zw,Zm,and_self,exists_eq_left',Ze,Zj,Zv,Zp,Z8,Yh,Ye,Zl,Z6,Ys,Qa,Qb,Z0,tk3,tk28,tz28,dz28,aPos,w1]
    refine loopH_intro (α := Nat × Int) (fun x => ([(0, .sl 1 (ls.map .str)), (4, .ptr 0 2 1 0 0), (6, .ptr 1 2 1 0 0)], [.arr 28 2 [.agg [.int .i64 x.1, .int .i64 x.2]], .arr 28 2 [.agg [.int .i64 0, .int .i64 0]]]))
      (fun x => x.1 < ls.length ∧ 0 ≤ x.2 ∧ x.2 ≤ 65537 ∧ R = if x.2 < (ls.getD x.1 []).length then some ((x.1 : Int), x.2) else (findUp (full ls) (ls.length - (x.1 + 1)) (x.1 + 1)).map lineBegB) (fun x => ls.length - x.1) (l, p2 + 1) ⟨by dsimp only; omega, by dsimp only; omega, by dsimp only; omega, hR⟩ ?_ ?_
    · simp (maxSteps := 4000000) only [Pg.look,true_and,and_true,Yk,Jp,nxtQ,hdS,Jq,frzA,Zx,Yy,Zy,Qm,Qn,Yz,Jr,Qo,Qp,Qq,Yl,Js,Jt,Ju,Jv,Qr,Qs,Qt,Qu,Pg.freeze,Zf,Y0,subO,Y1,Z3,Qv,AV.cells,AV.pureLeaf,AV.pureB,Za,Zb,reduceCtorEq,Nat.reduceEqDiff,Zi,Zd,Zh,Zo,ite_true,ite_false,Zq,Zw,Zm,and_self,Yn,Yx]
      exact ⟨by decide, subX_eq rfl rfl, subX_eq rfl rfl⟩
    rintro ⟨i, c⟩ ⟨hi, hc1, hc2, hR⟩
    dsimp only at hi hc1 hc2 hR
    by_cases hc : c < (ls.getD i []).length
    · have c1 : decide (c ≥ ((ls.getD i []).length : Int)) = false := decide_eq_false (by omega)
      rw [if_pos hc] at hR
      subst hR
      simp (maxSteps := 4000000) only [↓Y5,↓Qk,↓Xq,↓Yg,↓Yb,↓Zz,↓Yf,Zt,Z9,Z4,gw,Zu,Z2,↓chk,Y6,noW,↓Qw,↓Y7,↓Q8,↓Zn,↓Xg,↓Xc,↓Yp,Qx,Pg.look,Jg,Ql,Zc,implies_true,true_and,and_true,Qy,Y8,Y9,Jh,Ji,Yk,Zx,Zy,Nat.reduceAdd,ofV,Yq,J4,resK,tupA,Qm,Qn,Yz,Qo,Qp,Qq,Yl,Qr,Qs,Jm,Qt,Qu,Pg.freeze,Zf,Y0,Y1,Z3,Qv,Jn,Qc,Q5,Yv,J1,AV.cells,TK.cells,AV.leaf,AV.leafy,Qe,lay,Za,Zb,Zr,reduceCtorEq,Nat.reduceEqDiff,Nat.reduceAdd,Zi,Zd,Zk,Zg,Zs,Z5,Zo,ite_true,ite_false,Option.some.injEq,Ya,Zq,Zw,Zm,and_self,exists_eq_left',Yt,Yu,Ze,Xp,Jl,Zj,cutL,Z1,Zv,Zp,Z8,J6,Yr,Yh,Ye,Yi,Zl,Z6,Ys,Qa,Qb,selC_true,Z0,pureC,Xf,tk3,tk9,dz9,tk22,tk28,dz28,aPos,aOpt,c1]
      exact ⟨by omega, by omega⟩
    · have c1 : decide (c ≥ ((ls.getD i []).length : Int)) = true := decide_eq_true (by omega)
      have w2 : IntKind.i64.wrap ((i : Int) + 1) = ((i + 1 : Nat) : Int) := by rw [wrap64 (by omega) (by omega)]; rfl
      rw [if_neg hc] at hR
      by_cases he : i + 1 < ls.length
      · have c2 : decide (((i + 1 : Nat) : Int) ≥ (ls.length : Int)) = false := decide_eq_false (by omega)
        rw [show ls.length - (i + 1) = (ls.length - (i + 1 + 1)) + 1 by omega, findUp] at hR
        have hR2 : R = if (0 : Int) < (ls.getD (i + 1) []).length then some (((i + 1 : Nat) : Int), 0) else (findUp (full ls) (ls.length - (i + 1 + 1)) (i + 1 + 1)).map lineBegB := by
          rw [hR]
          by_cases hfl : (ls.getD (i + 1) []).length = 0
          · rw [if_neg (by simp only [full,bne_iff_ne,ne_eq,hfl]; simp), if_neg (by omega)]
          · rw [if_pos (by simp only [full,bne_iff_ne,ne_eq,hfl]; simp), if_pos (by omega)]; rfl
        simp (maxSteps := 4000000) only [↓Y5,↓Qi,↓Yg,↓Yb,↓Yo,↓Zz,↓Yj,↓Yf,Zt,Z9,Z4,gw,Zu,Z2,↓chk,Y6,noW,↓Qw,↓Y7,↓Q8,↓Zn,↓Yw,↓Yp,Qx,Pg.look,Jg,Ql,Zc,implies_true,true_and,and_true,Qy,Y8,Y9,Jh,Ji,Yk,Jp,nxtQ,hdS,Jq,frzA,Zx,Yy,Zy,Nat.reduceAdd,ofV,Yq,Qm,Qn,Yz,Jr,Qo,Qp,Qq,Yl,Js,Jt,Ju,Jv,Qr,Qs,Qt,Qu,Pg.freeze,Zf,Y0,subO,Y1,Z3,Qv,slen,Qc,Q5,AV.cells,TK.cells,AV.leaf,AV.leafy,AV.pureLeaf,AV.pureB,Qe,lay,Za,Zb,Zr,reduceCtorEq,Nat.reduceEqDiff,Nat.reduceAdd,Zi,Zd,Zh,Zk,Zg,Zs,Zo,ite_true,ite_false,Option.some.injEq,AV.int.injEq,Zq,Zw,Zm,and_self,exists_eq_left',Yu,Ze,Xp,Jl,Zj,Z1,Zv,Zp,Z8,J6,Nat.reduceLeDiff,Yh,Yn,Ye,Yx,Zl,Z6,Ys,Qa,Qb,selC_true,Z0,pureC,tk3,tk9,dz9,tk22,tk28,dz28,c1,w2,c2]
        exact ⟨⟨by omega, by omega⟩, (i + 1, 0), ⟨by dsimp only; omega, by dsimp only; omega, by dsimp only; omega, hR2⟩, by dsimp only; omega, by decide, subX_eq rfl rfl, subX_eq rfl rfl⟩
      · have c2 : decide (((i + 1 : Nat) : Int) ≥ (ls.length : Int)) = true := decide_eq_true (by omega)
        rw [show ls.length - (i + 1) = 0 by omega, findUp] at hR
        subst hR
        simp (maxSteps := 4000000) only [↓Y5,↓Qi,↓Qk,↓Yg,↓Yb,↓Yo,↓Zz,↓Yj,Zt,Z9,Z4,gw,Zu,Z2,↓chk,Y6,noW,↓Qw,↓Y7,↓Q8,↓Zn,↓Q6,↓J7,↓Yp,Qx,Pg.look,Jg,Ql,Zc,implies_true,true_and,and_true,Qy,Y8,Y9,Jh,Ji,Yk,Zx,Zy,Nat.reduceAdd,ofV,Yq,J4,resK,tupA,Qm,Qn,Yz,Qo,Qp,Qq,Yl,Qr,Qs,Jm,Qt,Qu,Pg.freeze,Zf,Y0,Y1,Z3,Qv,Jn,slen,Qc,Q5,Yv,J1,AV.cells,TK.cells,AV.leaf,AV.leafy,Qe,lay,Xe,Za,Zb,Xr,Zr,Option.getD_none,reduceCtorEq,Nat.reduceEqDiff,Nat.reduceAdd,Zi,Zd,Zh,Zk,Zg,Yc,Zs,Z5,Zo,ite_true,ite_false,Option.some.injEq,Ya,Option.isSome_none,AV.int.injEq,AV.agg.injEq,Zq,Zw,Zm,and_self,exists_eq_left',Yt,Yu,Ze,Xp,Jl,Zj,cutL,Z1,Zv,Zp,Z8,J6,Yr,Nat.reduceLeDiff,Yh,Ye,Yi,Zl,Z6,Ys,Qa,Qb,selC_true,Z0,pureC,Xf,tk3,tk9,dz9,tk22,tk28,tz28,dz28,aPos,aOpt,c1,w2,c2]
        exact ⟨by omega, by omega⟩
def kBNext : C1 := C1.by [.sl 1 [], .id, .id] (lCons cStrs (lCons cPos2 (lOne cBool))) (fun d => okText d.1 ∧ 0 ≤ d.2.1.1 ∧ d.2.1.1 < d.1.length ∧ 0 ≤ d.2.1.2 ∧ d.2.1.2 ≤ 65536) (fun d => aOpt (nextB d.1 d.2.1 d.2.2)) (fun _ => [])
theorem ok_bnext : C1OK Try.prog 105 kBNext := C1OK.by (by kernel_rfl) (fun d h => calls_bnext d.1 d.2.1 d.2.2 h.1 h.2.1 h.2.2.1 h.2.2.2.1 h.2.2.2.2) (fun _ => rfl) (fun _ => rfl)
end Go.Pg
