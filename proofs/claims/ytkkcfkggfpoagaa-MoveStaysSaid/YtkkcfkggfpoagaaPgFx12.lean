/- A motion, by its name: where there are no marks. Chapter 25: the chapter's example. Searching: plain laws. MoveSearches: n goes on as the last search went, N the other way, star searches the word. Wherever motions lead: what is wanted is no number below nought. MoveStays: wherever motions lead, it is a place of the text. -/
import Derived.Test.YtkkcfkggfpoagaaPgFx11
import Derived.Test.YtkkcfkggfpoagaaPgFx9
import Derived.Test.YtkkcfkggfpoagaaPgFx10
open List renaming getElem?_cons_zero → Za, getElem?_cons_succ → Zb, contains_nil → Zd, getD_cons_zero → Ze, drop_succ_cons → Zf, append_nil → Zh, set_cons_zero → Zi, take_succ_cons → Zj, getElem?_toArray → Zk, nil_append → Zl, length_nil → Zm, set_cons_succ → Zn, foldl_nil → Zo, cons_append → Zq, length_cons → Zr, toList_toArray → Zt, range'_zero → Zv, drop_zero → Zw, take_zero → Zx, all_cons → Z0, map_nil → Z2, drop_nil → Z4, map_cons → Z5, all_nil → Z8, take_nil → Z9, length_map → Yf, contains_cons → Yz
open Bool renaming false_eq_true → Zc, and_self → Zu, not_false → Zy, not_true → Yr, or_self → Xi, true_eq_false → Xr, or_false → X7
open Option renaming getD_some → Zg, isSome_some → Zp, bind_some → Z1
open Nat renaming zero_lt_succ → Zs, zero_add → Z3, le_refl → Yg, sub_zero → Yi, sub_self → Yu, add_zero → Xh, lt_irrefl → X3
open Go.Pg renaming thenA_normal → Zz, bselH_false → Z6, gselH_plain → Z7, wpH_region → Ya, closeQ_nil → Yb, diagQ_zero → Yc, selC_false → Yd, cselH_bool → Ye, iselH_false → Yh, runH_cons → Yj, closeQ_succ → Yk, subV_succ → Yl, regH_none → Ym, blockA_normal → Yn, iselH_true → Yo, runH_nil → Yp, look_stripE → Yq, wpH_cond → Ys, res_succ → Yt, wpH_seq → Yv, putCells → Yw, wpH_block → Yx, mergeable → Yy, diagQ_succ → Y0, lOne_dec → Y1, lCons_dec → Y2, dec2_some → Y3, wpH_ret → Y4, stepEv → Y5, alives → Y6, ofLeaf → Y7, pickOf → Y8, isNext → Y9, wpH_skip → Qa, gselH_if → Qb, decL_str → Qc, ldCells → Qd, cBool_dec → Qe, cByte_dec → Qf, hCons_dec → Qg, app3_some → Qh, cInt_dec → Qi, res8_eq → Qj, cSl_dec → Qk, kselH_1 → Ql, cStr_dec → Qm, cAgg_dec → Qn, C1by_mu → Qo, C1mby_mu → Qp, mkM_some → Qq, hNil_dec → Qr, hP1_some → Qs, hP2_some → Qt, hB1_some → Qu, hBox_dec → Qv, wpA_H → Qw, justK → Qx, pureK → Qy, intOp → Qz, heapV → Q0, footV → Q1, ptrsE → Q2, subOs → Q3, subEv → Q4, nextF → Q5, nextG → Q6, thenA_ret → Q7, aliveO → Q8, pairsA → Q9, pairsO → Ja, pairsE → Jb, pairsC → Jc, pairs0 → Jd, buildL → Je, runM_eq → Jf, hB2_arr → Jg, length_ofBytes → Jh, mergeK → Ji, condsL → Jj, heapK → Jk, envOf → Jm, objAt → Jn, optP_some → Jo, optV_some → Jp, optH_some → Jq, oneK → Jr, opnd → Js, binK → Jt, valV → Ju, binV → Jv, intV → Jw, subA → Jx, subQ → Jy, frzO → Jz, subF → J0, subG → J1, frzE → J2, frzC → J3, frz0 → J4, frzH → J5, subM → J6, callT → J7, normA → J8, normC → J9, pairsL → Xa, resM → Xb, callUV → Xc, callUH → Xd, callUF → Xe, hP_dec → Xf, nodupB → Xg, gkind → Xj, dstOf → Xk, pickC → Xl, pickV → Xm, sameK → Xn, hAgg_dec → Xo, normArgs → Xp, C1by_pre → Xq, mapAt → Xs, callU → Xt, pickF → Xu, somes → Xv, fresh → Xw, C1by_ns → Xx, C1by_it → Xy, shiftR → Xz, shift1 → X0, C1by_r → X1, C1by_H → X2, pickOK_nil → X5, pickOK_one → X6
open Array renaming toList_append → Jl
open Int renaming toNat_natCast → X4
namespace Go.Pg
open Go Go.Proofs

def cNpt : Cd Unit where
  enc _ := .npt
  dec
    | .npt => some ()
    | _ => none
  ok v a h := by split at h <;> cases h; rfl
theorem cNpt_dec : cNpt.dec .npt = some () := (rfl)
def kClamp : C1 := C1.by [.sl 1 [], .id, .id] (lCons cStrs (lCons cPos2 (lOne cBool))) (fun d => small d.1) (fun d => aPos (clampP d.1 d.2.1 d.2.2)) (fun _ => [])
theorem ok_Clamp : C1OK Try.prog 24 kClamp := C1OK.by (by kernel_rfl) (fun d h => calls_Clamp d.1 d.2.1 d.2.2 h) (fun _ => rfl) (fun _ => rfl)
theorem small_of {ls : Ls} (hf : okText ls) : small ls := fits_small hf (by omega) (by omega)

set_option maxHeartbeats 4000000 in
theorem calls_markN (ls : Ls) (x : Cx) (c : Cm) (n : Int) (op : Bool) : CallsR Try.prog 22 [aAsk ls c n op, .npt] (cxH x) (aMove mNone) (cxH x) := by
  refine callsR_of (mrg := true) (dyn := []) (CtrOK.nil _) mixed Try.func22 rfl (by simp [Try.ntmps22]) (by kernel_rfl) ?_
  rw [show Try.f22.results.toList = [.cell 4 38, .tmp 5] from by kernel_rfl]
  obtain ⟨rg, cn, opr, name, arg, text⟩ := c
  by_cases h : arg = 39
  · subst h
    simp (maxSteps := 4000000) only [↓Qw,↓Y4,↓Yv,↓Ys,↓Ya,↓Yo,Z6,Yp,Yj,gw,Z7,Ye,↓chk,Qx,noW,↓Jr,↓Qy,↓Jk,Jm,↓Zz,↓Q7,↓Y5,Js,Pg.look,Jt,Qz,Zc,implies_true,true_and,and_true,Ju,Q0,Q1,Jv,Jw,Y6,Q8,nxtQ,hdS,Q9,frzA,Yb,Yk,Yc,Y0,Nat.reduceAdd,ofV,Y7,retA,resK,tupA,Jx,Jy,Q2,Ja,Jz,J0,J1,Y8,Jb,Jc,Xa,Jd,J2,J3,frzL,J4,J5,Pg.freeze,Zo,Q3,subO,Q4,Yl,J6,subL,Qd,Jn,Yt,Xb,AV.cells,TK.cells,AV.definite,AV.leaf,AV.leafy,AV.pureLeaf,AV.pureB,Yw,lay,Je,Zb,Za,Zg,reduceCtorEq,Nat.reduceEqDiff,Nat.reduceAdd,Zl,Zh,Zq,Zr,Zm,Z2,Zi,Zn,Z3,ite_true,ite_false,Option.some.injEq,Zp,AV.agg.injEq,Z0,Z8,Zu,and_self,exists_eq_left',Zd,beq_self_eq_true,Int.cast_ofNat_Int,Ze,cutL,Zw,Zf,Zj,Zx,Yi,Yg,Z4,Z9,Zs,Ym,Y9,Q5,Q6,Yd,Xs,tk5,tk33,tk38,tz38,dz38,pt55,tk57,dz57,aMove,aMv,mNone,byteA,UInt8.reduceToNat]
    (repeat' first | (show dynOrd _ _ = true; kernel_rfl) | exact subX_eq rfl rfl | exact trivial | apply And.intro | rfl | omega)
  · have c1 := byte_lit arg 39 39 rfl h
    simp (maxSteps := 4000000) only [↓Qw,↓Qa,↓Y4,↓Yv,↓Ys,↓Ya,↓Yo,↓Yh,Z6,Yp,Yj,gw,Z7,Ye,↓chk,Qx,noW,↓Jr,↓Qy,↓Jk,Jm,↓Zz,↓Q7,↓Y5,Js,Pg.look,Jt,Qz,Zc,implies_true,true_and,and_true,Ju,Q0,Q1,Jv,Jw,Y6,Q8,nxtQ,hdS,Q9,frzA,Yb,Yk,Yc,Y0,Nat.reduceAdd,ofV,Y7,retA,resK,tupA,Jx,Jy,Q2,Ja,Jz,J0,J1,Y8,Jb,Jc,Xa,Jd,J2,J3,frzL,J4,J5,Pg.freeze,Zo,Q3,subO,Q4,Yl,J6,subL,Qd,Jn,Yt,Xb,AV.cells,TK.cells,AV.definite,AV.leaf,AV.leafy,AV.pureLeaf,AV.pureB,Yw,lay,Je,Zb,Za,Zg,reduceCtorEq,Nat.reduceEqDiff,Nat.reduceAdd,Zl,Zh,Zq,Zr,Zm,Z2,Zi,Zn,Z3,ite_true,ite_false,Option.some.injEq,Zp,AV.agg.injEq,Z0,Z8,Zu,and_self,exists_eq_left',Zd,Ze,cutL,Zw,Zf,Zj,Zx,Yi,Yg,Z4,Z9,Zs,Ym,Y9,Q5,Q6,Yd,Xs,tk5,tk33,tk38,tz38,dz38,pt55,tk57,dz57,aMove,aMv,mNone,c1]
    (repeat' first | (show dynOrd _ _ = true; kernel_rfl) | exact subX_eq rfl rfl | exact trivial | apply And.intro | rfl | omega)
def kMarkN : C1 := C1.mby (hCons (hAgg lAskd) (hCons (hP .id cNpt) hNil)) (fun _ => True) (fun _ => aMove mNone) (fun d => cxH d.1.2.1)
theorem ok_markN : C1OK Try.prog 22 kMarkN := C1OK.mby (by kernel_rfl) (fun d _ => calls_markN d.1.1 d.1.2.1 (d.1.2.2.1, d.1.2.2.2.1, d.1.2.2.2.2.1, d.1.2.2.2.2.2.1, d.1.2.2.2.2.2.2.1, d.1.2.2.2.2.2.2.2.1) d.1.2.2.2.2.2.2.2.2.1 d.1.2.2.2.2.2.2.2.2.2.1) (fun _ _ => Nat.le_refl _)

abbrev lCm : CdL Cm := lCons cByte (lCons (cInt .i64) (lCons cStr (lCons cStr (lCons cByte (lOne cStr)))))
/-- A motion's end: brought into the text, its column wanted. -/
def doFin (ls : Ls) (op : Bool) (r : Mv × Bool) : Mv × Bool :=
  if r.2 = true then ((clampP ls r.1.1 op, r.1.2.1, r.1.2.2.1, if r.1.2.2.2 = -1 then (clampP ls r.1.1 op).2 else r.1.2.2.2), true) else mNone
def cntF (cn : Int) : Int := if cn = 0 then 1 else cn
def doN (ls : Ls) (x : Cx) (c : Cm) (op : Bool) : Res :=
  if ls.length = 0 ∨ c.2.2.2.1 = [39] ∨ c.2.2.2.1 = [96] then (mNone, x)
  else (doFin ls op (lineA ls x c (cntF c.2.1) op).1, (lineA ls x c (cntF c.2.1) op).2)
set_option maxRecDepth 20000 in
set_option maxHeartbeats 8000000 in
theorem calls_DoN (ls : Ls) (x : Cx) (c : Cm) (op : Bool) (hf : okText ls) (hcn : c.2.1 ≤ 9223372036854775807) : CallsR Try.prog 10 [.sl 1 (ls.map .str), .ptr 0 8 1 0 0, .agg (aCm c), .bool op, .npt] (cxH x) (aMove (doN ls x c op).1) (cxH (doN ls x c op).2) := by
  refine callsR_of (mrg := true) (dyn := []) (CtrOK.cons ok_markN (CtrOK.cons ok_lineA (CtrOK.cons ok_Clamp (CtrOK.nil _)))) mixed Try.func10 rfl (by simp [Try.ntmps10]) (by kernel_rfl) ?_
  rw [show Try.f10.results.toList = [.cell 10 38, .tmp 11] from by kernel_rfl]
  have hsm := small_of hf
  obtain ⟨rg, cn, opr, name, arg, text⟩ := c
  dsimp only at hcn
  have hfin : ∀ k, k = cntF cn → k ≤ 9223372036854775807 := by intro k hk; rw [hk]; unfold cntF; split <;> omega
  have hcc : (cn = 0 → cntF cn = 1) ∧ (¬ cn = 0 → cntF cn = cn) := by unfold cntF; constructor <;> intro h <;> simp [h]
  obtain ⟨k, hk⟩ : ∃ k, k = cntF cn := ⟨_, rfl⟩
  have hkn := hfin k hk
  unfold doN
  dsimp only
  rw [← hk] at hcc ⊢
  have hll := hf.1
  by_cases hg : ls.length = 0 ∨ name = [39] ∨ name = [96]
  · rw [if_pos hg]
    by_cases hl0 : ls.length = 0
    · have g1 : ((ls.length : Int) == 0) = true := by rw [hl0]; rfl
      by_cases hc0 : cn = 0
      · have c0 : (cn == 0) = true := beq_iff_eq.2 hc0
        simp (maxSteps := 4000000) only [↓Qw,↓Qa,↓Y4,↓Yv,↓Ys,↓Yx,↓Ya,↓Yo,Z6,Yp,Yj,gw,Z7,Ye,↓chk,Qx,noW,↓Jr,↓Qy,↓Jk,Jm,↓Zz,↓Q7,↓Yn,↓Y5,Js,Pg.look,Jt,Qz,Zy,Zc,implies_true,true_and,and_true,Ju,Q0,Q1,Jv,Jw,Y6,Q8,nxtQ,hdS,Q9,frzA,Yb,Yk,Yc,Y0,Nat.reduceAdd,ofV,Y7,retA,resK,tupA,Jx,Jy,Q2,Ja,Jz,J0,J1,Y8,Jb,Jc,Xa,Jd,J2,J3,frzL,J4,J5,Pg.freeze,Zo,Q3,subO,Q4,Yl,J6,subL,slen,Qd,Jn,Yt,Xb,AV.cells,TK.cells,AV.definite,AV.leaf,AV.leafy,AV.pureLeaf,AV.pureB,Yw,lay,Je,Zb,Za,Zg,reduceCtorEq,Nat.reduceEqDiff,Nat.reduceAdd,Zl,Zh,Zq,Zr,Zm,Z5,Z2,Zi,Zn,Z3,ite_true,ite_false,Option.some.injEq,Zp,AV.int.injEq,AV.agg.injEq,Z0,Z8,Zu,and_self,exists_eq_left',Yf,Zd,Ze,cutL,Zw,Zf,Zj,Zx,Yi,Nat.reduceLeDiff,Yg,Z4,Z9,Zs,Ym,Y9,Q5,Q6,Yd,Xs,tk3,tk22,tk33,dz33,tk38,tz38,dz38,tk57,tz57,dz57,kMarkN,kLineA,kClamp,aMove,aMv,mNone,aPos,c0,g1]
        (repeat' first | exact hf | exact hcn | exact hkn | exact hsm | exact ⟨hf, hcn⟩ | (show dynOrd _ _ = true; kernel_rfl) | exact subX_eq rfl rfl | exact trivial | apply And.intro | rfl | omega)
      · have c0 : (cn == 0) = false := beq_eq_false_iff_ne.2 hc0
        simp (maxSteps := 4000000) only [↓Qw,↓Qa,↓Y4,↓Yv,↓Ys,↓Yx,↓Ya,↓Yo,↓Yh,Z6,Yp,Yj,gw,Z7,Ye,↓chk,Qx,noW,↓Jr,↓Qy,↓Jk,Jm,↓Zz,↓Q7,↓Yn,↓Y5,Js,Pg.look,Jt,Qz,Zy,Zc,implies_true,true_and,and_true,Ju,Q0,Q1,Jv,Jw,Y6,Q8,nxtQ,hdS,Q9,frzA,Yb,Yk,Yc,Y0,Nat.reduceAdd,ofV,Y7,retA,resK,tupA,Jx,Jy,Q2,Ja,Jz,J0,J1,Y8,Jb,Jc,Xa,Jd,J2,J3,frzL,J4,J5,Pg.freeze,Zo,Q3,subO,Q4,Yl,J6,subL,slen,Qd,Jn,Yt,Xb,AV.cells,TK.cells,AV.definite,AV.leaf,AV.leafy,AV.pureLeaf,AV.pureB,Yw,lay,Je,Zb,Za,Zg,reduceCtorEq,Nat.reduceEqDiff,Nat.reduceAdd,Zl,Zh,Zq,Zr,Zm,Z5,Z2,Zi,Zn,Z3,ite_true,ite_false,Option.some.injEq,Zp,AV.int.injEq,AV.agg.injEq,Z0,Z8,Zu,and_self,exists_eq_left',Yf,Zd,Ze,cutL,Zw,Zf,Zj,Zx,Yi,Nat.reduceLeDiff,Yg,Z4,Z9,Zs,Ym,Y9,Q5,Q6,Yd,Xs,tk3,tk22,tk33,dz33,tk38,tz38,dz38,tk57,tz57,dz57,kMarkN,kLineA,kClamp,aMove,aMv,mNone,aPos,c0,g1]
        (repeat' first | exact hf | exact hcn | exact hkn | exact hsm | exact ⟨hf, hcn⟩ | (show dynOrd _ _ = true; kernel_rfl) | exact subX_eq rfl rfl | exact trivial | apply And.intro | rfl | omega)
    · have g1 : ((ls.length : Int) == 0) = false := by rw [beq_eq_false_iff_ne]; omega
      have hg : name = [39] ∨ name = [96] := hg.elim (fun h => absurd h hl0) id
      rcases hg with hg | hg
      · subst hg
        by_cases hc0 : cn = 0
        · have c0 : (cn == 0) = true := beq_iff_eq.2 hc0
          simp (maxSteps := 4000000) only [↓Qw,↓Y4,↓Yv,↓Ys,↓Yx,↓Ya,↓Yo,↓Yh,Z6,Yp,Yj,gw,Z7,Qb,Ql,Ye,Xj,↓chk,Qx,noW,↓Jr,↓Qy,↓Jk,Jm,↓Zz,↓Q7,↓Yn,↓Y5,Js,Pg.look,Jt,Qz,strOp,Xk,Zy,Yr,Zc,Xr,implies_true,imp_self,true_and,and_true,Xl,Xm,unc,gof,mux,Ji,Jj,Ju,Q0,Q1,Jv,Jw,strV,Y6,Q8,nxtQ,hdS,Q9,frzA,Yb,Yk,Yc,Y0,Nat.reduceAdd,Yy,Yq,ofV,Y7,Xn,retA,resK,tupA,Jx,Jy,Q2,Ja,Jz,J0,J1,Y8,Jb,Jc,Xa,Jd,J2,J3,frzL,J4,J5,Pg.freeze,Zo,Q3,subO,Q4,Yl,J6,subL,slen,Qd,Jn,↓J7,J8,J9,resL,Qj,Yt,Xb,AV.cells,TK.cells,AV.definite,AV.leaf,AV.leafy,AV.pureLeaf,AV.pureB,Yw,lay,Je,Op.operands,Zk,Zb,Za,Z1,Zg,reduceCtorEq,Nat.reduceEqDiff,Nat.reduceAdd,Zl,Zh,Zq,Zr,Zm,Z5,Z2,Zi,Zn,Z3,ite_true,ite_false,Option.some.injEq,Zp,AV.int.injEq,AV.agg.injEq,Z0,Z8,Zu,and_self,exists_eq_left',Yf,Qi,Qe,Zt,Qf,Qm,Qk,Qn,Y1,Y2,Y3,Zd,beq_self_eq_true,Zv,Qc,Ze,cutL,Zw,Zf,Zj,Zx,Yi,Yu,Nat.reduceLeDiff,Yg,Z4,Z9,Zs,Ym,Y9,Q5,Q6,Yd,↓msel,muC,↓Xt,↓Xc,↓Xd,↓Xe,Qo,Qp,Jf,Qq,Qr,Qg,Qh,Xf,Qs,Qt,Qu,Jg,Qv,Xo,Xu,Xg,Xv,Xw,gids,putO,ren,renL,renO,Xs,tk3,tk9,tk22,tk33,dz33,tk38,tz38,dz38,tk57,tz57,dz57,kMarkN,kLineA,kClamp,aMove,aMv,mNone,aPos,cNpt_dec,c0,g1]
          (repeat' first | exact hf | exact hcn | exact hkn | exact hsm | exact ⟨hf, hcn⟩ | (show dynOrd _ _ = true; kernel_rfl) | exact subX_eq rfl rfl | exact trivial | apply And.intro | rfl | omega)
        · have c0 : (cn == 0) = false := beq_eq_false_iff_ne.2 hc0
          simp (maxSteps := 4000000) only [↓Qw,↓Qa,↓Y4,↓Yv,↓Ys,↓Yx,↓Ya,↓Yo,↓Yh,Z6,Yp,Yj,gw,Z7,Qb,Ql,Ye,Xj,↓chk,Qx,noW,↓Jr,↓Qy,↓Jk,Jm,↓Zz,↓Q7,↓Yn,↓Y5,Js,Pg.look,Jt,Qz,strOp,Xk,Zy,Yr,Zc,Xr,implies_true,imp_self,true_and,and_true,Xl,Xm,unc,gof,mux,Ji,Jj,Ju,Q0,Q1,Jv,Jw,strV,Y6,Q8,nxtQ,hdS,Q9,frzA,Yb,Yk,Yc,Y0,Nat.reduceAdd,Yy,Yq,ofV,Y7,Xn,retA,resK,tupA,Jx,Jy,Q2,Ja,Jz,J0,J1,Y8,Jb,Jc,Xa,Jd,J2,J3,frzL,J4,J5,Pg.freeze,Zo,Q3,subO,Q4,Yl,J6,subL,slen,Qd,Jn,↓J7,J8,J9,resL,Qj,Yt,Xb,AV.cells,TK.cells,AV.definite,AV.leaf,AV.leafy,AV.pureLeaf,AV.pureB,Yw,lay,Je,Op.operands,Zk,Zb,Za,Z1,Zg,reduceCtorEq,Nat.reduceEqDiff,Nat.reduceAdd,Zl,Zh,Zq,Zr,Zm,Z5,Z2,Zi,Zn,Z3,ite_true,ite_false,Option.some.injEq,Zp,AV.int.injEq,AV.agg.injEq,Z0,Z8,Zu,and_self,exists_eq_left',Yf,Qi,Qe,Zt,Qf,Qm,Qk,Qn,Y1,Y2,Y3,Zd,beq_self_eq_true,Zv,Qc,Ze,cutL,Zw,Zf,Zj,Zx,Yi,Yu,Nat.reduceLeDiff,Yg,Z4,Z9,Zs,Ym,Y9,Q5,Q6,Yd,↓msel,muC,↓Xt,↓Xc,↓Xd,↓Xe,Qo,Qp,Jf,Qq,Qr,Qg,Qh,Xf,Qs,Qt,Qu,Jg,Qv,Xo,Xu,Xg,Xv,Xw,gids,putO,ren,renL,renO,Xs,tk3,tk9,tk22,tk33,dz33,tk38,tz38,dz38,tk57,tz57,dz57,kMarkN,kLineA,kClamp,aMove,aMv,mNone,aPos,cNpt_dec,c0,g1]
          (repeat' first | exact hf | exact hcn | exact hkn | exact hsm | exact ⟨hf, hcn⟩ | (show dynOrd _ _ = true; kernel_rfl) | exact subX_eq rfl rfl | exact trivial | apply And.intro | rfl | omega)
      · subst hg
        have hq : (([96] : List UInt8) == [39]) = false := rfl
        by_cases hc0 : cn = 0
        · have c0 : (cn == 0) = true := beq_iff_eq.2 hc0
          simp (maxSteps := 4000000) only [↓Qw,↓Y4,↓Yv,↓Ys,↓Yx,↓Ya,↓Yo,↓Yh,Z6,Yp,Yj,gw,Z7,Qb,Ql,Ye,Xj,↓chk,Qx,noW,↓Jr,↓Qy,↓Jk,Jm,↓Zz,↓Q7,↓Yn,↓Y5,Js,Pg.look,Jt,Qz,strOp,Xk,Zy,Zc,implies_true,true_and,and_true,Xl,Xm,unc,gof,mux,Ji,Jj,Ju,Q0,Q1,Jv,Jw,strV,Y6,Q8,nxtQ,hdS,Q9,frzA,Yb,Yk,Yc,Y0,Nat.reduceAdd,Yy,Yq,ofV,Y7,Xn,retA,resK,tupA,Jx,Jy,Q2,Ja,Jz,J0,J1,Y8,Jb,Jc,Xa,Jd,J2,J3,frzL,J4,J5,Pg.freeze,Zo,Q3,subO,Q4,Yl,J6,subL,slen,Qd,Jn,↓J7,J8,J9,resL,Qj,Yt,Xb,AV.cells,TK.cells,AV.definite,AV.leaf,AV.leafy,AV.pureLeaf,AV.pureB,Yw,lay,Je,Op.operands,Zk,Zb,Za,Z1,Zg,reduceCtorEq,Nat.reduceEqDiff,Nat.reduceAdd,Zl,Zh,Zq,Zr,Zm,Z5,Z2,Zi,Zn,Z3,ite_true,ite_false,Option.some.injEq,Zp,AV.int.injEq,AV.agg.injEq,Z0,Z8,Zu,and_self,exists_eq_left',Yf,Qi,Qe,Zt,Qf,Qm,Qk,Qn,Y1,Y2,Y3,Zd,beq_self_eq_true,Zv,Qc,Ze,cutL,Zw,Zf,Zj,Zx,Yi,Yu,Nat.reduceLeDiff,Yg,Z4,Z9,Zs,Ym,Y9,Q5,Q6,Yd,↓msel,muC,↓Xt,↓Xc,↓Xd,↓Xe,Qo,Qp,Jf,Qq,Qr,Qg,Qh,Xf,Qs,Qt,Qu,Jg,Qv,Xo,Xu,Xg,Xv,Xw,gids,putO,ren,renL,renO,Xs,tk3,tk9,tk22,tk33,dz33,tk38,tz38,dz38,tk57,tz57,dz57,kMarkN,kLineA,kClamp,aMove,aMv,mNone,aPos,cNpt_dec,c0,g1,hq]
          (repeat' first | exact hf | exact hcn | exact hkn | exact hsm | exact ⟨hf, hcn⟩ | (show dynOrd _ _ = true; kernel_rfl) | exact subX_eq rfl rfl | exact trivial | apply And.intro | rfl | omega)
        · have c0 : (cn == 0) = false := beq_eq_false_iff_ne.2 hc0
          simp (maxSteps := 4000000) only [↓Qw,↓Qa,↓Y4,↓Yv,↓Ys,↓Yx,↓Ya,↓Yo,↓Yh,Z6,Yp,Yj,gw,Z7,Qb,Ql,Ye,Xj,↓chk,Qx,noW,↓Jr,↓Qy,↓Jk,Jm,↓Zz,↓Q7,↓Yn,↓Y5,Js,Pg.look,Jt,Qz,strOp,Xk,Zy,Zc,implies_true,true_and,and_true,Xl,Xm,unc,gof,mux,Ji,Jj,Ju,Q0,Q1,Jv,Jw,strV,Y6,Q8,nxtQ,hdS,Q9,frzA,Yb,Yk,Yc,Y0,Nat.reduceAdd,Yy,Yq,ofV,Y7,Xn,retA,resK,tupA,Jx,Jy,Q2,Ja,Jz,J0,J1,Y8,Jb,Jc,Xa,Jd,J2,J3,frzL,J4,J5,Pg.freeze,Zo,Q3,subO,Q4,Yl,J6,subL,slen,Qd,Jn,↓J7,J8,J9,resL,Qj,Yt,Xb,AV.cells,TK.cells,AV.definite,AV.leaf,AV.leafy,AV.pureLeaf,AV.pureB,Yw,lay,Je,Op.operands,Zk,Zb,Za,Z1,Zg,reduceCtorEq,Nat.reduceEqDiff,Nat.reduceAdd,Zl,Zh,Zq,Zr,Zm,Z5,Z2,Zi,Zn,Z3,ite_true,ite_false,Option.some.injEq,Zp,AV.int.injEq,AV.agg.injEq,Z0,Z8,Zu,and_self,exists_eq_left',Yf,Qi,Qe,Zt,Qf,Qm,Qk,Qn,Y1,Y2,Y3,Zd,beq_self_eq_true,Zv,Qc,Ze,cutL,Zw,Zf,Zj,Zx,Yi,Yu,Nat.reduceLeDiff,Yg,Z4,Z9,Zs,Ym,Y9,Q5,Q6,Yd,↓msel,muC,↓Xt,↓Xc,↓Xd,↓Xe,Qo,Qp,Jf,Qq,Qr,Qg,Qh,Xf,Qs,Qt,Qu,Jg,Qv,Xo,Xu,Xg,Xv,Xw,gids,putO,ren,renL,renO,Xs,tk3,tk9,tk22,tk33,dz33,tk38,tz38,dz38,tk57,tz57,dz57,kMarkN,kLineA,kClamp,aMove,aMv,mNone,aPos,cNpt_dec,c0,g1,hq]
          (repeat' first | exact hf | exact hcn | exact hkn | exact hsm | exact ⟨hf, hcn⟩ | (show dynOrd _ _ = true; kernel_rfl) | exact subX_eq rfl rfl | exact trivial | apply And.intro | rfl | omega)
  · rw [if_neg hg]
    have g1 : ((ls.length : Int) == 0) = false := by rw [beq_eq_false_iff_ne]; intro h; exact hg (.inl (by omega))
    have g2 := str_ne (fun h => hg (.inr (.inl h)))
    have g3 := str_ne (fun h => hg (.inr (.inr h)))
    obtain ⟨r, hr⟩ : ∃ r, r = lineA ls x (rg, cn, opr, name, arg, text) k op := ⟨_, rfl⟩
    rw [← hr]
    obtain ⟨⟨⟨⟨t1, t2⟩, way, jp, want⟩, ok⟩, y⟩ := r
    obtain ⟨x1, x2, w, t, ky, kc, fd, bk⟩ := x
    unfold doFin
    dsimp only
    by_cases hc0 : cn = 0
    · have c0 : (cn == 0) = true := beq_iff_eq.2 hc0
      have hk1 := hcc.1 hc0
      subst hk1
      cases ok with
      | false =>
        rw [if_neg (by simp)]
        simp (maxSteps := 4000000) only [↓Qw,↓Y4,↓Yv,↓Ys,↓Yx,↓Ya,↓Yo,↓Yh,Z6,Yp,Yj,gw,Z7,Qb,Ql,Ye,Xj,↓chk,Qx,noW,↓Jr,↓Qy,↓Jk,Jm,↓Zz,↓Q7,↓Yn,↓Y5,Js,Pg.look,Jt,Qz,strOp,Xk,Zy,Zc,implies_true,true_and,and_true,Xl,Xm,unc,gof,mux,Ji,Jj,Ju,Q0,Q1,Jv,Jw,strV,Y6,Q8,nxtQ,hdS,Q9,frzA,Yb,Yk,Yc,Y0,Nat.reduceAdd,Yy,Yq,ofV,Y7,Xn,retA,resK,tupA,Jx,Jy,Q2,Ja,Jz,J0,J1,Y8,Jb,Jc,Xa,Jd,J2,J3,frzL,J4,J5,Pg.freeze,Zo,Q3,subO,Q4,Yl,J6,subL,slen,Qd,Jn,↓J7,J8,J9,resL,Qj,Yt,Xb,AV.cells,TK.cells,AV.definite,AV.leaf,AV.leafy,AV.pureLeaf,AV.pureB,Yw,lay,Je,Op.operands,Zk,Zb,Za,Z1,Zg,reduceCtorEq,Nat.reduceEqDiff,Nat.reduceAdd,Zl,Zh,Zq,Zr,Zm,Z5,Z2,Zi,Zn,Z3,ite_true,ite_false,Option.some.injEq,Zp,AV.int.injEq,AV.agg.injEq,Z0,Z8,Zu,and_self,exists_eq_left',Yf,Qi,Qe,Zt,Qf,Int.reduceLE,Qm,Qk,Qn,Y1,Y2,Y3,Zd,Zv,Qc,Ze,cutL,Zw,Zf,Zj,Zx,Yi,Yu,Nat.reduceLeDiff,Yg,Z4,Z9,Zs,Ym,Y9,Q5,Q6,Yd,↓msel,muC,↓Xt,↓Xc,↓Xd,↓Xe,Qo,Qp,Jf,Qq,Qr,Qg,Qh,Xf,Qs,Qt,Qu,Jg,Qv,Xo,Xu,Xg,Xv,Xw,gids,putO,ren,renL,renO,Xs,tk3,tk9,tk22,tk33,dz33,tk38,tz38,dz38,tk57,tz57,dz57,kMarkN,kLineA,kClamp,aMove,aMv,mNone,aPos,c0,g1,g2,g3,← hr]
        (repeat' first | exact hf | exact hcn | exact hkn | exact hsm | exact ⟨hf, hcn⟩ | (show dynOrd _ _ = true; kernel_rfl) | exact subX_eq rfl rfl | exact trivial | apply And.intro | rfl | omega)
      | true =>
        rw [if_pos rfl]
        obtain ⟨q, hq⟩ : ∃ q, q = clampP ls (t1, t2) op := ⟨_, rfl⟩
        rw [← hq]
        obtain ⟨q1, q2⟩ := q
        by_cases hw : want = -1
        · have cw : (want == -1) = true := beq_iff_eq.2 hw
          rw [if_pos hw]
          simp (maxSteps := 4000000) only [↓Qw,↓Qa,↓Y4,↓Yv,↓Ys,↓Yx,↓Ya,↓Yo,↓Yh,Z6,Yp,Yj,gw,Z7,Qb,Ql,Ye,Xj,↓chk,Qx,noW,↓Jr,↓Qy,↓Jk,Jm,↓Zz,↓Yn,↓Y5,Js,Pg.look,Jt,Qz,strOp,Xk,Zy,Yr,Zc,false_implies,implies_true,true_and,and_true,Xl,Xm,unc,gof,mux,Ji,Jj,Ju,Q0,Q1,Jv,Jw,strV,Y6,Q8,nxtQ,hdS,Q9,frzA,Yb,Yk,Yc,Y0,Nat.reduceAdd,Yy,Yq,ofV,Y7,Xn,retA,resK,tupA,Jx,Jy,Q2,Ja,Jz,J0,J1,Y8,Jb,Jc,Xa,Jd,J2,J3,frzL,J4,J5,Pg.freeze,Zo,Q3,subO,Q4,Yl,J6,subL,slen,Qd,Jn,↓J7,callC,callV,callH,Xp,J8,J9,resL,Qj,Yt,Xb,Xz,X0,AV.cells,TK.cells,AV.definite,AV.leaf,AV.leafy,AV.pureLeaf,AV.pureB,Yw,lay,Je,Op.operands,Zk,Zb,Za,Z1,Zg,reduceCtorEq,Nat.reduceEqDiff,Nat.reduceAdd,Zl,Zh,Zq,Zr,Zm,Z5,Z2,Zi,Zn,Z3,ite_true,ite_false,Option.some.injEq,Zp,AV.int.injEq,AV.agg.injEq,Prod.mk.injEq,Z0,Z8,Zu,and_self,exists_eq_left',Yf,Qi,Qe,Zt,Qf,Int.reduceLE,Qm,Qk,Qn,Y1,Y2,Y3,Zd,Zv,Qc,Xx,Xq,X1,X2,Jo,Jp,Jq,Ze,cutL,Zw,Zf,Zj,Zx,Xh,Yi,Yu,Nat.reduceLeDiff,Yg,Z4,Z9,Zs,Xy,Ym,Y9,Q5,Q6,Yd,↓msel,muC,↓callP,↓Xt,↓Xc,↓Xd,↓Xe,Qo,Qp,Jf,Qq,Qr,Qg,Qh,Xf,Qs,Qt,Qu,Jg,Qv,Xo,Xu,Xg,Xv,Xw,gids,putO,ren,renL,renO,Xs,tk3,tk9,tk22,tk28,tk33,dz33,tk38,tz38,dz38,tk57,tz57,dz57,kMarkN,kLineA,kClamp,aMove,aMv,mNone,aPos,c0,g1,g2,g3,← hr,← hq,cw]
          (repeat' first | exact hf | exact hcn | exact hkn | exact hsm | exact ⟨hf, hcn⟩ | (show dynOrd _ _ = true; kernel_rfl) | exact subX_eq rfl rfl | exact trivial | apply And.intro | rfl | omega)
        · have cw : (want == -1) = false := beq_eq_false_iff_ne.2 hw
          rw [if_neg hw]
          simp (maxSteps := 4000000) only [↓Qw,↓Qa,↓Y4,↓Yv,↓Ys,↓Yx,↓Ya,↓Yo,↓Yh,Z6,Yp,Yj,gw,Z7,Qb,Ql,Ye,Xj,↓chk,Qx,noW,↓Jr,↓Qy,↓Jk,Jm,↓Zz,↓Yn,↓Y5,Js,Pg.look,Jt,Qz,strOp,Xk,Zy,Yr,Zc,false_implies,implies_true,true_and,and_true,Xl,Xm,unc,gof,mux,Ji,Jj,Ju,Q0,Q1,Jv,Jw,strV,Y6,Q8,nxtQ,hdS,Q9,frzA,Yb,Yk,Yc,Y0,Nat.reduceAdd,Yy,Yq,ofV,Y7,Xn,retA,resK,tupA,Jx,Jy,Q2,Ja,Jz,J0,J1,Y8,Jb,Jc,Xa,Jd,J2,J3,frzL,J4,J5,Pg.freeze,Zo,Q3,subO,Q4,Yl,J6,subL,slen,Qd,Jn,↓J7,callC,callV,callH,Xp,J8,J9,resL,Qj,Yt,Xb,Xz,X0,AV.cells,TK.cells,AV.definite,AV.leaf,AV.leafy,AV.pureLeaf,AV.pureB,Yw,lay,Je,Op.operands,Zk,Zb,Za,Z1,Zg,reduceCtorEq,Nat.reduceEqDiff,Nat.reduceAdd,Zl,Zh,Zq,Zr,Zm,Z5,Z2,Zi,Zn,Z3,ite_true,ite_false,Option.some.injEq,Zp,AV.int.injEq,AV.agg.injEq,Prod.mk.injEq,Z0,Z8,Zu,and_self,exists_eq_left',Yf,Qi,Qe,Zt,Qf,Int.reduceLE,Qm,Qk,Qn,Y1,Y2,Y3,Zd,Zv,Qc,Xx,Xq,X1,X2,Jo,Jp,Jq,Ze,cutL,Zw,Zf,Zj,Zx,Xh,Yi,Yu,Nat.reduceLeDiff,Yg,Z4,Z9,Zs,Xy,Ym,Y9,Q5,Q6,Yd,↓msel,muC,↓callP,↓Xt,↓Xc,↓Xd,↓Xe,Qo,Qp,Jf,Qq,Qr,Qg,Qh,Xf,Qs,Qt,Qu,Jg,Qv,Xo,Xu,Xg,Xv,Xw,gids,putO,ren,renL,renO,Xs,tk3,tk9,tk22,tk28,tk33,dz33,tk38,tz38,dz38,tk57,tz57,dz57,kMarkN,kLineA,kClamp,aMove,aMv,mNone,aPos,c0,g1,g2,g3,← hr,← hq,cw]
          (repeat' first | exact hf | exact hcn | exact hkn | exact hsm | exact ⟨hf, hcn⟩ | (show dynOrd _ _ = true; kernel_rfl) | exact subX_eq rfl rfl | exact trivial | apply And.intro | rfl | omega)
    · have c0 : (cn == 0) = false := beq_eq_false_iff_ne.2 hc0
      have hk1 := hcc.2 hc0
      subst hk1
      cases ok with
      | false =>
        rw [if_neg (by simp)]
        simp (maxSteps := 4000000) only [↓Qw,↓Qa,↓Y4,↓Yv,↓Ys,↓Yx,↓Ya,↓Yo,↓Yh,Z6,Yp,Yj,gw,Z7,Qb,Ql,Ye,Xj,↓chk,Qx,noW,↓Jr,↓Qy,↓Jk,Jm,↓Zz,↓Q7,↓Yn,↓Y5,Js,Pg.look,Jt,Qz,strOp,Xk,Zy,Zc,implies_true,true_and,and_true,Xl,Xm,unc,gof,mux,Ji,Jj,Ju,Q0,Q1,Jv,Jw,strV,Y6,Q8,nxtQ,hdS,Q9,frzA,Yb,Yk,Yc,Y0,Nat.reduceAdd,Yy,Yq,ofV,Y7,Xn,retA,resK,tupA,Jx,Jy,Q2,Ja,Jz,J0,J1,Y8,Jb,Jc,Xa,Jd,J2,J3,frzL,J4,J5,Pg.freeze,Zo,Q3,subO,Q4,Yl,J6,subL,slen,Qd,Jn,↓J7,J8,J9,resL,Qj,Yt,Xb,AV.cells,TK.cells,AV.definite,AV.leaf,AV.leafy,AV.pureLeaf,AV.pureB,Yw,lay,Je,Op.operands,Zk,Zb,Za,Z1,Zg,reduceCtorEq,Nat.reduceEqDiff,Nat.reduceAdd,Zl,Zh,Zq,Zr,Zm,Z5,Z2,Zi,Zn,Z3,ite_true,ite_false,Option.some.injEq,Zp,AV.int.injEq,AV.agg.injEq,Z0,Z8,Zu,and_self,exists_eq_left',Yf,Qi,Qe,Zt,Qf,Qm,Qk,Qn,Y1,Y2,Y3,Zd,Zv,Qc,Ze,cutL,Zw,Zf,Zj,Zx,Yi,Yu,Nat.reduceLeDiff,Yg,Z4,Z9,Zs,Ym,Y9,Q5,Q6,Yd,↓msel,muC,↓Xt,↓Xc,↓Xd,↓Xe,Qo,Qp,Jf,Qq,Qr,Qg,Qh,Xf,Qs,Qt,Qu,Jg,Qv,Xo,Xu,Xg,Xv,Xw,gids,putO,ren,renL,renO,Xs,tk3,tk9,tk22,tk33,dz33,tk38,tz38,dz38,tk57,tz57,dz57,kMarkN,kLineA,kClamp,aMove,aMv,mNone,aPos,c0,g1,g2,g3,← hr]
        (repeat' first | exact hf | exact hcn | exact hkn | exact hsm | exact ⟨hf, hcn⟩ | (show dynOrd _ _ = true; kernel_rfl) | exact subX_eq rfl rfl | exact trivial | apply And.intro | rfl | omega)
      | true =>
        rw [if_pos rfl]
        obtain ⟨q, hq⟩ : ∃ q, q = clampP ls (t1, t2) op := ⟨_, rfl⟩
        rw [← hq]
        obtain ⟨q1, q2⟩ := q
        by_cases hw : want = -1
        · have cw : (want == -1) = true := beq_iff_eq.2 hw
          rw [if_pos hw]
          simp (maxSteps := 4000000) only [↓Qw,↓Qa,↓Y4,↓Yv,↓Ys,↓Yx,↓Ya,↓Yo,↓Yh,Z6,Yp,Yj,gw,Z7,Qb,Ql,Ye,Xj,↓chk,Qx,noW,↓Jr,↓Qy,↓Jk,Jm,↓Zz,↓Yn,↓Y5,Js,Pg.look,Jt,Qz,strOp,Xk,Zy,Yr,Zc,false_implies,implies_true,true_and,and_true,Xl,Xm,unc,gof,mux,Ji,Jj,Ju,Q0,Q1,Jv,Jw,strV,Y6,Q8,nxtQ,hdS,Q9,frzA,Yb,Yk,Yc,Y0,Nat.reduceAdd,Yy,Yq,ofV,Y7,Xn,retA,resK,tupA,Jx,Jy,Q2,Ja,Jz,J0,J1,Y8,Jb,Jc,Xa,Jd,J2,J3,frzL,J4,J5,Pg.freeze,Zo,Q3,subO,Q4,Yl,J6,subL,slen,Qd,Jn,↓J7,callC,callV,callH,Xp,J8,J9,resL,Qj,Yt,Xb,Xz,X0,AV.cells,TK.cells,AV.definite,AV.leaf,AV.leafy,AV.pureLeaf,AV.pureB,Yw,lay,Je,Op.operands,Zk,Zb,Za,Z1,Zg,reduceCtorEq,Nat.reduceEqDiff,Nat.reduceAdd,Zl,Zh,Zq,Zr,Zm,Z5,Z2,Zi,Zn,Z3,ite_true,ite_false,Option.some.injEq,Zp,AV.int.injEq,AV.agg.injEq,Prod.mk.injEq,Z0,Z8,Zu,and_self,exists_eq_left',Yf,Qi,Qe,Zt,Qf,Qm,Qk,Qn,Y1,Y2,Y3,Zd,Zv,Qc,Xx,Xq,X1,X2,Jo,Jp,Jq,Ze,cutL,Zw,Zf,Zj,Zx,Xh,Yi,Yu,Nat.reduceLeDiff,Yg,Z4,Z9,Zs,Xy,Ym,Y9,Q5,Q6,Yd,↓msel,muC,↓callP,↓Xt,↓Xc,↓Xd,↓Xe,Qo,Qp,Jf,Qq,Qr,Qg,Qh,Xf,Qs,Qt,Qu,Jg,Qv,Xo,Xu,Xg,Xv,Xw,gids,putO,ren,renL,renO,Xs,tk3,tk9,tk22,tk28,tk33,dz33,tk38,tz38,dz38,tk57,tz57,dz57,kMarkN,kLineA,kClamp,aMove,aMv,mNone,aPos,c0,g1,g2,g3,← hr,← hq,cw]
          (repeat' first | exact hf | exact hcn | exact hkn | exact hsm | exact ⟨hf, hcn⟩ | (show dynOrd _ _ = true; kernel_rfl) | exact subX_eq rfl rfl | exact trivial | apply And.intro | rfl | omega)
        · have cw : (want == -1) = false := beq_eq_false_iff_ne.2 hw
          rw [if_neg hw]
          simp (maxSteps := 4000000) only [↓Qw,↓Qa,↓Y4,↓Yv,↓Ys,↓Yx,↓Ya,↓Yh,Z6,Yp,Yj,gw,Z7,Qb,Ql,Ye,Xj,↓chk,Qx,noW,↓Jr,↓Qy,↓Jk,Jm,↓Zz,↓Yn,↓Y5,Js,Pg.look,Jt,Qz,strOp,Xk,Zy,Yr,Zc,false_implies,implies_true,true_and,and_true,Xl,Xm,unc,gof,mux,Ji,Jj,Ju,Q0,Q1,Jv,Jw,strV,Y6,Q8,nxtQ,hdS,Q9,frzA,Yb,Yk,Yc,Y0,Nat.reduceAdd,Yy,Yq,ofV,Y7,Xn,retA,resK,tupA,Jx,Jy,Q2,Ja,Jz,J0,J1,Y8,Jb,Jc,Xa,Jd,J2,J3,frzL,J4,J5,Pg.freeze,Zo,Q3,subO,Q4,Yl,J6,subL,slen,Qd,Jn,↓J7,callC,callV,callH,Xp,J8,J9,resL,Qj,Yt,Xb,Xz,X0,AV.cells,TK.cells,AV.definite,AV.leaf,AV.leafy,AV.pureLeaf,AV.pureB,Yw,lay,Je,Op.operands,Zk,Zb,Za,Z1,Zg,reduceCtorEq,Nat.reduceEqDiff,Nat.reduceAdd,Zl,Zh,Zq,Zr,Zm,Z5,Z2,Zi,Zn,Z3,ite_true,ite_false,Option.some.injEq,Zp,AV.int.injEq,AV.agg.injEq,Prod.mk.injEq,Z0,Z8,Zu,and_self,exists_eq_left',Yf,Qi,Qe,Zt,Qf,Qm,Qk,Qn,Y1,Y2,Y3,Zd,Zv,Qc,Xx,Xq,X1,X2,Jo,Jp,Jq,Ze,cutL,Zw,Zf,Zj,Zx,Xh,Yi,Yu,Nat.reduceLeDiff,Yg,Z4,Z9,Zs,Xy,Ym,Y9,Q5,Q6,Yd,↓msel,muC,↓callP,↓Xt,↓Xc,↓Xd,↓Xe,Qo,Qp,Jf,Qq,Qr,Qg,Qh,Xf,Qs,Qt,Qu,Jg,Qv,Xo,Xu,Xg,Xv,Xw,gids,putO,ren,renL,renO,Xs,tk3,tk9,tk22,tk28,tk33,dz33,tk38,tz38,dz38,tk57,tz57,dz57,kMarkN,kLineA,kClamp,aMove,aMv,mNone,aPos,c0,g1,g2,g3,← hr,← hq,cw]
          (repeat' first | exact hf | exact hcn | exact hkn | exact hsm | exact ⟨hf, hcn⟩ | (show dynOrd _ _ = true; kernel_rfl) | exact subX_eq rfl rfl | exact trivial | apply And.intro | rfl | omega)
def kDoN : C1 := C1.mby (hCons (hP (.sl 1 []) cStrs) (hCons hCx (hCons (hP .id (cAgg lCm)) (hCons (hP .id cBool) (hCons (hP .id cNpt) hNil))))) (fun d => okText d.1 ∧ d.2.2.1.2.1 ≤ 9223372036854775807)
  (fun d => aMove (doN d.1 d.2.1 d.2.2.1 d.2.2.2.1).1) (fun d => cxH (doN d.1 d.2.1 d.2.2.1 d.2.2.2.1).2)
theorem ok_DoN : C1OK Try.prog 10 kDoN := C1OK.mby (by kernel_rfl) (fun d h => calls_DoN d.1 d.2.1 d.2.2.1 d.2.2.2.1 h.1 h.2) (fun _ _ => Nat.le_refl _)
end Go.Pg
namespace Go.Pg
open Go Go.Proofs

def ex25 : Ls := [[97, 98, 32, 99, 100], [120]]
theorem ex25_1 : doN ex25 (0, 0, 0, 0, 0, 0, [], false) (0, 0, [], [119], 0, []) false = ((((0, 3), 0, false, 3), true), (0, 0, 0, 0, 0, 0, [], false)) := by kernel_rfl
theorem ex25_2 : doN ex25 (0, 0, 0, 0, 0, 0, [], false) (0, 0, [], [102], 100, []) false = ((((0, 4), 1, false, 4), true), (0, 0, 0, 0, 102, 100, [], false)) := by kernel_rfl
theorem ex25_3 : doN ex25 (0, 0, 0, 0, 102, 100, [], false) (0, 0, [], [71], 0, []) false = ((((1, 0), 2, true, 0), true), (0, 0, 0, 0, 102, 100, [], false)) := by kernel_rfl
theorem ex25_4 : doN ex25 (0, 0, 0, 0, 102, 100, [], false) (0, 0, [], [110], 0, []) false = (mNone, (0, 0, 0, 0, 102, 100, [], false)) := by kernel_rfl
set_option maxRecDepth 40000 in
set_option maxHeartbeats 4000000 in
theorem calls_known25 : CallsR Try.prog 5 [] [] (.bool true) [] := by
  refine callsR_of (mrg := true) (dyn := []) (CtrOK.cons ok_DoN (CtrOK.nil _)) mixed Try.func5 rfl (by simp [Try.ntmps5]) (by kernel_rfl) ?_
  rw [show Try.f5.results.toList = [.tmp 0] from by kernel_rfl]
  have e1 := ex25_1
  have e2 := ex25_2
  have e3 := ex25_3
  have e4 := ex25_4
  unfold ex25 at e1 e2 e3 e4
  simp (maxSteps := 4000000) only [↓Qw,↓Y4,↓Yv,↓Ya,Z6,Yp,Yj,gw,Z7,Qb,Ql,Xj,↓chk,Qx,noW,↓Jr,↓Qy,↓Jk,Jm,↓Zz,↓Y5,Js,Pg.look,Jt,Qz,Xk,Bool.and_true,Zy,Yr,Zc,Xr,implies_true,imp_self,true_and,and_true,Xl,Xm,unc,gof,mux,Ji,Jj,Ju,Q0,Q1,Jv,Jw,Y6,Yb,Yc,Nat.reduceAdd,Yy,Yq,ofV,Y7,Xn,retA,resK,tupA,Jx,Jy,Q2,Jz,J0,J1,Y8,J2,J3,J4,J5,Pg.freeze,Zo,List.foldl_cons,Q3,Q4,Yl,J6,Qd,Jn,↓J7,J8,J9,resL,Qj,Yt,Xb,AV.cells,TK.cells,AV.definite,AV.leaf,AV.leafy,AV.pureLeaf,AV.pureB,Yw,lay,Je,frzAt,Op.operands,Zk,Zb,Za,Z1,Zg,reduceCtorEq,Nat.reduceEqDiff,Nat.reduceAdd,Zl,Zh,Zq,Zr,Zm,Z5,Z2,Zi,Zn,Z3,Int.reduceToNat,ite_true,ite_false,Option.some.injEq,Zp,AV.agg.injEq,Bool.if_false_right,Bool.decide_eq_true,Z0,Z8,Zu,and_self,exists_eq_left',X5,Qi,Qe,Zt,rg2,Qf,cByte_lit,Int.reduceLE,Int.reduceLT,UInt8.reduceOfNat,Qm,Qk,Qn,Y1,Y2,Y3,Yz,Zd,Nat.reduceBEq,X7,beq_self_eq_true,decL_nil,decL_cons,consO_some,Zv,Nat.reducePow,Ze,Zw,Zf,Zj,Zx,Xh,Yu,Nat.reduceLeDiff,Yg,Nat.mul_one,Z4,Zs,Ym,Y9,Q5,Q6,Yd,↓msel,muC,↓Xt,↓Xc,↓Xd,↓Xe,Qp,Jf,Qq,Qr,Qg,Qh,Xf,Qs,Qt,Qu,Jg,Qv,Xu,Xg,Xv,Xw,gids,putO,ren,renL,renO,tk3,tk5,eb9,tk22,tk28,tk31,tz31,dz31,tk33,tz33,tk38,tz38,dz38,kDoN,aMove,aMv,mNone,cNpt_dec,e1,e2,e3,e4]
  have h : okText ex25 := ⟨by decide, by intro s hs; simp [ex25] at hs; rcases hs with rfl | rfl <;> decide⟩
  exact ⟨h, h, h, h, rfl⟩
def kKnown25 : C1 := C1.by [] lNil (fun _ => True) (fun _ => .bool true) (fun _ => [])
theorem ok_known25 : C1OK Try.prog 5 kKnown25 := C1OK.by (by kernel_rfl) (fun _ _ => calls_known25) (fun _ => rfl) (fun _ => rfl)
end Go.Pg
namespace Go.Pg
open Go Go.Proofs

end Go.Pg
namespace Go.Pg
open Go Go.Proofs

theorem okText_of {ls : Ls} (h : text ls = true) : okText ls := fits_mono (fits_text h) (by omega) (by omega)
end Go.Pg
namespace Go.Pg
open Go Go.Proofs

/-- What a motion wants: as it is, or a column. -/
def wOK (r : Mv × Bool) : Prop := r.1.2.2.2 = -1 ∨ 0 ≤ r.1.2.2.2
theorem wOK_none : wOK mNone := .inr (by decide)
theorem wOK_when {ls : Ls} {p : Int × Int} {n : Int} {r : Mv × Bool} (h : may ls p n = true → wOK r) : wOK (whenMay ls p n r) := by
  unfold whenMay
  split
  · next hm => exact h hm
  · exact wOK_none
theorem wOK_or {c : Prop} [Decidable c] {r : Mv × Bool} (h : ¬ c → wOK r) : wOK (orNone c r) := by
  unfold orNone
  split
  · exact wOK_none
  · next hc => exact h hc
theorem wOK_to (p : Int × Int) (w : Int) : wOK (mTo p w) := .inl rfl
theorem wOK_line (ls : Ls) (l : Int) (j : Bool) : wOK (lineM ls l j) := by
  unfold lineM
  split
  · exact wOK_none
  · exact .inl rfl
theorem wOK_left (ls : Ls) (p : Int × Int) (n : Int) : wOK (leftP ls p n) := wOK_when fun _ => wOK_or fun _ => wOK_to _ _
theorem wOK_right (ls : Ls) (p : Int × Int) (n : Int) (b : Bool) : wOK (rightP ls p n b) := by
  unfold rightP
  exact wOK_when fun _ => wOK_or fun _ => wOK_to _ _
theorem wOK_zero (ls : Ls) (p : Int × Int) : wOK (zeroP ls p) := wOK_when fun _ => wOK_to _ _
theorem wOK_first (ls : Ls) (p : Int × Int) : wOK (firstP ls p) := wOK_when fun _ => wOK_to _ _
theorem wOK_last (ls : Ls) (p : Int × Int) (n : Int) : wOK (lastP ls p n) := wOK_when fun _ => wOK_or fun _ => .inr (show (0 : Int) ≤ 1073741824 by decide)
theorem wOK_col (ls : Ls) (p : Int × Int) (n : Int) : wOK (colP ls p n) := wOK_when fun h => .inr (by
  have := (may_iff _ _ _).1 h
  show 0 ≤ min n 1073741824 - 1
  omega)
theorem wOK_seekTo (p : Int × Int) (w b a : Int) : wOK (seekTo p w b a) := by
  unfold seekTo
  split
  · exact wOK_none
  · exact .inl rfl
theorem wOK_seek (ls : Ls) (p : Int × Int) (k c : UInt8) (n : Int) : wOK (seekP ls p k c n) := wOK_when fun _ => by
  repeat' split
  all_goals first | exact wOK_seekTo _ _ _ _ | exact wOK_none
theorem wOK_end (ls : Ls) (p : Int × Int) (l : Int) : wOK (wEnd ls p l) := by
  unfold wEnd
  split
  · exact wOK_to _ _
  · exact wOK_none
theorem wOK_next (ls : Ls) (p : Int × Int) (n : Int) (b o : Bool) : wOK (wNext ls p n b o) := by
  unfold wNext
  split
  · dsimp only
    split
    · unfold stopAt
      split
      · exact wOK_end _ _ _
      · exact wOK_to _ _
    · split
      · exact wOK_end _ _ _
      · exact wOK_none
  · exact wOK_none
theorem wOK_back (ls : Ls) (p : Int × Int) (n : Int) (a b c : Bool) (w : Int) : wOK (wBackM ls p n a b c w) := by
  unfold wBackM
  split
  · unfold mBack
    split
    · exact wOK_to _ _
    · exact wOK_none
  · exact wOK_none
theorem wOK_tail (ls : Ls) (p : Int × Int) (n : Int) (b h : Bool) : wOK (rTail ls p n b h) := by
  unfold rTail
  split
  · unfold nth
    split
    · exact wOK_none
    · exact wOK_to _ _
  · exact wOK_none
theorem wOK_vert (ls : Ls) (p : Int × Int) (n w : Int) (u : Bool) : wOK (vertP ls p n w u) := wOK_when fun _ => wOK_or fun _ => .inr (by
  show 0 ≤ min (max w 0) 1073741824
  omega)
theorem wOK_plus (ls : Ls) (p : Int × Int) (n : Int) : wOK (plusP ls p n) := wOK_when fun _ => wOK_line _ _ _
theorem wOK_minus (ls : Ls) (p : Int × Int) (n : Int) : wOK (minusP ls p n) := wOK_when fun _ => wOK_line _ _ _
theorem wOK_under (ls : Ls) (p : Int × Int) (n : Int) : wOK (underP ls p n) := wOK_when fun _ => wOK_line _ _ _
theorem wOK_goto (ls : Ls) (p : Int × Int) (n : Int) : wOK (gotoP ls p n) := wOK_when fun _ => wOK_line _ _ _
theorem wOK_screen (ls : Ls) (p : Int × Int) (t : Int) (k : UInt8) (n : Int) : wOK (screenP ls p t k n) := wOK_when fun _ => wOK_or fun _ => by
  unfold screenTo
  repeat' split
  all_goals first | exact wOK_line _ _ _ | exact wOK_none
theorem wOK_jumpO (r : Option (Int × Int)) : wOK (jumpO r) := by
  cases r
  · exact wOK_none
  · exact .inl rfl
theorem wOK_pn (ls : Ls) (p : Int × Int) (n : Int) (o : Bool) : wOK (parNextP ls p n o) := wOK_when fun _ => wOK_jumpO _
theorem wOK_pb (ls : Ls) (p : Int × Int) (n : Int) : wOK (parBackP ls p n) := wOK_when fun _ => wOK_jumpO _
theorem wOK_sn (ls : Ls) (p : Int × Int) (n : Int) (o : Bool) : wOK (sentNextP ls p n o) := wOK_when fun _ => by
  unfold sentNextL
  repeat' split
  all_goals first | exact .inl rfl | exact wOK_none
theorem wOK_sb (ls : Ls) (p : Int × Int) (n : Int) : wOK (sentBackP ls p n) := wOK_when fun _ => by
  unfold sentBackL
  split
  · exact .inl rfl
  · exact wOK_none
theorem wOK_match (ls : Ls) (p : Int × Int) : wOK (matchP ls p) := wOK_when fun _ => by
  unfold matchL
  split
  · unfold matchM
    split
    · exact .inl rfl
    · exact wOK_none
  · exact wOK_none
theorem wOK_search (ls : Ls) (p : Int × Int) (pat : List UInt8) (b : Bool) (n : Int) : wOK (searchP ls p pat b n) := wOK_when fun _ => by
  unfold pickS
  split
  · exact wOK_none
  · exact .inl rfl
theorem wOK_ite {c : Prop} [Decidable c] {a b : Res} (ha : wOK a.1) (hb : wOK b.1) : wOK (if c then a else b).1 := by
  split
  · exact ha
  · exact hb
theorem wOK_ifn {c : Prop} [Decidable c] {a b : Mv × Bool} (ha : wOK a) (hb : wOK b) : wOK (if c then a else b) := by
  split
  · exact ha
  · exact hb
theorem wOK_pair {r : Mv × Bool} {x : Cx} (h : wOK r) : wOK ((r, x) : Res).1 := h
theorem wOK_searchA (ls : Ls) (x : Cx) (m t : List UInt8) (n : Int) : wOK (searchA ls x m t n).1 := by
  unfold searchA
  exact wOK_ite (wOK_pair (wOK_search _ _ _ _ _)) <| wOK_ite (wOK_pair (wOK_search _ _ _ _ _)) <| wOK_ite (wOK_pair (wOK_search _ _ _ _ _)) <| wOK_ite (wOK_pair (wOK_search _ _ _ _ _)) <| wOK_ite (wOK_ite (wOK_pair (wOK_search _ _ _ _ _)) (wOK_pair wOK_none)) (wOK_pair wOK_none)
theorem wOK_textA (ls : Ls) (x : Cx) (c : Cm) (n : Int) (o : Bool) : wOK (textA ls x c n o).1 := by
  unfold textA
  exact wOK_ite (wOK_pair (wOK_pb _ _ _)) <| wOK_ite (wOK_pair (wOK_pn _ _ _ _)) <| wOK_ite (wOK_pair (wOK_sb _ _ _)) <| wOK_ite (wOK_pair (wOK_sn _ _ _ _)) <| wOK_ite (wOK_pair (wOK_match _ _)) <| wOK_searchA _ _ _ _ _
theorem wOK_vertA (ls : Ls) (x : Cx) (c : Cm) (n : Int) (o : Bool) : wOK (vertA ls x c n o).1 := by
  unfold vertA
  exact wOK_ite (wOK_pair (wOK_vert _ _ _ _ _)) <| wOK_ite (wOK_pair (wOK_vert _ _ _ _ _)) <| wOK_ite (wOK_pair (wOK_plus _ _ _)) <| wOK_ite (wOK_pair (wOK_minus _ _ _)) <| wOK_ite (wOK_pair (wOK_under _ _ _)) <| wOK_ite (wOK_pair (wOK_goto _ _ _)) <| wOK_ite (wOK_pair (wOK_goto _ _ _)) <| wOK_ite (wOK_pair (wOK_screen _ _ _ _ _)) <| wOK_ite (wOK_pair (wOK_screen _ _ _ _ _)) <| wOK_ite (wOK_pair (wOK_screen _ _ _ _ _)) <| wOK_textA _ _ _ _ _
theorem wOK_wordA (ls : Ls) (x : Cx) (c : Cm) (n : Int) (o : Bool) : wOK (wordA ls x c n o).1 := by
  unfold wordA
  exact wOK_ite (wOK_pair (wOK_next _ _ _ _ _)) <| wOK_ite (wOK_pair (wOK_next _ _ _ _ _)) <| wOK_ite (wOK_pair (wOK_back _ _ _ _ _ _ _)) <| wOK_ite (wOK_pair (wOK_back _ _ _ _ _ _ _)) <| wOK_ite (wOK_pair (wOK_tail _ _ _ _ _)) <| wOK_ite (wOK_pair (wOK_tail _ _ _ _ _)) <| wOK_ite (wOK_pair (wOK_back _ _ _ _ _ _ _)) <| wOK_ite (wOK_pair (wOK_back _ _ _ _ _ _ _)) <| wOK_vertA _ _ _ _ _
theorem wOK_lineA (ls : Ls) (x : Cx) (c : Cm) (n : Int) (o : Bool) : wOK (lineA ls x c n o).1 := by
  unfold lineA
  exact wOK_ite (wOK_pair (wOK_left _ _ _)) <| wOK_ite (wOK_pair (wOK_right _ _ _ _)) <| wOK_ite (wOK_pair (wOK_zero _ _)) <| wOK_ite (wOK_pair (wOK_first _ _)) <| wOK_ite (wOK_pair (wOK_last _ _ _)) <| wOK_ite (wOK_pair (wOK_col _ _ _)) <| wOK_ite (wOK_pair (wOK_seek _ _ _ _ _)) <| wOK_ite (wOK_pair (wOK_seek _ _ _ _ _)) <| wOK_ite (wOK_pair (wOK_seek _ _ _ _ _)) <| wOK_ite (wOK_pair (wOK_seek _ _ _ _ _)) <| wOK_ite (wOK_pair (wOK_seek _ _ _ _ _)) <| wOK_ite (wOK_pair (wOK_ifn wOK_none (wOK_seek _ _ _ _ _))) <| wOK_wordA _ _ _ _ _

theorem clamp_in (ls : Ls) (p : Int × Int) (past : Bool) (h : 0 < ls.length) : 0 ≤ (clampP ls p past).1 ∧ (clampP ls p past).1 < ls.length ∧ 0 ≤ (clampP ls p past).2 ∧ (clampP ls p past).2 ≤ (if past = true then ((ls.getD (clampP ls p past).1.toNat []).length : Int) else max (((ls.getD (clampP ls p past).1.toNat []).length : Int) - 1) 0) := by
  unfold clampP
  rw [if_neg (by omega)]
  dsimp only
  refine ⟨by omega, by omega, ?_, ?_⟩
  · split <;> omega
  · split <;> omega
/-- A motion that leads somewhere leads into the text. -/
theorem doN_good (ls : Ls) (x : Cx) (c : Cm) (op : Bool) (h : 0 < ls.length) : (doN ls x c op).1 = mNone ∨ ∃ a b w j t, (doN ls x c op).1 = (((a, b), w, j, t), true) ∧ 0 ≤ a ∧ a < ls.length ∧ 0 ≤ b ∧ b ≤ (if op = true then ((ls.getD a.toNat []).length : Int) else max (((ls.getD a.toNat []).length : Int) - 1) 0) ∧ 0 ≤ t := by
  unfold doN
  split
  · exact .inl rfl
  · have hw := wOK_lineA ls x c (cntF c.2.1) op
    generalize lineA ls x c (cntF c.2.1) op = r at hw
    dsimp only
    unfold doFin
    split
    · refine .inr ?_
      have hc := clamp_in ls r.1.1.1 op h
      generalize clampP ls r.1.1.1 op = q at hc
      obtain ⟨q1, q2⟩ := q
      refine ⟨q1, q2, r.1.1.2.1, r.1.1.2.2.1, _, rfl, hc.1, hc.2.1, hc.2.2.1, hc.2.2.2, ?_⟩
      unfold wOK at hw
      split
      · exact hc.2.2.1
      · omega
    · exact .inl rfl
theorem restC_count (m : List UInt8) (cn : Int) : (restC m cn).2.1 = cn := by
  unfold restC
  repeat' split
  all_goals rfl
theorem tryC_count (k : List UInt8) : 0 ≤ (tryC k).2.1 ∧ (tryC k).2.1 ≤ 9999 := by
  unfold tryC
  rw [restC_count]
  have := numL_in (k.drop 0) 0 0 (by omega) (by omega)
  exact ⟨this.1, this.2.1⟩
end Go.Pg
namespace Go.Pg
open Go Go.Proofs

set_option maxRecDepth 40000 in
set_option maxHeartbeats 8000000 in
theorem calls_MoveStays (ls : Ls) (a b : Int) (ns : List UInt8) (op : Bool) (hs : ∀ i, (ls.getD i []).length ≤ 140737488355328) (ha : 0 ≤ a ∧ a < 65536) (hb : 0 ≤ b ∧ b < 65536) :
    CallsR Try.prog 3 [.sl 1 (ls.map .str), .int .u16 a, .int .u16 b, .sl 1 (ofBytes ns), .bool op] [] (.bool true) [] := by
  refine callsR_of (mrg := true) (dyn := [19]) (CtrOK.cons ok_known25 (CtrOK.cons ok_Text (CtrOK.cons ok_SPlace (CtrOK.cons ok_Motion (CtrOK.cons ok_RTry (CtrOK.cons ok_DoN (CtrOK.nil _))))))) mixed Try.func3 rfl (by simp [Try.ntmps3]) (by kernel_rfl) ?_
  rw [show Try.f3.results.toList = [.tmp 10] from by kernel_rfl]
  cases ht : text ls with
  | false =>
    simp (maxSteps := 4000000) only [↓Qw,↓Qa,↓Y4,↓Yv,↓Ys,↓Ya,↓Yo,↓Yh,Z6,Yp,Yj,gw,Z7,Qb,Ql,Ye,Xj,↓chk,Qx,↓Jr,↓Qy,Jm,↓Zz,↓Q7,↓Y5,Js,Pg.look,Jt,Qz,Xk,Zy,Yr,Zc,Xr,false_implies,implies_true,imp_self,true_and,and_true,Xl,Xm,unc,gof,mux,Ji,Jj,Ju,Q0,Q1,Jv,Jw,Y6,Yb,Yc,Nat.reduceAdd,Yy,Yq,ofV,Y7,Xn,retA,resK,tupA,Jx,Jy,Q2,Jz,J0,J1,Y8,J2,J3,J4,J5,Pg.freeze,Zo,Q3,Q4,Yl,J6,slen,↓J7,callC,callV,callH,Xp,J8,J9,resL,Qj,Yt,Xb,Xz,X0,Op.operands,Call.operands,Jl,Zk,Zb,Za,Z1,Zg,reduceCtorEq,Nat.reduceEqDiff,Nat.reduceAdd,Zl,Zh,Zm,Z5,Z2,Z3,ite_true,ite_false,Option.some.injEq,AV.int.injEq,Prod.mk.injEq,Zu,and_self,exists_eq_left',X5,Zt,Jh,Qk,lNil_dec,Y1,Yz,Zd,Nat.reduceBEq,Xi,Zv,Qc,Xx,Xq,X1,X2,Jo,Jp,Jq,Xy,Ym,Y9,Q5,Q6,Yd,↓msel,muC,↓callP,Qo,tk24,kKnown25,kText,ht]
    exact hs
  | true =>
    by_cases hnl : ns.length > 30
    · have c1 : decide ((ns.length : Int) > 30) = true := decide_eq_true (by omega)
      simp (maxSteps := 4000000) only [↓Qw,↓Qa,↓Y4,↓Yv,↓Ys,↓Ya,↓Yo,↓Yh,Z6,Yp,Yj,gw,Z7,Qb,Ql,Ye,Xj,↓chk,Qx,↓Jr,↓Qy,Jm,↓Zz,↓Q7,↓Y5,Js,Pg.look,Jt,Qz,Xk,Zy,Yr,Zc,false_implies,implies_true,imp_self,true_and,and_true,Xl,Xm,unc,gof,mux,Ji,Jj,Ju,Q0,Q1,Jv,Jw,Y6,Yb,Yc,Nat.reduceAdd,Yy,Yq,ofV,Y7,Xn,retA,resK,tupA,Jx,Jy,Q2,Jz,J0,J1,Y8,J2,J3,J4,J5,Pg.freeze,Zo,Q3,Q4,Yl,J6,slen,↓J7,callC,callV,callH,Xp,J8,J9,resL,Qj,Yt,Xb,Xz,X0,Op.operands,Call.operands,Jl,Zk,Zb,Za,Z1,Zg,reduceCtorEq,Nat.reduceEqDiff,Nat.reduceAdd,Zl,Zh,Zm,Z5,Z2,Z3,ite_true,ite_false,Option.some.injEq,AV.int.injEq,Prod.mk.injEq,Zu,and_self,exists_eq_left',X5,Zt,Jh,Qk,lNil_dec,Y1,Yz,Zd,Nat.reduceBEq,Xi,Zv,Qc,Xx,Xq,X1,X2,Jo,Jp,Jq,Xy,Ym,Y9,Q5,Q6,Yd,↓msel,muC,↓callP,Qo,tk24,kKnown25,kText,ht,c1]
      exact hs
    have c1 : decide ((ns.length : Int) > 30) = false := decide_eq_false (by omega)
    have hft : okText ls := okText_of ht
    obtain ⟨hl0, hl1, hl2⟩ := few_of_text ht
    have hsm : small ls := fits_small hft (by omega) (by omega)
    obtain ⟨p, hp⟩ : ∃ p, p = splace ls a b := ⟨_, rfl⟩
    obtain ⟨p1, p2⟩ := p
    simp (maxSteps := 4000000) only [↓Qw,↓Qa,↓Yv,↓Ys,↓Yx,↓wpH_loop,↓Ya,↓Yh,Z6,Yp,Yj,gw,Z7,Qb,Ql,Ye,Xj,↓chk,Qx,noW,↓Jr,↓Qy,↓Jk,Jm,↓Zz,↓Y5,Js,Pg.look,Jt,Qz,Xk,Zy,Yr,Zc,false_implies,implies_true,imp_self,true_and,and_true,Xl,Xm,unc,gof,mux,Ji,Jj,Ju,Q0,Q1,Jv,Jw,Nat.reduceAdd,Yy,Yq,ofV,Y7,Xn,Pg.freeze,Zo,slen,↓J7,callC,callV,callH,Xp,J8,J9,resL,Qj,Yt,Xb,Xz,X0,AV.cells,TK.cells,AV.definite,AV.leaf,AV.leafy,Yw,lay,Je,Op.operands,Call.operands,Jl,Zk,Zb,Za,Z1,Zg,reduceCtorEq,Nat.reduceEqDiff,Nat.reduceAdd,Zl,Zh,Zq,Zr,Zm,Z5,Z2,Zi,Z3,ite_true,ite_false,Option.some.injEq,Zp,AV.int.injEq,AV.agg.injEq,Prod.mk.injEq,Z0,Z8,Zu,and_self,exists_eq_left',Qi,Zt,Jh,Qk,lNil_dec,Y1,Y2,Y3,Yz,Zd,Nat.reduceBEq,Xi,Zv,Qc,Xx,Xq,X1,X2,Jo,Jp,Jq,Ze,Zw,Zf,Zx,Nat.reduceLeDiff,Yg,Z4,Zs,Xy,Ym,Y9,Q5,Q6,Yd,↓msel,muC,↓callP,Qo,tk24,tk31,tz31,dz31,kKnown25,kText,kSPlace,ht,c1,← hp,aPos]
    refine ⟨hs, ⟨hl0, hsm, ha, hb⟩, ?_⟩
    refine loopH_intro (α := Nat × Cx) (fun s => ([(0, .sl 1 (ls.map .str)), (3, .sl 1 (ofBytes ns)), (4, .bool op), (10, .bool false), (11, .ptr 0 8 1 0 0), (12, .int .i64 s.1)], [.arr 31 8 [aCx s.2]]))
      (fun s => s.1 ≤ ns.length) (fun s => ns.length - s.1) (0, (p1, p2, 0, 0, 0, 0, [], false)) (Nat.zero_le _) ?_ ?_
    · simp (maxSteps := 4000000) only [Pg.look,true_and,and_true,Y6,Q8,nxtQ,hdS,Q9,frzA,Yb,Yk,Yc,Jx,Jy,Q2,Ja,Jz,J0,J1,Y8,assocN,Jb,Jc,Jd,J2,J3,J4,J5,Pg.freeze,Zo,Q3,subO,Q4,Yl,J6,AV.cells,AV.pureLeaf,AV.pureB,Za,reduceCtorEq,Nat.reduceEqDiff,Zl,Zh,ite_true,ite_false,Z0,Z8,Zu,and_self,X6,Int.cast_ofNat_Int,X3]
      (repeat' first | exact subX_eq rfl rfl | apply And.intro | rfl | omega)
    rintro ⟨i, x⟩ hi
    dsimp only at hi
    by_cases hlt : i < ns.length
    · have c2 : decide ((i : Int) < (ns.length : Int)) = true := decide_eq_true (by omega)
      have w1 : IntKind.i64.wrap ((i : Int) + 1) = ((i + 1 : Nat) : Int) := by rw [wrap64 (by omega) (by omega)]; rfl
      obtain ⟨k, hk⟩ : ∃ k, k = motK (ns.getD i 0) := ⟨_, rfl⟩
      have hpre : tryPre k = true := by rw [hk]; exact (mot_at _).2.2
      have hcnt := tryC_count k
      obtain ⟨c, hc⟩ : ∃ c, c = tryC k := ⟨_, rfl⟩
      rw [← hc] at hcnt
      have hgood := doN_good ls x c op hl0
      obtain ⟨c1', c2', c3', c4', c5', c6'⟩ := c
      obtain ⟨x1, x2, x3, x4, x5, x6, x7, x8⟩ := x
      have hcn9 : c2' ≤ 9223372036854775807 := by have := hcnt.2; dsimp only at this; omega
      obtain ⟨R, hR⟩ : ∃ R, R = doN ls (x1, x2, x3, x4, x5, x6, x7, x8) (c1', c2', c3', c4', c5', c6') op := ⟨_, rfl⟩
      rw [← hR] at hgood
      obtain ⟨r, y1, y2, y3, y4, y5, y6, y7, y8⟩ := R
      dsimp only at hgood
      rcases hgood with hg | ⟨u, v, w, j, t, hg, g1, g2, g3, g4, g5⟩
      · rw [hg] at hR
        simp (maxSteps := 4000000) only [↓Qw,↓Qa,↓Y4,↓wpH_exit,↓Yv,↓Ys,↓Yx,↓Ya,↓Yo,↓Yh,Z6,Yp,Yj,gw,Z7,Ye,↓chk,Qx,noW,↓Jr,↓Qy,↓Jk,↓Zz,↓thenA_exit,↓blockA_exit,↓Y5,Js,Pg.look,Jt,Qz,cellsEq,leafEq,Zy,Yr,Zc,false_implies,implies_true,true_and,and_true,Ju,Q0,Q1,Jv,Jw,Y6,Q8,nxtQ,hdS,Q9,frzA,Yb,Yk,Yc,Nat.reduceAdd,ofV,Y7,retA,resK,tupA,Jx,Jy,Q2,Ja,Jz,J0,J1,Y8,assocN,Jb,Jc,Jd,J2,J3,J4,J5,Pg.freeze,Zo,Q3,subO,Q4,Yl,J6,slen,Qd,Jn,↓J7,callC,callV,callH,Xp,J8,J9,resL,Qj,Yt,Xb,Xz,X0,AV.cells,TK.cells,AV.definite,AV.leaf,AV.leafy,AV.pureLeaf,AV.pureB,Yw,lay,Je,Zb,Za,Zg,reduceCtorEq,Nat.reduceEqDiff,Nat.reduceAdd,Zl,Zh,Zq,Zr,Zm,Z5,Z2,Zi,Zn,Z3,ite_true,ite_false,Option.some.injEq,Zp,AV.int.injEq,AV.agg.injEq,Prod.mk.injEq,Z0,Z8,Zu,and_self,exists_eq_left',X5,X6,Qi,Qe,Jh,getD_ofBytes,Qf,decL_byte,Qm,Qk,Qn,Y1,Y2,Y3,Yz,Zd,Nat.reduceBEq,Xi,beq_self_eq_true,Zv,Qc,Xx,Xq,X1,X2,Jo,Jp,Jq,X4,Ze,cutL,Zw,Zf,Zj,Zx,Yi,Yu,Yg,X3,Z4,Z9,Zs,Xy,Ym,Y9,Q5,Q6,Yd,↓msel,muC,↓callP,↓Xt,↓Xc,↓Xd,↓Xe,Qo,Qp,Jf,Qq,Qr,Qg,Qh,Xf,Qs,Qt,Qu,Jg,Qv,Xu,Xg,Xv,Xw,gids,putO,ren,renL,renO,tk5,dz5,tk24,tk33,tz33,dz33,tk38,tz38,dz38,eq38,kMotion,kRTry,kDoN,aMove,aMv,mNone,cNpt_dec,c2,w1,← hk,← hc,← hR]
        (repeat' first | exact hpre | exact hft | exact hcn9 | exact ⟨(i + 1, (y1, y2, y3, y4, y5, y6, y7, y8)), by dsimp only; omega, by dsimp only; omega, subX_eq rfl rfl, rfl⟩ | apply And.intro | omega)
      · rw [hg] at hR
        obtain ⟨l, rfl⟩ := Int.eq_ofNat_of_zero_le g1
        have e1 : IntKind.i64.wrap ((ls.length : Int) - 1) = (ls.length : Int) - 1 := wrap64 (by omega) (by omega)
        have e2 : min (max (l : Int) 0) ((ls.length : Int) - 1) = (l : Int) := by omega
        have e3 : decide ((l : Int) < 0) = false := decide_eq_false (by omega)
        have e4 : decide ((l : Int) ≥ (ls.length : Int)) = false := decide_eq_false (by omega)
        have e5 : decide (v < 0) = false := decide_eq_false (by omega)
        have e6 : decide (t < 0) = false := decide_eq_false (by omega)
        have hll := hl2 l
        rw [Int.toNat_natCast] at g4
        obtain ⟨s, hs1⟩ : ∃ s, s = ls.getD l [] := ⟨_, rfl⟩
        rw [← hs1] at g4 hll
        cases op with
        | true =>
          rw [if_pos rfl] at g4
          have e7 : decide (v > (s.length : Int)) = false := decide_eq_false (by omega)
          simp (maxSteps := 4000000) only [↓Qw,↓Qa,↓Yv,↓Ys,↓Yx,↓Ya,bselH_true,↓Yo,↓Yh,Z6,Yp,Yj,gw,Z7,Qb,Ql,Ye,Xj,↓chk,Qx,noW,↓Jr,↓Qy,↓Jk,↓Zz,↓Yn,↓Y5,Js,Pg.look,Jt,Qz,Xk,Zy,Yr,Zc,false_implies,implies_true,true_and,and_true,forall_const,Xl,Xm,unc,gof,mux,Ji,Jj,Ju,Q0,Q1,Jv,Jw,Y6,Q8,nxtQ,hdS,Q9,frzA,Yb,Yk,Yc,Nat.reduceAdd,Yy,Yq,ofV,Y7,Xn,Jx,Jy,Q2,Ja,Jz,J0,J1,Y8,assocN,Jb,Jc,Jd,J2,J3,J4,J5,Pg.freeze,Zo,Q3,subO,Q4,Yl,J6,slen,Qd,Jn,↓J7,callC,callV,callH,Xp,J8,J9,resL,Qj,Yt,Xb,Xz,X0,AV.cells,TK.cells,AV.definite,AV.leaf,AV.leafy,AV.pureLeaf,AV.pureB,Yw,lay,foldInts,Op.operands,Call.operands,Jl,Zk,Zb,Za,Z1,Zg,reduceCtorEq,Nat.reduceEqDiff,Nat.reduceAdd,Zl,Zh,Zq,Zr,Zm,Z5,Z2,Zi,Zn,Z3,ite_true,ite_false,Option.some.injEq,AV.int.injEq,Prod.mk.injEq,Z0,Z8,Zu,and_self,exists_eq_left',X6,Yf,Qi,Qe,Zt,Jh,getD_ofBytes,Qf,decL_byte,Qm,Qk,Qn,Y1,Y2,Y3,Yz,Zd,Nat.reduceBEq,Xi,X7,beq_self_eq_true,Zv,Qc,Xx,Xq,X1,X2,Jo,Jp,Jq,getD_str,X4,Ze,cutL,Zw,Zf,Zj,Zx,Xh,Yi,Yu,Nat.reduceLeDiff,Yg,X3,Z4,Z9,Zs,Xy,Ym,Y9,Q5,Q6,Yd,↓msel,muC,↓callP,↓Xt,↓Xc,↓Xd,↓Xe,Qo,Qp,Jf,Qq,Qr,Qg,Qh,Xf,Qs,Qt,Qu,Jg,Qv,Xu,Xg,Xv,Xw,gids,putO,ren,renL,renO,tk3,tk5,dz5,tk9,dz9,tk22,tk24,tk28,tk31,dz31,tk33,tz33,dz33,tk38,tz38,dz38,kMotion,kRTry,kDoN,aMove,aMv,cNpt_dec,c2,w1,← hk,← hc,← hR,e1,e2,e3,e4,e5,e6,e7,← hs1]
          (repeat' first | exact hpre | exact hft | exact hcn9 | (show dynOrd _ _ = true; kernel_rfl) | exact ⟨(i + 1, ((l : Int), v, t, y4, y5, y6, y7, y8)), by dsimp only; omega, by dsimp only; omega, subX_eq rfl rfl, rfl⟩ | apply And.intro | omega)
        | false =>
          rw [if_neg (by simp)] at g4
          have e7 : decide (v > max ((s.length : Int) - 1) 0) = false := decide_eq_false (by omega)
          have e8 : IntKind.i64.wrap ((s.length : Int) - 1) = (s.length : Int) - 1 := wrap64 (by omega) (by omega)
          simp (maxSteps := 4000000) only [↓Qw,↓Qa,↓Yv,↓Ys,↓Yx,↓Ya,bselH_true,↓Yo,↓Yh,Z6,Yp,Yj,gw,Z7,Qb,Ql,Ye,Xj,↓chk,Qx,noW,↓Jr,↓Qy,↓Jk,↓Zz,↓Yn,↓Y5,Js,Pg.look,Jt,Qz,Xk,Zy,Yr,Zc,false_implies,implies_true,true_and,and_true,forall_const,Xl,Xm,unc,gof,mux,Ji,Jj,Ju,Q0,Q1,Jv,Jw,Y6,Q8,nxtQ,hdS,Q9,frzA,Yb,Yk,Yc,Nat.reduceAdd,Yy,Yq,ofV,Y7,Xn,Jx,Jy,Q2,Ja,Jz,J0,J1,Y8,assocN,Jb,Jc,Jd,J2,J3,J4,J5,Pg.freeze,Zo,Q3,subO,Q4,Yl,J6,slen,Qd,Jn,↓J7,callC,callV,callH,Xp,J8,J9,resL,Qj,Yt,Xb,Xz,X0,AV.cells,TK.cells,AV.definite,AV.leaf,AV.leafy,AV.pureLeaf,AV.pureB,Yw,lay,foldInts,Op.operands,Call.operands,Jl,Zk,Zb,Za,Z1,Zg,reduceCtorEq,Nat.reduceEqDiff,Nat.reduceAdd,Zl,Zh,Zq,Zr,Zm,Z5,Z2,Zi,Zn,Z3,ite_true,ite_false,Option.some.injEq,AV.int.injEq,Prod.mk.injEq,Z0,Z8,Zu,and_self,exists_eq_left',X6,Yf,Qi,Qe,Zt,Jh,getD_ofBytes,Qf,decL_byte,Qm,Qk,Qn,Y1,Y2,Y3,Yz,Zd,Nat.reduceBEq,Xi,X7,beq_self_eq_true,Zv,Qc,Xx,Xq,X1,X2,Jo,Jp,Jq,getD_str,X4,Ze,cutL,Zw,Zf,Zj,Zx,Xh,Yi,Yu,Nat.reduceLeDiff,Yg,X3,Z4,Z9,Zs,Xy,Ym,Y9,Q5,Q6,Yd,↓msel,muC,↓callP,↓Xt,↓Xc,↓Xd,↓Xe,Qo,Qp,Jf,Qq,Qr,Qg,Qh,Xf,Qs,Qt,Qu,Jg,Qv,Xu,Xg,Xv,Xw,gids,putO,ren,renL,renO,tk3,tk5,dz5,tk9,dz9,tk22,tk24,tk28,tk31,dz31,tk33,tz33,dz33,tk38,tz38,dz38,kMotion,kRTry,kDoN,aMove,aMv,cNpt_dec,c2,w1,← hk,← hc,← hR,e1,e2,e3,e4,e5,e6,e7,e8,← hs1]
          (repeat' first | exact hpre | exact hft | exact hcn9 | (show dynOrd _ _ = true; kernel_rfl) | exact ⟨(i + 1, ((l : Int), v, t, y4, y5, y6, y7, y8)), by dsimp only; omega, by dsimp only; omega, subX_eq rfl rfl, rfl⟩ | apply And.intro | omega)
    · have c2 : decide ((i : Int) < (ns.length : Int)) = false := decide_eq_false (by omega)
      simp (maxSteps := 4000000) only [↓Qw,↓Y4,↓wpH_exit,↓Yv,↓Ys,↓Ya,↓Yh,Z6,Yp,Yj,gw,Z7,Ye,↓chk,Qx,↓Jr,↓Qy,↓Zz,↓thenA_exit,↓blockA_exit,↓Y5,Js,Pg.look,Jt,Qz,Zc,implies_true,true_and,and_true,Ju,Q0,Q1,Jv,Jw,Y6,Yb,Yc,ofV,Y7,retA,resK,tupA,Jx,Jy,Q2,Jz,J0,J1,Y8,J2,J3,J4,J5,Pg.freeze,Zo,Q3,Q4,Yl,J6,slen,Zg,reduceCtorEq,Nat.reduceEqDiff,Zh,Zm,ite_true,ite_false,Option.some.injEq,AV.int.injEq,and_self,exists_eq_left',X5,Jh,Yz,Zd,Nat.reduceBEq,Xi,Ym,Y9,Q5,Q6,Yd,tk24,c2]
end Go.Pg
