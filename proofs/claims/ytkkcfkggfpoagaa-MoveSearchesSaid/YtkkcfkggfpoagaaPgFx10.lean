/- A motion, by its name: where there are no marks. Searching: the document's. Searching: the document's n-th place. -/
import Derived.Test.YtkkcfkggfpoagaaPgFx9
import Derived.Test.YtkkcfkggfpoagaaPgFx6
import Derived.Test.YtkkcfkggfpoagaaPgFx7
open List renaming getElem?_cons_zero → Za, getElem?_cons_succ → Zb, contains_nil → Zd, append_nil → Ze, length_nil → Zf, foldl_nil → Zg, nil_append → Zi, take_succ_cons → Zj, getD_cons_zero → Zk, cons_append → Zl, set_cons_zero → Zm, length_cons → Zn, length_map → Zq, getElem?_toArray → Zr, drop_succ_cons → Zs, set_cons_succ → Zt, all_cons → Zu, toList_toArray → Zz, all_nil → Z0, map_nil → Z5, drop_zero → Z6, range'_zero → Yc, take_nil → Yd, map_cons → Ye, take_zero → Yg, drop_nil → Yk
open Bool renaming false_eq_true → Zc, and_self → Zo, not_false → Yi, not_true → Y0, true_eq_false → Je
open Option renaming getD_some → Zh, isSome_some → Z9, bind_some → Yb
open Go.Pg renaming thenA_normal → Zp, bselH_false → Zv, gselH_plain → Zw, wpH_region → Z1, closeQ_nil → Z2, diagQ_zero → Z3, selC_false → Z4, runH_cons → Z7, subV_succ → Z8, regH_none → Ya, cselH_bool → Yf, runH_nil → Yj, wpH_seq → Ym, iselH_false → Yn, blockA_normal → Yo, wpH_cond → Yp, closeQ_succ → Yq, iselH_true → Yr, wpH_block → Ys, look_stripE → Yt, stepEv → Yu, alives → Yv, pickOf → Yw, isNext → Yx, ofLeaf → Yy, res_succ → Yz, ldCells → Y2, wpA_H → Y3, justK → Y4, pureK → Y5, heapV → Y6, footV → Y7, ptrsE → Y8, subOs → Y9, subEv → Qa, nextF → Qb, nextG → Qc, mergeable → Qd, lCons_dec → Qe, dec2_some → Qf, aliveO → Qg, pairsO → Qh, pairsE → Qi, pairsC → Qj, pairs0 → Qk, putCells → Ql, gselH_if → Qm, cInt_dec → Qn, cAgg_dec → Qo, lOne_dec → Qp, wpH_ret → Qq, intOp → Qr, wpH_skip → Qs, oneK → Qt, heapK → Qu, opnd → Qv, valV → Qw, subA → Qx, subQ → Qy, frzO → Qz, subF → Q0, subG → Q1, frzE → Q2, frzC → Q3, frz0 → Q4, frzH → Q5, subM → Q6, kselH_1 → Q7, res8_eq → Q8, C1by_mu → Q9, objAt → Jb, pairsA → Jd, optP_some → Jf, optV_some → Jg, optH_some → Jh, binK → Ji, binV → Jj, intV → Jk, diagQ_succ → Jl, mergeK → Jm, condsL → Jn, normArgs → Jo, C1by_pre → Jp, subO → Jr, envOf → Js, resM → Ju, cutL → Jv, slen → Jw, cStr_dec → Jx, decL_str → Jy, C1by_ns → Jz, C1by_it → J0, gkind → J1, dstOf → J2, pickC → J3, pickV → J4, sameK → J5, callT → J6, normA → J7, thenA_ret → J8, cBool_dec → J9, assocN → Xa, retA → Xc, resK → Xd, tupA → Xe, pickOK_nil → Xf, cSl_dec → Xg, nxtQ → Xh, frzA → Xi, buildL → Xj, shiftR → Xk, shift1 → Xl, C1by_r → Xm, C1by_H → Xn, mapAt → Xo, cByte_dec → Xp, hCons_dec → Xq, app3_some → Xr, resL → Xs, msel → Xt, pairsL → Xu, C1mby_mu → Xv, mkM_some → Xw, hNil_dec → Xx, hP1_some → Xy, hP2_some → Xz, hB1_some → X0, hBox_dec → X1, hAgg_dec → X2, callC → X3, callV → X4, callP → X5, blockA_exit → X6, strOp → X7, normC → X9, runM_eq → Ka, hB2_arr → Kb, thenA_exit → Kc, pickOK_one → Kd, callUV → Ke, callUH → Kf, callUF → Kg, hP_dec → Kh, nodupB → Ki, callH → Kj, wpH_loop → Kk, wpH_exit → Kl
open Nat renaming zero_add → Zx, zero_lt_succ → Zy, sub_zero → Yh, le_refl → Yl, lt_irrefl → Y1, not_lt_zero → Jc, sub_self → Jt, add_zero → X8, one_mul → Km
open Array renaming toList_append → Ja
open Int renaming cast_ofNat_Int → Jq, toNat_natCast → Xb
namespace Go.Pg
open Go Go.Proofs

def cNpt : Cd Unit where
  enc _ := .npt
  dec
    | .npt => some ()
    | _ => none
  ok v a h := by split at h <;> cases h; rfl
theorem cNpt_dec : cNpt.dec .npt = some () := (rfl)
def kClamp : C1 := C1.by [.sl 1 [], .id, .id] (lCons cStrs (lCons cPos2 (lOne cBool))) (fun d => small d.1) (fun d => aPos (clampP d.1 d.2.1 d.2.2)) (fun _ => [])
theorem ok_Clamp : C1OK Try.prog 24 kClamp := C1OK.by (by kernel_rfl) (fun d h => calls_Clamp d.1 d.2.1 d.2.2 h) (fun _ => rfl) (fun _ => rfl)
theorem small_of {ls : Ls} (hf : okText ls) : small ls := fits_small hf (by omega) (by omega)

set_option maxHeartbeats 4000000 in
theorem calls_markN (ls : Ls) (x : Cx) (c : Cm) (n : Int) (op : Bool) : CallsR Try.prog 22 [aAsk ls c n op, .npt] (cxH x) (aMove mNone) (cxH x) := by
  refine callsR_of (mrg := true) (dyn := []) (CtrOK.nil _) mixed Try.func22 rfl (by simp [Try.ntmps22]) (by kernel_rfl) ?_
  rw [show Try.f22.results.toList = [.cell 4 38, .tmp 5] from by kernel_rfl]
  obtain ⟨rg, cn, opr, name, arg, text⟩ := c
  by_cases h : arg = 39
  · subst h
    simp (maxSteps := 4000000) only [↓Y3,↓Qq,↓Ym,↓Yp,↓Z1,↓Yr,Zv,Yj,Z7,gw,Zw,Yf,↓chk,Y4,noW,↓Qt,↓Y5,↓Qu,Js,↓Zp,↓J8,↓Yu,Qv,Pg.look,Ji,Qr,Zc,implies_true,true_and,and_true,Qw,Y6,Y7,Jj,Jk,Yv,Qg,Xh,hdS,Jd,Xi,Z2,Yq,Z3,Jl,Nat.reduceAdd,ofV,Yy,Xc,Xd,Xe,Qx,Qy,Y8,Qh,Qz,Q0,Q1,Yw,Qi,Qj,Xu,Qk,Q2,Q3,frzL,Q4,Q5,Pg.freeze,Zg,Y9,Jr,Qa,Z8,Q6,subL,Y2,Jb,Yz,Ju,AV.cells,TK.cells,AV.definite,AV.leaf,AV.leafy,AV.pureLeaf,AV.pureB,Ql,lay,Xj,Zb,Za,Zh,reduceCtorEq,Nat.reduceEqDiff,Nat.reduceAdd,Zi,Ze,Zl,Zn,Zf,Z5,Zm,Zt,Zx,ite_true,ite_false,Option.some.injEq,Z9,AV.agg.injEq,Zu,Z0,Zo,and_self,exists_eq_left',Zd,beq_self_eq_true,Jq,Zk,Jv,Z6,Zs,Zj,Yg,Yh,Yl,Yk,Yd,Zy,Ya,Yx,Qb,Qc,Z4,Xo,tk5,tk33,tk38,tz38,dz38,pt55,tk57,dz57,aMove,aMv,mNone,byteA,UInt8.reduceToNat]
    (repeat' first | (show dynOrd _ _ = true; kernel_rfl) | exact subX_eq rfl rfl | exact trivial | apply And.intro | rfl | omega)
  · have c1 := byte_lit arg 39 39 rfl h
    simp (maxSteps := 4000000) only [↓Y3,↓Qs,↓Qq,↓Ym,↓Yp,↓Z1,↓Yr,↓Yn,Zv,Yj,Z7,gw,Zw,Yf,↓chk,Y4,noW,↓Qt,↓Y5,↓Qu,Js,↓Zp,↓J8,↓Yu,Qv,Pg.look,Ji,Qr,Zc,implies_true,true_and,and_true,Qw,Y6,Y7,Jj,Jk,Yv,Qg,Xh,hdS,Jd,Xi,Z2,Yq,Z3,Jl,Nat.reduceAdd,ofV,Yy,Xc,Xd,Xe,Qx,Qy,Y8,Qh,Qz,Q0,Q1,Yw,Qi,Qj,Xu,Qk,Q2,Q3,frzL,Q4,Q5,Pg.freeze,Zg,Y9,Jr,Qa,Z8,Q6,subL,Y2,Jb,Yz,Ju,AV.cells,TK.cells,AV.definite,AV.leaf,AV.leafy,AV.pureLeaf,AV.pureB,Ql,lay,Xj,Zb,Za,Zh,reduceCtorEq,Nat.reduceEqDiff,Nat.reduceAdd,Zi,Ze,Zl,Zn,Zf,Z5,Zm,Zt,Zx,ite_true,ite_false,Option.some.injEq,Z9,AV.agg.injEq,Zu,Z0,Zo,and_self,exists_eq_left',Zd,Zk,Jv,Z6,Zs,Zj,Yg,Yh,Yl,Yk,Yd,Zy,Ya,Yx,Qb,Qc,Z4,Xo,tk5,tk33,tk38,tz38,dz38,pt55,tk57,dz57,aMove,aMv,mNone,c1]
    (repeat' first | (show dynOrd _ _ = true; kernel_rfl) | exact subX_eq rfl rfl | exact trivial | apply And.intro | rfl | omega)
def kMarkN : C1 := C1.mby (hCons (hAgg lAskd) (hCons (hP .id cNpt) hNil)) (fun _ => True) (fun _ => aMove mNone) (fun d => cxH d.1.2.1)
theorem ok_markN : C1OK Try.prog 22 kMarkN := C1OK.mby (by kernel_rfl) (fun d _ => calls_markN d.1.1 d.1.2.1 (d.1.2.2.1, d.1.2.2.2.1, d.1.2.2.2.2.1, d.1.2.2.2.2.2.1, d.1.2.2.2.2.2.2.1, d.1.2.2.2.2.2.2.2.1) d.1.2.2.2.2.2.2.2.2.1 d.1.2.2.2.2.2.2.2.2.2.1) (fun _ _ => Nat.le_refl _)

abbrev lCm : CdL Cm := lCons cByte (lCons (cInt .i64) (lCons cStr (lCons cStr (lCons cByte (lOne cStr)))))
/-- A motion's end: brought into the text, its column wanted. -/
def doFin (ls : Ls) (op : Bool) (r : Mv × Bool) : Mv × Bool :=
  if r.2 = true then ((clampP ls r.1.1 op, r.1.2.1, r.1.2.2.1, if r.1.2.2.2 = -1 then (clampP ls r.1.1 op).2 else r.1.2.2.2), true) else mNone
def cntF (cn : Int) : Int := if cn = 0 then 1 else cn
def doN (ls : Ls) (x : Cx) (c : Cm) (op : Bool) : Res :=
  if ls.length = 0 ∨ c.2.2.2.1 = [39] ∨ c.2.2.2.1 = [96] then (mNone, x)
  else (doFin ls op (lineA ls x c (cntF c.2.1) op).1, (lineA ls x c (cntF c.2.1) op).2)
set_option maxRecDepth 20000 in
set_option maxHeartbeats 8000000 in
theorem calls_DoN (ls : Ls) (x : Cx) (c : Cm) (op : Bool) (hf : okText ls) (hcn : c.2.1 ≤ 9223372036854775807) : CallsR Try.prog 10 [.sl 1 (ls.map .str), .ptr 0 8 1 0 0, .agg (aCm c), .bool op, .npt] (cxH x) (aMove (doN ls x c op).1) (cxH (doN ls x c op).2) := by
  refine callsR_of (mrg := true) (dyn := []) (CtrOK.cons ok_markN (CtrOK.cons ok_lineA (CtrOK.cons ok_Clamp (CtrOK.nil _)))) mixed Try.func10 rfl (by simp [Try.ntmps10]) (by kernel_rfl) ?_
  rw [show Try.f10.results.toList = [.cell 10 38, .tmp 11] from by kernel_rfl]
  have hsm := small_of hf
  obtain ⟨rg, cn, opr, name, arg, text⟩ := c
  dsimp only at hcn
  have hfin : ∀ k, k = cntF cn → k ≤ 9223372036854775807 := by intro k hk; rw [hk]; unfold cntF; split <;> omega
  have hcc : (cn = 0 → cntF cn = 1) ∧ (¬ cn = 0 → cntF cn = cn) := by unfold cntF; constructor <;> intro h <;> simp [h]
  obtain ⟨k, hk⟩ : ∃ k, k = cntF cn := ⟨_, rfl⟩
  have hkn := hfin k hk
  unfold doN
  dsimp only
  rw [← hk] at hcc ⊢
  have hll := hf.1
  by_cases hg : ls.length = 0 ∨ name = [39] ∨ name = [96]
  · rw [if_pos hg]
    by_cases hl0 : ls.length = 0
    · have g1 : ((ls.length : Int) == 0) = true := by rw [hl0]; rfl
      by_cases hc0 : cn = 0
      · have c0 : (cn == 0) = true := beq_iff_eq.2 hc0
        simp (maxSteps := 4000000) only [↓Y3,↓Qs,↓Qq,↓Ym,↓Yp,↓Ys,↓Z1,↓Yr,Zv,Yj,Z7,gw,Zw,Yf,↓chk,Y4,noW,↓Qt,↓Y5,↓Qu,Js,↓Zp,↓J8,↓Yo,↓Yu,Qv,Pg.look,Ji,Qr,Yi,Zc,implies_true,true_and,and_true,Qw,Y6,Y7,Jj,Jk,Yv,Qg,Xh,hdS,Jd,Xi,Z2,Yq,Z3,Jl,Nat.reduceAdd,ofV,Yy,Xc,Xd,Xe,Qx,Qy,Y8,Qh,Qz,Q0,Q1,Yw,Qi,Qj,Xu,Qk,Q2,Q3,frzL,Q4,Q5,Pg.freeze,Zg,Y9,Jr,Qa,Z8,Q6,subL,Jw,Y2,Jb,Yz,Ju,AV.cells,TK.cells,AV.definite,AV.leaf,AV.leafy,AV.pureLeaf,AV.pureB,Ql,lay,Xj,Zb,Za,Zh,reduceCtorEq,Nat.reduceEqDiff,Nat.reduceAdd,Zi,Ze,Zl,Zn,Zf,Ye,Z5,Zm,Zt,Zx,ite_true,ite_false,Option.some.injEq,Z9,AV.int.injEq,AV.agg.injEq,Zu,Z0,Zo,and_self,exists_eq_left',Zq,Zd,Zk,Jv,Z6,Zs,Zj,Yg,Yh,Nat.reduceLeDiff,Yl,Yk,Yd,Zy,Ya,Yx,Qb,Qc,Z4,Xo,tk3,tk22,tk33,dz33,tk38,tz38,dz38,tk57,tz57,dz57,kMarkN,kLineA,kClamp,aMove,aMv,mNone,aPos,c0,g1]
        (repeat' first | exact hf | exact hcn | exact hkn | exact hsm | exact ⟨hf, hcn⟩ | (show dynOrd _ _ = true; kernel_rfl) | exact subX_eq rfl rfl | exact trivial | apply And.intro | rfl | omega)
      · have c0 : (cn == 0) = false := beq_eq_false_iff_ne.2 hc0
        simp (maxSteps := 4000000) only [↓Y3,↓Qs,↓Qq,↓Ym,↓Yp,↓Ys,↓Z1,↓Yr,↓Yn,Zv,Yj,Z7,gw,Zw,Yf,↓chk,Y4,noW,↓Qt,↓Y5,↓Qu,Js,↓Zp,↓J8,↓Yo,↓Yu,Qv,Pg.look,Ji,Qr,Yi,Zc,implies_true,true_and,and_true,Qw,Y6,Y7,Jj,Jk,Yv,Qg,Xh,hdS,Jd,Xi,Z2,Yq,Z3,Jl,Nat.reduceAdd,ofV,Yy,Xc,Xd,Xe,Qx,Qy,Y8,Qh,Qz,Q0,Q1,Yw,Qi,Qj,Xu,Qk,Q2,Q3,frzL,Q4,Q5,Pg.freeze,Zg,Y9,Jr,Qa,Z8,Q6,subL,Jw,Y2,Jb,Yz,Ju,AV.cells,TK.cells,AV.definite,AV.leaf,AV.leafy,AV.pureLeaf,AV.pureB,Ql,lay,Xj,Zb,Za,Zh,reduceCtorEq,Nat.reduceEqDiff,Nat.reduceAdd,Zi,Ze,Zl,Zn,Zf,Ye,Z5,Zm,Zt,Zx,ite_true,ite_false,Option.some.injEq,Z9,AV.int.injEq,AV.agg.injEq,Zu,Z0,Zo,and_self,exists_eq_left',Zq,Zd,Zk,Jv,Z6,Zs,Zj,Yg,Yh,Nat.reduceLeDiff,Yl,Yk,Yd,Zy,Ya,Yx,Qb,Qc,Z4,Xo,tk3,tk22,tk33,dz33,tk38,tz38,dz38,tk57,tz57,dz57,kMarkN,kLineA,kClamp,aMove,aMv,mNone,aPos,c0,g1]
        (repeat' first | exact hf | exact hcn | exact hkn | exact hsm | exact ⟨hf, hcn⟩ | (show dynOrd _ _ = true; kernel_rfl) | exact subX_eq rfl rfl | exact trivial | apply And.intro | rfl | omega)
    · have g1 : ((ls.length : Int) == 0) = false := by rw [beq_eq_false_iff_ne]; omega
      have hg : name = [39] ∨ name = [96] := hg.elim (fun h => absurd h hl0) id
      rcases hg with hg | hg
      · subst hg
        by_cases hc0 : cn = 0
        · have c0 : (cn == 0) = true := beq_iff_eq.2 hc0
          simp (maxSteps := 4000000) only [↓Y3,↓Qq,↓Ym,↓Yp,↓Ys,↓Z1,↓Yr,↓Yn,Zv,Yj,Z7,gw,Zw,Qm,Q7,Yf,J1,↓chk,Y4,noW,↓Qt,↓Y5,↓Qu,Js,↓Zp,↓J8,↓Yo,↓Yu,Qv,Pg.look,Ji,Qr,X7,J2,Yi,Y0,Zc,Je,implies_true,imp_self,true_and,and_true,J3,J4,unc,gof,mux,Jm,Jn,Qw,Y6,Y7,Jj,Jk,strV,Yv,Qg,Xh,hdS,Jd,Xi,Z2,Yq,Z3,Jl,Nat.reduceAdd,Qd,Yt,ofV,Yy,J5,Xc,Xd,Xe,Qx,Qy,Y8,Qh,Qz,Q0,Q1,Yw,Qi,Qj,Xu,Qk,Q2,Q3,frzL,Q4,Q5,Pg.freeze,Zg,Y9,Jr,Qa,Z8,Q6,subL,Jw,Y2,Jb,↓J6,J7,X9,Xs,Q8,Yz,Ju,AV.cells,TK.cells,AV.definite,AV.leaf,AV.leafy,AV.pureLeaf,AV.pureB,Ql,lay,Xj,Op.operands,Zr,Zb,Za,Yb,Zh,reduceCtorEq,Nat.reduceEqDiff,Nat.reduceAdd,Zi,Ze,Zl,Zn,Zf,Ye,Z5,Zm,Zt,Zx,ite_true,ite_false,Option.some.injEq,Z9,AV.int.injEq,AV.agg.injEq,Zu,Z0,Zo,and_self,exists_eq_left',Zq,Qn,J9,Zz,Xp,Jx,Xg,Qo,Qp,Qe,Qf,Zd,beq_self_eq_true,Yc,Jy,Zk,Jv,Z6,Zs,Zj,Yg,Yh,Jt,Nat.reduceLeDiff,Yl,Yk,Yd,Zy,Ya,Yx,Qb,Qc,Z4,↓Xt,muC,↓callU,↓Ke,↓Kf,↓Kg,Q9,Xv,Ka,Xw,Xx,Xq,Xr,Kh,Xy,Xz,X0,Kb,X1,X2,pickF,Ki,somes,fresh,gids,putO,ren,renL,renO,Xo,tk3,tk9,tk22,tk33,dz33,tk38,tz38,dz38,tk57,tz57,dz57,kMarkN,kLineA,kClamp,aMove,aMv,mNone,aPos,cNpt_dec,c0,g1]
          (repeat' first | exact hf | exact hcn | exact hkn | exact hsm | exact ⟨hf, hcn⟩ | (show dynOrd _ _ = true; kernel_rfl) | exact subX_eq rfl rfl | exact trivial | apply And.intro | rfl | omega)
        · have c0 : (cn == 0) = false := beq_eq_false_iff_ne.2 hc0
          simp (maxSteps := 4000000) only [↓Y3,↓Qs,↓Qq,↓Ym,↓Yp,↓Ys,↓Z1,↓Yr,↓Yn,Zv,Yj,Z7,gw,Zw,Qm,Q7,Yf,J1,↓chk,Y4,noW,↓Qt,↓Y5,↓Qu,Js,↓Zp,↓J8,↓Yo,↓Yu,Qv,Pg.look,Ji,Qr,X7,J2,Yi,Y0,Zc,Je,implies_true,imp_self,true_and,and_true,J3,J4,unc,gof,mux,Jm,Jn,Qw,Y6,Y7,Jj,Jk,strV,Yv,Qg,Xh,hdS,Jd,Xi,Z2,Yq,Z3,Jl,Nat.reduceAdd,Qd,Yt,ofV,Yy,J5,Xc,Xd,Xe,Qx,Qy,Y8,Qh,Qz,Q0,Q1,Yw,Qi,Qj,Xu,Qk,Q2,Q3,frzL,Q4,Q5,Pg.freeze,Zg,Y9,Jr,Qa,Z8,Q6,subL,Jw,Y2,Jb,↓J6,J7,X9,Xs,Q8,Yz,Ju,AV.cells,TK.cells,AV.definite,AV.leaf,AV.leafy,AV.pureLeaf,AV.pureB,Ql,lay,Xj,Op.operands,Zr,Zb,Za,Yb,Zh,reduceCtorEq,Nat.reduceEqDiff,Nat.reduceAdd,Zi,Ze,Zl,Zn,Zf,Ye,Z5,Zm,Zt,Zx,ite_true,ite_false,Option.some.injEq,Z9,AV.int.injEq,AV.agg.injEq,Zu,Z0,Zo,and_self,exists_eq_left',Zq,Qn,J9,Zz,Xp,Jx,Xg,Qo,Qp,Qe,Qf,Zd,beq_self_eq_true,Yc,Jy,Zk,Jv,Z6,Zs,Zj,Yg,Yh,Jt,Nat.reduceLeDiff,Yl,Yk,Yd,Zy,Ya,Yx,Qb,Qc,Z4,↓Xt,muC,↓callU,↓Ke,↓Kf,↓Kg,Q9,Xv,Ka,Xw,Xx,Xq,Xr,Kh,Xy,Xz,X0,Kb,X1,X2,pickF,Ki,somes,fresh,gids,putO,ren,renL,renO,Xo,tk3,tk9,tk22,tk33,dz33,tk38,tz38,dz38,tk57,tz57,dz57,kMarkN,kLineA,kClamp,aMove,aMv,mNone,aPos,cNpt_dec,c0,g1]
          (repeat' first | exact hf | exact hcn | exact hkn | exact hsm | exact ⟨hf, hcn⟩ | (show dynOrd _ _ = true; kernel_rfl) | exact subX_eq rfl rfl | exact trivial | apply And.intro | rfl | omega)
      · subst hg
        have hq : (([96] : List UInt8) == [39]) = false := rfl
        by_cases hc0 : cn = 0
        · have c0 : (cn == 0) = true := beq_iff_eq.2 hc0
          simp (maxSteps := 4000000) only [↓Y3,↓Qq,↓Ym,↓Yp,↓Ys,↓Z1,↓Yr,↓Yn,Zv,Yj,Z7,gw,Zw,Qm,Q7,Yf,J1,↓chk,Y4,noW,↓Qt,↓Y5,↓Qu,Js,↓Zp,↓J8,↓Yo,↓Yu,Qv,Pg.look,Ji,Qr,X7,J2,Yi,Zc,implies_true,true_and,and_true,J3,J4,unc,gof,mux,Jm,Jn,Qw,Y6,Y7,Jj,Jk,strV,Yv,Qg,Xh,hdS,Jd,Xi,Z2,Yq,Z3,Jl,Nat.reduceAdd,Qd,Yt,ofV,Yy,J5,Xc,Xd,Xe,Qx,Qy,Y8,Qh,Qz,Q0,Q1,Yw,Qi,Qj,Xu,Qk,Q2,Q3,frzL,Q4,Q5,Pg.freeze,Zg,Y9,Jr,Qa,Z8,Q6,subL,Jw,Y2,Jb,↓J6,J7,X9,Xs,Q8,Yz,Ju,AV.cells,TK.cells,AV.definite,AV.leaf,AV.leafy,AV.pureLeaf,AV.pureB,Ql,lay,Xj,Op.operands,Zr,Zb,Za,Yb,Zh,reduceCtorEq,Nat.reduceEqDiff,Nat.reduceAdd,Zi,Ze,Zl,Zn,Zf,Ye,Z5,Zm,Zt,Zx,ite_true,ite_false,Option.some.injEq,Z9,AV.int.injEq,AV.agg.injEq,Zu,Z0,Zo,and_self,exists_eq_left',Zq,Qn,J9,Zz,Xp,Jx,Xg,Qo,Qp,Qe,Qf,Zd,beq_self_eq_true,Yc,Jy,Zk,Jv,Z6,Zs,Zj,Yg,Yh,Jt,Nat.reduceLeDiff,Yl,Yk,Yd,Zy,Ya,Yx,Qb,Qc,Z4,↓Xt,muC,↓callU,↓Ke,↓Kf,↓Kg,Q9,Xv,Ka,Xw,Xx,Xq,Xr,Kh,Xy,Xz,X0,Kb,X1,X2,pickF,Ki,somes,fresh,gids,putO,ren,renL,renO,Xo,tk3,tk9,tk22,tk33,dz33,tk38,tz38,dz38,tk57,tz57,dz57,kMarkN,kLineA,kClamp,aMove,aMv,mNone,aPos,cNpt_dec,c0,g1,hq]
          (repeat' first | exact hf | exact hcn | exact hkn | exact hsm | exact ⟨hf, hcn⟩ | (show dynOrd _ _ = true; kernel_rfl) | exact subX_eq rfl rfl | exact trivial | apply And.intro | rfl | omega)
        · have c0 : (cn == 0) = false := beq_eq_false_iff_ne.2 hc0
          simp (maxSteps := 4000000) only [↓Y3,↓Qs,↓Qq,↓Ym,↓Yp,↓Ys,↓Z1,↓Yr,↓Yn,Zv,Yj,Z7,gw,Zw,Qm,Q7,Yf,J1,↓chk,Y4,noW,↓Qt,↓Y5,↓Qu,Js,↓Zp,↓J8,↓Yo,↓Yu,Qv,Pg.look,Ji,Qr,X7,J2,Yi,Zc,implies_true,true_and,and_true,J3,J4,unc,gof,mux,Jm,Jn,Qw,Y6,Y7,Jj,Jk,strV,Yv,Qg,Xh,hdS,Jd,Xi,Z2,Yq,Z3,Jl,Nat.reduceAdd,Qd,Yt,ofV,Yy,J5,Xc,Xd,Xe,Qx,Qy,Y8,Qh,Qz,Q0,Q1,Yw,Qi,Qj,Xu,Qk,Q2,Q3,frzL,Q4,Q5,Pg.freeze,Zg,Y9,Jr,Qa,Z8,Q6,subL,Jw,Y2,Jb,↓J6,J7,X9,Xs,Q8,Yz,Ju,AV.cells,TK.cells,AV.definite,AV.leaf,AV.leafy,AV.pureLeaf,AV.pureB,Ql,lay,Xj,Op.operands,Zr,Zb,Za,Yb,Zh,reduceCtorEq,Nat.reduceEqDiff,Nat.reduceAdd,Zi,Ze,Zl,Zn,Zf,Ye,Z5,Zm,Zt,Zx,ite_true,ite_false,Option.some.injEq,Z9,AV.int.injEq,AV.agg.injEq,Zu,Z0,Zo,and_self,exists_eq_left',Zq,Qn,J9,Zz,Xp,Jx,Xg,Qo,Qp,Qe,Qf,Zd,beq_self_eq_true,Yc,Jy,Zk,Jv,Z6,Zs,Zj,Yg,Yh,Jt,Nat.reduceLeDiff,Yl,Yk,Yd,Zy,Ya,Yx,Qb,Qc,Z4,↓Xt,muC,↓callU,↓Ke,↓Kf,↓Kg,Q9,Xv,Ka,Xw,Xx,Xq,Xr,Kh,Xy,Xz,X0,Kb,X1,X2,pickF,Ki,somes,fresh,gids,putO,ren,renL,renO,Xo,tk3,tk9,tk22,tk33,dz33,tk38,tz38,dz38,tk57,tz57,dz57,kMarkN,kLineA,kClamp,aMove,aMv,mNone,aPos,cNpt_dec,c0,g1,hq]
          (repeat' first | exact hf | exact hcn | exact hkn | exact hsm | exact ⟨hf, hcn⟩ | (show dynOrd _ _ = true; kernel_rfl) | exact subX_eq rfl rfl | exact trivial | apply And.intro | rfl | omega)
  · rw [if_neg hg]
    have g1 : ((ls.length : Int) == 0) = false := by rw [beq_eq_false_iff_ne]; intro h; exact hg (.inl (by omega))
    have g2 := str_ne (fun h => hg (.inr (.inl h)))
    have g3 := str_ne (fun h => hg (.inr (.inr h)))
    obtain ⟨r, hr⟩ : ∃ r, r = lineA ls x (rg, cn, opr, name, arg, text) k op := ⟨_, rfl⟩
    rw [← hr]
    obtain ⟨⟨⟨⟨t1, t2⟩, way, jp, want⟩, ok⟩, y⟩ := r
    obtain ⟨x1, x2, w, t, ky, kc, fd, bk⟩ := x
    unfold doFin
    dsimp only
    by_cases hc0 : cn = 0
    · have c0 : (cn == 0) = true := beq_iff_eq.2 hc0
      have hk1 := hcc.1 hc0
      subst hk1
      cases ok with
      | false =>
        rw [if_neg (by simp)]
        simp (maxSteps := 4000000) only [↓Y3,↓Qq,↓Ym,↓Yp,↓Ys,↓Z1,↓Yr,↓Yn,Zv,Yj,Z7,gw,Zw,Qm,Q7,Yf,J1,↓chk,Y4,noW,↓Qt,↓Y5,↓Qu,Js,↓Zp,↓J8,↓Yo,↓Yu,Qv,Pg.look,Ji,Qr,X7,J2,Yi,Zc,implies_true,true_and,and_true,J3,J4,unc,gof,mux,Jm,Jn,Qw,Y6,Y7,Jj,Jk,strV,Yv,Qg,Xh,hdS,Jd,Xi,Z2,Yq,Z3,Jl,Nat.reduceAdd,Qd,Yt,ofV,Yy,J5,Xc,Xd,Xe,Qx,Qy,Y8,Qh,Qz,Q0,Q1,Yw,Qi,Qj,Xu,Qk,Q2,Q3,frzL,Q4,Q5,Pg.freeze,Zg,Y9,Jr,Qa,Z8,Q6,subL,Jw,Y2,Jb,↓J6,J7,X9,Xs,Q8,Yz,Ju,AV.cells,TK.cells,AV.definite,AV.leaf,AV.leafy,AV.pureLeaf,AV.pureB,Ql,lay,Xj,Op.operands,Zr,Zb,Za,Yb,Zh,reduceCtorEq,Nat.reduceEqDiff,Nat.reduceAdd,Zi,Ze,Zl,Zn,Zf,Ye,Z5,Zm,Zt,Zx,ite_true,ite_false,Option.some.injEq,Z9,AV.int.injEq,AV.agg.injEq,Zu,Z0,Zo,and_self,exists_eq_left',Zq,Qn,J9,Zz,Xp,Int.reduceLE,Jx,Xg,Qo,Qp,Qe,Qf,Zd,Yc,Jy,Zk,Jv,Z6,Zs,Zj,Yg,Yh,Jt,Nat.reduceLeDiff,Yl,Yk,Yd,Zy,Ya,Yx,Qb,Qc,Z4,↓Xt,muC,↓callU,↓Ke,↓Kf,↓Kg,Q9,Xv,Ka,Xw,Xx,Xq,Xr,Kh,Xy,Xz,X0,Kb,X1,X2,pickF,Ki,somes,fresh,gids,putO,ren,renL,renO,Xo,tk3,tk9,tk22,tk33,dz33,tk38,tz38,dz38,tk57,tz57,dz57,kMarkN,kLineA,kClamp,aMove,aMv,mNone,aPos,c0,g1,g2,g3,← hr]
        (repeat' first | exact hf | exact hcn | exact hkn | exact hsm | exact ⟨hf, hcn⟩ | (show dynOrd _ _ = true; kernel_rfl) | exact subX_eq rfl rfl | exact trivial | apply And.intro | rfl | omega)
      | true =>
        rw [if_pos rfl]
        obtain ⟨q, hq⟩ : ∃ q, q = clampP ls (t1, t2) op := ⟨_, rfl⟩
        rw [← hq]
        obtain ⟨q1, q2⟩ := q
        by_cases hw : want = -1
        · have cw : (want == -1) = true := beq_iff_eq.2 hw
          rw [if_pos hw]
          simp (maxSteps := 4000000) only [↓Y3,↓Qs,↓Qq,↓Ym,↓Yp,↓Ys,↓Z1,↓Yr,↓Yn,Zv,Yj,Z7,gw,Zw,Qm,Q7,Yf,J1,↓chk,Y4,noW,↓Qt,↓Y5,↓Qu,Js,↓Zp,↓Yo,↓Yu,Qv,Pg.look,Ji,Qr,X7,J2,Yi,Y0,Zc,false_implies,implies_true,true_and,and_true,J3,J4,unc,gof,mux,Jm,Jn,Qw,Y6,Y7,Jj,Jk,strV,Yv,Qg,Xh,hdS,Jd,Xi,Z2,Yq,Z3,Jl,Nat.reduceAdd,Qd,Yt,ofV,Yy,J5,Xc,Xd,Xe,Qx,Qy,Y8,Qh,Qz,Q0,Q1,Yw,Qi,Qj,Xu,Qk,Q2,Q3,frzL,Q4,Q5,Pg.freeze,Zg,Y9,Jr,Qa,Z8,Q6,subL,Jw,Y2,Jb,↓J6,X3,X4,Kj,Jo,J7,X9,Xs,Q8,Yz,Ju,Xk,Xl,AV.cells,TK.cells,AV.definite,AV.leaf,AV.leafy,AV.pureLeaf,AV.pureB,Ql,lay,Xj,Op.operands,Zr,Zb,Za,Yb,Zh,reduceCtorEq,Nat.reduceEqDiff,Nat.reduceAdd,Zi,Ze,Zl,Zn,Zf,Ye,Z5,Zm,Zt,Zx,ite_true,ite_false,Option.some.injEq,Z9,AV.int.injEq,AV.agg.injEq,Prod.mk.injEq,Zu,Z0,Zo,and_self,exists_eq_left',Zq,Qn,J9,Zz,Xp,Int.reduceLE,Jx,Xg,Qo,Qp,Qe,Qf,Zd,Yc,Jy,Jz,Jp,Xm,Xn,Jf,Jg,Jh,Zk,Jv,Z6,Zs,Zj,Yg,X8,Yh,Jt,Nat.reduceLeDiff,Yl,Yk,Yd,Zy,J0,Ya,Yx,Qb,Qc,Z4,↓Xt,muC,↓X5,↓callU,↓Ke,↓Kf,↓Kg,Q9,Xv,Ka,Xw,Xx,Xq,Xr,Kh,Xy,Xz,X0,Kb,X1,X2,pickF,Ki,somes,fresh,gids,putO,ren,renL,renO,Xo,tk3,tk9,tk22,tk28,tk33,dz33,tk38,tz38,dz38,tk57,tz57,dz57,kMarkN,kLineA,kClamp,aMove,aMv,mNone,aPos,c0,g1,g2,g3,← hr,← hq,cw]
          (repeat' first | exact hf | exact hcn | exact hkn | exact hsm | exact ⟨hf, hcn⟩ | (show dynOrd _ _ = true; kernel_rfl) | exact subX_eq rfl rfl | exact trivial | apply And.intro | rfl | omega)
        · have cw : (want == -1) = false := beq_eq_false_iff_ne.2 hw
          rw [if_neg hw]
          simp (maxSteps := 4000000) only [↓Y3,↓Qs,↓Qq,↓Ym,↓Yp,↓Ys,↓Z1,↓Yr,↓Yn,Zv,Yj,Z7,gw,Zw,Qm,Q7,Yf,J1,↓chk,Y4,noW,↓Qt,↓Y5,↓Qu,Js,↓Zp,↓Yo,↓Yu,Qv,Pg.look,Ji,Qr,X7,J2,Yi,Y0,Zc,false_implies,implies_true,true_and,and_true,J3,J4,unc,gof,mux,Jm,Jn,Qw,Y6,Y7,Jj,Jk,strV,Yv,Qg,Xh,hdS,Jd,Xi,Z2,Yq,Z3,Jl,Nat.reduceAdd,Qd,Yt,ofV,Yy,J5,Xc,Xd,Xe,Qx,Qy,Y8,Qh,Qz,Q0,Q1,Yw,Qi,Qj,Xu,Qk,Q2,Q3,frzL,Q4,Q5,Pg.freeze,Zg,Y9,Jr,Qa,Z8,Q6,subL,Jw,Y2,Jb,↓J6,X3,X4,Kj,Jo,J7,X9,Xs,Q8,Yz,Ju,Xk,Xl,AV.cells,TK.cells,AV.definite,AV.leaf,AV.leafy,AV.pureLeaf,AV.pureB,Ql,lay,Xj,Op.operands,Zr,Zb,Za,Yb,Zh,reduceCtorEq,Nat.reduceEqDiff,Nat.reduceAdd,Zi,Ze,Zl,Zn,Zf,Ye,Z5,Zm,Zt,Zx,ite_true,ite_false,Option.some.injEq,Z9,AV.int.injEq,AV.agg.injEq,Prod.mk.injEq,Zu,Z0,Zo,and_self,exists_eq_left',Zq,Qn,J9,Zz,Xp,Int.reduceLE,Jx,Xg,Qo,Qp,Qe,Qf,Zd,Yc,Jy,Jz,Jp,Xm,Xn,Jf,Jg,Jh,Zk,Jv,Z6,Zs,Zj,Yg,X8,Yh,Jt,Nat.reduceLeDiff,Yl,Yk,Yd,Zy,J0,Ya,Yx,Qb,Qc,Z4,↓Xt,muC,↓X5,↓callU,↓Ke,↓Kf,↓Kg,Q9,Xv,Ka,Xw,Xx,Xq,Xr,Kh,Xy,Xz,X0,Kb,X1,X2,pickF,Ki,somes,fresh,gids,putO,ren,renL,renO,Xo,tk3,tk9,tk22,tk28,tk33,dz33,tk38,tz38,dz38,tk57,tz57,dz57,kMarkN,kLineA,kClamp,aMove,aMv,mNone,aPos,c0,g1,g2,g3,← hr,← hq,cw]
          (repeat' first | exact hf | exact hcn | exact hkn | exact hsm | exact ⟨hf, hcn⟩ | (show dynOrd _ _ = true; kernel_rfl) | exact subX_eq rfl rfl | exact trivial | apply And.intro | rfl | omega)
    · have c0 : (cn == 0) = false := beq_eq_false_iff_ne.2 hc0
      have hk1 := hcc.2 hc0
      subst hk1
      cases ok with
      | false =>
        rw [if_neg (by simp)]
        simp (maxSteps := 4000000) only [↓Y3,↓Qs,↓Qq,↓Ym,↓Yp,↓Ys,↓Z1,↓Yr,↓Yn,Zv,Yj,Z7,gw,Zw,Qm,Q7,Yf,J1,↓chk,Y4,noW,↓Qt,↓Y5,↓Qu,Js,↓Zp,↓J8,↓Yo,↓Yu,Qv,Pg.look,Ji,Qr,X7,J2,Yi,Zc,implies_true,true_and,and_true,J3,J4,unc,gof,mux,Jm,Jn,Qw,Y6,Y7,Jj,Jk,strV,Yv,Qg,Xh,hdS,Jd,Xi,Z2,Yq,Z3,Jl,Nat.reduceAdd,Qd,Yt,ofV,Yy,J5,Xc,Xd,Xe,Qx,Qy,Y8,Qh,Qz,Q0,Q1,Yw,Qi,Qj,Xu,Qk,Q2,Q3,frzL,Q4,Q5,Pg.freeze,Zg,Y9,Jr,Qa,Z8,Q6,subL,Jw,Y2,Jb,↓J6,J7,X9,Xs,Q8,Yz,Ju,AV.cells,TK.cells,AV.definite,AV.leaf,AV.leafy,AV.pureLeaf,AV.pureB,Ql,lay,Xj,Op.operands,Zr,Zb,Za,Yb,Zh,reduceCtorEq,Nat.reduceEqDiff,Nat.reduceAdd,Zi,Ze,Zl,Zn,Zf,Ye,Z5,Zm,Zt,Zx,ite_true,ite_false,Option.some.injEq,Z9,AV.int.injEq,AV.agg.injEq,Zu,Z0,Zo,and_self,exists_eq_left',Zq,Qn,J9,Zz,Xp,Jx,Xg,Qo,Qp,Qe,Qf,Zd,Yc,Jy,Zk,Jv,Z6,Zs,Zj,Yg,Yh,Jt,Nat.reduceLeDiff,Yl,Yk,Yd,Zy,Ya,Yx,Qb,Qc,Z4,↓Xt,muC,↓callU,↓Ke,↓Kf,↓Kg,Q9,Xv,Ka,Xw,Xx,Xq,Xr,Kh,Xy,Xz,X0,Kb,X1,X2,pickF,Ki,somes,fresh,gids,putO,ren,renL,renO,Xo,tk3,tk9,tk22,tk33,dz33,tk38,tz38,dz38,tk57,tz57,dz57,kMarkN,kLineA,kClamp,aMove,aMv,mNone,aPos,c0,g1,g2,g3,← hr]
        (repeat' first | exact hf | exact hcn | exact hkn | exact hsm | exact ⟨hf, hcn⟩ | (show dynOrd _ _ = true; kernel_rfl) | exact subX_eq rfl rfl | exact trivial | apply And.intro | rfl | omega)
      | true =>
        rw [if_pos rfl]
        obtain ⟨q, hq⟩ : ∃ q, q = clampP ls (t1, t2) op := ⟨_, rfl⟩
        rw [← hq]
        obtain ⟨q1, q2⟩ := q
        by_cases hw : want = -1
        · have cw : (want == -1) = true := beq_iff_eq.2 hw
          rw [if_pos hw]
          simp (maxSteps := 4000000) only [↓Y3,↓Qs,↓Qq,↓Ym,↓Yp,↓Ys,↓Z1,↓Yr,↓Yn,Zv,Yj,Z7,gw,Zw,Qm,Q7,Yf,J1,↓chk,Y4,noW,↓Qt,↓Y5,↓Qu,Js,↓Zp,↓Yo,↓Yu,Qv,Pg.look,Ji,Qr,X7,J2,Yi,Y0,Zc,false_implies,implies_true,true_and,and_true,J3,J4,unc,gof,mux,Jm,Jn,Qw,Y6,Y7,Jj,Jk,strV,Yv,Qg,Xh,hdS,Jd,Xi,Z2,Yq,Z3,Jl,Nat.reduceAdd,Qd,Yt,ofV,Yy,J5,Xc,Xd,Xe,Qx,Qy,Y8,Qh,Qz,Q0,Q1,Yw,Qi,Qj,Xu,Qk,Q2,Q3,frzL,Q4,Q5,Pg.freeze,Zg,Y9,Jr,Qa,Z8,Q6,subL,Jw,Y2,Jb,↓J6,X3,X4,Kj,Jo,J7,X9,Xs,Q8,Yz,Ju,Xk,Xl,AV.cells,TK.cells,AV.definite,AV.leaf,AV.leafy,AV.pureLeaf,AV.pureB,Ql,lay,Xj,Op.operands,Zr,Zb,Za,Yb,Zh,reduceCtorEq,Nat.reduceEqDiff,Nat.reduceAdd,Zi,Ze,Zl,Zn,Zf,Ye,Z5,Zm,Zt,Zx,ite_true,ite_false,Option.some.injEq,Z9,AV.int.injEq,AV.agg.injEq,Prod.mk.injEq,Zu,Z0,Zo,and_self,exists_eq_left',Zq,Qn,J9,Zz,Xp,Jx,Xg,Qo,Qp,Qe,Qf,Zd,Yc,Jy,Jz,Jp,Xm,Xn,Jf,Jg,Jh,Zk,Jv,Z6,Zs,Zj,Yg,X8,Yh,Jt,Nat.reduceLeDiff,Yl,Yk,Yd,Zy,J0,Ya,Yx,Qb,Qc,Z4,↓Xt,muC,↓X5,↓callU,↓Ke,↓Kf,↓Kg,Q9,Xv,Ka,Xw,Xx,Xq,Xr,Kh,Xy,Xz,X0,Kb,X1,X2,pickF,Ki,somes,fresh,gids,putO,ren,renL,renO,Xo,tk3,tk9,tk22,tk28,tk33,dz33,tk38,tz38,dz38,tk57,tz57,dz57,kMarkN,kLineA,kClamp,aMove,aMv,mNone,aPos,c0,g1,g2,g3,← hr,← hq,cw]
          (repeat' first | exact hf | exact hcn | exact hkn | exact hsm | exact ⟨hf, hcn⟩ | (show dynOrd _ _ = true; kernel_rfl) | exact subX_eq rfl rfl | exact trivial | apply And.intro | rfl | omega)
        · have cw : (want == -1) = false := beq_eq_false_iff_ne.2 hw
          rw [if_neg hw]
          simp (maxSteps := 4000000) only [↓Y3,↓Qs,↓Qq,↓Ym,↓Yp,↓Ys,↓Z1,↓Yn,Zv,Yj,Z7,gw,Zw,Qm,Q7,Yf,J1,↓chk,Y4,noW,↓Qt,↓Y5,↓Qu,Js,↓Zp,↓Yo,↓Yu,Qv,Pg.look,Ji,Qr,X7,J2,Yi,Y0,Zc,false_implies,implies_true,true_and,and_true,J3,J4,unc,gof,mux,Jm,Jn,Qw,Y6,Y7,Jj,Jk,strV,Yv,Qg,Xh,hdS,Jd,Xi,Z2,Yq,Z3,Jl,Nat.reduceAdd,Qd,Yt,ofV,Yy,J5,Xc,Xd,Xe,Qx,Qy,Y8,Qh,Qz,Q0,Q1,Yw,Qi,Qj,Xu,Qk,Q2,Q3,frzL,Q4,Q5,Pg.freeze,Zg,Y9,Jr,Qa,Z8,Q6,subL,Jw,Y2,Jb,↓J6,X3,X4,Kj,Jo,J7,X9,Xs,Q8,Yz,Ju,Xk,Xl,AV.cells,TK.cells,AV.definite,AV.leaf,AV.leafy,AV.pureLeaf,AV.pureB,Ql,lay,Xj,Op.operands,Zr,Zb,Za,Yb,Zh,reduceCtorEq,Nat.reduceEqDiff,Nat.reduceAdd,Zi,Ze,Zl,Zn,Zf,Ye,Z5,Zm,Zt,Zx,ite_true,ite_false,Option.some.injEq,Z9,AV.int.injEq,AV.agg.injEq,Prod.mk.injEq,Zu,Z0,Zo,and_self,exists_eq_left',Zq,Qn,J9,Zz,Xp,Jx,Xg,Qo,Qp,Qe,Qf,Zd,Yc,Jy,Jz,Jp,Xm,Xn,Jf,Jg,Jh,Zk,Jv,Z6,Zs,Zj,Yg,X8,Yh,Jt,Nat.reduceLeDiff,Yl,Yk,Yd,Zy,J0,Ya,Yx,Qb,Qc,Z4,↓Xt,muC,↓X5,↓callU,↓Ke,↓Kf,↓Kg,Q9,Xv,Ka,Xw,Xx,Xq,Xr,Kh,Xy,Xz,X0,Kb,X1,X2,pickF,Ki,somes,fresh,gids,putO,ren,renL,renO,Xo,tk3,tk9,tk22,tk28,tk33,dz33,tk38,tz38,dz38,tk57,tz57,dz57,kMarkN,kLineA,kClamp,aMove,aMv,mNone,aPos,c0,g1,g2,g3,← hr,← hq,cw]
          (repeat' first | exact hf | exact hcn | exact hkn | exact hsm | exact ⟨hf, hcn⟩ | (show dynOrd _ _ = true; kernel_rfl) | exact subX_eq rfl rfl | exact trivial | apply And.intro | rfl | omega)
def kDoN : C1 := C1.mby (hCons (hP (.sl 1 []) cStrs) (hCons hCx (hCons (hP .id (cAgg lCm)) (hCons (hP .id cBool) (hCons (hP .id cNpt) hNil))))) (fun d => okText d.1 ∧ d.2.2.1.2.1 ≤ 9223372036854775807)
  (fun d => aMove (doN d.1 d.2.1 d.2.2.1 d.2.2.2.1).1) (fun d => cxH (doN d.1 d.2.1 d.2.2.1 d.2.2.2.1).2)
theorem ok_DoN : C1OK Try.prog 10 kDoN := C1OK.mby (by kernel_rfl) (fun d h => calls_DoN d.1 d.2.1 d.2.2.1 d.2.2.2.1 h.1 h.2) (fun _ _ => Nat.le_refl _)
end Go.Pg
namespace Go.Pg
open Go Go.Proofs

theorem calls_capped (n : Int) : CallsR Try.prog 32 [.int .i64 n] [] (.int .i64 (min n 1073741824)) [] := by
  refine callsR_of (mrg := true) (dyn := []) (CtrOK.nil _) mixed Try.func32 rfl (by simp [Try.ntmps32]) (by kernel_rfl) ?_
  rw [show Try.f32.results.toList = [.tmp 2] from by kernel_rfl]
  simp (maxSteps := 4000000) only [↓Y3,↓Qq,↓Ym,↓Z1,Zv,Yj,Z7,gw,Zw,↓chk,Y4,↓Qt,↓Y5,Js,↓Zp,↓Yu,Qv,Pg.look,Zc,implies_true,true_and,and_true,Qw,Y6,Y7,Yv,Z2,Z3,ofV,Yy,Xc,Xd,Xe,Qx,Qy,Y8,Qz,Q0,Q1,Yw,Q2,Q3,Q4,Q5,Pg.freeze,Zg,Y9,Qa,Z8,Q6,foldInts,Zh,reduceCtorEq,Nat.reduceEqDiff,Ze,Zf,Ye,Z5,ite_true,ite_false,Option.some.injEq,AV.int.injEq,and_self,exists_eq_left',Xf,Zd,Ya,Yx,Qb,Qc,Z4]
def kCapped : C1 := C1.by [.id] (lOne (cInt .i64)) (fun _ => True) (fun d => .int .i64 (min d 1073741824)) (fun _ => [])
theorem ok_capped : C1OK Try.prog 32 kCapped := C1OK.by (by kernel_rfl) (fun d _ => calls_capped d) (fun _ => rfl) (fun _ => rfl)
theorem calls_Rjump (p : Int × Int) : CallsR Try.prog 31 [aPos p] [] (aMove (jumpM p, true)) [] := by
  refine callsR_of (mrg := true) (dyn := []) (CtrOK.nil _) mixed Try.func31 rfl (by simp [Try.ntmps31]) (by kernel_rfl) ?_
  rw [show Try.f31.results.toList = [.cell 2 38, .tmp 3] from by kernel_rfl]
  simp (maxSteps := 4000000) only [↓Y3,↓Qq,↓Ym,↓Z1,Zv,Yj,Z7,gw,Zw,↓chk,Y4,noW,↓Qt,↓Y5,↓Qu,Js,↓Zp,↓Yu,Qv,Pg.look,Zc,implies_true,true_and,and_true,Qw,Y6,Y7,Yv,Z2,Z3,Nat.reduceAdd,ofV,Yy,Xc,Xd,Xe,Qx,Qy,Y8,Qz,Q0,Q1,Yw,Q2,Q3,frzL,Q4,Q5,Pg.freeze,Zg,Y9,Qa,Z8,Q6,subL,Y2,Jb,Yz,Ju,AV.cells,TK.cells,AV.definite,AV.leaf,AV.leafy,Ql,lay,Xj,Zb,Za,Zh,reduceCtorEq,Nat.reduceEqDiff,Nat.reduceAdd,Zi,Ze,Zl,Zn,Zf,Ye,Z5,Zm,Zt,Zx,ite_true,ite_false,Option.some.injEq,Z9,AV.agg.injEq,Zu,Z0,Zo,and_self,exists_eq_left',Xf,Zd,Zk,Jv,Z6,Zs,Zj,Yg,Yh,Nat.reduceLeDiff,Yl,Yk,Yd,Zy,Ya,Yx,Qb,Qc,Z4,Xo,tk28,dz28,tk38,tz38,dz38,aPos,aMove,aMv,jumpM]
def kRJump : C1 := C1.by [.id] (lOne cPos2) (fun _ => True) (fun d => aMove (jumpM d, true)) (fun _ => [])
theorem ok_Rjump : C1OK Try.prog 31 kRJump := C1OK.by (by kernel_rfl) (fun d _ => calls_Rjump d) (fun _ => rfl) (fun _ => rfl)

theorem hitB_end (p s : List UInt8) (k : Nat) (hp : 0 < p.length) (h : s.length < k + p.length) : hitB p s k = false := by
  unfold hitB prefB
  rw [decide_eq_false (by rw [List.length_drop]; omega), Bool.false_and]
theorem marksIn_end (p : List UInt8) (l : Nat) (s : List UInt8) (k : Nat) (hp : 0 < p.length) (h : s.length < k + p.length) (hk : k ≤ s.length) : marksIn (hitB p) l s s.length = marksIn (hitB p) l s k := by
  have : ∀ m, k + m ≤ s.length → marksIn (hitB p) l s (k + m) = marksIn (hitB p) l s k := by
    intro m
    induction m with
    | zero => intro _; rfl
    | succ m ih =>
      intro hm
      rw [show k + (m + 1) = (k + m) + 1 by omega, marksIn_succ, if_neg (by rw [hitB_end p s _ hp (by omega)]; simp)]
      exact ih (by omega)
  have := this (s.length - k) (by omega)
  rwa [show k + (s.length - k) = s.length by omega] at this
theorem hitB_cut (p s : List UInt8) (k : Nat) (h : k + p.length ≤ s.length) : (cutL s k (k + p.length) == p) = hitB p s k := by
  unfold hitB prefB cutL
  rw [decide_eq_true (by rw [List.length_drop]; omega), Bool.true_and, Nat.add_sub_cancel_left]

set_option maxRecDepth 20000 in
set_option maxHeartbeats 8000000 in
theorem calls_RAll (ls : Ls) (p : List UInt8) (hf : okText ls) (hpl : p.length ≤ 1099511627776) : CallsR Try.prog 25 [.sl 1 (ls.map .str), .str p] [] (.sl 2 ((hits p ls).map aPos)) [] := by
  refine callsR_of (mrg := true) (dyn := []) (CtrOK.nil _) mixed Try.func25 rfl (by simp [Try.ntmps25]) (by kernel_rfl) ?_
  rw [show Try.f25.results.toList = [.tmp 4] from by kernel_rfl]
  have hll := hf.1
  have hls := fits_getD hf
  cases hp : (p == []) with
  | true =>
    rw [hits, hp, if_pos rfl]
    simp (maxSteps := 4000000) only [↓Y3,↓Ym,↓Ys,↓Kk,↓Z1,Zv,Yj,Z7,gw,Zw,↓chk,Y4,↓Qt,↓Y5,Js,↓Zp,↓Yu,Qv,Zc,implies_true,true_and,Qw,Y6,Y7,ofV,Yy,Zf,Zx,ite_false,and_self,Zd,Ya,Yx,Qb,Qc,Z4]
    refine loopH_intro (α := Unit) (fun _ => ([(0, .sl 1 (ls.map .str)), (1, .str p), (4, .nls), (5, .nls), (6, .int .i64 0)], [])) (fun _ => True) (fun _ => 0) () trivial ?_ ?_
    · simp (maxSteps := 4000000) only [Pg.look,Yv,Z2,Z3,Qx,Qy,Y8,Qz,Q0,Q1,Yw,Q2,Q3,Q4,Q5,Pg.freeze,Zg,Y9,Qa,Z8,Q6,reduceCtorEq,Nat.reduceEqDiff,Ze,ite_true,ite_false,and_self,Xf]
    intro _ _
    simp (maxSteps := 4000000) only [↓Y3,↓Qq,↓Kl,↓Ym,↓Yp,↓Z1,↓Yn,Zv,Yj,Z7,gw,Zw,Qm,Q7,Yf,J1,↓chk,Y4,↓Qt,↓Y5,↓Zp,↓Kc,↓X6,↓Yu,Qv,Pg.look,Ji,Qr,X7,J2,Bool.and_false,Y0,Zc,implies_true,imp_self,true_and,and_true,J3,J4,unc,gof,mux,Jm,Jn,Qw,Y6,Y7,Jj,Jk,strV,Yv,Z2,Z3,Qd,Yt,ofV,Yy,J5,Xc,Xd,Xe,Qx,Qy,Y8,Qz,Q0,Q1,Yw,Q2,Q3,Q4,Q5,Pg.freeze,Zg,Y9,Qa,Z8,Q6,Jw,Op.operands,Zr,Zb,Za,Yb,Zh,reduceCtorEq,Nat.reduceEqDiff,Ze,Zf,Z5,ite_true,ite_false,Option.some.injEq,AV.int.injEq,Bool.if_false_right,decide_eq_true_eq,decide_eq_false_iff_not,Int.not_lt,Zo,and_self,exists_eq_left',Xf,Zq,Zz,Zd,Ya,Yx,Qb,Qc,Z4,tk22,hp]
  | false =>
    rw [hits, hp, if_neg (by simp)]
    have hp0 : 0 < p.length := List.length_pos_iff.2 (beq_eq_false_iff_ne.1 hp)
    simp (maxSteps := 4000000) only [↓Y3,↓Ym,↓Ys,↓Kk,↓Z1,Zv,Yj,Z7,gw,Zw,↓chk,Y4,↓Qt,↓Y5,Js,↓Zp,↓Yu,Qv,Zc,implies_true,true_and,Qw,Y6,Y7,ofV,Yy,Zf,Zx,ite_false,and_self,Zd,Ya,Yx,Qb,Qc,Z4]
    refine loopH_intro (α := Nat × List (Int × Int)) (fun x => ([(0, .sl 1 (ls.map .str)), (1, .str p), (4, .nls), (5, .own 0 2 x.2.length), (6, .int .i64 x.1)], [.arr 28 2 (x.2.map aPos)]))
      (fun x => x.1 ≤ ls.length ∧ x.2 = marksTo false (hitB p) ls x.1) (fun x => ls.length - x.1) (0, []) ⟨by simp, by simp [marksTo]⟩ ?_ ?_
    · simp (maxSteps := 4000000) only [Pg.look,Yv,Qg,Z2,Z3,Qx,Qy,Y8,Qh,Qz,Q0,Q1,Yw,Xa,Qi,Qj,Qk,Q2,Q3,Q4,Q5,Pg.freeze,Zg,Y9,Jr,Qa,Z8,Q6,Za,reduceCtorEq,Nat.reduceEqDiff,Zi,Ze,Zf,Z5,ite_true,ite_false,and_self,Kd,Jq,Y1]
    rintro ⟨i, out⟩ ⟨hx1, hx2⟩
    dsimp only at hx1 hx2
    have hol := marksTo_len false (hitB p) ls 65536 hls i
    rw [← hx2] at hol
    have hmul : i * (65536 + 1) ≤ 65536 * 65537 := Nat.mul_le_mul (by omega) (by omega)
    by_cases hi : i < ls.length
    · have c1 : decide ((i : Int) < (ls.length : Int)) = true := decide_eq_true (by omega)
      have hsl := hls i
      have hts := marksTo_succ false (hitB p) ls i
      rw [← hx2] at hts
      have hlm : lineMarks false (hitB p) i (ls.getD i []) = marksIn (hitB p) i (ls.getD i []) (ls.getD i []).length := by unfold lineMarks; simp
      have w1 : IntKind.i64.wrap ((i : Int) + 1) = ((i + 1 : Nat) : Int) := by rw [wrap64 (by omega) (by omega)]; rfl
      simp (maxSteps := 4000000) only [↓Y3,↓Qs,↓Ym,↓Yp,↓Ys,↓Kk,↓Z1,↓Yr,Zv,Yj,Z7,gw,Zw,Qm,Q7,Yf,J1,↓chk,Y4,↓Qt,↓Y5,↓Zp,↓Yu,Qv,Pg.look,Ji,Qr,X7,J2,Yi,Y0,Zc,Je,implies_true,true_and,and_true,J3,J4,unc,gof,mux,Jm,Jn,Qw,Y6,Y7,Jj,Jk,strV,Qd,Yt,ofV,Yy,J5,Jw,Op.operands,Zr,Zb,Za,Yb,Zh,reduceCtorEq,Nat.reduceEqDiff,ite_true,ite_false,Option.some.injEq,AV.int.injEq,Zo,and_self,exists_eq_left',Zq,Zz,Zd,Ya,Yx,Qb,Qc,Z4,tk22,hp,c1]
      refine loopH_intro (α := Nat × List (Int × Int)) (fun x => ([(0, .sl 1 (ls.map .str)), (1, .str p), (4, .nls), (5, .own 0 2 x.2.length), (6, .int .i64 i), (7, .int .i64 x.1)], [.arr 28 2 (x.2.map aPos)]))
        (fun x => x.1 ≤ (ls.getD i []).length ∧ x.2 = out ++ marksIn (hitB p) i (ls.getD i []) x.1) (fun x => (ls.getD i []).length - x.1) (0, out) ⟨by simp, by simp [marksIn]⟩ ?_ ?_
      · simp (maxSteps := 4000000) only [Pg.look,true_and,and_true,Yv,Qg,Z2,Z3,Qx,Qy,Y8,Qh,Qz,Q0,Q1,Yw,Xa,Qi,Qj,Qk,Q2,Q3,Q4,Q5,Pg.freeze,Zg,Y9,Jr,Qa,Z8,Q6,Za,reduceCtorEq,Nat.reduceEqDiff,Zi,Ze,ite_true,ite_false,and_self,Kd,Jq,Y1]
        exact subX_eq rfl (pureB_posL _)
      rintro ⟨k, out2⟩ ⟨hk1, hk2⟩
      dsimp only at hk1 hk2
      have hml := marksIn_len (hitB p) i (ls.getD i []) k
      have hol2 : out2.length ≤ 4295032832 + 65540 := by rw [hk2, List.length_append]; omega
      have w2 : IntKind.i64.wrap ((k : Int) + (p.length : Int)) = ((k + p.length : Nat) : Int) := by rw [wrap64 (by omega) (by omega)]; omega
      by_cases hk : k + p.length ≤ (ls.getD i []).length
      · have c2 : decide (((k + p.length : Nat) : Int) ≤ ((ls.getD i []).length : Int)) = true := decide_eq_true (by omega)
        have w3 : IntKind.i64.wrap ((k : Int) + 1) = ((k + 1 : Nat) : Int) := by rw [wrap64 (by omega) (by omega)]; rfl
        have hm1 := marksIn_succ (hitB p) i (ls.getD i []) k
        have hcut := hitB_cut p (ls.getD i []) k hk
        unfold cutL at hcut
        have hap := app1_pos2 out2 (i : Int) (k : Int)
        cases hg : hitB p (ls.getD i []) k with
        | true =>
          rw [hg] at hcut
          rw [if_pos hg] at hm1
          simp (maxSteps := 4000000) only [↓Y3,↓Qs,↓Ym,↓Yp,↓Ys,↓Z1,↓Yr,Zv,Yj,Z7,gw,Zw,Yf,↓chk,Y4,noW,↓Qt,↓Y5,↓Qu,↓Zp,↓Yo,↓Yu,Qv,Pg.look,Ji,Qr,X7,Zc,implies_true,true_and,and_true,Qw,Y6,Y7,Jj,Jk,strV,cutV,Yv,Qg,Z2,Z3,Nat.reduceAdd,ofV,Yy,Qx,Qy,Y8,Qh,Qz,Q0,Q1,Yw,Xa,Qi,Qj,Qk,Q2,Q3,Q4,Q5,Pg.freeze,Zg,Y9,Jr,Qa,Z8,Q6,srcV,srcE,appK,Y2,Jb,sliceS,AV.cells,TK.cells,AV.definite,AV.leaf,AV.leafy,lay,Xj,Zb,Za,Option.map_some,Option.map_none,Zh,reduceCtorEq,Nat.reduceEqDiff,Nat.reduceAdd,Zi,Ze,Zl,Zn,Zf,Ye,Z5,Zm,Zx,ite_true,ite_false,Option.some.injEq,Z9,AV.agg.injEq,Zu,Z0,Zo,and_self,exists_eq_left',Kd,Zq,rg1,Zd,beq_self_eq_true,Nat.reducePow,getD_str,Xb,Jv,Z6,Zs,Zj,Yg,Nat.reduceLeDiff,Yl,Y1,Km,Yk,Ya,Yx,Qb,Qc,Z4,tk9,dz9,tk22,tk28,tz28,eb28,tk61,w2,c2,w3,hcut,hap]
          exact ⟨⟨by omega, hi⟩, ⟨by omega, hi⟩, ⟨by omega, by omega, by omega⟩, ⟨by decide, by omega⟩, (k + 1, out2 ++ [((i : Int), (k : Int))]), ⟨by dsimp only; omega, by dsimp only; rw [hm1, hk2, List.append_assoc]⟩, by dsimp only; omega, subX_eq rfl (pureB_posL _), by simp, rfl⟩
        | false =>
          rw [hg] at hcut
          rw [if_neg (by rw [hg]; simp)] at hm1
          simp (maxSteps := 4000000) only [↓Y3,↓Qs,↓Ym,↓Yp,↓Ys,↓Z1,↓Yr,↓Yn,Zv,Yj,Z7,gw,Zw,Yf,↓chk,Y4,noW,↓Qt,↓Y5,↓Qu,↓Zp,↓Yo,↓Yu,Qv,Pg.look,Ji,Qr,X7,Zc,implies_true,true_and,and_true,Qw,Y6,Y7,Jj,Jk,strV,cutV,Yv,Qg,Z2,Z3,ofV,Yy,Qx,Qy,Y8,Qh,Qz,Q0,Q1,Yw,Xa,Qi,Qj,Qk,Q2,Q3,Q4,Q5,Pg.freeze,Zg,Y9,Jr,Qa,Z8,Q6,Y2,sliceS,AV.cells,TK.cells,Za,Option.map_some,Option.map_none,Zh,reduceCtorEq,Nat.reduceEqDiff,Zi,Ze,ite_true,ite_false,Option.some.injEq,and_self,exists_eq_left',Kd,Zq,Zd,getD_str,Xb,Jv,Y1,Ya,Yx,Qb,Qc,Z4,tk9,dz9,tk22,w2,c2,w3,hcut]
          exact ⟨⟨by omega, hi⟩, ⟨by omega, hi⟩, ⟨by omega, by omega, by omega⟩, (k + 1, out2), ⟨by dsimp only; omega, by dsimp only; rw [hm1, hk2]⟩, by dsimp only; omega, subX_eq rfl (pureB_posL _), rfl, rfl⟩
      · have c2 : decide (((k + p.length : Nat) : Int) ≤ ((ls.getD i []).length : Int)) = false := decide_eq_false (by omega)
        have hme := marksIn_end p i (ls.getD i []) k hp0 (by omega) hk1
        simp (maxSteps := 4000000) only [↓Y3,↓Qq,↓Kl,↓Ym,↓Yp,↓Z1,↓Yn,Zv,Yj,Z7,gw,Zw,Yf,↓chk,Y4,noW,↓Qt,↓Y5,↓Qu,↓Zp,↓Kc,↓Yo,↓X6,↓Yu,Qv,Pg.look,Ji,Qr,Zc,implies_true,true_and,and_true,Qw,Y6,Y7,Jj,Jk,Yv,Qg,Z2,Z3,ofV,Yy,Xc,Xd,Xe,Qx,Qy,Y8,Qh,Qz,Q0,Q1,Yw,Xa,Qi,Qj,Qk,Q2,Q3,Q4,Q5,Pg.freeze,Zg,List.foldl_cons,Y9,Jr,Qa,Z8,Q6,Y2,Jb,Yz,Ju,AV.cells,TK.cells,frzAt,Za,Zh,reduceCtorEq,Nat.reduceEqDiff,Zi,Ze,Zf,Zm,ite_true,ite_false,Option.some.injEq,AV.sl.injEq,Zu,Z0,Zo,and_self,exists_eq_left',Xf,Kd,Zq,resIn,List.contains_cons,Zd,Bool.or_false,beq_self_eq_true,getD_str,Xb,Y1,Ya,Yx,Qb,Qc,Z4,tk9,dz9,tk22,w2,c2,w1,pureB_posL]
        exact ⟨⟨by omega, hi⟩, (i + 1, out2), ⟨by dsimp only; omega, by dsimp only; rw [hts, hlm, hme, hk2]⟩, by dsimp only; omega, subX_eq rfl (pureB_posL _), rfl, rfl⟩
    · have c1 : decide ((i : Int) < (ls.length : Int)) = false := decide_eq_false (by omega)
      have hil : i = ls.length := by omega
      subst hil
      simp (maxSteps := 4000000) only [↓Y3,↓Qq,↓Kl,↓Ym,↓Yp,↓Z1,↓Yn,Zv,Yj,Z7,gw,Zw,Qm,Q7,Yf,J1,↓chk,Y4,↓Qt,↓Y5,↓Zp,↓Kc,↓X6,↓Yu,Qv,Pg.look,Ji,Qr,X7,J2,Yi,Zc,implies_true,imp_self,true_and,and_true,J3,J4,unc,gof,mux,Jm,Jn,Qw,Y6,Y7,Jj,Jk,strV,Yv,Z2,Z3,Qd,Yt,ofV,Yy,J5,Xc,Xd,Xe,Qx,Qy,Y8,Qz,Q0,Q1,Yw,Q2,Q3,Q4,Q5,Pg.freeze,Zg,List.foldl_cons,Y9,Qa,Z8,Q6,Jw,Jb,Yz,Ju,frzAt,Op.operands,Zr,Zb,Za,Yb,Zh,reduceCtorEq,Nat.reduceEqDiff,Ze,Zf,Zm,ite_true,ite_false,Option.some.injEq,AV.int.injEq,AV.sl.injEq,Zu,Z0,Zo,and_self,exists_eq_left',Xf,Zq,Zz,resIn,List.contains_cons,Zd,Bool.or_false,beq_self_eq_true,Ya,Yx,Qb,Qc,Z4,tk22,c1,pureB_posL]
      rw [hx2]
set_option maxHeartbeats 4000000 in
theorem calls_behindO (l : List (Int × Int)) (p : Int × Int) (same : Bool) (hb : l.length ≤ 1099511627776) : CallsR Try.prog 28 [.sl 2 (l.map aPos), aPos p, .bool same] [] (.own 0 2 (behind l p same).length) [.arr 28 2 ((behind l p same).map aPos)] := by
  obtain ⟨p1, p2⟩ := p
  refine callsR_of (mrg := true) (dyn := []) (CtrOK.cons ok_RLess (CtrOK.nil _)) mixed Try.func28 rfl (by simp [Try.ntmps28]) (by kernel_rfl) ?_
  rw [show Try.f28.results.toList = [.tmp 6] from by kernel_rfl]
  simp (maxSteps := 4000000) only [↓Y3,↓Ym,↓Ys,↓Kk,↓Z1,Zv,Yj,Z7,gw,Zw,↓chk,Y4,noW,↓Qt,↓Y5,↓Qu,Js,↓Zp,↓Yu,Qv,Pg.look,Zc,implies_true,true_and,Qw,Y6,Y7,Nat.reduceAdd,ofV,Yy,AV.cells,AV.definite,reduceCtorEq,Nat.reduceEqDiff,Nat.reduceAdd,Zi,Zn,Zf,Zx,ite_true,ite_false,and_self,Zd,Ya,Yx,Qb,Qc,Z4,aPos,kLess]
  refine loopH_intro (α := Nat × List (Int × Int)) (fun x => ([(0, .sl 2 (l.map aPos)), (2, .bool same), (4, .ptr 0 2 1 0 0), (6, .nls), (7, .own 1 2 x.2.length), (8, .int .i64 x.1)], [.arr 28 2 [.agg [.int .i64 p1, .int .i64 p2]], .arr 28 2 (x.2.map aPos)]))
    (fun x => x.1 ≤ l.length ∧ x.2 = (l.take x.1).filter (isBehind (p1, p2) same)) (fun x => l.length - x.1) (0, []) ⟨by simp, by simp⟩ ?_ ?_
  · simp (maxSteps := 4000000) only [Pg.look,true_and,and_true,Yv,Qg,Xh,hdS,Jd,Xi,Z2,Yq,Z3,Qx,Qy,Y8,Qh,Qz,Q0,Q1,Yw,Xa,Qi,Qj,Qk,Q2,Q3,Q4,Q5,Pg.freeze,Zg,Y9,Jr,Qa,Z8,Q6,AV.cells,AV.pureLeaf,AV.pureB,Zb,Za,reduceCtorEq,Nat.reduceEqDiff,Zi,Ze,Zl,Zf,Z5,Zx,ite_true,ite_false,Zu,Z0,Zo,and_self,Jq,Y1,Jc]
    exact ⟨rfl, subX_eq rfl rfl⟩
  · intro x hx
    obtain ⟨i, out⟩ := x
    simp only at hx
    obtain ⟨hx1, hx2⟩ := hx
    have hol : out.length ≤ i := by rw [hx2]; exact Nat.le_trans (List.length_filter_le _ _) (by rw [List.length_take]; omega)
    by_cases hi : i < l.length
    · have hct : decide ((i : Int) < (l.length : Int)) = true := decide_eq_true (by omega)
      have hf := filter_take (isBehind (p1, p2) same) l i (0, 0) hi
      simp (maxSteps := 4000000) only [↓Y3,↓Qs,↓Ym,↓Yp,↓Ys,↓Z1,↓Yr,iselH_if,Zv,Yj,Z7,gw,Zw,Qm,kselH_0,Q7,Yf,J1,↓chk,pickO,Y4,noW,↓Qt,↓Y5,↓Qu,↓Zp,↓Yo,↓Yu,Qv,Pg.look,Ji,Qr,cellsEq,leafEq,J2,Bool.and_true,Zc,implies_true,imp_self,true_and,and_true,J3,J4,unc,gof,mux,Jm,Jn,Qw,Y6,Y7,Jj,Jk,Yv,Qg,Xh,hdS,Jd,Xi,Z2,Yq,Z3,Nat.reduceAdd,Qd,Yt,ofV,Yy,J5,Qx,Qy,Y8,Qh,Qz,Q0,Q1,Yw,Xa,Qi,Qj,Qk,Q2,Q3,Q4,Q5,Pg.freeze,Zg,Y9,Jr,Qa,Z8,Q6,Jw,srcV,srcE,appK,Y2,Jb,↓J6,X3,X4,Kj,Jo,J7,Xs,Q8,Yz,Ju,Xk,Xl,AV.cells,TK.cells,AV.definite,AV.leaf,AV.leafy,AV.pureLeaf,AV.pureB,Op.operands,Zr,Zb,Za,Yb,Zh,reduceCtorEq,Nat.reduceEqDiff,Nat.reduceAdd,Zi,Ze,Zl,Zn,Zf,Ye,Z5,Zm,Zt,Zx,ite_true,ite_false,Option.some.injEq,Z9,Option.isSome_none,AV.int.injEq,Bool.if_false_right,Bool.if_true_left,Bool.decide_eq_true,Zu,Z0,Zo,and_self,Bool.not_eq_true',exists_eq_left',Zq,Qn,Zz,rg1,Qo,Qp,Qe,Qf,Zd,beq_self_eq_true,Yc,Nat.reducePow,Jz,Jp,Xm,Xn,Jf,Jg,Jh,Xb,Zk,Jv,Z6,Zj,Yh,Nat.reduceLeDiff,Yl,Y1,Km,Yd,Jc,Zy,J0,Ya,Yx,Qb,Qc,selC_true,Z4,pureC,↓Xt,muC,↓X5,Q9,tk28,dz28,eb28,eq28,tk61,aPos,kLess,getD_pos,app1_pos,hct]
      refine ⟨by omega, fun h => ⟨h, by omega, by omega⟩, fun h => ⟨h, fun h2 => by rw [h, h2]; rfl⟩, fun h => ?_, fun h => ?_⟩
      · rw [if_pos (show isBehind (p1, p2) same (l.getD i (0, 0)) = true from h)] at hf
        exact ⟨by omega, ⟨by decide, by omega⟩, (i + 1, out ++ [l.getD i (0, 0)]), ⟨by show i + 1 ≤ _; omega, by rw [hf, hx2]⟩, by show _ - (i + 1) < _; omega, rfl, ⟨subX_eq rfl rfl, subX_eq rfl (pureB_posL _)⟩, by simp, by rw [wrap64 (by omega) (by omega)]; rfl⟩
      · rw [if_neg (show ¬ isBehind (p1, p2) same (l.getD i (0, 0)) = true from by rw [Bool.not_eq_true]; exact h)] at hf
        exact ⟨(i + 1, out), ⟨by show i + 1 ≤ _; omega, by rw [hf, hx2]⟩, by show _ - (i + 1) < _; omega, rfl, ⟨subX_eq rfl rfl, subX_eq rfl (pureB_posL _)⟩, rfl, by rw [wrap64 (by omega) (by omega)]; rfl⟩
    · have hcf : decide ((i : Int) < (l.length : Int)) = false := decide_eq_false (by omega)
      simp (maxSteps := 4000000) only [↓Y3,↓Qq,↓Kl,↓Ym,↓Yp,↓Z1,↓Yn,Zv,Yj,Z7,gw,Zw,Yf,↓chk,Y4,↓Qt,↓Y5,↓Zp,↓Kc,↓X6,↓Yu,Qv,Pg.look,Ji,Qr,Zc,implies_true,true_and,and_true,Qw,Y6,Y7,Jj,Jk,Yv,Qg,Z2,Z3,Xc,Xd,Xe,Qx,Qy,Y8,Qh,Qz,Q0,Q1,Yw,Xa,Qi,Qj,Qk,Q2,Q3,Q4,Q5,Pg.freeze,Zg,Y9,Jr,Qa,Z8,Q6,Jw,Zb,Za,Zh,reduceCtorEq,Nat.reduceEqDiff,Ze,Zf,ite_true,ite_false,Option.some.injEq,AV.int.injEq,and_self,exists_eq_left',Kd,Zq,Zd,Y1,Ya,Yx,Qb,Qc,Z4,tk61,kLess,hcf]
      rw [List.take_of_length_le (by omega)] at hx2
      have hx3 : out = behind l (p1, p2) same := hx2
      rw [← hx3]
      exact ⟨subX_eq rfl (pureB_posL _), rfl⟩

set_option maxHeartbeats 4000000 in
theorem calls_aheadO (l : List (Int × Int)) (p : Int × Int) (hb : l.length ≤ 1099511627776) : CallsR Try.prog 29 [.sl 2 (l.map aPos), aPos p] [] (.own 0 2 (ahead l p).length) [.arr 28 2 ((ahead l p).map aPos)] := by
  obtain ⟨p1, p2⟩ := p
  refine callsR_of (mrg := true) (dyn := []) (CtrOK.cons ok_RLess (CtrOK.nil _)) mixed Try.func29 rfl (by simp [Try.ntmps29]) (by kernel_rfl) ?_
  rw [show Try.f29.results.toList = [.tmp 4] from by kernel_rfl]
  simp (maxSteps := 4000000) only [↓Y3,↓Ym,↓Ys,↓Kk,↓Z1,Zv,Yj,Z7,gw,Zw,↓chk,Y4,noW,↓Qt,↓Y5,↓Qu,Js,↓Zp,↓Yu,Qv,Pg.look,Ji,Qr,Zc,implies_true,true_and,and_true,Qw,Y6,Y7,Jj,Jk,Nat.reduceAdd,ofV,Yy,Jw,AV.cells,AV.definite,Zh,reduceCtorEq,Nat.reduceEqDiff,Nat.reduceAdd,Zi,Zn,Zf,Zx,ite_true,ite_false,Option.some.injEq,AV.int.injEq,and_self,exists_eq_left',Zq,Zd,Ya,Yx,Qb,Qc,Z4,tk61,aPos,kLess]
  have w0 : IntKind.i64.wrap ((l.length : Int) - 1) = (l.length : Int) - 1 := wrap64 (by omega) (by omega)
  rw [w0]
  refine loopH_intro (α := Nat × List (Int × Int)) (fun x => ([(0, .sl 2 (l.map aPos)), (3, .ptr 0 2 1 0 0), (4, .nls), (5, .own 1 2 x.2.length), (6, .int .i64 ((l.length : Int) - 1 - x.1))], [.arr 28 2 [.agg [.int .i64 p1, .int .i64 p2]], .arr 28 2 (x.2.map aPos)]))
    (fun x => x.1 ≤ l.length ∧ x.2 = (l.reverse.take x.1).filter (fun q => less q (p1, p2))) (fun x => l.length - x.1) (0, []) ⟨by simp, by simp⟩ ?_ ?_
  · simp (maxSteps := 4000000) only [Pg.look,true_and,and_true,Yv,Qg,Xh,hdS,Jd,Xi,Z2,Yq,Z3,Qx,Qy,Y8,Qh,Qz,Q0,Q1,Yw,Xa,Qi,Qj,Qk,Q2,Q3,Q4,Q5,Pg.freeze,Zg,Y9,Jr,Qa,Z8,Q6,AV.cells,AV.pureLeaf,AV.pureB,Zb,Za,reduceCtorEq,Nat.reduceEqDiff,Zi,Ze,Zl,Zf,Z5,Zx,ite_true,ite_false,Zu,Z0,Zo,and_self,Jq,Y1,Jc]
    exact ⟨rfl, subX_eq rfl rfl, by omega⟩
  · intro x hx
    obtain ⟨i, out⟩ := x
    simp only at hx
    obtain ⟨hx1, hx2⟩ := hx
    have hol : out.length ≤ i := by rw [hx2]; exact Nat.le_trans (List.length_filter_le _ _) (by rw [List.length_take]; omega)
    by_cases hi : i < l.length
    · have hct : decide ((l.length : Int) - 1 - (i : Int) ≥ 0) = true := decide_eq_true (by omega)
      have hf := filter_take (fun q => less q (p1, p2)) l.reverse i (0, 0) (by simpa using hi)
      rw [getD_rev l i (0, 0) hi] at hf
      have htn : ((l.length : Int) - 1 - (i : Int)).toNat = l.length - 1 - i := by omega
      simp (maxSteps := 4000000) only [↓Y3,↓Qs,↓Ym,↓Yp,↓Ys,↓Z1,↓Yr,iselH_if,Zv,Yj,Z7,gw,Zw,Yf,↓chk,Y4,noW,↓Qt,↓Y5,↓Qu,↓Zp,↓Yo,↓Yu,Qv,Pg.look,Ji,Qr,Zc,implies_true,true_and,and_true,Qw,Y6,Y7,Jj,Jk,Yv,Qg,Xh,hdS,Jd,Xi,Z2,Yq,Z3,Nat.reduceAdd,ofV,Yy,Qx,Qy,Y8,Qh,Qz,Q0,Q1,Yw,Xa,Qi,Qj,Qk,Q2,Q3,Q4,Q5,Pg.freeze,Zg,Y9,Jr,Qa,Z8,Q6,srcV,srcE,appK,Y2,Jb,↓J6,X3,X4,Kj,Jo,J7,Xs,Q8,Yz,Ju,Xk,Xl,AV.cells,TK.cells,AV.definite,AV.leaf,AV.leafy,AV.pureLeaf,AV.pureB,Zb,Za,Zh,reduceCtorEq,Nat.reduceEqDiff,Nat.reduceAdd,Zi,Ze,Zl,Zn,Zf,Ye,Z5,Zm,Zt,Zx,ite_true,ite_false,Option.some.injEq,Z9,Option.isSome_none,Zu,Z0,Zo,and_self,exists_eq_left',Zq,Qn,rg1,Qo,Qp,Qe,Qf,Zd,beq_self_eq_true,Yc,Nat.reducePow,Jz,Jp,Xm,Xn,Jf,Jg,Jh,Zk,Jv,Z6,Zj,Yh,Nat.reduceLeDiff,Yl,Y1,Km,Yd,Jc,Zy,J0,Ya,Yx,Qb,Qc,selC_true,Z4,pureC,↓Xt,muC,↓X5,Q9,tk28,dz28,eb28,tk61,aPos,kLess,getD_pos,app1_pos,hct,htn]
      refine ⟨by omega, fun h => ?_, fun h => ?_⟩
      · rw [if_pos (show less (l.getD (l.length - 1 - i) (0, 0)) (p1, p2) = true from h)] at hf
        exact ⟨by omega, ⟨by decide, by omega⟩, (i + 1, out ++ [l.getD (l.length - 1 - i) (0, 0)]), ⟨by show i + 1 ≤ _; omega, by rw [hf, hx2]⟩, by show _ - (i + 1) < _; omega, rfl, ⟨subX_eq rfl rfl, subX_eq rfl (pureB_posL _)⟩, by simp, by rw [wrap64 (by omega) (by omega)]; show (l.length : Int) - 1 - i - 1 = (l.length : Int) - 1 - ((i + 1 : Nat) : Int); omega⟩
      · rw [if_neg (show ¬ less (l.getD (l.length - 1 - i) (0, 0)) (p1, p2) = true from by rw [Bool.not_eq_true]; exact h)] at hf
        exact ⟨(i + 1, out), ⟨by show i + 1 ≤ _; omega, by rw [hf, hx2]⟩, by show _ - (i + 1) < _; omega, rfl, ⟨subX_eq rfl rfl, subX_eq rfl (pureB_posL _)⟩, rfl, by rw [wrap64 (by omega) (by omega)]; show (l.length : Int) - 1 - i - 1 = (l.length : Int) - 1 - ((i + 1 : Nat) : Int); omega⟩
    · have hcf : decide ((l.length : Int) - 1 - (i : Int) ≥ 0) = false := decide_eq_false (by omega)
      simp (maxSteps := 4000000) only [↓Y3,↓Qq,↓Kl,↓Ym,↓Yp,↓Z1,↓Yn,Zv,Yj,Z7,gw,Zw,Yf,↓chk,Y4,↓Qt,↓Y5,↓Zp,↓Kc,↓X6,↓Yu,Qv,Pg.look,Ji,Qr,Zc,implies_true,true_and,and_true,Qw,Y6,Y7,Jj,Jk,Yv,Qg,Z2,Z3,ofV,Yy,Xc,Xd,Xe,Qx,Qy,Y8,Qh,Qz,Q0,Q1,Yw,Xa,Qi,Qj,Qk,Q2,Q3,Q4,Q5,Pg.freeze,Zg,Y9,Jr,Qa,Z8,Q6,Zb,Za,reduceCtorEq,Nat.reduceEqDiff,Ze,Zf,ite_true,ite_false,and_self,Kd,Zd,Y1,Ya,Yx,Qb,Qc,Z4,kLess,hcf]
      rw [List.take_of_length_le (by simp; omega)] at hx2
      have hx3 : out = ahead l (p1, p2) := hx2
      rw [← hx3]
      exact ⟨subX_eq rfl (pureB_posL _), rfl⟩
def kRAll : C1 := C1.by [.sl 1 [], .id] (lCons cStrs (lOne cStr)) (fun d => okText d.1 ∧ d.2.length ≤ 1099511627776) (fun d => .sl 2 ((hits d.2 d.1).map aPos)) (fun _ => [])
theorem ok_RAll : C1OK Try.prog 25 kRAll := C1OK.by (by kernel_rfl) (fun d h => calls_RAll d.1 d.2 h.1 h.2) (fun _ => rfl) (fun _ => rfl)
def kBehindO : C1 := C1.by [.sl 2 [], .id, .id] (lCons (cSl 2 cPos2) (lCons cPos2 (lOne cBool))) (fun d => d.1.length ≤ 1099511627776) (fun d => .own 0 2 (behind d.1 d.2.1 d.2.2).length) (fun d => [.arr 28 2 ((behind d.1 d.2.1 d.2.2).map aPos)])
theorem ok_behindO : C1OK Try.prog 28 kBehindO := C1OK.by (by kernel_rfl) (fun d h => calls_behindO d.1 d.2.1 d.2.2 h) (fun _ => rfl) (fun _ => by simp only [Zu,Z0,okObj,pureB_posL,Zo])
def kAheadO : C1 := C1.by [.sl 2 [], .id] (lCons (cSl 2 cPos2) (lOne cPos2)) (fun d => d.1.length ≤ 1099511627776) (fun d => .own 0 2 (ahead d.1 d.2).length) (fun d => [.arr 28 2 ((ahead d.1 d.2).map aPos)])
theorem ok_aheadO : C1OK Try.prog 29 kAheadO := C1OK.by (by kernel_rfl) (fun d h => calls_aheadO d.1 d.2 h) (fun _ => rfl) (fun _ => by simp only [Zu,Z0,okObj,pureB_posL,Zo])
end Go.Pg
namespace Go.Pg
open Go Go.Proofs

def roundR (ls : Ls) (p : Int × Int) (pat : List UInt8) (back : Bool) : List (Int × Int) :=
  if back = true then ahead (hits pat ls) p ++ (hits pat ls).reverse.filter fun q => !less q p
  else behind (hits pat ls) p false ++ (hits pat ls).filter fun q => !less p q
theorem split_len (g : Int × Int → Bool) : ∀ (M : List (Int × Int)), (M.filter g).length + (M.filter fun q => !g q).length = M.length
  | [] => rfl
  | q :: M => by
    have := split_len g M
    rw [List.filter_cons, List.filter_cons]
    cases g q <;> simp only [Y0,Yi,Zc,if_true,if_false,Zn] <;> omega
theorem isBehind_f (p q : Int × Int) : isBehind p false q = less p q := by unfold isBehind; simp
theorem behind_f (M : List (Int × Int)) (p : Int × Int) : behind M p false = M.filter (less p) := by
  unfold behind
  congr 1
  funext q
  exact isBehind_f p q
theorem roundR_len (ls : Ls) (p : Int × Int) (pat : List UInt8) (back : Bool) : (roundR ls p pat back).length = (hits pat ls).length := by
  unfold roundR
  cases back with
  | true =>
    rw [if_pos rfl, List.length_append]
    have := split_len (fun q => less q p) (hits pat ls).reverse
    rw [List.length_reverse] at this
    exact this
  | false =>
    rw [if_neg (by simp), List.length_append, behind_f]
    exact split_len (less p) (hits pat ls)
def rsearchP (ls : Ls) (p : Int × Int) (pat : List UInt8) (back : Bool) (n : Int) : Mv × Bool := whenMay ls p n (pickS (roundR ls p pat back) n)

set_option maxRecDepth 20000 in
set_option maxHeartbeats 8000000 in
theorem calls_RSearch (ls : Ls) (p : Int × Int) (pat : List UInt8) (back : Bool) (n : Int) (hf : okText ls) (hpl : pat.length ≤ 1099511627776) : CallsR Try.prog 11 [.sl 1 (ls.map .str), aPos p, .str pat, .bool back, .int .i64 n] [] (aMove (rsearchP ls p pat back n)) [] := by
  obtain ⟨p1, p2⟩ := p
  refine callsR_of (mrg := true) (dyn := []) (CtrOK.cons ok_RAll (CtrOK.cons ok_may (CtrOK.cons ok_none (CtrOK.cons ok_behindO (CtrOK.cons ok_aheadO (CtrOK.cons ok_RLess (CtrOK.cons ok_capped (CtrOK.cons ok_Rjump (CtrOK.nil _))))))))) mixed Try.func11 rfl (by simp [Try.ntmps11]) (by kernel_rfl) ?_
  rw [show Try.f11.results.toList = [.cell 10 38, .tmp 11] from by kernel_rfl]
  unfold rsearchP whenMay
  have hml := hits_len pat ls hf
  have hrl := roundR_len ls (p1, p2) pat back
  cases hm : may ls (p1, p2) n with
  | false =>
    rw [if_neg (by simp)]
    generalize hM : hits pat ls = M at hml hrl ⊢
    simp (maxSteps := 4000000) only [↓Y3,↓Qq,↓Ym,↓Yp,↓Z1,↓Yr,Zv,Yj,Z7,gw,Zw,Qm,Q7,Yf,J1,↓chk,Y4,noW,↓Qt,↓Y5,↓Qu,Js,↓Zp,↓J8,↓Yu,Qv,Pg.look,Ji,Qr,J2,Yi,Y0,Zc,Je,false_implies,implies_true,imp_self,true_and,and_true,J3,J4,unc,gof,mux,Jm,Jn,Qw,Y6,Y7,Jj,Jk,Yv,Z2,Z3,Nat.reduceAdd,Qd,Yt,ofV,Yy,J5,Xc,Xd,Xe,Qx,Qy,Y8,Qz,Q0,Q1,Yw,Q2,Q3,frzL,Q4,Q5,Pg.freeze,Zg,Y9,Qa,Z8,Q6,subL,Jw,Y2,Jb,↓J6,X3,X4,Kj,Jo,J7,X9,Xs,Q8,Yz,Ju,Xk,Xl,AV.cells,TK.cells,AV.definite,AV.leaf,AV.leafy,Ql,lay,Op.operands,Call.operands,Ja,Zr,Zb,Za,Yb,Zh,reduceCtorEq,Nat.reduceEqDiff,Nat.reduceAdd,Zi,Ze,Zl,Zn,Zf,Ye,Z5,Zm,Zt,Zx,ite_true,ite_false,Option.some.injEq,AV.int.injEq,Prod.mk.injEq,Zu,Z0,Zo,and_self,exists_eq_left',Xf,Zq,Qn,Zz,Jx,Xg,Qo,lNil_dec,Qp,Qe,Qf,Zd,Yc,Jy,Jz,Jp,Xm,Xn,Jf,Jg,Jh,Zk,Jv,Z6,Zs,Zj,Yg,Yh,Yl,Yk,Yd,Zy,J0,Ya,Yx,Qb,Qc,Z4,↓Xt,muC,↓X5,Q9,Xo,tk28,dz28,tk38,tz38,dz38,tk61,kRAll,kMay,kNone,aPos,aMove,aMv,mNone,hm,hM]
    exact ⟨hf, hpl⟩
  | true =>
    rw [if_pos rfl]
    have hi := (may_iff _ _ _).1 hm
    dsimp only at hi
    unfold pickS roundR at *
    generalize hM : hits pat ls = M at hml hrl ⊢
    by_cases hL : M.length = 0
    · have c1 : ((M.length : Int) == 0) = true := by rw [hL]; rfl
      rw [if_pos (by rw [hrl]; exact hL)]
      simp (maxSteps := 4000000) only [↓Y3,↓Qq,↓Ym,↓Yp,↓Z1,↓Yr,Zv,Yj,Z7,gw,Zw,Qm,Q7,Yf,J1,↓chk,Y4,noW,↓Qt,↓Y5,↓Qu,Js,↓Zp,↓J8,↓Yu,Qv,Pg.look,Ji,Qr,J2,Yi,Y0,Zc,false_implies,implies_true,imp_self,true_and,and_true,J3,J4,unc,gof,mux,Jm,Jn,Qw,Y6,Y7,Jj,Jk,Yv,Z2,Z3,Nat.reduceAdd,Qd,Yt,ofV,Yy,J5,Xc,Xd,Xe,Qx,Qy,Y8,Qz,Q0,Q1,Yw,Q2,Q3,frzL,Q4,Q5,Pg.freeze,Zg,Y9,Qa,Z8,Q6,subL,Jw,Y2,Jb,↓J6,X3,X4,Kj,Jo,J7,X9,Xs,Q8,Yz,Ju,Xk,Xl,AV.cells,TK.cells,AV.definite,AV.leaf,AV.leafy,Ql,lay,Op.operands,Call.operands,Ja,Zr,Zb,Za,Yb,Zh,reduceCtorEq,Nat.reduceEqDiff,Nat.reduceAdd,Zi,Ze,Zl,Zn,Zf,Ye,Z5,Zm,Zt,Zx,ite_true,ite_false,Option.some.injEq,AV.int.injEq,Prod.mk.injEq,Zu,Z0,Zo,and_self,exists_eq_left',Xf,Zq,Qn,Zz,Jx,Xg,Qo,lNil_dec,Qp,Qe,Qf,Zd,Yc,Jy,Jz,Jp,Xm,Xn,Jf,Jg,Jh,Zk,Jv,Z6,Zs,Zj,Yg,Yh,Yl,Yk,Yd,Zy,J0,Ya,Yx,Qb,Qc,Z4,↓Xt,muC,↓X5,Q9,Xo,tk28,dz28,tk38,tz38,dz38,tk61,kRAll,kMay,kNone,aPos,aMove,aMv,mNone,hm,hM,c1]
      exact ⟨hf, hpl⟩
    · have c1 : ((M.length : Int) == 0) = false := beq_eq_false_iff_ne.2 (by omega)
      rw [if_neg (by rw [hrl]; exact hL)]
      have w1 : IntKind.i64.wrap (min n 1073741824 - 1) = min n 1073741824 - 1 := wrap64 (by omega) (by omega)
      cases back with
      | false =>
        rw [if_neg (by simp)] at hrl ⊢
        simp (maxSteps := 4000000) only [↓Y3,↓Qs,↓Ym,↓Yp,↓Ys,↓Kk,↓Z1,↓Yn,Zv,Yj,Z7,gw,Zw,Qm,Q7,Yf,J1,↓chk,Y4,noW,↓Qt,↓Y5,↓Qu,Js,↓Zp,↓Yu,Qv,Pg.look,Ji,Qr,J2,Yi,Y0,Zc,false_implies,implies_true,true_and,and_true,J3,J4,unc,gof,mux,Jm,Jn,Qw,Y6,Y7,Jj,Jk,Nat.reduceAdd,Qd,Yt,ofV,Yy,J5,Pg.freeze,Zg,Jw,Y2,Jb,↓J6,X3,X4,Kj,Jo,J7,X9,Xs,Q8,Yz,Ju,Xk,Xl,AV.cells,TK.cells,AV.definite,Op.operands,Call.operands,Ja,Zr,Zb,Za,Yb,Zh,reduceCtorEq,Nat.reduceEqDiff,Nat.reduceAdd,Zi,Ze,Zl,Zn,Zf,Ye,Z5,Zx,ite_true,ite_false,Option.some.injEq,AV.int.injEq,Prod.mk.injEq,Zo,and_self,exists_eq_left',Zq,Qn,J9,Zz,Jx,Xg,Qo,Qp,Qe,Qf,Zd,Yc,Jy,Jz,Jp,Xm,Xn,Jf,Jg,Jh,Zk,Jv,Z6,Zj,X8,Yh,Yl,Yd,Zy,J0,Ya,Yx,Qb,Qc,Z4,↓Xt,muC,↓X5,Q9,List.range'_succ,tk28,dz28,tz38,tk61,kRAll,kMay,kNone,kBehindO,aPos,aMove,aMv,hm,hM,c1,decL_posL]
        refine ⟨⟨hf, hpl⟩, by omega, ?_⟩
        refine loopH_intro (α := Nat × List (Int × Int)) (fun x => ([(3, .bool false), (4, .int .i64 n), (6, .ptr 0 2 1 0 0), (10, .ptr 1 5 1 0 0), (11, .bool false), (12, .sl 2 (M.map aPos)), (13, .own 2 2 x.2.length), (14, .int .i64 x.1)], [.arr 28 2 [.agg [.int .i64 p1, .int .i64 p2]], .arr 38 5 [.agg [.int .i64 0, .int .i64 0, .int .i64 0, .bool false, .int .i64 0]], .arr 28 2 (x.2.map aPos)]))
          (fun x => x.1 ≤ M.length ∧ x.2 = behind M (p1, p2) false ++ (M.take x.1).filter (fun q => !less (p1, p2) q)) (fun x => M.length - x.1) (0, behind M (p1, p2) false) ⟨by simp, by simp⟩ ?_ ?_
        · simp (maxSteps := 4000000) only [Pg.look,true_and,and_true,Yv,Qg,Xh,hdS,Jd,Xi,Z2,Yq,Z3,Nat.reduceAdd,Qx,Qy,Y8,Qh,Qz,Q0,Q1,Yw,Xa,Qi,Qj,Qk,Q2,Q3,Q4,Q5,Pg.freeze,Zg,Y9,Jr,Qa,Z8,Q6,AV.cells,AV.pureLeaf,AV.pureB,Zb,Za,reduceCtorEq,Nat.reduceEqDiff,Nat.reduceAdd,Zi,Ze,Zl,Zx,ite_true,ite_false,Zu,Z0,Zo,and_self,Jq,Y1,Jc]
          (repeat' first | exact hf | exact hpl | exact subX_eq rfl rfl | exact subX_eq rfl (pureB_posL _) | apply And.intro | rfl | omega)
        rintro ⟨i, out⟩ ⟨hx1, hx2⟩
        dsimp only at hx1 hx2
        have lb : (behind M (p1, p2) false).length ≤ M.length := List.length_filter_le _ _
        have lc : ((M.take i).filter (fun q => !less (p1, p2) q)).length ≤ i := Nat.le_trans (List.length_filter_le _ _) (by rw [List.length_take]; omega)
        have hol : out.length ≤ M.length + i := by rw [hx2, List.length_append]; omega
        by_cases hi2 : i < M.length
        · have c2 : decide ((i : Int) < (M.length : Int)) = true := decide_eq_true (by omega)
          have hft := filter_take (fun q => !less (p1, p2) q) M i (0, 0) hi2
          have hap := app1_pos out (M.getD i (0, 0))
          have w2 : IntKind.i64.wrap ((i : Int) + 1) = ((i + 1 : Nat) : Int) := by rw [wrap64 (by omega) (by omega)]; rfl
          have htn : ((i : Int)).toNat = i := by omega
          cases b1 : less (p1, p2) (M.getD i (0, 0)) with
          | true =>
            rw [if_neg (by simp only [b1]; simp)] at hft
            simp (maxSteps := 4000000) only [↓Y3,↓Qs,↓Ym,↓Yp,↓Ys,↓Z1,↓Yr,↓Yn,Zv,Yj,Z7,gw,Zw,Qm,kselH_0,Q7,Yf,J1,↓chk,pickO,Y4,noW,↓Qt,↓Y5,↓Qu,↓Zp,↓Yo,↓Yu,Qv,Pg.look,Ji,Qr,J2,Bool.and_false,Yi,Y0,Zc,Je,implies_true,imp_self,true_and,and_true,J3,J4,unc,gof,mux,Jm,Jn,Qw,Y6,Y7,Jj,Jk,Yv,Qg,Xh,hdS,Jd,Xi,Z2,Yq,Z3,Nat.reduceAdd,Qd,Yt,ofV,Yy,J5,Qx,Qy,Y8,Qh,Qz,Q0,Q1,Yw,Xa,Qi,Qj,Qk,Q2,Q3,Q4,Q5,Pg.freeze,Zg,Y9,Jr,Qa,Z8,Q6,Jw,Y2,Jb,↓J6,X3,X4,Jo,J7,Xs,Q8,Yz,Ju,Xk,Xl,AV.cells,TK.cells,AV.definite,AV.leaf,AV.leafy,AV.pureLeaf,AV.pureB,Ql,lay,Op.operands,Call.operands,Ja,Zr,Zb,Za,Yb,Zh,reduceCtorEq,Nat.reduceEqDiff,Nat.reduceAdd,Zi,Ze,Zl,Zn,Zf,Ye,Z5,Zm,Zt,Zx,ite_true,ite_false,Option.some.injEq,AV.int.injEq,Zu,Z0,Zo,and_self,exists_eq_left',Zq,Qn,Zz,Qo,Qp,Qe,Qf,Zd,Yc,Jz,Jp,Xm,Xn,Jf,Jg,Jh,Xb,Zk,Jv,Z6,Zs,Zj,Yg,Yh,Yl,Y1,Yk,Yd,Jc,Zy,J0,Ya,Yx,Qb,Qc,Z4,↓Xt,muC,↓X5,Q9,tk28,tz28,dz28,tk61,kLess,aPos,getD_pos,c2,b1,w2]
            refine ⟨by omega, (i + 1, out), ⟨by dsimp only; omega, by dsimp only; rw [hft]; exact hx2⟩, by dsimp only; omega, ?_⟩
            (repeat' first | exact subX_eq rfl rfl | exact subX_eq rfl (pureB_posL _) | apply And.intro | rfl | omega)
          | false =>
            rw [if_pos (by simp only [b1]; rfl)] at hft
            simp (maxSteps := 4000000) only [↓Y3,↓Qs,↓Ym,↓Yp,↓Ys,↓Z1,↓Yr,↓Yn,Zv,Yj,Z7,gw,Zw,Qm,kselH_0,Q7,Yf,J1,↓chk,pickO,Y4,noW,↓Qt,↓Y5,↓Qu,↓Zp,↓Yo,↓Yu,Qv,Pg.look,Ji,Qr,J2,Yi,Y0,Zc,Je,implies_true,imp_self,true_and,and_true,J3,J4,unc,gof,mux,Jm,Jn,Qw,Y6,Y7,Jj,Jk,Yv,Qg,Xh,hdS,Jd,Xi,Z2,Yq,Z3,Nat.reduceAdd,Qd,Yt,ofV,Yy,J5,Qx,Qy,Y8,Qh,Qz,Q0,Q1,Yw,Xa,Qi,Qj,Qk,Q2,Q3,Q4,Q5,Pg.freeze,Zg,Y9,Jr,Qa,Z8,Q6,Jw,srcV,srcE,appK,Y2,Jb,↓J6,X3,X4,Jo,J7,Xs,Q8,Yz,Ju,Xk,Xl,AV.cells,TK.cells,AV.definite,AV.leaf,AV.leafy,AV.pureLeaf,AV.pureB,Ql,lay,Op.operands,Call.operands,Ja,Zr,Zb,Za,Yb,Zh,reduceCtorEq,Nat.reduceEqDiff,Nat.reduceAdd,Zi,Ze,Zl,Zn,Zf,Ye,Z5,Zm,Zt,Zx,ite_true,ite_false,Option.some.injEq,Z9,AV.int.injEq,Zu,Z0,Zo,and_self,exists_eq_left',Zq,Qn,Zz,rg1,Qo,Qp,Qe,Qf,Zd,beq_self_eq_true,Yc,Nat.reducePow,Jz,Jp,Xm,Xn,Jf,Jg,Jh,Xb,Zk,Jv,Z6,Zs,Zj,Yg,Yh,Nat.reduceLeDiff,Yl,Y1,Km,Yk,Yd,Jc,Zy,J0,Ya,Yx,Qb,Qc,Z4,↓Xt,muC,↓X5,Q9,tk28,tz28,dz28,eb28,tk61,kLess,aPos,getD_pos,c2,b1,w2,hap]
            refine ⟨by omega, ⟨by decide, by omega⟩, (i + 1, out ++ [M.getD i (0, 0)]), ⟨by dsimp only; omega, by dsimp only; rw [hft, hx2, List.append_assoc]⟩, by dsimp only; omega, ?_⟩
            (repeat' first | exact subX_eq rfl rfl | exact subX_eq rfl (pureB_posL _) | apply And.intro | rfl | (simp; done) | omega)
        · have c2 : decide ((i : Int) < (M.length : Int)) = false := decide_eq_false (by omega)
          rw [List.take_of_length_le (by omega)] at hx2
          rw [← hx2] at hrl ⊢
          have w2 : (min n 1073741824 - 1).tmod (out.length : Int) = (min n 1073741824 - 1) % (out.length : Int) := Int.tmod_eq_emod_of_nonneg (by omega)
          have h1 := Int.emod_nonneg (min n 1073741824 - 1) (b := (out.length : Int)) (by omega)
          have h2 := Int.emod_lt_of_pos (min n 1073741824 - 1) (b := (out.length : Int)) (by omega)
          simp (maxSteps := 4000000) only [↓Y3,↓Qq,↓Kl,↓Ym,↓Yp,↓Z1,↓Yn,Zv,Yj,Z7,gw,Zw,Yf,↓chk,Y4,noW,↓Qt,↓Y5,↓Qu,↓Zp,↓Kc,↓X6,↓Yu,Qv,Pg.look,Ji,Qr,Zc,false_implies,implies_true,true_and,and_true,Qw,Y6,Y7,Jj,Jk,Yv,Z2,Z3,Nat.reduceAdd,ofV,Yy,Xc,Xd,Xe,Qx,Qy,Y8,Qz,Q0,Q1,Yw,Q2,Q3,frzL,Q4,Q5,Pg.freeze,Zg,Y9,Qa,Z8,Q6,subL,Jw,Y2,Jb,↓J6,X3,X4,Kj,Jo,J7,Xs,Q8,Yz,Ju,Xk,Xl,AV.cells,TK.cells,AV.leaf,AV.leafy,Ql,lay,Zb,Za,Zh,Nat.reduceEqDiff,Nat.reduceAdd,Zi,Ze,Zl,Zn,Zf,Ye,Z5,Zm,Zt,Zx,ite_true,ite_false,Option.some.injEq,AV.int.injEq,Prod.mk.injEq,ne_eq,Zu,Z0,Zo,and_self,exists_eq_left',Xf,Zq,Qn,Qo,Qp,Qe,Qf,Zd,Yc,Jz,Jp,Xm,Xn,Jf,Jg,Jh,Zk,Jv,Z6,Zs,Zj,Yg,Yh,Yl,Yk,Yd,Zy,J0,Ya,Yx,Qb,Qc,Z4,↓Xt,muC,↓X5,Q9,Xo,tk28,dz28,tk38,dz38,tk61,kCapped,kRJump,aPos,aMove,aMv,jumpM,getD_pos,c2,w1,w2]
          (repeat' first | exact trivial | apply And.intro | decide | omega)
      | true =>
        rw [if_pos rfl] at hrl ⊢
        simp (maxSteps := 4000000) only [↓Y3,↓Qs,↓Ym,↓Yp,↓Ys,↓Kk,↓Z1,↓Yr,↓Yn,Zv,Yj,Z7,gw,Zw,Qm,Q7,Yf,J1,↓chk,Y4,noW,↓Qt,↓Y5,↓Qu,Js,↓Zp,↓Yu,Qv,Pg.look,Ji,Qr,J2,Yi,Y0,Zc,false_implies,implies_true,true_and,and_true,J3,J4,unc,gof,mux,Jm,Jn,Qw,Y6,Y7,Jj,Jk,Nat.reduceAdd,Qd,Yt,ofV,Yy,J5,Pg.freeze,Zg,Jw,Y2,Jb,↓J6,X3,X4,Kj,Jo,J7,X9,Xs,Q8,Yz,Ju,Xk,Xl,AV.cells,TK.cells,AV.definite,Op.operands,Call.operands,Ja,Zr,Zb,Za,Yb,Zh,reduceCtorEq,Nat.reduceEqDiff,Nat.reduceAdd,Zi,Ze,Zl,Zn,Zf,Ye,Z5,Zx,ite_true,ite_false,Option.some.injEq,AV.int.injEq,Prod.mk.injEq,Zo,and_self,exists_eq_left',Zq,Qn,J9,Zz,Jx,Xg,Qo,Qp,Qe,Qf,Zd,Yc,Jy,Jz,Jp,Xm,Xn,Jf,Jg,Jh,Zk,Jv,Z6,Zj,X8,Yh,Yl,Yd,Zy,J0,Ya,Yx,Qb,Qc,Z4,↓Xt,muC,↓X5,Q9,List.range'_succ,tk28,dz28,tz38,tk61,kRAll,kMay,kNone,kBehindO,kAheadO,aPos,aMove,aMv,hm,hM,c1,decL_posL]
        refine ⟨⟨hf, hpl⟩, by omega, by omega, ?_⟩
        refine loopH_intro (α := Nat × List (Int × Int)) (fun x => ([(3, .bool true), (4, .int .i64 n), (6, .ptr 0 2 1 0 0), (10, .ptr 1 5 1 0 0), (11, .bool false), (12, .sl 2 (M.map aPos)), (13, .own 2 2 x.2.length), (14, .int .i64 x.1)], [.arr 28 2 [.agg [.int .i64 p1, .int .i64 p2]], .arr 38 5 [.agg [.int .i64 0, .int .i64 0, .int .i64 0, .bool false, .int .i64 0]], .arr 28 2 (x.2.map aPos)]))
          (fun x => x.1 ≤ M.length ∧ x.2 = ahead M (p1, p2) ++ (M.reverse.take x.1).filter (fun q => !less q (p1, p2))) (fun x => M.length - x.1) (0, ahead M (p1, p2)) ⟨by simp, by simp⟩ ?_ ?_
        · simp (maxSteps := 4000000) only [Pg.look,true_and,and_true,Yv,Qg,Xh,hdS,Jd,Xi,Z2,Yq,Z3,Nat.reduceAdd,Qx,Qy,Y8,Qh,Qz,Q0,Q1,Yw,Xa,Qi,Qj,Qk,Q2,Q3,Q4,Q5,Pg.freeze,Zg,Y9,Jr,Qa,Z8,Q6,AV.cells,AV.pureLeaf,AV.pureB,Zb,Za,reduceCtorEq,Nat.reduceEqDiff,Nat.reduceAdd,Zi,Ze,Zl,Zx,ite_true,ite_false,Zu,Z0,Zo,and_self,Jq,Y1,Jc]
          (repeat' first | exact hf | exact hpl | exact subX_eq rfl rfl | exact subX_eq rfl (pureB_posL _) | apply And.intro | rfl | omega)
        rintro ⟨i, out⟩ ⟨hx1, hx2⟩
        dsimp only at hx1 hx2
        have lb : (ahead M (p1, p2)).length ≤ M.length := Nat.le_trans (List.length_filter_le _ _) (by simp)
        have lc : ((M.reverse.take i).filter (fun q => !less q (p1, p2))).length ≤ i := Nat.le_trans (List.length_filter_le _ _) (by rw [List.length_take]; omega)
        have hol : out.length ≤ M.length + i := by rw [hx2, List.length_append]; omega
        by_cases hi2 : i < M.length
        · have c2 : decide ((i : Int) < (M.length : Int)) = true := decide_eq_true (by omega)
          have hft := filter_take (fun q => !less q (p1, p2)) M.reverse i (0, 0) (by simpa using hi2)
          rw [getD_rev M i (0, 0) hi2] at hft
          have w2 : IntKind.i64.wrap ((i : Int) + 1) = ((i + 1 : Nat) : Int) := by rw [wrap64 (by omega) (by omega)]; rfl
          have w3 : IntKind.i64.wrap ((M.length : Int) - 1) = (M.length : Int) - 1 := wrap64 (by omega) (by omega)
          have w4 : IntKind.i64.wrap ((M.length : Int) - 1 - (i : Int)) = (M.length : Int) - 1 - (i : Int) := wrap64 (by omega) (by omega)
          have htn : ((M.length : Int) - 1 - (i : Int)).toNat = M.length - 1 - i := by omega
          have hap := app1_pos out (M.getD (M.length - 1 - i) (0, 0))
          cases b1 : less (M.getD (M.length - 1 - i) (0, 0)) (p1, p2) with
          | true =>
            rw [if_neg (by simp only [b1]; simp)] at hft
            simp (maxSteps := 4000000) only [↓Y3,↓Qs,↓Ym,↓Yp,↓Ys,↓Z1,↓Yr,↓Yn,Zv,Yj,Z7,gw,Zw,Qm,kselH_0,Q7,Yf,J1,↓chk,pickO,Y4,noW,↓Qt,↓Y5,↓Qu,↓Zp,↓Yo,↓Yu,Qv,Pg.look,Ji,Qr,J2,Yi,Y0,Zc,Je,implies_true,imp_self,true_and,and_true,J3,J4,unc,gof,mux,Jm,Jn,Qw,Y6,Y7,Jj,Jk,Yv,Qg,Xh,hdS,Jd,Xi,Z2,Yq,Z3,Nat.reduceAdd,Qd,Yt,ofV,Yy,J5,Qx,Qy,Y8,Qh,Qz,Q0,Q1,Yw,Xa,Qi,Qj,Qk,Q2,Q3,Q4,Q5,Pg.freeze,Zg,Y9,Jr,Qa,Z8,Q6,Jw,Y2,Jb,↓J6,X3,X4,Jo,J7,Xs,Q8,Yz,Ju,Xk,Xl,AV.cells,TK.cells,AV.definite,AV.leaf,AV.leafy,AV.pureLeaf,AV.pureB,Ql,lay,Op.operands,Call.operands,Ja,Zr,Zb,Za,Yb,Zh,reduceCtorEq,Nat.reduceEqDiff,Nat.reduceAdd,Zi,Ze,Zl,Zn,Zf,Ye,Z5,Zm,Zt,Zx,ite_true,ite_false,Option.some.injEq,AV.int.injEq,Zu,Z0,Zo,and_self,exists_eq_left',Zq,Qn,Zz,Qo,Qp,Qe,Qf,Zd,Yc,Jz,Jp,Xm,Xn,Jf,Jg,Jh,Zk,Jv,Z6,Zs,Zj,Yg,Yh,Yl,Y1,Yk,Yd,Jc,Zy,J0,Ya,Yx,Qb,Qc,Z4,↓Xt,muC,↓X5,Q9,tk28,tz28,dz28,tk61,kLess,aPos,getD_pos,c2,b1,w2,w3,w4,htn]
            refine ⟨by omega, (i + 1, out), ⟨by dsimp only; omega, by dsimp only; rw [hft]; exact hx2⟩, by dsimp only; omega, ?_⟩
            (repeat' first | exact subX_eq rfl rfl | exact subX_eq rfl (pureB_posL _) | apply And.intro | rfl | omega)
          | false =>
            rw [if_pos (by simp only [b1]; rfl)] at hft
            simp (maxSteps := 4000000) only [↓Y3,↓Qs,↓Ym,↓Yp,↓Ys,↓Z1,↓Yr,Zv,Yj,Z7,gw,Zw,Qm,kselH_0,Q7,Yf,J1,↓chk,pickO,Y4,noW,↓Qt,↓Y5,↓Qu,↓Zp,↓Yo,↓Yu,Qv,Pg.look,Ji,Qr,J2,Yi,Y0,Zc,Je,implies_true,imp_self,true_and,and_true,J3,J4,unc,gof,mux,Jm,Jn,Qw,Y6,Y7,Jj,Jk,Yv,Qg,Xh,hdS,Jd,Xi,Z2,Yq,Z3,Nat.reduceAdd,Qd,Yt,ofV,Yy,J5,Qx,Qy,Y8,Qh,Qz,Q0,Q1,Yw,Xa,Qi,Qj,Qk,Q2,Q3,Q4,Q5,Pg.freeze,Zg,Y9,Jr,Qa,Z8,Q6,Jw,srcV,srcE,appK,Y2,Jb,↓J6,X3,X4,Jo,J7,Xs,Q8,Yz,Ju,Xk,Xl,AV.cells,TK.cells,AV.definite,AV.leaf,AV.leafy,AV.pureLeaf,AV.pureB,Ql,lay,Op.operands,Call.operands,Ja,Zr,Zb,Za,Yb,Zh,reduceCtorEq,Nat.reduceEqDiff,Nat.reduceAdd,Zi,Ze,Zl,Zn,Zf,Ye,Z5,Zm,Zt,Zx,ite_true,ite_false,Option.some.injEq,Z9,AV.int.injEq,Zu,Z0,Zo,and_self,exists_eq_left',Zq,Qn,Zz,rg1,Qo,Qp,Qe,Qf,Zd,beq_self_eq_true,Yc,Nat.reducePow,Jz,Jp,Xm,Xn,Jf,Jg,Jh,Zk,Jv,Z6,Zs,Zj,Yg,Yh,Nat.reduceLeDiff,Yl,Y1,Km,Yk,Yd,Jc,Zy,J0,Ya,Yx,Qb,Qc,Z4,↓Xt,muC,↓X5,Q9,tk28,tz28,dz28,eb28,tk61,kLess,aPos,getD_pos,c2,b1,w2,w3,w4,htn,hap]
            refine ⟨by omega, ⟨by decide, by omega⟩, (i + 1, out ++ [M.getD (M.length - 1 - i) (0, 0)]), ⟨by dsimp only; omega, by dsimp only; rw [hft, hx2, List.append_assoc]⟩, by dsimp only; omega, ?_⟩
            (repeat' first | exact subX_eq rfl rfl | exact subX_eq rfl (pureB_posL _) | apply And.intro | rfl | (simp; done) | omega)
        · have c2 : decide ((i : Int) < (M.length : Int)) = false := decide_eq_false (by omega)
          rw [List.take_of_length_le (by simp; omega)] at hx2
          rw [← hx2] at hrl ⊢
          have w2 : (min n 1073741824 - 1).tmod (out.length : Int) = (min n 1073741824 - 1) % (out.length : Int) := Int.tmod_eq_emod_of_nonneg (by omega)
          have h1 := Int.emod_nonneg (min n 1073741824 - 1) (b := (out.length : Int)) (by omega)
          have h2 := Int.emod_lt_of_pos (min n 1073741824 - 1) (b := (out.length : Int)) (by omega)
          simp (maxSteps := 4000000) only [↓Y3,↓Qq,↓Kl,↓Ym,↓Yp,↓Z1,↓Yn,Zv,Yj,Z7,gw,Zw,Yf,↓chk,Y4,noW,↓Qt,↓Y5,↓Qu,↓Zp,↓Kc,↓X6,↓Yu,Qv,Pg.look,Ji,Qr,Zc,false_implies,implies_true,true_and,and_true,Qw,Y6,Y7,Jj,Jk,Yv,Z2,Z3,Nat.reduceAdd,ofV,Yy,Xc,Xd,Xe,Qx,Qy,Y8,Qz,Q0,Q1,Yw,Q2,Q3,frzL,Q4,Q5,Pg.freeze,Zg,Y9,Qa,Z8,Q6,subL,Jw,Y2,Jb,↓J6,X3,X4,Kj,Jo,J7,Xs,Q8,Yz,Ju,Xk,Xl,AV.cells,TK.cells,AV.leaf,AV.leafy,Ql,lay,Zb,Za,Zh,Nat.reduceEqDiff,Nat.reduceAdd,Zi,Ze,Zl,Zn,Zf,Ye,Z5,Zm,Zt,Zx,ite_true,ite_false,Option.some.injEq,AV.int.injEq,Prod.mk.injEq,ne_eq,Zu,Z0,Zo,and_self,exists_eq_left',Xf,Zq,Qn,Qo,Qp,Qe,Qf,Zd,Yc,Jz,Jp,Xm,Xn,Jf,Jg,Jh,Zk,Jv,Z6,Zs,Zj,Yg,Yh,Yl,Yk,Yd,Zy,J0,Ya,Yx,Qb,Qc,Z4,↓Xt,muC,↓X5,Q9,Xo,tk28,dz28,tk38,dz38,tk61,kCapped,kRJump,aPos,aMove,aMv,jumpM,getD_pos,c2,w1,w2]
          (repeat' first | exact trivial | apply And.intro | decide | omega)
def kRSearch : C1 := C1.by [.sl 1 [], .id, .id, .id, .id] (lCons cStrs (lCons cPos2 (lCons cStr (lCons cBool (lOne (cInt .i64)))))) (fun d => okText d.1 ∧ d.2.2.1.length ≤ 1099511627776) (fun d => aMove (rsearchP d.1 d.2.1 d.2.2.1 d.2.2.2.1 d.2.2.2.2)) (fun _ => [])
theorem ok_RSearch : C1OK Try.prog 11 kRSearch := C1OK.by (by kernel_rfl) (fun d h => calls_RSearch d.1 d.2.1 d.2.2.1 d.2.2.2.1 d.2.2.2.2 h.1 h.2) (fun _ => rfl) (fun _ => rfl)
end Go.Pg
