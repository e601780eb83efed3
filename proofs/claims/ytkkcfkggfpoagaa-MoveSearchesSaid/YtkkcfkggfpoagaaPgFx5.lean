/- Motions by paragraphs: the program's. Where sentences begin: the parts. Where a pattern stands: the program's iterator; the word at a place. -/
import Derived.Test.YtkkcfkggfpoagaaPgFx4
import Derived.Test.YtkkcfkggfpoagaaPgFx1
open List renaming getElem?_cons_zero → Za, getElem?_cons_succ → Zc, append_nil → Zd, foldl_nil → Ze, length_nil → Zf, contains_nil → Zg, nil_append → Zh, cons_append → Zj, length_cons → Zo, map_cons → Zr, getD_cons_zero → Zs, map_nil → Zu, all_cons → Zv, take_succ_cons → Zy, all_nil → Z0, drop_succ_cons → Z1, length_map → Z5, set_cons_zero → Z6, drop_zero → Z7, range'_zero → Z8, getElem?_toArray → Z9, set_cons_succ → Yk, take_zero → Ym, take_nil → Y1, drop_nil → Y5, toList_toArray → Qw, contains_cons → J7, getElem?_map → Xw, foldl_cons → Kl
open Bool renaming false_eq_true → Zb, and_self → Zp, not_false → Y3, not_true → Y6, if_false_right → Jr, decide_eq_true → Js, true_eq_false → J6, or_false → Xj, and_true → Kh, not_eq_true' → Ki
open Option renaming getD_some → Zi, isSome_some → Yf, bind_some → Yu, map_some → J8, toArray_some → Ka, toArray_none → Kb, map_none → Kn
open Go.Pg renaming gselH_plain → Zk, closeQ_nil → Zm, diagQ_zero → Zn, subV_succ → Zq, thenA_normal → Zt, cselH_bool → Zw, bselH_false → Zx, pickOK_nil → Zz, wpH_region → Z3, selC_false → Z4, runH_cons → Ya, regH_none → Yb, iselH_false → Yc, stepEv → Yd, isNext → Ye, ofLeaf → Yh, alives → Yi, pickOf → Yj, runH_nil → Yl, justK → Yn, pureK → Yo, heapV → Yp, footV → Yq, nextF → Yr, nextG → Ys, iselH_true → Yt, res_succ → Yv, wpH_seq → Yw, ptrsE → Yx, subOs → Yy, subEv → Yz, ldCells → Y0, oneK → Y7, opnd → Y8, valV → Y9, wpH_cond → Qa, subA → Qb, subQ → Qc, frzO → Qd, subF → Qe, subG → Qf, frzE → Qg, frzC → Qh, frz0 → Qi, frzH → Qj, subM → Qk, lCons_dec → Qm, dec2_some → Qn, optP_some → Qo, optV_some → Qp, optH_some → Qq, wpYH_region0 → Qr, thenY_normal → Qs, heapK → Qt, intOp → Qu, wpH_block → Qv, wpA_H → Qx, normArgs → Qy, lOne_dec → Qz, C1by_pre → Q0, regYH_none → Q1, runYH_cons → Q2, yselH_none → Q3, binK → Q4, binV → Q5, wpH_ret → Q6, intV → Q8, res8_eq → Q9, C1by_ns → Ja, C1by_it → Jb, C1by_mu → Jc, runYH_nil → Je, wpH_skip → Jf, cInt_dec → Jg, wpYH_cond → Jh, gselH_if → Ji, shiftR → Jj, shift1 → Jk, C1by_r → Jl, C1by_H → Jm, wpYH_seq → Jn, oneYH_eq → Jo, resM → Jp, objAt → Jq, putCells → Ju, blockA_normal → Jv, callT → Jw, callC → Jx, callV → Jy, normA → Jz, callP → J0, wpYH_block → J1, closeQ_succ → J2, look_stripE → J3, getD_str → J4, envOf → J5, resL → J9, cAgg_dec → Xa, callH → Xb, retA → Xc, resK → Xd, tupA → Xe, buildL → Xf, thenA_ret → Xg, mergeable → Xh, wpYH_skip → Xi, blockA_exit → Xk, blockY_exit → Xl, endY_normal → Xm, dstOf → Xn, pickC → Xo, pickV → Xp, wpY_H → Xq, decL_str → Xr, endT_some → Xs, blockA_ret → Xt, thenA_exit → Xu, thenY_exit → Xv, aliveO → Xx, pairsO → Xy, assocN → Xz, pairsE → X0, pairsC → X1, pairs0 → X2, blockY_normal → X3, kselH_1 → X4, cSl_dec → X5, cBool_dec → X6, wpYH_exit → X7, strOp → X8, mapAt → X9, wpH_exit → Kc, normC → Kd, pairsA → Ke, mergeK → Kf, condsL → Kg, wpH_loop → Kj, cStr_dec → Kk, thenY_ret → Km, yieldH_some → Ko, wpYH_ret → Kp, yselH_some → Kq, blockY_ret → Kr, endY_ret → Ks
open Nat renaming zero_add → Zl, zero_lt_succ → Z2, sub_zero → Y2, le_refl → Y4, lt_irrefl → Q7, not_lt_zero → Jd
open Int renaming toNat_natCast → Yg, cast_ofNat_Int → Ql
open Array renaming toList_append → Jt
namespace Go.Pg
open Go Go.Proofs

/-- The first number from i on that fits. -/
def findUp (g : Nat → Bool) : Nat → Nat → Option Nat
  | 0, _ => none
  | k + 1, i => if g i = true then some i else findUp g k (i + 1)
/-- The last number below. -/
def findDn (g : Nat → Bool) : Nat → Option Nat
  | 0 => none
  | k + 1 => if g k = true then some k else findDn g k
theorem findUp_some {g : Nat → Bool} : ∀ {k i j : Nat}, findUp g k i = some j → i ≤ j ∧ j < i + k ∧ g j = true
  | 0, _, _, h => by cases h
  | k + 1, i, j, h => by
    unfold findUp at h
    split at h
    · next hg => cases h; exact ⟨by omega, by omega, hg⟩
    · have := findUp_some h; exact ⟨by omega, by omega, this.2.2⟩
theorem findDn_some {g : Nat → Bool} : ∀ {k j : Nat}, findDn g k = some j → j < k ∧ g j = true
  | 0, _, h => by cases h
  | k + 1, j, h => by
    unfold findDn at h
    split at h
    · next hg => cases h; exact ⟨by omega, hg⟩
    · have := findDn_some h; exact ⟨by omega, this.2⟩
def parEnd (ls : Ls) (i : Nat) : Bool := ls.getD i [] == [] && !(ls.getD (i - 1) [] == [])
def parBeg (ls : Ls) (i : Nat) : Bool := ls.getD i [] == [] && !(ls.getD (i + 1) [] == [])
def lastPos (ls : Ls) (op : Bool) : Int × Int := ((ls.length : Int) - 1, if op = true then ((ls.getD (ls.length - 1) []).length : Int) else max (((ls.getD (ls.length - 1) []).length : Int) - 1) 0)
def nextPar (ls : Ls) (l : Int) (op : Bool) : Int × Int := match findUp (parEnd ls) (ls.length - (l.toNat + 1)) (l.toNat + 1) with
  | some i => (i, 0)
  | none => lastPos ls op
def backPar (ls : Ls) (l : Int) : Int × Int := match findDn (parBeg ls) l.toNat with
  | some i => (i, 0)
  | none => (0, 0)
set_option maxRecDepth 20000 in
set_option maxHeartbeats 4000000 in
theorem calls_pnext (ls : Ls) (p : Int × Int) (op : Bool) (hf : okText ls) (h0 : 0 ≤ p.1) (h1 : p.1 < ls.length) :
    CallsR Try.prog 96 [.sl 1 (ls.map .str), aPos p, .bool op] [] (aPos (nextPar ls p.1 op)) [] := by
  refine callsR_of (mrg := true) (dyn := []) (CtrOK.nil _) mixed Try.func96 rfl (by simp [Try.ntmps96]) (by kernel_rfl) ?_
  rw [show Try.f96.results.toList = [.cell 6 28] from by kernel_rfl]
  obtain ⟨p1, p2⟩ := p
  dsimp only at h0 h1 ⊢
  obtain ⟨l, rfl⟩ := Int.eq_ofNat_of_zero_le h0
  have h8 := hf.1
  have w0 : IntKind.i64.wrap ((l : Int) + 1) = ((l + 1 : Nat) : Int) := by rw [wrap64 (by omega) (by omega)]; rfl
  have hR : nextPar ls (l : Int) op = match findUp (parEnd ls) (ls.length - (l + 1)) (l + 1) with
    | some i => (i, 0)
    | none => lastPos ls op := rfl
  generalize nextPar ls (l : Int) op = R at hR ⊢
  simp (maxSteps := 4000000) only [↓Qx,↓Yw,↓Qv,↓Kj,↓Z3,Zx,Yl,Ya,gw,Zk,↓chk,Yn,noW,↓Y7,↓Yo,↓Qt,J5,↓Zt,↓Yd,Y8,Pg.look,Q4,Qu,Zb,implies_true,true_and,and_true,Y9,Yp,Yq,Q5,Q8,Nat.reduceAdd,ofV,Yh,Y0,Jq,AV.cells,TK.cells,AV.definite,Za,Zi,reduceCtorEq,Nat.reduceEqDiff,Nat.reduceAdd,Zh,Zj,Zo,Zf,Zl,ite_true,ite_false,Option.some.injEq,and_self,exists_eq_left',Zg,Zs,Nat.add_zero,Z2,Yb,Ye,Yr,Ys,Z4,tk3,tk28,tz28,dz28,aPos,w0]
  refine loopH_intro (α := Nat) (fun i => ([(0, .sl 1 (ls.map .str)), (2, .bool op), (4, .ptr 0 2 1 0 0), (6, .ptr 1 2 1 0 0), (7, .int .i64 i)], [.arr 28 2 [.agg [.int .i64 l, .int .i64 p2]], .arr 28 2 [.agg [.int .i64 0, .int .i64 0]]]))
    (fun i => l + 1 ≤ i ∧ i ≤ ls.length ∧ R = match findUp (parEnd ls) (ls.length - i) i with
      | some i => (i, 0)
      | none => lastPos ls op) (fun i => ls.length - i) (l + 1) ⟨by omega, by omega, hR⟩ ?_ ?_
  · simp (maxSteps := 4000000) only [Pg.look,true_and,and_true,Yi,Xx,nxtQ,hdS,Ke,frzA,Zm,J2,Zn,Qb,Qc,Yx,Xy,Qd,Qe,Qf,Yj,Xz,X0,X1,X2,Qg,Qh,Qi,Qj,Pg.freeze,Ze,Yy,subO,Yz,Zq,Qk,AV.cells,AV.pureLeaf,AV.pureB,Zc,Za,reduceCtorEq,Nat.reduceEqDiff,Zh,Zd,Zj,Zl,ite_true,ite_false,Zv,Z0,Zp,and_self,Q7,Jd]
    exact ⟨by decide, subX_eq rfl rfl, subX_eq rfl rfl⟩
  rintro i ⟨hi1, hi2, hR⟩
  by_cases hlt : i < ls.length
  · have c1 : decide ((i : Int) < (ls.length : Int)) = true := decide_eq_true (by omega)
    have w1 : IntKind.i64.wrap ((i : Int) - 1) = ((i - 1 : Nat) : Int) := by rw [wrap64 (by omega) (by omega)]; omega
    have w2 : IntKind.i64.wrap ((i : Int) + 1) = ((i + 1 : Nat) : Int) := by rw [wrap64 (by omega) (by omega)]; rfl
    rw [show ls.length - i = (ls.length - (i + 1)) + 1 by omega, findUp] at hR
    cases hg : parEnd ls i with
    | true =>
      rw [if_pos hg] at hR
      subst hR
      have hg' := hg
      unfold parEnd at hg'
      simp (maxSteps := 4000000) only [↓Qx,↓Jf,↓Q6,↓Yw,↓Qa,↓Qv,↓Z3,↓Yt,Zx,Yl,Ya,gw,Zk,Ji,X4,Zw,gkind,↓chk,Yn,noW,↓Y7,↓Yo,↓Qt,↓Zt,↓Xg,↓Xt,↓Yd,Y8,Pg.look,Q4,Qu,X8,Xn,Zb,implies_true,imp_self,true_and,and_true,Xo,Xp,unc,gof,mux,Kf,Kg,Y9,Yp,Yq,Q5,Q8,strV,Yi,Zm,Zn,Nat.reduceAdd,Xh,J3,ofV,Yh,sameK,Xc,Xd,Xe,Qb,Qc,Yx,Qd,Qe,Qf,Yj,Qg,Qh,frzL,Qi,Qj,Pg.freeze,Ze,Yy,Yz,Zq,Qk,subL,slen,Y0,Jq,Yv,Jp,AV.cells,TK.cells,AV.definite,AV.leaf,AV.leafy,Ju,lay,Xf,Op.operands,Z9,Zc,Za,Yu,Zi,reduceCtorEq,Nat.reduceEqDiff,Nat.reduceAdd,Zh,Zd,Zj,Zo,Zf,Zr,Zu,Z6,Yk,Zl,ite_true,ite_false,Option.some.injEq,Yf,AV.int.injEq,AV.agg.injEq,Jr,Js,Zv,Z0,Zp,and_self,exists_eq_left',Zz,Z5,Qw,Zg,J4,Yg,Zs,cutL,Z7,Z1,Zy,Ym,Y2,Nat.reduceLeDiff,Y4,Y5,Y1,Z2,Yb,Ye,Yr,Ys,Z4,X9,tk9,dz9,tk22,tk28,tz28,dz28,aPos,c1,w1,hg']
      exact ⟨⟨by omega, by omega⟩, fun h => ⟨h, by omega, by omega⟩⟩
    | false =>
      rw [if_neg (by rw [hg]; simp)] at hR
      have hg' := hg
      unfold parEnd at hg'
      simp (maxSteps := 4000000) only [↓Qx,↓Jf,↓Yw,↓Qa,↓Qv,↓Z3,↓Yt,↓Yc,Zx,Yl,Ya,gw,Zk,Ji,X4,Zw,gkind,↓chk,Yn,noW,↓Y7,↓Yo,↓Qt,↓Zt,↓Jv,↓Yd,Y8,Pg.look,Q4,Qu,X8,Xn,Zb,implies_true,imp_self,true_and,and_true,Xo,Xp,unc,gof,mux,Kf,Kg,Y9,Yp,Yq,Q5,Q8,strV,Yi,Xx,nxtQ,hdS,Ke,frzA,Zm,J2,Zn,Xh,J3,ofV,Yh,sameK,Qb,Qc,Yx,Xy,Qd,Qe,Qf,Yj,Xz,X0,X1,X2,Qg,Qh,Qi,Qj,Pg.freeze,Ze,Yy,subO,Yz,Zq,Qk,slen,Y0,AV.cells,TK.cells,AV.pureLeaf,AV.pureB,Op.operands,Z9,Zc,Za,Yu,Zi,reduceCtorEq,Nat.reduceEqDiff,Zh,Zd,Zj,Zl,ite_true,ite_false,Option.some.injEq,AV.int.injEq,Jr,Js,Zv,Z0,Zp,and_self,exists_eq_left',Z5,Qw,Zg,J4,Yg,Q7,Jd,Yb,Ye,Yr,Ys,Z4,tk9,dz9,tk22,c1,w1,w2,hg']
      exact ⟨⟨by omega, by omega⟩, fun h => ⟨h, by omega, by omega⟩, i + 1, ⟨by omega, by omega, hR⟩, by omega, by decide, ⟨subX_eq rfl rfl, subX_eq rfl rfl⟩, rfl⟩
  · have c1 : decide ((i : Int) < (ls.length : Int)) = false := decide_eq_false (by omega)
    rw [show ls.length - i = 0 by omega, findUp] at hR
    subst hR
    have h6 := fits_getD hf (ls.length - 1)
    have w1 : IntKind.i64.wrap ((ls.length : Int) - 1) = (ls.length : Int) - 1 := wrap64 (by omega) (by omega)
    have e1 : ((ls.length : Int) - 1).toNat = ls.length - 1 := by omega
    have w2 : IntKind.i64.wrap (((ls.getD (ls.length - 1) []).length : Int) - 1) = ((ls.getD (ls.length - 1) []).length : Int) - 1 := wrap64 (by omega) (by omega)
    cases op with
    | true =>
      simp (maxSteps := 4000000) only [↓Qx,↓Jf,↓Q6,↓Kc,↓Yw,↓Qa,↓Z3,↓Yc,Zx,Yl,Ya,gw,Zk,Zw,↓chk,Yn,noW,↓Y7,↓Yo,↓Qt,↓Zt,↓Xu,↓Xk,↓Yd,Y8,Pg.look,Q4,Qu,Y6,Zb,implies_true,true_and,and_true,Y9,Yp,Yq,Q5,Q8,Yi,Zm,Zn,Nat.reduceAdd,ofV,Yh,Xc,Xd,Xe,Qb,Qc,Yx,Qd,Qe,Qf,Yj,Qg,Qh,frzL,Qi,Qj,Pg.freeze,Ze,Yy,Yz,Zq,Qk,subL,slen,Y0,Jq,Yv,Jp,AV.cells,TK.cells,AV.definite,AV.leaf,AV.leafy,Ju,lay,Xf,Zc,Za,Zi,reduceCtorEq,Nat.reduceEqDiff,Nat.reduceAdd,Zh,Zd,Zj,Zo,Zf,Zr,Zu,Z6,Yk,Zl,ite_true,ite_false,Option.some.injEq,Yf,AV.int.injEq,AV.agg.injEq,Zv,Z0,Zp,and_self,exists_eq_left',Zz,Z5,Zg,J4,Zs,cutL,Z7,Z1,Zy,Ym,Y2,Nat.reduceLeDiff,Y4,Y5,Y1,Z2,Yb,Ye,Yr,Ys,Z4,X9,tk9,dz9,tk22,tk28,tz28,dz28,aPos,lastPos,c1,w1,e1]
      exact ⟨by omega, by omega⟩
    | false =>
      simp (maxSteps := 4000000) only [↓Qx,↓Q6,↓Kc,↓Yw,↓Qa,↓Z3,↓Yt,↓Yc,Zx,Yl,Ya,gw,Zk,Zw,↓chk,Yn,noW,↓Y7,↓Yo,↓Qt,↓Zt,↓Xu,↓Xk,↓Yd,Y8,Pg.look,Q4,Qu,Y3,Zb,implies_true,true_and,and_true,Y9,Yp,Yq,Q5,Q8,Yi,Zm,Zn,Nat.reduceAdd,ofV,Yh,Xc,Xd,Xe,Qb,Qc,Yx,Qd,Qe,Qf,Yj,Qg,Qh,frzL,Qi,Qj,Pg.freeze,Ze,Yy,Yz,Zq,Qk,subL,slen,Y0,Jq,Yv,Jp,AV.cells,TK.cells,AV.definite,AV.leaf,AV.leafy,Ju,lay,Xf,foldInts,Zc,Za,Zi,reduceCtorEq,Nat.reduceEqDiff,Nat.reduceAdd,Zh,Zd,Zj,Zo,Zf,Zr,Zu,Z6,Yk,Zl,ite_true,ite_false,Option.some.injEq,Yf,AV.int.injEq,AV.agg.injEq,Zv,Z0,Zp,and_self,exists_eq_left',Zz,Z5,Zg,J4,Zs,cutL,Z7,Z1,Zy,Ym,Y2,Nat.reduceLeDiff,Y4,Y5,Y1,Z2,Yb,Ye,Yr,Ys,Z4,X9,tk3,tk9,dz9,tk22,tk28,tz28,dz28,aPos,lastPos,c1,w1,e1,w2]
      exact ⟨by omega, by omega⟩
def kPNext : C1 := C1.by [.sl 1 [], .id, .id] (lCons cStrs (lCons cPos2 (lOne cBool))) (fun d => okText d.1 ∧ 0 ≤ d.2.1.1 ∧ d.2.1.1 < d.1.length) (fun d => aPos (nextPar d.1 d.2.1.1 d.2.2)) (fun _ => [])
theorem ok_pnext : C1OK Try.prog 96 kPNext := C1OK.by (by kernel_rfl) (fun d h => calls_pnext d.1 d.2.1 d.2.2 h.1 h.2.1 h.2.2) (fun _ => rfl) (fun _ => rfl)

set_option maxRecDepth 20000 in
set_option maxHeartbeats 4000000 in
theorem calls_pback (ls : Ls) (p : Int × Int) (hf : okText ls) (h0 : 0 ≤ p.1) (h1 : p.1 < ls.length) :
    CallsR Try.prog 94 [.sl 1 (ls.map .str), aPos p] [] (aPos (backPar ls p.1)) [] := by
  refine callsR_of (mrg := true) (dyn := []) (CtrOK.nil _) mixed Try.func94 rfl (by simp [Try.ntmps94]) (by kernel_rfl) ?_
  rw [show Try.f94.results.toList = [.cell 4 28] from by kernel_rfl]
  obtain ⟨p1, p2⟩ := p
  dsimp only at h0 h1 ⊢
  obtain ⟨l, rfl⟩ := Int.eq_ofNat_of_zero_le h0
  have h8 := hf.1
  have w0 : IntKind.i64.wrap ((l : Int) - 1) = (l : Int) - 1 := wrap64 (by omega) (by omega)
  have hR : backPar ls (l : Int) = match findDn (parBeg ls) l with
    | some i => (i, 0)
    | none => (0, 0) := rfl
  generalize backPar ls (l : Int) = R at hR ⊢
  simp (maxSteps := 4000000) only [↓Qx,↓Yw,↓Qv,↓Kj,↓Z3,Zx,Yl,Ya,gw,Zk,↓chk,Yn,noW,↓Y7,↓Yo,↓Qt,J5,↓Zt,↓Yd,Y8,Pg.look,Q4,Qu,Zb,implies_true,true_and,and_true,Y9,Yp,Yq,Q5,Q8,Nat.reduceAdd,ofV,Yh,Y0,Jq,AV.cells,TK.cells,AV.definite,Za,Zi,reduceCtorEq,Nat.reduceEqDiff,Nat.reduceAdd,Zh,Zj,Zo,Zf,Zl,ite_true,ite_false,Option.some.injEq,and_self,exists_eq_left',Zg,Zs,Nat.add_zero,Z2,Yb,Ye,Yr,Ys,Z4,tk3,tk28,tz28,dz28,aPos,w0]
  refine loopH_intro (α := Nat) (fun i => ([(0, .sl 1 (ls.map .str)), (3, .ptr 0 2 1 0 0), (4, .ptr 1 2 1 0 0), (5, .int .i64 ((i : Int) - 1))], [.arr 28 2 [.agg [.int .i64 l, .int .i64 p2]], .arr 28 2 [.agg [.int .i64 0, .int .i64 0]]]))
    (fun i => i ≤ l ∧ R = match findDn (parBeg ls) i with
      | some i => (i, 0)
      | none => (0, 0)) (fun i => i) l ⟨by omega, hR⟩ ?_ ?_
  · simp (maxSteps := 4000000) only [Pg.look,true_and,and_true,Yi,Xx,nxtQ,hdS,Ke,frzA,Zm,J2,Zn,Qb,Qc,Yx,Xy,Qd,Qe,Qf,Yj,Xz,X0,X1,X2,Qg,Qh,Qi,Qj,Pg.freeze,Ze,Yy,subO,Yz,Zq,Qk,AV.cells,AV.pureLeaf,AV.pureB,Zc,Za,reduceCtorEq,Nat.reduceEqDiff,Zh,Zd,Zj,Zl,ite_true,ite_false,Zv,Z0,Zp,and_self,Q7,Jd]
    exact ⟨by decide, subX_eq rfl rfl, subX_eq rfl rfl⟩
  rintro i ⟨hi, hR⟩
  cases i with
  | succ i =>
    have e0 : (((i + 1 : Nat) : Int) - 1) = (i : Int) := by omega
    have c1 : decide ((i : Int) ≥ 0) = true := decide_eq_true (by omega)
    have w1 : IntKind.i64.wrap ((i : Int) + 1) = ((i + 1 : Nat) : Int) := by rw [wrap64 (by omega) (by omega)]; rfl
    have w2 : IntKind.i64.wrap ((i : Int) - 1) = (i : Int) - 1 := wrap64 (by omega) (by omega)
    rw [findDn] at hR
    cases hg : parBeg ls i with
    | true =>
      rw [if_pos hg] at hR
      subst hR
      have hg' := hg
      unfold parBeg at hg'
      simp (maxSteps := 4000000) only [↓Qx,↓Jf,↓Q6,↓Yw,↓Qa,↓Qv,↓Z3,↓Yt,Zx,Yl,Ya,gw,Zk,Ji,X4,Zw,gkind,↓chk,Yn,noW,↓Y7,↓Yo,↓Qt,↓Zt,↓Xg,↓Xt,↓Yd,Y8,Pg.look,Q4,Qu,X8,Xn,Zb,implies_true,imp_self,true_and,and_true,Xo,Xp,unc,gof,mux,Kf,Kg,Y9,Yp,Yq,Q5,Q8,strV,Yi,Zm,Zn,Nat.reduceAdd,Xh,J3,ofV,Yh,sameK,Xc,Xd,Xe,Qb,Qc,Yx,Qd,Qe,Qf,Yj,Qg,Qh,frzL,Qi,Qj,Pg.freeze,Ze,Yy,Yz,Zq,Qk,subL,Y0,Jq,Yv,Jp,AV.cells,TK.cells,AV.definite,AV.leaf,AV.leafy,Ju,lay,Xf,Op.operands,Z9,Zc,Za,Yu,Zi,reduceCtorEq,Nat.reduceEqDiff,Nat.reduceAdd,Zh,Zd,Zj,Zo,Zf,Zr,Zu,Z6,Yk,Zl,ite_true,ite_false,Option.some.injEq,Yf,AV.agg.injEq,Jr,Js,Zv,Z0,Zp,and_self,exists_eq_left',Zz,Z5,Qw,Zg,J4,Yg,Zs,cutL,Z7,Z1,Zy,Ym,Y2,Nat.reduceLeDiff,Y4,Y5,Y1,Z2,Yb,Ye,Yr,Ys,Z4,X9,tk9,dz9,tk22,tk28,tz28,dz28,aPos,e0,c1,w1,hg']
      exact ⟨⟨by omega, by omega⟩, fun h => ⟨h, by omega, by omega⟩⟩
    | false =>
      rw [if_neg (by rw [hg]; simp)] at hR
      have hg' := hg
      unfold parBeg at hg'
      simp (maxSteps := 4000000) only [↓Qx,↓Jf,↓Yw,↓Qa,↓Qv,↓Z3,↓Yt,↓Yc,Zx,Yl,Ya,gw,Zk,Ji,X4,Zw,gkind,↓chk,Yn,noW,↓Y7,↓Yo,↓Qt,↓Zt,↓Jv,↓Yd,Y8,Pg.look,Q4,Qu,X8,Xn,Zb,implies_true,imp_self,true_and,and_true,Xo,Xp,unc,gof,mux,Kf,Kg,Y9,Yp,Yq,Q5,Q8,strV,Yi,Xx,nxtQ,hdS,Ke,frzA,Zm,J2,Zn,Xh,J3,ofV,Yh,sameK,Qb,Qc,Yx,Xy,Qd,Qe,Qf,Yj,Xz,X0,X1,X2,Qg,Qh,Qi,Qj,Pg.freeze,Ze,Yy,subO,Yz,Zq,Qk,Y0,AV.cells,TK.cells,AV.pureLeaf,AV.pureB,Op.operands,Z9,Zc,Za,Yu,Zi,reduceCtorEq,Nat.reduceEqDiff,Zh,Zd,Zj,Zl,ite_true,ite_false,Option.some.injEq,Jr,Js,Zv,Z0,Zp,and_self,exists_eq_left',Z5,Qw,Zg,J4,Yg,Q7,Jd,Yb,Ye,Yr,Ys,Z4,tk9,dz9,tk22,e0,c1,w1,w2,hg']
      exact ⟨⟨by omega, by omega⟩, fun h => ⟨h, by omega, by omega⟩, i, ⟨by omega, hR⟩, by omega, by decide, ⟨subX_eq rfl rfl, subX_eq rfl rfl⟩, rfl⟩
  | zero =>
    rw [findDn] at hR
    subst hR
    simp (maxSteps := 4000000) only [↓Qx,↓Jf,↓Q6,↓Kc,↓Yw,↓Qa,↓Qv,↓Z3,iselH_if,Zx,Yl,Ya,gw,Zk,Ji,X4,Zw,gkind,↓chk,Yn,noW,↓Y7,↓Yo,↓Qt,↓Zt,↓Xg,↓Xu,↓Jv,↓Xt,↓Xk,↓Yd,Y8,Pg.look,Q4,Qu,X8,Xn,Zb,implies_true,imp_self,true_and,and_true,Xo,Xp,unc,gof,mux,Kf,Kg,Y9,Yp,Yq,Q5,Q8,strV,Yi,Xx,nxtQ,hdS,Ke,frzA,Zm,J2,Zn,Nat.reduceAdd,Xh,J3,ofV,Yh,sameK,Xc,Xd,Xe,Qb,Qc,Yx,Xy,Qd,Qe,Qf,Yj,Xz,X0,X1,X2,Qg,Qh,frzL,Qi,Qj,Pg.freeze,Ze,Yy,subO,Yz,Zq,Qk,subL,Y0,Jq,Yv,Jp,AV.cells,TK.cells,AV.definite,AV.leaf,AV.leafy,AV.pureLeaf,AV.pureB,Ju,lay,Xf,Op.operands,Z9,Zc,Za,Yu,Zi,reduceCtorEq,Nat.reduceEqDiff,Nat.reduceAdd,Zh,Zd,Zj,Zo,Zf,Zr,Zu,Z6,Yk,Zl,ite_true,ite_false,Option.some.injEq,Yf,AV.agg.injEq,Jr,Js,decide_eq_true_eq,decide_eq_false_iff_not,Int.not_le,Zv,Z0,Zp,and_self,exists_eq_left',Zz,Z5,Qw,Zg,Ql,J4,Zs,cutL,Z7,Z1,Zy,Ym,Y2,Nat.reduceLeDiff,Y4,Q7,Y5,Y1,Jd,Z2,Yb,Ye,Yr,Ys,Z4,X9,tk9,dz9,tk22,tk28,tz28,dz28,aPos]
    exact fun h => absurd h (by decide)
def kPBack : C1 := C1.by [.sl 1 [], .id] (lCons cStrs (lOne cPos2)) (fun d => okText d.1 ∧ 0 ≤ d.2.1 ∧ d.2.1 < d.1.length) (fun d => aPos (backPar d.1 d.2.1)) (fun _ => [])
theorem ok_pback : C1OK Try.prog 94 kPBack := C1OK.by (by kernel_rfl) (fun d h => calls_pback d.1 d.2 h.1 h.2.1 h.2.2) (fun _ => rfl) (fun _ => rfl)

theorem nextPar_in {ls : Ls} {l : Int} {op : Bool} (h0 : 0 < ls.length) : 0 ≤ (nextPar ls l op).1 ∧ (nextPar ls l op).1 < ls.length := by
  unfold nextPar
  split
  · next i hi => have := findUp_some hi; dsimp only; omega
  · unfold lastPos; dsimp only; omega
theorem backPar_in {ls : Ls} {l : Int} (h1 : l < ls.length) (h0 : 0 ≤ l) : 0 ≤ (backPar ls l).1 ∧ (backPar ls l).1 < ls.length := by
  unfold backPar
  split
  · next i hi => have := findDn_some hi; dsimp only; omega
  · dsimp only; omega
/-- So many steps, each of them forth. -/
def goes (step : Int × Int → Int × Int) (good : Int × Int → Int × Int → Bool) : Nat → Int × Int → Option (Int × Int)
  | 0, p => some p
  | k + 1, p => if good p (step p) = true then goes step good k (step p) else none
def jumpM (p : Int × Int) : Mv := (p, 0, true, -1)
def jumpO (r : Option (Int × Int)) : Mv × Bool := match r with
  | some q => (jumpM q, true)
  | none => mNone
def parNextP (ls : Ls) (p : Int × Int) (n : Int) (op : Bool) : Mv × Bool := whenMay ls p n (jumpO (goes (fun q => nextPar ls q.1 op) less n.toNat p))
def parBackP (ls : Ls) (p : Int × Int) (n : Int) : Mv × Bool := whenMay ls p n (jumpO (goes (fun q => backPar ls q.1) (fun a b => less b a) n.toNat p))

theorem calls_pfails (ls : Ls) (p : Int × Int) (n : Int) : CallsR Try.prog 93 [.sl 1 (ls.map .str), aPos p, .int .i64 n] [] (.bool (!may ls p n)) [] := by
  refine callsR_of (mrg := true) (dyn := []) (CtrOK.cons ok_CPlace (CtrOK.nil _)) mixed Try.func93 rfl (by simp [Try.ntmps93]) (by kernel_rfl) ?_
  rw [show Try.f93.results.toList = [.tmp 6] from by kernel_rfl]
  simp (maxSteps := 4000000) only [↓Qx,↓Q6,↓Yw,↓Z3,Zx,Yl,Ya,gw,Zk,Ji,X4,gkind,↓chk,Yn,noW,↓Y7,↓Yo,↓Qt,J5,↓Zt,↓Yd,Y8,Pg.look,Q4,Qu,Xn,Zb,implies_true,imp_self,true_and,and_true,Xo,Xp,unc,gof,mux,Kf,Kg,Y9,Yp,Yq,Q5,Q8,Yi,Zm,Zn,Nat.reduceAdd,Xh,J3,ofV,Yh,sameK,Xc,Xd,Xe,Qb,Qc,Yx,Qd,Qe,Qf,Yj,Qg,Qh,Qi,Qj,Pg.freeze,Ze,Yy,Yz,Zq,Qk,Y0,Jq,↓Jw,Jx,Jy,Qy,Jz,Kd,J9,Q9,Yv,Jp,Jj,Jk,AV.cells,TK.cells,AV.definite,Op.operands,Call.operands,Jt,Z9,Zc,Za,Yu,Zi,reduceCtorEq,Nat.reduceEqDiff,Nat.reduceAdd,Zh,Zd,Zj,Zo,Zf,Zr,Zu,Zl,ite_true,ite_false,Option.some.injEq,Bool.if_true_left,decide_eq_true_eq,decide_eq_false_iff_not,Int.not_lt,Zp,and_self,Ki,exists_eq_left',Zz,Jg,Qw,X5,Xa,Qz,Qm,Qn,Zg,Z8,Xr,Ja,Q0,Jl,Jm,Qo,Qp,Qq,Zs,cutL,Z7,Zy,Y2,Y4,Y1,Z2,Jb,Yb,Ye,Yr,Ys,Z4,↓msel,muC,↓J0,Jc,tk28,dz28,kRPlace,aPos]
  rw [Bool.eq_iff_iff]
  simp only [may,Bool.or_eq_true,decide_eq_true_eq,Ki,Bool.and_eq_false_iff,decide_eq_false_iff_not]
  constructor
  · rintro (h | h)
    · right; omega
    · left; exact h
  · rintro (h | h)
    · right; exact h
    · left; omega
theorem ok_pfails : C1OK Try.prog 93 kCFails := C1OK.by (by kernel_rfl) (fun d _ => calls_pfails d.1 d.2.1 d.2.2) (fun _ => rfl) (fun _ => rfl)
theorem calls_pjump (p : Int × Int) : CallsR Try.prog 95 [aPos p] [] (aMv (jumpM p)) [] := by
  refine callsR_of (mrg := true) (dyn := []) (CtrOK.nil _) mixed Try.func95 rfl (by simp [Try.ntmps95]) (by kernel_rfl) ?_
  rw [show Try.f95.results.toList = [.cell 2 38] from by kernel_rfl]
  simp (maxSteps := 4000000) only [↓Qx,↓Q6,↓Yw,↓Z3,Zx,Yl,Ya,gw,Zk,↓chk,Yn,noW,↓Y7,↓Yo,↓Qt,J5,↓Zt,↓Yd,Y8,Pg.look,Zb,implies_true,true_and,and_true,Y9,Yp,Yq,Yi,Zm,Zn,Nat.reduceAdd,ofV,Yh,Xc,Xd,Xe,Qb,Qc,Yx,Qd,Qe,Qf,Yj,Qg,Qh,frzL,Qi,Qj,Pg.freeze,Ze,Yy,Yz,Zq,Qk,subL,Y0,Jq,Yv,Jp,AV.cells,TK.cells,AV.definite,AV.leaf,AV.leafy,Ju,lay,Xf,Zc,Za,Zi,reduceCtorEq,Nat.reduceEqDiff,Nat.reduceAdd,Zh,Zd,Zj,Zo,Zf,Zr,Zu,Z6,Yk,Zl,ite_true,ite_false,Option.some.injEq,Yf,AV.agg.injEq,Zv,Z0,Zp,and_self,exists_eq_left',Zz,Zg,Zs,cutL,Z7,Z1,Zy,Ym,Y2,Nat.reduceLeDiff,Y4,Y5,Y1,Z2,Yb,Ye,Yr,Ys,Z4,X9,tk28,dz28,tk38,tz38,dz38,aPos,aMv,jumpM]
def kPJump : C1 := C1.by [.id] (lOne cPos2) (fun _ => True) (fun d => aMv (jumpM d)) (fun _ => [])
theorem ok_pjump : C1OK Try.prog 95 kPJump := C1OK.by (by kernel_rfl) (fun d _ => calls_pjump d) (fun _ => rfl) (fun _ => rfl)

set_option maxRecDepth 20000 in
set_option maxHeartbeats 4000000 in
theorem calls_ParNext (ls : Ls) (p : Int × Int) (n : Int) (op : Bool) (hf : okText ls) (hn : n ≤ 9223372036854775807) :
    CallsR Try.prog 86 [.sl 1 (ls.map .str), aPos p, .int .i64 n, .bool op] [] (aMove (parNextP ls p n op)) [] := by
  refine callsR_of (mrg := true) (dyn := []) (CtrOK.cons ok_pfails (CtrOK.cons ok_pnext (CtrOK.cons ok_Less (CtrOK.cons ok_pjump (CtrOK.nil _))))) mixed Try.func86 rfl (by simp [Try.ntmps86]) (by kernel_rfl) ?_
  rw [show Try.f86.results.toList = [.cell 8 38, .tmp 9] from by kernel_rfl]
  have hm := may_iff ls p n
  unfold parNextP whenMay
  cases hmm : may ls p n with
  | false =>
    rw [if_neg (by simp)]
    obtain ⟨p1, p2⟩ := p
    simp (maxSteps := 4000000) only [↓Qx,↓Q6,↓Yw,↓Qa,↓Z3,↓Yt,Zx,Yl,Ya,gw,Zk,Zw,↓chk,Yn,noW,↓Y7,↓Yo,↓Qt,J5,↓Zt,↓Xg,↓Yd,Y8,Pg.look,Y3,Zb,false_implies,implies_true,true_and,and_true,Y9,Yp,Yq,Yi,Zm,Zn,Nat.reduceAdd,ofV,Yh,Xc,Xd,Xe,Qb,Qc,Yx,Qd,Qe,Qf,Yj,Qg,Qh,frzL,Qi,Qj,Pg.freeze,Ze,Yy,Yz,Zq,Qk,subL,Y0,Jq,↓Jw,Jx,Jy,Xb,Qy,Jz,Kd,J9,Q9,Yv,Jp,Jj,Jk,AV.cells,TK.cells,AV.definite,AV.leaf,AV.leafy,Ju,lay,Xf,Zc,Za,Zi,reduceCtorEq,Nat.reduceEqDiff,Nat.reduceAdd,Zh,Zd,Zj,Zo,Zf,Zr,Zu,Z6,Yk,Zl,ite_true,ite_false,Option.some.injEq,Yf,AV.agg.injEq,Prod.mk.injEq,Zv,Z0,Zp,and_self,exists_eq_left',Zz,Jg,X5,Xa,Qz,Qm,Qn,Zg,Z8,Xr,Ja,Q0,Jl,Jm,Qo,Qp,Qq,Zs,cutL,Z7,Z1,Zy,Ym,Y2,Y4,Y5,Y1,Z2,Jb,Yb,Ye,Yr,Ys,Z4,↓msel,muC,↓J0,Jc,X9,tk28,dz28,tk38,tz38,dz38,kCFails,kPNext,kLess,kPJump,aPos,aMove,aMv,mNone,hmm]
  | true =>
    rw [if_pos rfl]
    have hi := hm.1 hmm
    obtain ⟨k0, rfl⟩ := Int.eq_ofNat_of_zero_le (show 0 ≤ n by omega)
    have hR : goes (fun q => nextPar ls q.1 op) (less) ((k0 : Int)).toNat p = goes (fun q => nextPar ls q.1 op) (less) k0 p := rfl
    rw [hR]
    clear hR
    obtain ⟨R, hR⟩ : ∃ R, R = goes (fun q => nextPar ls q.1 op) (less) k0 p := ⟨_, rfl⟩
    rw [← hR]
    obtain ⟨p1, p2⟩ := p
    simp (maxSteps := 4000000) only [↓Qx,↓Jf,↓Yw,↓Qa,↓Qv,↓Kj,↓Z3,↓Yc,Zx,Yl,Ya,gw,Zk,Zw,↓chk,Yn,noW,↓Y7,↓Yo,↓Qt,J5,↓Zt,↓Yd,Y8,Pg.look,Y6,Zb,false_implies,implies_true,true_and,and_true,Y9,Yp,Yq,Nat.reduceAdd,ofV,Yh,Pg.freeze,Ze,Y0,Jq,↓Jw,Jx,Jy,Xb,Qy,Jz,Kd,J9,Q9,Yv,Jp,Jj,Jk,AV.cells,TK.cells,AV.definite,Za,Zi,reduceCtorEq,Nat.reduceEqDiff,Nat.reduceAdd,Zh,Zd,Zj,Zo,Zf,Zr,Zu,Zl,ite_true,ite_false,Option.some.injEq,Prod.mk.injEq,and_self,exists_eq_left',Jg,X5,Xa,Qz,Qm,Qn,Zg,Z8,Xr,Ja,Q0,Jl,Jm,Qo,Qp,Qq,Zs,cutL,Z7,Zy,Y2,Y4,Y1,Z2,Jb,Yb,Ye,Yr,Ys,Z4,↓msel,muC,↓J0,Jc,tk28,dz28,tz38,kCFails,kPNext,kLess,kPJump,aPos,hmm]
    refine loopH_intro (α := Nat × Int × Int) (fun x => ([(0, .sl 1 (ls.map .str)), (2, .int .i64 x.1), (3, .bool op), (5, .ptr 0 2 1 0 0), (8, .ptr 1 5 1 0 0), (9, .bool false)], [.arr 28 2 [.agg [.int .i64 x.2.1, .int .i64 x.2.2]], .arr 38 5 [.agg [.int .i64 0, .int .i64 0, .int .i64 0, .bool false, .int .i64 0]]]))
      (fun x => x.1 ≤ k0 ∧ 0 ≤ x.2.1 ∧ x.2.1 < ls.length ∧ R = goes (fun q => nextPar ls q.1 op) (less) x.1 x.2) (fun x => x.1) (k0, p1, p2) ⟨Nat.le_refl _, hi.2.1, by have : p1.toNat < ls.length := hi.2.2.1; show p1 < _; omega, hR⟩ ?_ ?_
    · simp (maxSteps := 4000000) only [Pg.look,true_and,and_true,Yi,Xx,nxtQ,hdS,Ke,frzA,Zm,J2,Zn,Qb,Qc,Yx,Xy,Qd,Qe,Qf,Yj,Xz,X0,X1,X2,Qg,Qh,Qi,Qj,Pg.freeze,Ze,Yy,subO,Yz,Zq,Qk,AV.cells,AV.pureLeaf,AV.pureB,Zc,Za,reduceCtorEq,Nat.reduceEqDiff,Zh,Zd,Zj,Zl,ite_true,ite_false,Zv,Z0,Zp,and_self,Q7,Jd]
      exact ⟨by decide, subX_eq rfl rfl, subX_eq rfl rfl⟩
    rintro ⟨m, q1, q2⟩ ⟨hk, hq1, hq2, hR⟩
    dsimp only at hk hq1 hq2 hR
    cases m with
    | zero =>
      rw [goes] at hR
      subst hR
      simp (maxSteps := 4000000) only [↓Qx,↓Q6,↓Kc,↓Yw,↓Qa,↓Z3,↓Yc,Zx,Yl,Ya,gw,Zk,Zw,↓chk,Yn,noW,↓Y7,↓Yo,↓Qt,↓Zt,↓Xu,↓Xk,↓Yd,Y8,Pg.look,Q4,Qu,Zb,false_implies,implies_true,true_and,and_true,Y9,Yp,Yq,Q5,Q8,Yi,Zm,Zn,Nat.reduceAdd,ofV,Yh,Xc,Xd,Xe,Qb,Qc,Yx,Qd,Qe,Qf,Yj,Qg,Qh,frzL,Qi,Qj,Pg.freeze,Ze,Yy,Yz,Zq,Qk,subL,Y0,Jq,↓Jw,Jx,Jy,Xb,Qy,Jz,Kd,J9,Q9,Yv,Jp,Jj,Jk,AV.cells,TK.cells,AV.leaf,AV.leafy,Ju,lay,Zc,Za,Zi,reduceCtorEq,Nat.reduceEqDiff,Nat.reduceAdd,Zh,Zd,Zj,Zo,Zf,Zr,Zu,Z6,Yk,Zl,ite_true,ite_false,Option.some.injEq,Prod.mk.injEq,Zv,Z0,Zp,and_self,exists_eq_left',Zz,Jg,Xa,Qz,Qm,Qn,Zg,Ql,Z8,Ja,Q0,Jl,Jm,Qo,Qp,Qq,Zs,cutL,Z7,Z1,Zy,Ym,Y2,Y4,Y5,Y1,Z2,Jb,Yb,Ye,Yr,Ys,Z4,↓msel,muC,↓J0,Jc,X9,tk28,dz28,tk38,dz38,kCFails,kPNext,kLess,kPJump,aPos,aMove,aMv,jumpO,jumpM,Int.reduceGT,decide_false]
    | succ m =>
      have c1 : decide (((m + 1 : Nat) : Int) > 0) = true := decide_eq_true (by omega)
      have w1 : IntKind.i64.wrap (((m + 1 : Nat) : Int) - 1) = (m : Int) := by rw [wrap64 (by omega) (by omega)]; omega
      rw [goes] at hR
      dsimp only at hR
      have hin := nextPar_in (ls := ls) (l := q1) (op := op) (by omega)
      obtain ⟨t, ht⟩ : ∃ t, t = nextPar ls q1 op := ⟨_, rfl⟩
      rw [← ht] at hR hin
      obtain ⟨t1, t2⟩ := t
      cases hg : less (q1, q2) (t1, t2) with
      | true =>
        rw [if_pos hg] at hR
        simp (maxSteps := 4000000) only [↓Qx,↓Jf,↓Yw,↓Qa,↓Qv,↓Z3,↓Yt,↓Yc,Zx,Yl,Ya,gw,Zk,Zw,↓chk,Yn,noW,↓Y7,↓Yo,↓Qt,↓Zt,↓Jv,↓Yd,Y8,Pg.look,Q4,Qu,Y6,Zb,false_implies,implies_true,true_and,and_true,Y9,Yp,Yq,Q5,Q8,Yi,Xx,nxtQ,hdS,Ke,frzA,Zm,J2,Zn,Nat.reduceAdd,ofV,Yh,Qb,Qc,Yx,Xy,Qd,Qe,Qf,Yj,Xz,X0,X1,X2,Qg,Qh,Qi,Qj,Pg.freeze,Ze,Yy,subO,Yz,Zq,Qk,Y0,Jq,↓Jw,Jx,Jy,Xb,Qy,Jz,Kd,J9,Q9,Yv,Jp,Jj,Jk,AV.cells,TK.cells,AV.definite,AV.leaf,AV.leafy,AV.pureLeaf,AV.pureB,Ju,lay,Zc,Za,Zi,reduceCtorEq,Nat.reduceEqDiff,Nat.reduceAdd,Zh,Zd,Zj,Zo,Zf,Zr,Zu,Z6,Yk,Zl,ite_true,ite_false,Option.some.injEq,Prod.mk.injEq,Zv,Z0,Zp,and_self,exists_eq_left',Jg,X6,X5,Xa,Qz,Qm,Qn,Zg,Z8,Xr,Ja,Q0,Jl,Jm,Qo,Qp,Qq,Zs,cutL,Z7,Z1,Zy,Ym,Y2,Y4,Q7,Y5,Y1,Jd,Z2,Jb,Yb,Ye,Yr,Ys,Z4,↓msel,muC,↓J0,Jc,tk28,tz28,dz28,kCFails,kPNext,kLess,kPJump,aPos,aMv,jumpM,c1,w1,← ht,hg]
        exact ⟨⟨hf, hq1, hq2⟩, (m, t1, t2), ⟨by dsimp only; omega, hin.1, hin.2, hR⟩, by dsimp only; omega, by decide, ⟨subX_eq rfl rfl, subX_eq rfl rfl⟩, rfl⟩
      | false =>
        rw [if_neg (by rw [hg]; simp)] at hR
        subst hR
        simp (maxSteps := 4000000) only [↓Qx,↓Jf,↓Q6,↓Yw,↓Qa,↓Qv,↓Z3,↓Yt,Zx,Yl,Ya,gw,Zk,Zw,↓chk,Yn,noW,↓Y7,↓Yo,↓Qt,↓Zt,↓Xg,↓Xt,↓Yd,Y8,Pg.look,Q4,Qu,Y3,Zb,false_implies,implies_true,true_and,and_true,Y9,Yp,Yq,Q5,Q8,Yi,Zm,Zn,Nat.reduceAdd,ofV,Yh,Xc,Xd,Xe,Qb,Qc,Yx,Qd,Qe,Qf,Yj,Qg,Qh,frzL,Qi,Qj,Pg.freeze,Ze,Yy,Yz,Zq,Qk,subL,Y0,Jq,↓Jw,Jx,Jy,Xb,Qy,Jz,Kd,J9,Q9,Yv,Jp,Jj,Jk,AV.cells,TK.cells,AV.definite,AV.leaf,AV.leafy,Ju,lay,Xf,Zc,Za,Zi,reduceCtorEq,Nat.reduceEqDiff,Nat.reduceAdd,Zh,Zd,Zj,Zo,Zf,Zr,Zu,Z6,Yk,Zl,ite_true,ite_false,Option.some.injEq,Yf,AV.agg.injEq,Prod.mk.injEq,Zv,Z0,Zp,and_self,exists_eq_left',Zz,Jg,X6,X5,Xa,Qz,Qm,Qn,Zg,Z8,Xr,Ja,Q0,Jl,Jm,Qo,Qp,Qq,Zs,cutL,Z7,Z1,Zy,Ym,Y2,Y4,Y5,Y1,Z2,Jb,Yb,Ye,Yr,Ys,Z4,↓msel,muC,↓J0,Jc,X9,tk28,tz28,dz28,tk38,tz38,dz38,kCFails,kPNext,kLess,kPJump,aPos,aMove,aMv,jumpO,jumpM,mNone,c1,← ht,hg]
        exact ⟨hf, hq1, hq2⟩

set_option maxRecDepth 20000 in
set_option maxHeartbeats 4000000 in
theorem calls_ParBack (ls : Ls) (p : Int × Int) (n : Int) (hf : okText ls) (hn : n ≤ 9223372036854775807) :
    CallsR Try.prog 85 [.sl 1 (ls.map .str), aPos p, .int .i64 n] [] (aMove (parBackP ls p n)) [] := by
  refine callsR_of (mrg := true) (dyn := []) (CtrOK.cons ok_pfails (CtrOK.cons ok_pback (CtrOK.cons ok_Less (CtrOK.cons ok_pjump (CtrOK.nil _))))) mixed Try.func85 rfl (by simp [Try.ntmps85]) (by kernel_rfl) ?_
  rw [show Try.f85.results.toList = [.cell 6 38, .tmp 7] from by kernel_rfl]
  have hm := may_iff ls p n
  unfold parBackP whenMay
  cases hmm : may ls p n with
  | false =>
    rw [if_neg (by simp)]
    obtain ⟨p1, p2⟩ := p
    simp (maxSteps := 4000000) only [↓Qx,↓Q6,↓Yw,↓Qa,↓Z3,↓Yt,Zx,Yl,Ya,gw,Zk,Zw,↓chk,Yn,noW,↓Y7,↓Yo,↓Qt,J5,↓Zt,↓Xg,↓Yd,Y8,Pg.look,Y3,Zb,false_implies,implies_true,true_and,and_true,Y9,Yp,Yq,Yi,Zm,Zn,Nat.reduceAdd,ofV,Yh,Xc,Xd,Xe,Qb,Qc,Yx,Qd,Qe,Qf,Yj,Qg,Qh,frzL,Qi,Qj,Pg.freeze,Ze,Yy,Yz,Zq,Qk,subL,Y0,Jq,↓Jw,Jx,Jy,Xb,Qy,Jz,Kd,J9,Q9,Yv,Jp,Jj,Jk,AV.cells,TK.cells,AV.definite,AV.leaf,AV.leafy,Ju,lay,Xf,Zc,Za,Zi,reduceCtorEq,Nat.reduceEqDiff,Nat.reduceAdd,Zh,Zd,Zj,Zo,Zf,Zr,Zu,Z6,Yk,Zl,ite_true,ite_false,Option.some.injEq,Yf,AV.agg.injEq,Prod.mk.injEq,Zv,Z0,Zp,and_self,exists_eq_left',Zz,Jg,X5,Xa,Qz,Qm,Qn,Zg,Z8,Xr,Ja,Q0,Jl,Jm,Qo,Qp,Qq,Zs,cutL,Z7,Z1,Zy,Ym,Y2,Y4,Y5,Y1,Z2,Jb,Yb,Ye,Yr,Ys,Z4,↓msel,muC,↓J0,Jc,X9,tk28,dz28,tk38,tz38,dz38,kCFails,kPBack,kLess,kPJump,aPos,aMove,aMv,mNone,hmm]
  | true =>
    rw [if_pos rfl]
    have hi := hm.1 hmm
    obtain ⟨k0, rfl⟩ := Int.eq_ofNat_of_zero_le (show 0 ≤ n by omega)
    have hR : goes (fun q => backPar ls q.1) (fun a b => less b a) ((k0 : Int)).toNat p = goes (fun q => backPar ls q.1) (fun a b => less b a) k0 p := rfl
    rw [hR]
    clear hR
    obtain ⟨R, hR⟩ : ∃ R, R = goes (fun q => backPar ls q.1) (fun a b => less b a) k0 p := ⟨_, rfl⟩
    rw [← hR]
    obtain ⟨p1, p2⟩ := p
    simp (maxSteps := 4000000) only [↓Qx,↓Jf,↓Yw,↓Qa,↓Qv,↓Kj,↓Z3,↓Yc,Zx,Yl,Ya,gw,Zk,Zw,↓chk,Yn,noW,↓Y7,↓Yo,↓Qt,J5,↓Zt,↓Yd,Y8,Pg.look,Y6,Zb,false_implies,implies_true,true_and,and_true,Y9,Yp,Yq,Nat.reduceAdd,ofV,Yh,Pg.freeze,Ze,Y0,Jq,↓Jw,Jx,Jy,Xb,Qy,Jz,Kd,J9,Q9,Yv,Jp,Jj,Jk,AV.cells,TK.cells,AV.definite,Za,Zi,reduceCtorEq,Nat.reduceEqDiff,Nat.reduceAdd,Zh,Zd,Zj,Zo,Zf,Zr,Zu,Zl,ite_true,ite_false,Option.some.injEq,Prod.mk.injEq,and_self,exists_eq_left',Jg,X5,Xa,Qz,Qm,Qn,Zg,Z8,Xr,Ja,Q0,Jl,Jm,Qo,Qp,Qq,Zs,cutL,Z7,Zy,Y2,Y4,Y1,Z2,Jb,Yb,Ye,Yr,Ys,Z4,↓msel,muC,↓J0,Jc,tk28,dz28,tz38,kCFails,kPBack,kLess,kPJump,aPos,hmm]
    refine loopH_intro (α := Nat × Int × Int) (fun x => ([(0, .sl 1 (ls.map .str)), (2, .int .i64 x.1), (4, .ptr 0 2 1 0 0), (6, .ptr 1 5 1 0 0), (7, .bool false)], [.arr 28 2 [.agg [.int .i64 x.2.1, .int .i64 x.2.2]], .arr 38 5 [.agg [.int .i64 0, .int .i64 0, .int .i64 0, .bool false, .int .i64 0]]]))
      (fun x => x.1 ≤ k0 ∧ 0 ≤ x.2.1 ∧ x.2.1 < ls.length ∧ R = goes (fun q => backPar ls q.1) (fun a b => less b a) x.1 x.2) (fun x => x.1) (k0, p1, p2) ⟨Nat.le_refl _, hi.2.1, by have : p1.toNat < ls.length := hi.2.2.1; show p1 < _; omega, hR⟩ ?_ ?_
    · simp (maxSteps := 4000000) only [Pg.look,true_and,and_true,Yi,Xx,nxtQ,hdS,Ke,frzA,Zm,J2,Zn,Qb,Qc,Yx,Xy,Qd,Qe,Qf,Yj,Xz,X0,X1,X2,Qg,Qh,Qi,Qj,Pg.freeze,Ze,Yy,subO,Yz,Zq,Qk,AV.cells,AV.pureLeaf,AV.pureB,Zc,Za,reduceCtorEq,Nat.reduceEqDiff,Zh,Zd,Zj,Zl,ite_true,ite_false,Zv,Z0,Zp,and_self,Q7,Jd]
      exact ⟨by decide, subX_eq rfl rfl, subX_eq rfl rfl⟩
    rintro ⟨m, q1, q2⟩ ⟨hk, hq1, hq2, hR⟩
    dsimp only at hk hq1 hq2 hR
    cases m with
    | zero =>
      rw [goes] at hR
      subst hR
      simp (maxSteps := 4000000) only [↓Qx,↓Q6,↓Kc,↓Yw,↓Qa,↓Z3,↓Yc,Zx,Yl,Ya,gw,Zk,Zw,↓chk,Yn,noW,↓Y7,↓Yo,↓Qt,↓Zt,↓Xu,↓Xk,↓Yd,Y8,Pg.look,Q4,Qu,Zb,false_implies,implies_true,true_and,and_true,Y9,Yp,Yq,Q5,Q8,Yi,Zm,Zn,Nat.reduceAdd,ofV,Yh,Xc,Xd,Xe,Qb,Qc,Yx,Qd,Qe,Qf,Yj,Qg,Qh,frzL,Qi,Qj,Pg.freeze,Ze,Yy,Yz,Zq,Qk,subL,Y0,Jq,↓Jw,Jx,Jy,Xb,Qy,Jz,Kd,J9,Q9,Yv,Jp,Jj,Jk,AV.cells,TK.cells,AV.leaf,AV.leafy,Ju,lay,Zc,Za,Zi,reduceCtorEq,Nat.reduceEqDiff,Nat.reduceAdd,Zh,Zd,Zj,Zo,Zf,Zr,Zu,Z6,Yk,Zl,ite_true,ite_false,Option.some.injEq,Prod.mk.injEq,Zv,Z0,Zp,and_self,exists_eq_left',Zz,Jg,Xa,Qz,Qm,Qn,Zg,Ql,Z8,Ja,Q0,Jl,Jm,Qo,Qp,Qq,Zs,cutL,Z7,Z1,Zy,Ym,Y2,Y4,Y5,Y1,Z2,Jb,Yb,Ye,Yr,Ys,Z4,↓msel,muC,↓J0,Jc,X9,tk28,dz28,tk38,dz38,kCFails,kPBack,kLess,kPJump,aPos,aMove,aMv,jumpO,jumpM,Int.reduceGT,decide_false]
    | succ m =>
      have c1 : decide (((m + 1 : Nat) : Int) > 0) = true := decide_eq_true (by omega)
      have w1 : IntKind.i64.wrap (((m + 1 : Nat) : Int) - 1) = (m : Int) := by rw [wrap64 (by omega) (by omega)]; omega
      rw [goes] at hR
      dsimp only at hR
      have hin := backPar_in (ls := ls) (l := q1) hq2 hq1
      obtain ⟨t, ht⟩ : ∃ t, t = backPar ls q1 := ⟨_, rfl⟩
      rw [← ht] at hR hin
      obtain ⟨t1, t2⟩ := t
      cases hg : less (t1, t2) (q1, q2) with
      | true =>
        rw [if_pos hg] at hR
        simp (maxSteps := 4000000) only [↓Qx,↓Jf,↓Yw,↓Qa,↓Qv,↓Z3,↓Yt,↓Yc,Zx,Yl,Ya,gw,Zk,Zw,↓chk,Yn,noW,↓Y7,↓Yo,↓Qt,↓Zt,↓Jv,↓Yd,Y8,Pg.look,Q4,Qu,Y6,Zb,false_implies,implies_true,true_and,and_true,Y9,Yp,Yq,Q5,Q8,Yi,Xx,nxtQ,hdS,Ke,frzA,Zm,J2,Zn,Nat.reduceAdd,ofV,Yh,Qb,Qc,Yx,Xy,Qd,Qe,Qf,Yj,Xz,X0,X1,X2,Qg,Qh,Qi,Qj,Pg.freeze,Ze,Yy,subO,Yz,Zq,Qk,Y0,Jq,↓Jw,Jx,Jy,Xb,Qy,Jz,Kd,J9,Q9,Yv,Jp,Jj,Jk,AV.cells,TK.cells,AV.definite,AV.leaf,AV.leafy,AV.pureLeaf,AV.pureB,Ju,lay,Zc,Za,Zi,reduceCtorEq,Nat.reduceEqDiff,Nat.reduceAdd,Zh,Zd,Zj,Zo,Zf,Zr,Zu,Z6,Yk,Zl,ite_true,ite_false,Option.some.injEq,Prod.mk.injEq,Zv,Z0,Zp,and_self,exists_eq_left',Jg,X5,Xa,Qz,Qm,Qn,Zg,Z8,Xr,Ja,Q0,Jl,Jm,Qo,Qp,Qq,Zs,cutL,Z7,Z1,Zy,Ym,Y2,Y4,Q7,Y5,Y1,Jd,Z2,Jb,Yb,Ye,Yr,Ys,Z4,↓msel,muC,↓J0,Jc,tk28,tz28,dz28,kCFails,kPBack,kLess,kPJump,aPos,aMv,jumpM,c1,w1,← ht,hg]
        exact ⟨⟨hf, hq1, hq2⟩, (m, t1, t2), ⟨by dsimp only; omega, hin.1, hin.2, hR⟩, by dsimp only; omega, by decide, ⟨subX_eq rfl rfl, subX_eq rfl rfl⟩, rfl⟩
      | false =>
        rw [if_neg (by rw [hg]; simp)] at hR
        subst hR
        simp (maxSteps := 4000000) only [↓Qx,↓Jf,↓Q6,↓Yw,↓Qa,↓Qv,↓Z3,↓Yt,Zx,Yl,Ya,gw,Zk,Zw,↓chk,Yn,noW,↓Y7,↓Yo,↓Qt,↓Zt,↓Xg,↓Xt,↓Yd,Y8,Pg.look,Q4,Qu,Y3,Zb,false_implies,implies_true,true_and,and_true,Y9,Yp,Yq,Q5,Q8,Yi,Zm,Zn,Nat.reduceAdd,ofV,Yh,Xc,Xd,Xe,Qb,Qc,Yx,Qd,Qe,Qf,Yj,Qg,Qh,frzL,Qi,Qj,Pg.freeze,Ze,Yy,Yz,Zq,Qk,subL,Y0,Jq,↓Jw,Jx,Jy,Xb,Qy,Jz,Kd,J9,Q9,Yv,Jp,Jj,Jk,AV.cells,TK.cells,AV.definite,AV.leaf,AV.leafy,Ju,lay,Xf,Zc,Za,Zi,reduceCtorEq,Nat.reduceEqDiff,Nat.reduceAdd,Zh,Zd,Zj,Zo,Zf,Zr,Zu,Z6,Yk,Zl,ite_true,ite_false,Option.some.injEq,Yf,AV.agg.injEq,Prod.mk.injEq,Zv,Z0,Zp,and_self,exists_eq_left',Zz,Jg,X5,Xa,Qz,Qm,Qn,Zg,Z8,Xr,Ja,Q0,Jl,Jm,Qo,Qp,Qq,Zs,cutL,Z7,Z1,Zy,Ym,Y2,Y4,Y5,Y1,Z2,Jb,Yb,Ye,Yr,Ys,Z4,↓msel,muC,↓J0,Jc,X9,tk28,tz28,dz28,tk38,tz38,dz38,kCFails,kPBack,kLess,kPJump,aPos,aMove,aMv,jumpO,jumpM,mNone,c1,← ht,hg]
        exact ⟨hf, hq1, hq2⟩
theorem ok_ParNext : C1OK Try.prog 86 (kMvNB parNextP) := C1OK.by (by kernel_rfl) (fun d h => calls_ParNext d.1 d.2.1 d.2.2.1 d.2.2.2 h.1 h.2) (fun _ => rfl) (fun _ => rfl)
theorem ok_ParBack : C1OK Try.prog 85 (kMvN parBackP) := C1OK.by (by kernel_rfl) (fun d h => calls_ParBack d.1 d.2.1 d.2.2 h.1 h.2) (fun _ => rfl) (fun _ => rfl)
end Go.Pg
namespace Go.Pg
open Go Go.Proofs

theorem cls_blank0 (b : UInt8) : (cls (b.toNat : Int) true == 0) = blank b := by
  have h := cls_blank b
  rw [bne, Bool.not_inj_iff] at h
  exact h
theorem app1_ints (l : List Int) (k : Int) : l.map (AV.int .i64) ++ [.int .i64 k] = (l ++ [k]).map (AV.int .i64) := by simp
theorem pureB_ints (l : List Int) : (l.map (AV.int .i64)).all AV.pureB = true := by simp [AV.pureB, AV.cells, AV.pureLeaf]
theorem getD_ints (l : List Int) (i : Nat) : (l.map (AV.int .i64)).getD i (.int .i64 0) = .int .i64 (l.getD i 0) := getD_map _ l i 0

def solidF (s : List UInt8) (from_ : Nat) : Option Nat := findUp (fun i => !blank (s.getD i 0)) (s.length - from_) from_
def aSolid (r : Option Nat) : AV := .tuple [.int .i64 ((r.getD 0 : Nat) : Int), .bool r.isSome]
set_option maxHeartbeats 4000000 in
theorem calls_solid (s : List UInt8) (k0 : Nat) (h2 : s.length ≤ 65536) (h1 : k0 ≤ 65536) : CallsR Try.prog 104 [.str s, .int .i64 k0] [] (aSolid (solidF s k0)) [] := by
  refine callsR_of (mrg := true) (dyn := []) (CtrOK.cons ok_Of (CtrOK.nil _)) mixed Try.func104 rfl (by simp [Try.ntmps104]) (by kernel_rfl) ?_
  rw [show Try.f104.results.toList = [.tmp 4, .tmp 5] from by kernel_rfl]
  have hR : solidF s k0 = findUp (fun i => !blank (s.getD i 0)) (s.length - k0) k0 := rfl
  generalize solidF s k0 = R at hR ⊢
  simp (maxSteps := 4000000) only [↓Qx,↓Yw,↓Qv,↓Kj,↓Z3,Zx,Yl,Ya,gw,Zk,↓chk,Yn,↓Y7,↓Yo,J5,↓Zt,↓Yd,Y8,Pg.look,Zb,implies_true,true_and,Y9,Yp,Yq,ofV,Yh,reduceCtorEq,Nat.reduceEqDiff,Zf,Zl,ite_true,ite_false,and_self,Zg,Yb,Ye,Yr,Ys,Z4,kOf]
  refine loopH_intro (α := Nat) (fun i => ([(0, .str s), (4, .int .i64 0), (5, .bool false), (6, .int .i64 i)], [])) (fun i => (i ≤ s.length ∨ i = k0) ∧ R = findUp (fun i => !blank (s.getD i 0)) (s.length - i) i) (fun i => s.length - i) k0 ⟨.inr rfl, hR⟩ ?_ ?_
  · simp (maxSteps := 4000000) only [Pg.look,Yi,Zm,Zn,Qb,Qc,Yx,Qd,Qe,Qf,Yj,Qg,Qh,Qi,Qj,Pg.freeze,Ze,Yy,Yz,Zq,Qk,reduceCtorEq,Nat.reduceEqDiff,Zd,ite_true,ite_false,and_self,Zz]
    all_goals rfl
  rintro i ⟨hi, hR⟩
  by_cases hlt : i < s.length
  · have c1 : decide ((i : Int) < (s.length : Int)) = true := decide_eq_true (by omega)
    have w1 : IntKind.i64.wrap ((i : Int) + 1) = ((i + 1 : Nat) : Int) := by rw [wrap64 (by omega) (by omega)]; rfl
    rw [show s.length - i = (s.length - (i + 1)) + 1 by omega, findUp] at hR
    have hc := cls_blank (s.getD i 0)
    cases hg : blank (s.getD i 0) with
    | false =>
      rw [hg] at hR hc
      simp only [Y3,if_true] at hR
      subst hR
      simp (maxSteps := 4000000) only [↓Qx,↓Jf,↓Q6,↓Yw,↓Qa,↓Qv,↓Z3,↓Yt,Zx,Yl,Ya,gw,Zk,Zw,↓chk,Yn,↓Y7,↓Yo,↓Zt,↓Xg,↓Xt,↓Yd,Y8,Pg.look,Q4,Qu,Y3,Zb,implies_true,true_and,and_true,Y9,Yp,Yq,Q5,Q8,Yi,Zm,Zn,ofV,Yh,Xc,Xd,Xe,Qb,Qc,Yx,Qd,Qe,Qf,Yj,Qg,Qh,frzL,Qi,Qj,Pg.freeze,Ze,Yy,Yz,Zq,Qk,subL,↓Jw,Jx,Jy,Xb,Qy,Jz,J9,Q9,Yv,Jp,Jj,Jk,Zi,reduceCtorEq,Nat.reduceEqDiff,Zd,Zf,Zr,Zu,ite_true,ite_false,Yf,and_self,Zz,Jg,X6,Qz,Qm,Qn,Zg,Z8,Ja,Q0,Jl,Jm,Qo,Qp,Qq,Yg,Jb,Yb,Ye,Yr,Ys,Z4,↓msel,muC,↓J0,Jc,tk9,kOf,aSolid,c1,hc]
      exact ⟨by omega, by omega⟩
    | true =>
      rw [hg] at hR hc
      simp only [Y6,Zb,if_false] at hR
      simp (maxSteps := 4000000) only [↓Qx,↓Jf,↓Yw,↓Qa,↓Qv,↓Z3,↓Yt,↓Yc,Zx,Yl,Ya,gw,Zk,Zw,↓chk,Yn,↓Y7,↓Yo,↓Zt,↓Jv,↓Yd,Y8,Pg.look,Q4,Qu,Y6,Zb,implies_true,true_and,and_true,Y9,Yp,Yq,Q5,Q8,Yi,Zm,Zn,ofV,Yh,Qb,Qc,Yx,Qd,Qe,Qf,Yj,Qg,Qh,Qi,Qj,Pg.freeze,Ze,Yy,Yz,Zq,Qk,↓Jw,Jx,Jy,Xb,Qy,Jz,J9,Q9,Yv,Jp,Jj,Jk,reduceCtorEq,Nat.reduceEqDiff,Zd,Zf,Zr,Zu,ite_true,ite_false,and_self,Zz,Jg,X6,Qz,Qm,Qn,Zg,Z8,Ja,Q0,Jl,Jm,Qo,Qp,Qq,Yg,Jb,Yb,Ye,Yr,Ys,Z4,↓msel,muC,↓J0,Jc,tk9,kOf,c1,w1,hc]
      exact ⟨⟨by omega, by omega⟩, i + 1, ⟨.inl (by omega), hR⟩, by omega, rfl⟩
  · have c1 : decide ((i : Int) < (s.length : Int)) = false := decide_eq_false (by omega)
    rw [show s.length - i = 0 by omega, findUp] at hR
    subst hR
    simp (maxSteps := 4000000) only [↓Qx,↓Q6,↓Kc,↓Yw,↓Qa,↓Z3,↓Yc,Zx,Yl,Ya,gw,Zk,Zw,↓chk,Yn,↓Y7,↓Yo,↓Zt,↓Xu,↓Xk,↓Yd,Y8,Pg.look,Q4,Qu,Zb,implies_true,Y9,Yp,Yq,Q5,Q8,Yi,Zm,Zn,ofV,Yh,Xc,Xd,Xe,Qb,Qc,Yx,Qd,Qe,Qf,Yj,Qg,Qh,frzL,Qi,Qj,Pg.freeze,Ze,Yy,Yz,Zq,Qk,subL,Option.getD_none,reduceCtorEq,Nat.reduceEqDiff,Zd,Zf,ite_true,ite_false,Option.isSome_none,and_self,Zz,Zg,Ql,Yb,Ye,Yr,Ys,Z4,tk9,kOf,aSolid,c1]
def kSolid : C1 := C1.by [.id, .id] (lCons cStr (lOne (cInt .i64))) (fun d => d.1.length ≤ 65536 ∧ 0 ≤ d.2 ∧ d.2 ≤ 65536) (fun d => aSolid (solidF d.1 d.2.toNat)) (fun _ => [])
theorem ok_solid : C1OK Try.prog 104 kSolid := C1OK.by (by kernel_rfl) (fun d h => by
  obtain ⟨k, hk⟩ := Int.eq_ofNat_of_zero_le h.2.1
  have := calls_solid d.1 k h.1 (by have := h.2.2; omega)
  rw [show d.2.toNat = k by omega]
  have e : (lCons cStr (lOne (cInt .i64))).enc d = [.str d.1, .int .i64 k] := by show [AV.str d.1, AV.int .i64 d.2] = _; rw [hk]
  rw [e]; exact this) (fun _ => rfl) (fun _ => rfl)

def isStop (b : UInt8) : Bool := b == 46 || b == 33 || b == 63
def stopB (s : List UInt8) (i : Nat) : Bool := isStop (s.getD i 0) && (i + 1 == s.length || blank (s.getD (i + 1) 0))
set_option maxHeartbeats 4000000 in
theorem calls_stop (s : List UInt8) (i : Nat) (h2 : s.length ≤ 65536) (h1 : i < s.length) : CallsR Try.prog 110 [.str s, .int .i64 i] [] (.bool (stopB s i)) [] := by
  refine callsR_of (mrg := true) (dyn := []) (CtrOK.cons ok_Of (CtrOK.nil _)) mixed Try.func110 rfl (by simp [Try.ntmps110]) (by kernel_rfl) ?_
  rw [show Try.f110.results.toList = [.tmp 4] from by kernel_rfl]
  have w1 : IntKind.i64.wrap ((i : Int) + 1) = ((i + 1 : Nat) : Int) := by rw [wrap64 (by omega) (by omega)]; rfl
  have w2 : IntKind.i64.wrap ((s.length : Int) - 1) = (s.length : Int) - 1 := wrap64 (by omega) (by omega)
  have e1 : ((i : Int) == (s.length : Int) - 1) = (i + 1 == s.length) := by
    rw [Bool.eq_iff_iff, beq_iff_eq, beq_iff_eq]; omega
  have e2 := cls_blank0 (s.getD (i + 1) 0)
  unfold stopB isStop
  have b1 : (((s.getD i 0).toNat : Int) == 46) = (s.getD i 0 == 46) := byte_eq (s.getD i 0) 46
  have b2 : (((s.getD i 0).toNat : Int) == 33) = (s.getD i 0 == 33) := byte_eq (s.getD i 0) 33
  have b3 : (((s.getD i 0).toNat : Int) == 63) = (s.getD i 0 == 63) := byte_eq (s.getD i 0) 63
  generalize (s.getD i 0 == 46) = x1 at b1 ⊢
  generalize (s.getD i 0 == 33) = x2 at b2 ⊢
  generalize (s.getD i 0 == 63) = x3 at b3 ⊢
  cases x1 <;> cases x2 <;> cases x3
  all_goals
    simp (maxSteps := 4000000) only [↓Qx,↓Jf,↓Q6,↓Yw,↓Qa,↓Qv,↓Z3,↓Yt,↓Yc,Zx,Yl,Ya,gw,Zk,Ji,X4,Zw,gkind,↓chk,Yn,↓Y7,↓Yo,J5,↓Zt,↓Xg,↓Jv,↓Xt,↓Yd,Y8,Pg.look,Q4,Qu,Xn,Zb,implies_true,imp_self,true_and,and_true,Xo,Xp,unc,gof,mux,Kf,Kg,Y9,Yp,Yq,Q5,Q8,Yi,Zm,Zn,Xh,J3,ofV,Yh,sameK,Xc,Xd,Xe,Qb,Qc,Yx,Qd,Qe,Qf,Yj,Qg,Qh,Qi,Qj,Pg.freeze,Ze,Yy,Yz,Zq,Qk,↓Jw,Jx,Jy,Qy,Jz,J9,Q9,Yv,Jp,Jj,Jk,Op.operands,Call.operands,Jt,Z9,Zc,Za,Yu,reduceCtorEq,Nat.reduceEqDiff,Zh,Zd,Zj,Zf,Zr,Zu,Zl,ite_true,ite_false,Bool.if_true_left,Js,Zp,and_self,Ki,Zz,Jg,X6,Qw,Qz,Qm,Qn,Zg,Bool.or_self,Xj,Bool.or_true,Z8,Ja,Q0,Jl,Jm,Qo,Qp,Qq,Yg,Jb,Yb,Ye,Yr,Ys,Z4,↓msel,muC,↓J0,Jc,tk9,kOf,w1,w2,e1,e2,b1,b2,b3]
    first | exact ⟨⟨by omega, h1⟩, rfl⟩ | exact ⟨⟨by omega, h1⟩, fun h => ⟨h, by omega, by simp only [beq_eq_false_iff_ne,ne_eq] at h; omega⟩, rfl⟩
def kStop : C1 := C1.by [.id, .id] (lCons cStr (lOne (cInt .i64))) (fun d => d.1.length ≤ 65536 ∧ 0 ≤ d.2 ∧ d.2.toNat < d.1.length) (fun d => .bool (stopB d.1 d.2.toNat)) (fun _ => [])
theorem ok_stop : C1OK Try.prog 110 kStop := C1OK.by (by kernel_rfl) (fun d h => by
  obtain ⟨k, hk⟩ := Int.eq_ofNat_of_zero_le h.2.1
  have := calls_stop d.1 k h.1 (by have := h.2.2; omega)
  rw [show d.2.toNat = k by omega]
  have e : (lCons cStr (lOne (cInt .i64))).enc d = [.str d.1, .int .i64 k] := by show [AV.str d.1, AV.int .i64 d.2] = _; rw [hk]
  rw [e]; exact this) (fun _ => rfl) (fun _ => rfl)

/-- Where sentences begin in a line's first bytes, and whether one begins with the next byte that is no blank. -/
def sentTo (s : List UInt8) (o : Bool) : Nat → List Int × Bool
  | 0 => ([], o)
  | k + 1 => (if ((sentTo s o k).2 && !blank (s.getD k 0)) = true then (sentTo s o k).1 ++ [(k : Int)] else (sentTo s o k).1, (if ((sentTo s o k).2 && !blank (s.getD k 0)) = true then false else (sentTo s o k).2) || stopB s k)
theorem sentTo_len (s : List UInt8) (o : Bool) : ∀ k, (sentTo s o k).1.length ≤ k
  | 0 => by simp [sentTo]
  | k + 1 => by
    have := sentTo_len s o k
    simp only [sentTo]
    split
    · rw [List.length_append, List.length_singleton]; omega
    · omega
set_option maxRecDepth 20000 in
set_option maxHeartbeats 4000000 in
theorem calls_starts (s : List UInt8) (o : Bool) (h2 : s.length ≤ 65536) : CallsR Try.prog 103 [.str s, .bool o] [] (.tuple [.sl 1 ((sentTo s o s.length).1.map (AV.int .i64)), .bool (sentTo s o s.length).2]) [] := by
  refine callsR_of (mrg := true) (dyn := []) (CtrOK.cons ok_Of (CtrOK.cons ok_stop (CtrOK.nil _))) mixed Try.func103 rfl (by simp [Try.ntmps103]) (by kernel_rfl) ?_
  rw [show Try.f103.results.toList = [.tmp 4, .tmp 5] from by kernel_rfl]
  simp (maxSteps := 4000000) only [↓Qx,↓Yw,↓Qv,↓Kj,↓Z3,Zx,Yl,Ya,gw,Zk,↓chk,Yn,↓Y7,↓Yo,J5,↓Zt,↓Yd,Y8,Pg.look,Zb,implies_true,true_and,Y9,Yp,Yq,ofV,Yh,reduceCtorEq,Nat.reduceEqDiff,Zf,Zl,ite_true,ite_false,and_self,Zg,Yb,Ye,Yr,Ys,Z4,tk9,kOf,kStop]
  refine loopH_intro (α := Nat × List Int × Bool) (fun x => ([(0, .str s), (1, .bool x.2.2), (4, .nls), (5, .bool false), (6, .own 0 1 x.2.1.length), (9, .int .i64 s.length), (10, .int .i64 x.1)], [.arr 3 1 (x.2.1.map (AV.int .i64))]))
    (fun x => x.1 ≤ s.length ∧ x.2 = sentTo s o x.1) (fun x => s.length - x.1) (0, [], o) ⟨Nat.zero_le _, rfl⟩ ?_ ?_
  · simp (maxSteps := 4000000) only [Pg.look,Yi,Xx,Zm,Zn,Qb,Qc,Yx,Xy,Qd,Qe,Qf,Yj,Xz,X0,X1,X2,Qg,Qh,Qi,Qj,Pg.freeze,Ze,Yy,subO,Yz,Zq,Qk,Za,reduceCtorEq,Nat.reduceEqDiff,Zh,Zd,Zf,Zu,ite_true,ite_false,and_self,pickOK_one,Ql,Q7]
    all_goals rfl
  rintro ⟨i, out, b⟩ ⟨hi, hx⟩
  dsimp only at hi hx
  have hol : out.length ≤ i := by have := sentTo_len s o i; rw [← hx] at this; exact this
  by_cases hlt : i < s.length
  · have c1 : decide ((i : Int) < (s.length : Int)) = true := decide_eq_true (by omega)
    have w1 : IntKind.i64.wrap ((i : Int) + 1) = ((i + 1 : Nat) : Int) := by rw [wrap64 (by omega) (by omega)]; rfl
    have hc := cls_blank (s.getD i 0)
    have hs : sentTo s o (i + 1) = (if (b && !blank (s.getD i 0)) = true then out ++ [(i : Int)] else out, (if (b && !blank (s.getD i 0)) = true then false else b) || stopB s i) := by
      simp only [sentTo,← hx]
    cases b <;> cases hb : blank (s.getD i 0)
    all_goals
      rw [hb] at hs hc
      simp only [Y6,Y3,Kh,Bool.and_false,Zb,if_true,if_false,Bool.false_or,Bool.true_or] at hs
      simp (maxSteps := 4000000) only [↓Qx,↓Jf,↓Yw,↓Qa,↓Qv,↓Z3,↓Yt,↓Yc,Zx,Yl,Ya,gw,Zk,Ji,X4,Zw,gkind,↓chk,Yn,noW,↓Y7,↓Yo,↓Qt,↓Zt,↓Jv,↓Yd,Y8,Pg.look,Q4,Qu,Xn,Y3,Y6,Zb,J6,false_implies,implies_true,imp_self,true_and,and_true,forall_const,Xo,Xp,unc,gof,mux,Kf,Kg,Y9,Yp,Yq,Q5,Q8,Yi,Xx,Zm,Zn,Nat.reduceAdd,Xh,J3,ofV,Yh,sameK,Qb,Qc,Yx,Xy,Qd,Qe,Qf,Yj,Xz,X0,X1,X2,Qg,Qh,Qi,Qj,Pg.freeze,Ze,Yy,subO,Yz,Zq,Qk,srcV,srcE,appK,Jq,↓Jw,Jx,Jy,Qy,Jz,J9,Q9,Yv,Jp,Jj,Jk,AV.cells,AV.definite,AV.leaf,AV.leafy,Op.operands,Call.operands,Jt,Z9,Zc,Za,Yu,reduceCtorEq,Nat.reduceEqDiff,Nat.reduceAdd,Zh,Zd,Zj,Zo,Zf,Zr,Zu,Z6,Zl,ite_true,ite_false,Yf,Zv,Z0,Zp,and_self,pickOK_one,Z5,Jg,X6,Qw,rg1,Kk,Qz,Qm,Qn,Zg,beq_self_eq_true,Z8,Nat.reducePow,Ja,Q0,Jl,Jm,Qo,Qp,Qq,Yg,Nat.reduceLeDiff,Q7,Nat.mul_one,Jb,Yb,Ye,Yr,Ys,Z4,↓msel,muC,↓J0,Jc,eb3,tk9,tk110,kOf,kStop,app1_ints,c1,w1,hc]
      first
        | exact ⟨⟨h2, by omega, hlt⟩, (i + 1, _), ⟨hlt, hs.symm⟩, by dsimp only; omega, subX_eq rfl (pureB_ints _), rfl, rfl, rfl⟩
        | exact ⟨⟨by omega, hlt⟩, (i + 1, _), ⟨hlt, hs.symm⟩, by dsimp only; omega, subX_eq rfl (pureB_ints _), rfl, rfl, rfl⟩
        | exact ⟨⟨by omega, hlt⟩, ⟨by decide, by omega⟩, ⟨h2, by omega, hlt⟩, (i + 1, _), ⟨hlt, hs.symm⟩, by dsimp only; omega, subX_eq rfl (pureB_ints _), rfl, by simp, rfl⟩
  · have c1 : decide ((i : Int) < (s.length : Int)) = false := decide_eq_false (by omega)
    have hil : i = s.length := by omega
    subst hil
    simp (maxSteps := 4000000) only [↓Qx,↓Q6,↓Kc,↓Yw,↓Qa,↓Z3,↓Yc,Zx,Yl,Ya,gw,Zk,Zw,↓chk,Yn,↓Y7,↓Yo,↓Zt,↓Xu,↓Xk,↓Yd,Y8,Pg.look,Q4,Qu,Zb,implies_true,true_and,and_true,Y9,Yp,Yq,Q5,Q8,Yi,Zm,Zn,Xc,Xd,Xe,Qb,Qc,Yx,Qd,Qe,Qf,Yj,Qg,Qh,frzL,Qi,Qj,Pg.freeze,Ze,Kl,Yy,Yz,Zq,Qk,subL,Jq,Yv,Jp,frzAt,Za,reduceCtorEq,Nat.reduceEqDiff,Zd,Zf,Z6,ite_true,ite_false,AV.sl.injEq,Zv,Z0,Zp,and_self,Zz,Z5,resIn,J7,Zg,Xj,beq_self_eq_true,Yb,Ye,Yr,Ys,Z4,kOf,kStop,pureB_ints,c1]
    rw [← hx]
    exact ⟨rfl, rfl⟩
def kPStarts : C1 := C1.by [.id, .id] (lCons cStr (lOne cBool)) (fun d => d.1.length ≤ 65536) (fun d => .tuple [.sl 1 ((sentTo d.1 d.2 d.1.length).1.map (AV.int .i64)), .bool (sentTo d.1 d.2 d.1.length).2]) (fun _ => [])
theorem ok_pstarts : C1OK Try.prog 103 kPStarts := C1OK.by (by kernel_rfl) (fun d h => calls_starts d.1 d.2 h) (fun _ => rfl) (fun _ => rfl)

/-! ### All lines -/
def flatTo {α : Type} (f : Nat → List α) (n : Nat) : List α := (List.range n).flatMap f
theorem flatTo_succ {α : Type} (f : Nat → List α) (n : Nat) : flatTo f (n + 1) = flatTo f n ++ f n := by
  unfold flatTo
  rw [List.range_succ, List.flatMap_append]
  simp
theorem flatTo_get {α : Type} (f : Nat → List α) (i : Nat) : ∀ (n : Nat), i < n → ∀ (j : Nat) (p : α), (f i)[j]? = some p → (flatTo f n)[(flatTo f i).length + j]? = some p := by
  intro n
  induction n with
  | zero => intro h; omega
  | succ n ih =>
    intro h j p hp
    rw [flatTo_succ]
    by_cases he : i = n
    · subst he
      rw [List.getElem?_append_right (by omega), show (flatTo f i).length + j - (flatTo f i).length = j by omega]
      exact hp
    · have h1 := ih (by omega) j p hp
      rw [List.getElem?_append_left (List.getElem?_eq_some_iff.1 h1).1]
      exact h1
theorem flatTo_len {α : Type} (f : Nat → List α) (B : Nat) (h : ∀ i, (f i).length ≤ B) : ∀ n, (flatTo f n).length ≤ n * B
  | 0 => by simp [flatTo]
  | n + 1 => by
    have := flatTo_len f B h n
    have := h n
    rw [flatTo_succ, List.length_append, Nat.add_mul, Nat.one_mul]; omega

def sentOpen (ls : Ls) : Nat → Bool
  | 0 => true
  | k + 1 => if (ls.getD k [] == []) = true then true else (sentTo (ls.getD k []) (sentOpen ls k) (ls.getD k []).length).2 && (solidF (ls.getD k []) 0).isSome
def sentLine (ls : Ls) (k : Nat) : List (Int × Int) :=
  if (ls.getD k [] == []) = true then (if (k == 0 || !(ls.getD (k - 1) [] == [])) = true then [((k : Int), 0)] else [])
  else (sentTo (ls.getD k []) (sentOpen ls k) (ls.getD k []).length).1.map fun c => ((k : Int), c)
def sents (ls : Ls) : List (Int × Int) := flatTo (sentLine ls) ls.length

set_option maxRecDepth 20000 in
set_option maxHeartbeats 8000000 in
theorem it_sent (ls : Ls) (hf : okText ls) : ItR Try.prog 102 [.rp [.sl 1 (ls.map .str)]] (Tell.seq ((sents ls).map fun p => [aPos p])) := by
  refine itR_of (mrg := true) (dyn := []) (CtrOK.cons ok_pstarts (CtrOK.cons ok_solid (CtrOK.nil _))) mixed Try.func102 rfl (by simp [Try.ntmps102]) (by kernel_rfl) (by kernel_rfl) ?_ ?_
  · intro x hx
    obtain ⟨p, _, rfl⟩ := List.mem_map.1 hx
    rfl
  intro l
  have hll := hf.1
  have hls := fits_getD hf
  simp (maxSteps := 4000000) only [↓Xq,↓Jn,↓J1,↓wpYH_loop,↓Qr,Q1,Je,Q2,↓Jo,yarg,Q3,↓Qs,gw,Zk,↓chk,Yn,noW,↓Y7,↓Yo,↓Qt,J5,↓Yd,Y8,Pg.look,Zb,implies_true,true_and,and_true,Y9,Yp,Yq,ofV,Yh,slen,Y0,TK.cells,Za,Zi,reduceCtorEq,Nat.reduceEqDiff,Zl,ite_true,ite_false,Option.some.injEq,AV.int.injEq,and_self,exists_eq_left',Z5,Ye,Yr,Ys,tk22,kPStarts,kSolid]
  refine loopYH_intro (α := Nat) (fun i => (some (flatTo (sentLine ls) i).length, [(0, .yld l), (1, .rp [.sl 1 (ls.map .str)]), (3, .bool (sentOpen ls i)), (12, .sl 1 (ls.map .str)), (13, .int .i64 ls.length), (14, .int .i64 i)], []))
    (fun i => i ≤ ls.length) (fun i => ls.length - i) 0 (by omega) (by simp [flatTo]) ?_ ?_
  · simp (maxSteps := 4000000) only [Pg.look,true_and,and_true,Yi,Zm,Zn,Qb,Qc,Yx,Qd,Qe,Qf,Yj,Qg,Qh,Qi,Qj,Pg.freeze,Ze,Yy,Yz,Zq,Qk,reduceCtorEq,Nat.reduceEqDiff,Zd,ite_true,ite_false,and_self,Zz,Ql]
    all_goals rfl
  intro i hi
  by_cases hlt : i < ls.length
  · have hct : decide ((i : Int) < (ls.length : Int)) = true := decide_eq_true (by omega)
    have hsl := hls i
    have hts := flatTo_succ (sentLine ls) i
    have hop : sentOpen ls (i + 1) = if (ls.getD i [] == []) = true then true else (sentTo (ls.getD i []) (sentOpen ls i) (ls.getD i []).length).2 && (solidF (ls.getD i []) 0).isSome := rfl
    have hln : sentLine ls i = if (ls.getD i [] == []) = true then (if (i == 0 || !(ls.getD (i - 1) [] == [])) = true then [((i : Int), 0)] else []) else (sentTo (ls.getD i []) (sentOpen ls i) (ls.getD i []).length).1.map fun c => ((i : Int), c) := rfl
    have w1 : IntKind.i64.wrap ((i : Int) + 1) = ((i + 1 : Nat) : Int) := by rw [wrap64 (by omega) (by omega)]; rfl
    have hg := flatTo_get (sentLine ls) i ls.length hlt
    cases hse : (ls.getD i [] == []) with
    | true =>
      rw [hse, if_pos rfl] at hop hln
      cases i with
      | zero =>
        have hln : sentLine ls 0 = [(0, 0)] := hln
        have hy0 := hg 0 (0, 0) (by rw [hln]; rfl)
        rw [Nat.add_zero] at hy0
        have hy1 : (sents ls)[(flatTo (sentLine ls) 0).length]? = some (0, 0) := hy0
        have hct0 : decide ((0 : Int) < (ls.length : Int)) = true := hct
        have w1 : IntKind.i64.wrap ((0 : Int) + 1) = 1 := rfl
        simp (maxSteps := 4000000) only [↓Xq,↓Xi,↓Kp,↓X7,↓Jn,↓Jh,↓J1,↓Qr,Q1,Je,Q2,↓Jo,yarg,Q3,Kq,Ko,↓Qs,↓Km,↓Xv,↓Kr,↓Xl,↓Xm,↓Ks,endT_none,Xs,↓Yt,↓Yc,↓fixG,setG,gw,Zk,Ji,Zw,↓chk,Yn,noW,↓Y7,↓Yo,↓Qt,↓Yd,Y8,Pg.look,Q4,Qu,X8,Xn,Kh,Y3,Y6,Zb,J6,implies_true,true_and,and_true,Xo,Xp,unc,gof,mux,Y9,Yp,Yq,Q5,Q8,strV,Yi,Zm,Zn,Nat.reduceAdd,ofV,Yh,Qb,Qc,Yx,Qd,Qe,Qf,Yj,Qg,Qh,Qi,Qj,Pg.freeze,Ze,Yy,Yz,Zq,Qk,Y0,AV.cells,TK.cells,AV.definite,lay,Xf,Z9,Zc,Za,Yu,J8,Zi,reduceCtorEq,Nat.reduceEqDiff,Nat.reduceAdd,Zh,Zd,Zj,Zo,Zf,Zr,Zu,Zl,Int.reduceToNat,ite_true,ite_false,Option.some.injEq,Yf,AV.agg.injEq,Zv,Z0,Zp,and_self,exists_eq_left',Zz,Z5,Int.reduceLE,beq_self_eq_true,Ql,J4,Z7,Z1,Ym,Y2,Nat.reduceLeDiff,Ye,Yr,Ys,tk9,dz9,tk22,tk28,tz28,kPStarts,kSolid,hct0,hse,Xw,hy1,w1]
        exact ⟨by omega, rfl, rfl, 1, by omega, by omega, by rw [hts, hln, List.length_append]; rfl, hop.symm, rfl⟩
      | succ i =>
        have w2 : IntKind.i64.wrap (((i + 1 : Nat) : Int) - 1) = (i : Int) := by rw [wrap64 (by omega) (by omega)]; omega
        have e1 : (((i + 1 : Nat) : Int) == 0) = false := by rw [beq_eq_false_iff_ne]; omega
        have e2 : (i + 1 == 0) = false := by rw [beq_eq_false_iff_ne]; omega
        rw [e2, Bool.false_or, Nat.add_sub_cancel] at hln
        cases h0 : (ls.getD i [] == []) with
        | false =>
          rw [h0, Bool.not_false, if_pos rfl] at hln
          have hy0 := hg 0 (((i + 1 : Nat) : Int), 0) (by rw [hln]; rfl)
          rw [Nat.add_zero] at hy0
          have hy1 : (sents ls)[(flatTo (sentLine ls) (i + 1)).length]? = some (((i + 1 : Nat) : Int), 0) := hy0
          simp (maxSteps := 4000000) only [↓Xq,↓Xi,↓Kp,↓X7,↓Jn,↓Jh,↓J1,↓Qr,Q1,Je,Q2,↓Jo,yarg,Q3,Kq,Ko,↓Qs,↓Km,↓Xv,↓Kr,↓Xl,↓Xm,↓Ks,endT_none,Xs,↓Yt,↓Yc,↓fixG,setG,gw,Zk,Ji,Zw,↓chk,Yn,noW,↓Y7,↓Yo,↓Qt,↓Yd,Y8,Pg.look,Q4,Qu,X8,Xn,Kh,Y3,Y6,Zb,J6,implies_true,true_and,and_true,Xo,Xp,unc,gof,mux,Y9,Yp,Yq,Q5,Q8,strV,Yi,Zm,Zn,Nat.reduceAdd,ofV,Yh,Qb,Qc,Yx,Qd,Qe,Qf,Yj,Qg,Qh,Qi,Qj,Pg.freeze,Ze,Yy,Yz,Zq,Qk,Y0,AV.cells,TK.cells,AV.definite,lay,Xf,Z9,Zc,Za,Yu,J8,Zi,reduceCtorEq,Nat.reduceEqDiff,Nat.reduceAdd,Zh,Zd,Zj,Zo,Zf,Zr,Zu,Zl,ite_true,ite_false,Option.some.injEq,Yf,AV.agg.injEq,Zv,Z0,Zp,and_self,exists_eq_left',Zz,Z5,J4,Yg,Z7,Z1,Ym,Nat.reduceLeDiff,Ye,Yr,Ys,tk9,dz9,tk22,tk28,tz28,kPStarts,kSolid,hct,hse,e1,h0,Xw,hy1,w1,w2]
          exact ⟨by omega, by omega, rfl, rfl, i + 2, by omega, by omega, by rw [hts, hln, List.length_append]; rfl, hop.symm, rfl⟩
        | true =>
          rw [h0, Bool.not_true, if_neg (by simp)] at hln
          simp (maxSteps := 4000000) only [↓Xq,↓Xi,↓X7,↓Jn,↓Jh,↓J1,↓Qr,Q1,Je,Q2,↓Jo,yarg,Q3,↓Qs,↓Xv,↓Xl,↓Xm,Xs,↓Yt,↓Yc,↓fixG,setG,gw,Zk,Ji,Zw,↓chk,Yn,noW,↓Y7,↓Yo,↓Qt,↓Yd,Y8,Pg.look,Q4,Qu,X8,Xn,Y3,Y6,Zb,implies_true,true_and,and_true,Xo,Xp,unc,gof,mux,Y9,Yp,Yq,Q5,Q8,strV,Yi,Zm,Zn,ofV,Yh,Qb,Qc,Yx,Qd,Qe,Qf,Yj,Qg,Qh,Qi,Qj,Pg.freeze,Ze,Yy,Yz,Zq,Qk,Y0,AV.cells,TK.cells,Z9,Zc,Za,Yu,Zi,reduceCtorEq,Nat.reduceEqDiff,Zd,ite_true,ite_false,Option.some.injEq,and_self,exists_eq_left',Zz,Z5,J4,Yg,Ye,Yr,Ys,tk9,dz9,tk22,kPStarts,kSolid,hct,hse,e1,h0,w1,w2]
          exact ⟨by omega, by omega, i + 2, by omega, by omega, by rw [hts, hln, List.append_nil], hop.symm, rfl⟩
    | false =>
      rw [hse, if_neg (by simp)] at hop hln
      have hlen := sentTo_len (ls.getD i []) (sentOpen ls i) (ls.getD i []).length
      obtain ⟨r, hr⟩ : ∃ r, r = sentTo (ls.getD i []) (sentOpen ls i) (ls.getD i []).length := ⟨_, rfl⟩
      rw [← hr] at hop hln hlen
      obtain ⟨out, b⟩ := r
      dsimp only at hop hln hlen
      simp (maxSteps := 4000000) only [↓Xq,↓Xi,↓Jn,↓Jh,↓J1,↓wpYH_loop,↓Qr,Q1,Je,Q2,↓Jo,yarg,Q3,↓Qs,↓Yt,↓Yc,gw,Zk,Zw,↓chk,Yn,noW,↓Y7,↓Yo,↓Qt,↓Yd,Y8,Pg.look,Q4,Qu,X8,Zb,false_implies,implies_true,true_and,and_true,Y9,Yp,Yq,Q5,Q8,strV,ofV,Yh,Pg.freeze,Ze,slen,Y0,↓Jw,Jx,Jy,Xb,Qy,Jz,J9,Q9,Yv,Jp,Jj,Jk,AV.cells,TK.cells,Zc,Za,Zi,reduceCtorEq,Nat.reduceEqDiff,Zh,Zd,Zf,Zr,Zu,Zl,ite_true,ite_false,Option.some.injEq,AV.int.injEq,Prod.mk.injEq,and_self,exists_eq_left',Z5,X6,Kk,Qz,Qm,Qn,Z8,Ja,Q0,Jl,Jm,Qo,Qp,Qq,J4,Yg,Jb,Ye,Yr,Ys,↓msel,muC,↓J0,Jc,tk9,dz9,tk22,tk110,kPStarts,kSolid,hct,hse,← hr]
      refine ⟨by omega, by omega, ?_⟩
      refine loopYH_intro (α := Nat) (fun k => (some ((flatTo (sentLine ls) i).length + k), [(0, .yld l), (1, .rp [.sl 1 (ls.map .str)]), (4, .int .i64 i), (5, .str (ls.getD i [])), (7, .bool b), (12, .sl 1 (ls.map .str)), (13, .int .i64 ls.length), (14, .int .i64 i), (44, .sl 1 (out.map (AV.int .i64))), (45, .int .i64 out.length), (46, .int .i64 k)], []))
        (fun k => k ≤ out.length) (fun k => out.length - k) 0 (by omega) ?_ ?_ ?_
      · rfl
      · simp (maxSteps := 4000000) only [Pg.look,Yi,Zm,Zn,Qb,Qc,Yx,Qd,Qe,Qf,Yj,Qg,Qh,Qi,Qj,Pg.freeze,Ze,Yy,Yz,Zq,Qk,reduceCtorEq,Nat.reduceEqDiff,Zd,ite_true,ite_false,and_self,Zz,Ql]
        all_goals rfl
      intro k hk
      by_cases hk2 : k < out.length
      · have c2 : decide ((k : Int) < (out.length : Int)) = true := decide_eq_true (by omega)
        have w3 : IntKind.i64.wrap ((k : Int) + 1) = ((k + 1 : Nat) : Int) := by rw [wrap64 (by omega) (by omega)]; rfl
        have hy0 := hg k ((i : Int), out.getD k 0) (by rw [hln, List.getElem?_map, List.getD_eq_getElem?_getD, List.getElem?_eq_getElem hk2]; rfl)
        have hy1 : (sents ls)[(flatTo (sentLine ls) i).length + k]? = some ((i : Int), out.getD k 0) := hy0
        simp (maxSteps := 4000000) only [↓Xq,↓Xi,↓Kp,↓Jn,↓Jh,↓J1,↓Qr,Q1,Je,Q2,↓Jo,yarg,Q3,Kq,Ko,↓Qs,↓Km,↓X3,↓Kr,↓Ks,endT_none,↓Yt,↓Yc,gw,Zk,Zw,↓chk,Yn,noW,↓Y7,↓Yo,↓Qt,↓Yd,Y8,Pg.look,Q4,Qu,Kh,Y3,Y6,Zb,implies_true,true_and,and_true,Y9,Yp,Yq,Q5,Q8,Yi,Zm,Zn,Nat.reduceAdd,ofV,Yh,Qb,Qc,Yx,Qd,Qe,Qf,Yj,Qg,Qh,Qi,Qj,Pg.freeze,Ze,Yy,Yz,Zq,Qk,Y0,AV.cells,TK.cells,AV.definite,lay,Xf,Zc,Za,J8,Zi,reduceCtorEq,Nat.reduceEqDiff,Nat.reduceAdd,Zh,Zd,Zj,Zo,Zf,Zr,Zu,Zl,ite_true,ite_false,Option.some.injEq,Yf,AV.agg.injEq,Zv,Z0,Zp,and_self,exists_eq_left',Zz,Z5,Yg,Z7,Z1,Zy,Ym,Nat.reduceLeDiff,Y4,Y5,Ye,Yr,Ys,tk3,dz3,tk28,tz28,tk110,kPStarts,kSolid,getD_ints,Xw,hy1,c2,w3]
        exact ⟨⟨by omega, hk2⟩, rfl, rfl, k + 1, by omega, by omega, by omega, rfl⟩
      · have c2 : decide ((k : Int) < (out.length : Int)) = false := decide_eq_false (by omega)
        have hke : k = out.length := by omega
        subst hke
        obtain ⟨so, hso⟩ : ∃ so, so = solidF (ls.getD i []) 0 := ⟨_, rfl⟩
        rw [← hso] at hop
        simp (maxSteps := 4000000) only [↓Xq,↓X7,↓Jn,↓Jh,↓Qr,Q1,Je,Q2,↓Jo,yarg,Q3,↓Qs,↓Xv,↓X3,↓Xl,↓Xm,Xs,↓Yc,iselH_if,↓fixG,setG,gw,Zk,Ji,Zw,↓chk,Yn,↓Y7,↓Yo,↓Yd,Y8,Pg.look,Q4,Qu,Xn,Y6,Zb,J6,false_implies,implies_true,true_and,and_true,Xo,Xp,unc,gof,mux,Y9,Yp,Yq,Q5,Q8,Yi,Zm,Zn,ofV,Yh,Qb,Qc,Yx,Qd,Qe,Qf,Yj,Qg,Qh,Qi,Qj,Pg.freeze,Ze,Yy,Yz,Zq,Qk,↓Jw,Jx,Jy,Xb,Qy,Jz,J9,Q9,Yv,Jp,Jj,Jk,Z9,Zc,Za,Yu,Zi,reduceCtorEq,Nat.reduceEqDiff,Zh,Zd,Zf,Zr,Zu,Zl,Int.reduceToNat,ite_true,ite_false,Option.some.injEq,Prod.mk.injEq,and_self,exists_eq_left',Zz,Z5,Jg,Int.reduceLE,Kk,Qz,Qm,Qn,Z8,Ja,Q0,Jl,Jm,Qo,Qp,Qq,Jb,Ye,Yr,Ys,↓msel,muC,↓J0,Jc,kPStarts,kSolid,aSolid,← hso,c2,w1]
        refine ⟨hsl, fun hb => ?_, fun hb => ?_⟩
        · rw [hb] at hop
          exact ⟨i + 1, by omega, by omega, by rw [hts, hln, List.length_append, List.length_map], hop.symm, rfl⟩
        · rw [hb] at hop
          exact ⟨i + 1, by omega, by omega, by rw [hts, hln, List.length_append, List.length_map], hop.symm, rfl⟩
  · have hcf : decide ((i : Int) < (ls.length : Int)) = false := decide_eq_false (by omega)
    have hil : i = ls.length := by omega
    subst hil
    simp (maxSteps := 4000000) only [↓Xq,↓X7,↓Jn,↓Jh,↓Qr,Q1,Je,Q2,↓Jo,yarg,Q3,↓Qs,↓Xv,↓Xl,↓Xm,Xs,↓Yc,gw,Zk,Zw,↓chk,Yn,↓Y7,↓Yo,↓Yd,Y8,Pg.look,Q4,Qu,Zb,implies_true,true_and,Y9,Yp,Yq,Q5,Q8,reduceCtorEq,Nat.reduceEqDiff,ite_true,ite_false,and_self,Z5,Ye,Yr,Ys,hcf]
    rfl
def aSent (ls : Ls) : AV := .fn 102 [.rp [.sl 1 (ls.map .str)]]
def kSents1 : C1 := C1.itBy (lOne (cRp (lOne cStrs))) (fun d => okText d) (fun d => (sents d).map fun p => [aPos p])
theorem ok_sents1 : C1OK Try.prog 102 kSents1 := C1OK.itBy (by kernel_rfl) (fun d h => it_sent d h)
theorem calls_Sentences (ls : Ls) : CallsR Try.prog 97 [.sl 1 (ls.map .str)] [] (aSent ls) [] := by
  refine callsR_of (mrg := true) (dyn := []) (CtrOK.nil _) mixed Try.func97 rfl (by simp [Try.ntmps97]) (by kernel_rfl) ?_
  rw [show Try.f97.results.toList = [.tmp 2] from by kernel_rfl]
  unfold aSent
  simp (maxSteps := 4000000) only [↓Qx,↓Q6,↓Yw,↓Z3,Zx,Yl,Ya,gw,Zk,↓chk,Yn,noW,↓Y7,↓Yo,↓Qt,J5,↓Zt,↓Yd,Y8,Pg.look,Zb,implies_true,Y9,Yp,Yq,Yi,Zm,Zn,ofV,Yh,Xc,Xd,Xe,Qb,Qc,Yx,Qd,Qe,Qf,Yj,Qg,Qh,frzL,Qi,Qj,Pg.freeze,Ze,Kl,Yy,Yz,Zq,Qk,subL,Jq,J9,Yv,Jp,AV.cells,AV.definite,frzAt,Za,reduceCtorEq,Nat.reduceEqDiff,Zh,Zd,Zo,Zf,Zr,Zu,Z6,Zl,ite_true,ite_false,Zv,Z0,Zp,and_self,Zz,resIn,J7,Zg,Xj,beq_self_eq_true,Zs,Z7,Z2,Yb,Ye,Yr,Ys,Z4]
def kSentsF : C1 := C1.by [.sl 1 []] (lOne cStrs) (fun _ => True) (fun d => aSent d) (fun _ => [])
theorem ok_SentsF : C1OK Try.prog 97 kSentsF := C1OK.by (by kernel_rfl) (fun d _ => calls_Sentences d) (fun d => by unfold aSent; rfl) (fun _ => rfl)
end Go.Pg
namespace Go.Pg
open Go Go.Proofs

def prefB (s p : List UInt8) : Bool := decide ((s.length : Int) ≥ (p.length : Int)) && s.take p.length == p
theorem calls_HasPrefixL (s p : List UInt8) : CallsR Try.prog 114 [.str s, .str p] [] (.bool (prefB s p)) [] := by
  refine callsR_of (mrg := true) (dyn := []) (CtrOK.nil _) mixed Try.func114 rfl (by simp [Try.ntmps114]) (by kernel_rfl) ?_
  rw [show Try.f114.results.toList = [.tmp 4] from by kernel_rfl]
  simp (maxSteps := 4000000) only [↓Qx,↓Q6,↓Yw,↓Z3,Zx,Yl,Ya,gw,Zk,Ji,X4,gkind,↓chk,Yn,↓Y7,↓Yo,J5,↓Zt,↓Yd,Y8,Pg.look,Q4,Qu,X8,Xn,Zb,implies_true,imp_self,true_and,and_true,Xo,Xp,unc,gof,mux,Kf,Kg,Y9,Yp,Yq,Q5,Q8,strV,cutV,Yi,Zm,Zn,Xh,J3,ofV,Yh,sameK,Xc,Xd,Xe,Qb,Qc,Yx,Qd,Qe,Qf,Yj,Qg,Qh,Qi,Qj,Pg.freeze,Ze,Yy,Yz,Zq,Qk,sliceS,Op.operands,Call.operands,Jt,Z9,Zc,Za,Yu,J8,Kn,reduceCtorEq,Nat.reduceEqDiff,Zh,Zd,Zj,Zf,Zl,ite_true,ite_false,Jr,decide_eq_true_eq,decide_eq_false_iff_not,Int.not_le,Zp,and_self,Zz,Ka,Kb,Qw,Zg,Yg,Yb,Ye,Yr,Ys,Z4,tk9,prefB]
  exact fun h => ⟨h, by omega, by omega⟩
def kHasPrefix : C1 := C1.by [.id, .id] (lCons cStr (lOne cStr)) (fun _ => True) (fun d => .bool (prefB d.1 d.2)) (fun _ => [])
theorem ok_HasPrefixL : C1OK Try.prog 114 kHasPrefix := C1OK.by (by kernel_rfl) (fun d _ => calls_HasPrefixL d.1 d.2) (fun _ => rfl) (fun _ => rfl)
theorem calls_HasPrefix (s p : List UInt8) : CallsR Try.prog 112 [.str s, .str p] [] (.bool (prefB s p)) [] := by
  refine callsR_of (mrg := true) (dyn := []) (CtrOK.cons ok_HasPrefixL (CtrOK.nil _)) mixed Try.func112 rfl (by simp [Try.ntmps112]) (by kernel_rfl) ?_
  rw [show Try.f112.results.toList = [.tmp 4] from by kernel_rfl]
  simp (maxSteps := 4000000) only [↓Qx,↓Q6,↓Yw,↓Z3,Zx,Yl,Ya,gw,Zk,↓chk,Yn,↓Y7,↓Yo,J5,↓Zt,↓Yd,Y8,Pg.look,Zb,implies_true,Y9,Yp,Yq,Yi,Zm,Zn,ofV,Yh,Xc,Xd,Xe,Qb,Qc,Yx,Qd,Qe,Qf,Yj,Qg,Qh,Qi,Qj,Pg.freeze,Ze,Yy,Yz,Zq,Qk,↓Jw,Jx,Jy,Xb,Qy,Jz,J9,Q9,Yv,Jp,Jj,Jk,reduceCtorEq,Nat.reduceEqDiff,Zd,Zf,Zr,Zu,Zl,ite_true,ite_false,and_self,Zz,Kk,Qz,Qm,Qn,Zg,Z8,Ja,Q0,Jl,Jm,Qo,Qp,Qq,Jb,Yb,Ye,Yr,Ys,Z4,↓msel,muC,↓J0,Jc,kHasPrefix]
theorem ok_HasPrefix : C1OK Try.prog 112 kHasPrefix := C1OK.by (by kernel_rfl) (fun d _ => calls_HasPrefix d.1 d.2) (fun _ => rfl) (fun _ => rfl)

def hitB (p : List UInt8) (s : List UInt8) (i : Nat) : Bool := prefB (s.drop i) p
def hits (p : List UInt8) (ls : Ls) : List (Int × Int) := if (p == []) = true then [] else marksTo false (hitB p) ls ls.length

set_option maxRecDepth 20000 in
set_option maxHeartbeats 8000000 in
theorem it_all (p : List UInt8) (ls : Ls) (hf : okText ls) : ItR Try.prog 111 [.rp [.str p], .rp [.sl 1 (ls.map .str)]] (Tell.seq ((hits p ls).map fun p => [aPos p])) := by
  refine itR_of (mrg := true) (dyn := [1000007]) (CtrOK.cons ok_HasPrefix (CtrOK.nil _)) mixed Try.func111 rfl (by simp [Try.ntmps111]) (by kernel_rfl) (by kernel_rfl) ?_ ?_
  · intro x hx
    obtain ⟨p, _, rfl⟩ := List.mem_map.1 hx
    rfl
  intro l
  have hll := hf.1
  have hls := fits_getD hf
  unfold hits
  cases hp : (p == []) with
  | true =>
    rw [if_pos rfl]
    simp (maxSteps := 4000000) only [↓Xq,↓Kp,↓Jn,↓Jh,↓Qr,Q1,Je,Q2,↓Jo,yarg,Q3,↓Qs,↓Km,↓Ks,Xs,↓Yt,gw,Zk,Zw,↓chk,Yn,noW,↓Y7,↓Yo,↓Qt,J5,↓Yd,Y8,Pg.look,Q4,X8,Zb,implies_true,true_and,and_true,Y9,Yp,Yq,Q5,strV,Nat.reduceAdd,ofV,Yh,Y0,TK.cells,Za,Zi,reduceCtorEq,Nat.reduceEqDiff,Nat.reduceAdd,Zf,Zu,Zl,ite_true,ite_false,Option.some.injEq,and_self,exists_eq_left',Ye,Yr,Ys,tk9,kHasPrefix,hp]
    all_goals rfl
  | false =>
    rw [if_neg (by simp)]
    simp (maxSteps := 4000000) only [↓Xq,↓Xi,↓Jn,↓Jh,↓J1,↓wpYH_loop,↓Qr,Q1,Je,Q2,↓Jo,yarg,Q3,↓Qs,↓Yc,gw,Zk,Zw,↓chk,Yn,noW,↓Y7,↓Yo,↓Qt,J5,↓Yd,Y8,Pg.look,Q4,X8,Zb,implies_true,true_and,and_true,Y9,Yp,Yq,Q5,strV,Nat.reduceAdd,ofV,Yh,slen,Y0,TK.cells,Za,Zi,reduceCtorEq,Nat.reduceEqDiff,Nat.reduceAdd,Zl,ite_true,ite_false,Option.some.injEq,AV.int.injEq,and_self,exists_eq_left',Z5,Ye,Yr,Ys,tk9,tk22,kHasPrefix,hp]
    refine loopYH_intro (α := Nat) (fun i => (some (marksTo false (hitB p) ls i).length, [(0, .yld l), (1, .rp [.str p]), (9, .sl 1 (ls.map .str)), (10, .int .i64 ls.length), (11, .int .i64 i)], []))
      (fun i => i ≤ ls.length) (fun i => ls.length - i) 0 (by omega) (by simp [marksTo]) ?_ ?_
    · simp (maxSteps := 4000000) only [Pg.look,Yi,Zm,Zn,Qb,Qc,Yx,Qd,Qe,Qf,Yj,Qg,Qh,Qi,Qj,Pg.freeze,Ze,Yy,Yz,Zq,Qk,reduceCtorEq,Nat.reduceEqDiff,Zd,ite_true,ite_false,and_self,Zz,Ql]
      all_goals rfl
    intro i hi
    by_cases hlt : i < ls.length
    · have hct : decide ((i : Int) < (ls.length : Int)) = true := decide_eq_true (by omega)
      have hsl := hls i
      have hts := marksTo_succ false (hitB p) ls i
      have hln := lineMarks_len false (hitB p) i (ls.getD i [])
      have hl : lineLead false (ls.getD i []) = 0 := rfl
      have w1 : IntKind.i64.wrap ((i : Int) + 1) = ((i + 1 : Nat) : Int) := by rw [wrap64 (by omega) (by omega)]; rfl
      simp (maxSteps := 4000000) only [↓Xq,↓Xi,↓Jn,↓Jh,↓J1,↓wpYH_loop,↓Qr,Q1,Je,Q2,↓Jo,yarg,Q3,↓Qs,↓Yt,gw,Zk,Zw,↓chk,Yn,noW,↓Y7,↓Yo,↓Qt,↓Yd,Y8,Pg.look,Q4,Qu,Zb,implies_true,true_and,and_true,Y9,Yp,Yq,Q5,Q8,ofV,Yh,Y0,AV.cells,TK.cells,Za,Zi,reduceCtorEq,Nat.reduceEqDiff,ite_true,ite_false,Option.some.injEq,and_self,exists_eq_left',Z5,J4,Yg,Ye,Yr,Ys,tk9,dz9,tk22,kHasPrefix,hct]
      refine ⟨by omega, ?_⟩
      refine loopYH_intro (α := Nat) (fun k => (some ((marksTo false (hitB p) ls i).length + lineLead false (ls.getD i []) + (marksIn (hitB p) i (ls.getD i []) k).length), [(0, .yld l), (1, .rp [.str p]), (4, .int .i64 i), (5, .str (ls.getD i [])), (9, .sl 1 (ls.map .str)), (10, .int .i64 ls.length), (11, .int .i64 i), (17, .int .i64 (ls.getD i []).length), (18, .int .i64 k)], []))
        (fun k => k ≤ (ls.getD i []).length) (fun k => (ls.getD i []).length - k) 0 (by omega) (by rw [hl]; simp [marksIn]) ?_ ?_
      · simp (maxSteps := 4000000) only [Pg.look,Yi,Zm,Zn,Qb,Qc,Yx,Qd,Qe,Qf,Yj,Qg,Qh,Qi,Qj,Pg.freeze,Ze,Yy,Yz,Zq,Qk,reduceCtorEq,Nat.reduceEqDiff,Zd,ite_true,ite_false,and_self,Zz,Ql]
        all_goals rfl
      intro k hk1
      have hm1 := marksIn_succ (hitB p) i (ls.getD i []) k
      by_cases hk2 : k < (ls.getD i []).length
      · have hct2 : decide ((k : Int) < ((ls.getD i []).length : Int)) = true := decide_eq_true (by omega)
        have w2 : IntKind.i64.wrap ((k : Int) + 1) = ((k + 1 : Nat) : Int) := by rw [wrap64 (by omega) (by omega)]; rfl
        have hgd : hitB p (ls.getD i []) k = prefB ((ls.getD i []).drop k) p := rfl
        cases hg : prefB ((ls.getD i []).drop k) p with
        | true =>
          rw [hg] at hgd
          rw [if_pos hgd] at hm1
          have hy := mark_in false (hitB p) ls i k hlt hk2 hgd
          simp (maxSteps := 4000000) only [↓Xq,↓Xi,↓Kp,↓Jn,↓Jh,↓J1,↓Qr,↓wpYH_region1,Q1,Je,Q2,↓Jo,runYDH_nil,runYDH_cons,↓tkC_eq,yarg,Q3,Kq,Ko,↓Qs,↓Km,↓X3,↓Kr,↓Ks,endT_none,bselH_true,↓Yt,↓Yc,↓fixG,setG,gw,Zk,Ji,Zw,↓chk,Yn,noW,↓Y7,↓Yo,↓Qt,↓Yd,Y8,Pg.look,Q4,Qu,Xn,Y3,Y6,Zb,J6,implies_true,true_and,and_true,Xo,Xp,unc,gof,mux,Y9,Yp,Yq,Q5,Q8,cutV,Yi,Zm,Zn,Nat.reduceAdd,ofV,Yh,Qb,Qc,Yx,Qd,Qe,Qf,Yj,Qg,Qh,Qi,Qj,Pg.freeze,Ze,Yy,Yz,Zq,Qk,Y0,sliceS,↓Jw,Jx,Jy,Xb,Qy,Jz,J9,Q9,Yv,Jp,Jj,Jk,AV.cells,TK.cells,AV.definite,lay,Xf,Op.operands,Jt,Z9,Zc,Za,Yu,J8,Kn,Zi,reduceCtorEq,Nat.reduceEqDiff,Nat.reduceAdd,Zh,Zd,Zj,Zo,Zf,Zr,Zu,Zl,ite_true,ite_false,Option.some.injEq,Yf,AV.agg.injEq,Zv,Z0,Zp,and_self,exists_eq_left',Zz,Z5,Ka,Kb,Kk,Qz,Qm,Qn,J7,Zg,Xj,beq_self_eq_true,Z8,Ja,Q0,Jl,Jm,Qo,Qp,Qq,Yg,Z7,Z1,Zy,Ym,Nat.reduceLeDiff,Y4,Y5,Jb,Ye,Yr,Ys,↓msel,muC,↓J0,Jc,tk9,tk28,tz28,kHasPrefix,AV.okS,hct2,hg,Xw,hy,w2]
          exact ⟨by kernel_rfl, ⟨by omega, by omega⟩, ⟨by omega, by omega⟩, rfl, k + 1, by omega, by omega, by rw [hm1, List.length_append]; rfl, rfl⟩
        | false =>
          rw [hg] at hgd
          rw [if_neg (by rw [hgd]; simp)] at hm1
          simp (maxSteps := 4000000) only [↓Xq,↓Xi,↓Jn,↓Jh,↓J1,↓Qr,↓wpYH_region1,Q1,Je,Q2,↓Jo,runYDH_nil,runYDH_cons,↓tkC_eq,yarg,Q3,↓Qs,↓X3,bselH_true,↓Yt,↓Yc,↓fixG,setG,gw,Zk,Ji,Zw,↓chk,Yn,noW,↓Y7,↓Yo,↓Qt,↓Yd,Y8,Pg.look,Q4,Qu,Xn,Y3,Y6,Zb,implies_true,true_and,and_true,Xo,Xp,unc,gof,mux,Y9,Yp,Yq,Q5,Q8,cutV,Yi,Zm,Zn,Nat.reduceAdd,ofV,Yh,Qb,Qc,Yx,Qd,Qe,Qf,Yj,Qg,Qh,Qi,Qj,Pg.freeze,Ze,Yy,Yz,Zq,Qk,Y0,sliceS,↓Jw,Jx,Jy,Xb,Qy,Jz,J9,Q9,Yv,Jp,Jj,Jk,TK.cells,Op.operands,Jt,Z9,Zc,Za,Yu,J8,Kn,Zi,reduceCtorEq,Nat.reduceEqDiff,Nat.reduceAdd,Zh,Zd,Zj,Zf,Zr,Zu,ite_true,ite_false,Option.some.injEq,Zv,Z0,Zp,and_self,exists_eq_left',Zz,Ka,Kb,Kk,Qz,Qm,Qn,J7,Zg,Xj,beq_self_eq_true,Z8,Ja,Q0,Jl,Jm,Qo,Qp,Qq,Yg,Jb,Ye,Yr,Ys,↓msel,muC,↓J0,Jc,tk9,kHasPrefix,AV.okS,hct2,hg,w2]
          exact ⟨by kernel_rfl, ⟨by omega, by omega⟩, ⟨by omega, by omega⟩, k + 1, by omega, by omega, by rw [hm1], rfl⟩
      · have hcf2 : decide ((k : Int) < ((ls.getD i []).length : Int)) = false := decide_eq_false (by omega)
        have hke : k = (ls.getD i []).length := by omega
        subst hke
        simp (maxSteps := 4000000) only [↓Xq,↓X7,↓Jn,↓Jh,↓Qr,Q1,Je,Q2,↓Jo,yarg,Q3,↓Qs,↓Xv,↓X3,↓Xl,↓Xm,Xs,↓Yc,gw,Zk,Zw,↓chk,Yn,↓Y7,↓Yo,↓Yd,Y8,Pg.look,Q4,Qu,Zb,implies_true,true_and,and_true,Y9,Yp,Yq,Q5,Q8,Yi,Zm,Zn,ofV,Yh,Qb,Qc,Yx,Qd,Qe,Qf,Yj,Qg,Qh,Qi,Qj,Pg.freeze,Ze,Yy,Yz,Zq,Qk,reduceCtorEq,Nat.reduceEqDiff,Zd,ite_true,ite_false,Option.some.injEq,and_self,Zz,Z5,Ye,Yr,Ys,hcf2,w1]
        exact ⟨i + 1, by omega, by omega, by rw [hts, List.length_append, hln]; omega, rfl⟩
    · have hcf : decide ((i : Int) < (ls.length : Int)) = false := decide_eq_false (by omega)
      have hil : i = ls.length := by omega
      simp (maxSteps := 4000000) only [↓Xq,↓X7,↓Jn,↓Jh,↓Qr,Q1,Je,Q2,↓Jo,yarg,Q3,↓Qs,↓Xv,↓Xl,↓Xm,Xs,↓Yc,gw,Zk,Zw,↓chk,Yn,↓Y7,↓Yo,↓Yd,Y8,Pg.look,Q4,Qu,Zb,implies_true,true_and,Y9,Yp,Yq,Q5,Q8,reduceCtorEq,Nat.reduceEqDiff,ite_true,ite_false,and_self,Z5,Ye,Yr,Ys,hcf]
      rw [hil]
def aAll (p : List UInt8) (ls : Ls) : AV := .fn 111 [.rp [.str p], .rp [.sl 1 (ls.map .str)]]
def kAll1 : C1 := C1.itBy (lCons (cRp (lOne cStr)) (lOne (cRp (lOne cStrs)))) (fun d => okText d.2) (fun d => (hits d.1 d.2).map fun p => [aPos p])
theorem ok_all1 : C1OK Try.prog 111 kAll1 := C1OK.itBy (by kernel_rfl) (fun d h => it_all d.1 d.2 h)
theorem calls_All (ls : Ls) (p : List UInt8) : CallsR Try.prog 107 [.sl 1 (ls.map .str), .str p] [] (aAll p ls) [] := by
  refine callsR_of (mrg := true) (dyn := []) (CtrOK.nil _) mixed Try.func107 rfl (by simp [Try.ntmps107]) (by kernel_rfl) ?_
  rw [show Try.f107.results.toList = [.tmp 4] from by kernel_rfl]
  unfold aAll
  simp (maxSteps := 4000000) only [↓Qx,↓Q6,↓Yw,↓Z3,Zx,Yl,Ya,gw,Zk,↓chk,Yn,noW,↓Y7,↓Yo,↓Qt,J5,↓Zt,↓Yd,Y8,Pg.look,Zb,implies_true,Y9,Yp,Yq,Yi,Zm,Zn,ofV,Yh,Xc,Xd,Xe,Qb,Qc,Yx,Qd,Qe,Qf,Yj,Qg,Qh,frzL,Qi,Qj,Pg.freeze,Ze,Kl,Yy,Yz,Zq,Qk,subL,Jq,J9,Yv,Jp,AV.cells,AV.definite,frzAt,Zc,Za,reduceCtorEq,Nat.reduceEqDiff,Zh,Zd,Zj,Zo,Zf,Zr,Zu,Z6,Yk,Zl,ite_true,ite_false,Zv,Z0,Zp,and_self,Zz,resIn,J7,Zg,Nat.reduceBEq,Bool.or_self,Xj,beq_self_eq_true,Bool.or_true,Zs,Z7,Z2,Yb,Ye,Yr,Ys,Z4]
def kAllF : C1 := C1.by [.sl 1 [], .id] (lCons cStrs (lOne cStr)) (fun _ => True) (fun d => aAll d.2 d.1) (fun _ => [])
theorem ok_AllF : C1OK Try.prog 107 kAllF := C1OK.by (by kernel_rfl) (fun d _ => calls_All d.1 d.2) (fun d => by unfold aAll; rfl) (fun _ => rfl)
end Go.Pg
