/- Motions by paragraphs: the program's. Brackets: the program's. -/
import Derived.Test.YtkkcfkggfpoagaaPgFx2
open List renaming getElem?_cons_zero → Za, getElem?_cons_succ → Zb, contains_nil → Zd, append_nil → Ze, foldl_nil → Zf, cons_append → Zg, nil_append → Zh, getD_cons_zero → Zi, length_nil → Zj, take_succ_cons → Zk, length_cons → Zn, drop_succ_cons → Zq, set_cons_zero → Zu, all_cons → Zv, all_nil → Z0, set_cons_succ → Z4, drop_zero → Z5, take_zero → Z7, drop_nil → Z9, take_nil → Yb, map_nil → Yj, map_cons → Yk, length_map → Y5, range'_zero → Y7, getElem?_toArray → Qv, toList_toArray → Q0
open Bool renaming false_eq_true → Zc, and_self → Zr, if_false_right → Jb, decide_eq_true → Jc, not_false → J4, not_true → Xa
open Option renaming getD_some → Zl, isSome_some → Ye, bind_some → Q9
open Go.Pg renaming thenA_normal → Zm, bselH_false → Zs, gselH_plain → Zt, wpH_region → Zw, selC_false → Zx, closeQ_nil → Zy, diagQ_zero → Zz, runH_cons → Z1, regH_none → Z2, subV_succ → Z3, cselH_bool → Z6, runH_nil → Z8, wpH_cond → Yc, wpH_seq → Yd, pickOK_nil → Yg, wpH_block → Yh, iselH_false → Yi, iselH_true → Yl, stepEv → Ym, ofLeaf → Yn, isNext → Yo, alives → Yp, pickOf → Yq, ldCells → Ys, wpA_H → Yv, justK → Yw, pureK → Yx, heapV → Yy, footV → Yz, nextF → Y0, nextG → Y1, ptrsE → Y2, subOs → Y3, subEv → Y4, putCells → Y6, wpH_skip → Y8, wpH_ret → Y9, res_succ → Qa, intOp → Qb, closeQ_succ → Qc, heapK → Qd, oneK → Qe, opnd → Qf, valV → Qg, subA → Qh, subQ → Qi, frzO → Qj, subF → Qk, subG → Ql, frzE → Qm, frzC → Qn, frz0 → Qo, frzH → Qp, subM → Qq, thenA_ret → Qr, objAt → Qt, blockA_ret → Qu, binK → Qw, binV → Qx, intV → Qy, blockA_normal → Qz, lCons_dec → Q1, dec2_some → Q2, optP_some → Q3, optV_some → Q4, optH_some → Q5, retA → Q6, resK → Q7, tupA → Q8, getD_str → Ja, frzL → Jd, subL → Je, normArgs → Jf, cInt_dec → Jg, cAgg_dec → Jh, lOne_dec → Ji, C1by_pre → Jj, envOf → Jk, aliveO → Jm, pairsA → Jn, pairsO → Jo, assocN → Jp, pairsE → Jq, pairsC → Jr, pairs0 → Js, resM → Jt, cutL → Ju, mapAt → Jv, blockA_exit → Jw, res8_eq → Jx, C1by_ns → Jy, C1by_it → Jz, C1by_mu → J0, buildL → J1, decL_str → J2, thenA_exit → J3, look_stripE → J5, shiftR → J6, shift1 → J7, C1by_r → J8, C1by_H → J9, cSl_dec → Xb, wpH_exit → Xc, callT → Xd, callC → Xe, callV → Xf, normA → Xg, normC → Xh, callP → Xi, mergeable → Xj, wpH_loop → Xk, gselH_if → Xl, kselH_1 → Xm
open Nat renaming zero_lt_succ → Zo, zero_add → Zp, le_refl → Ya, sub_zero → Yf, not_lt_zero → Yr, lt_irrefl → Yu, add_zero → Jl
open Int renaming cast_ofNat_Int → Yt, toNat_natCast → Qs
namespace Go.Pg
open Go Go.Proofs

/-- The first number from i on that fits. -/
def findUp (g : Nat → Bool) : Nat → Nat → Option Nat
  | 0, _ => none
  | k + 1, i => if g i = true then some i else findUp g k (i + 1)
/-- The last number below. -/
def findDn (g : Nat → Bool) : Nat → Option Nat
  | 0 => none
  | k + 1 => if g k = true then some k else findDn g k
theorem findUp_some {g : Nat → Bool} : ∀ {k i j : Nat}, findUp g k i = some j → i ≤ j ∧ j < i + k ∧ g j = true
  | 0, _, _, h => by cases h
  | k + 1, i, j, h => by
    unfold findUp at h
    split at h
    · next hg => cases h; exact ⟨by omega, by omega, hg⟩
    · have := findUp_some h; exact ⟨by omega, by omega, this.2.2⟩
theorem findDn_some {g : Nat → Bool} : ∀ {k j : Nat}, findDn g k = some j → j < k ∧ g j = true
  | 0, _, h => by cases h
  | k + 1, j, h => by
    unfold findDn at h
    split at h
    · next hg => cases h; exact ⟨by omega, hg⟩
    · have := findDn_some h; exact ⟨by omega, this.2⟩
def parEnd (ls : Ls) (i : Nat) : Bool := ls.getD i [] == [] && !(ls.getD (i - 1) [] == [])
def parBeg (ls : Ls) (i : Nat) : Bool := ls.getD i [] == [] && !(ls.getD (i + 1) [] == [])
def lastPos (ls : Ls) (op : Bool) : Int × Int := ((ls.length : Int) - 1, if op = true then ((ls.getD (ls.length - 1) []).length : Int) else max (((ls.getD (ls.length - 1) []).length : Int) - 1) 0)
def nextPar (ls : Ls) (l : Int) (op : Bool) : Int × Int := match findUp (parEnd ls) (ls.length - (l.toNat + 1)) (l.toNat + 1) with
  | some i => (i, 0)
  | none => lastPos ls op
def backPar (ls : Ls) (l : Int) : Int × Int := match findDn (parBeg ls) l.toNat with
  | some i => (i, 0)
  | none => (0, 0)
set_option maxRecDepth 20000 in
set_option maxHeartbeats 4000000 in
theorem calls_pnext (ls : Ls) (p : Int × Int) (op : Bool) (hf : okText ls) (h0 : 0 ≤ p.1) (h1 : p.1 < ls.length) :
    CallsR Try.prog 96 [.sl 1 (ls.map .str), aPos p, .bool op] [] (aPos (nextPar ls p.1 op)) [] := by
  refine callsR_of (mrg := true) (dyn := []) (CtrOK.nil _) mixed Try.func96 rfl (by simp [Try.ntmps96]) (by kernel_rfl) ?_
  rw [show Try.f96.results.toList = [.cell 6 28] from by kernel_rfl]
  obtain ⟨p1, p2⟩ := p
  dsimp only at h0 h1 ⊢
  obtain ⟨l, rfl⟩ := Int.eq_ofNat_of_zero_le h0
  have h8 := hf.1
  have w0 : IntKind.i64.wrap ((l : Int) + 1) = ((l + 1 : Nat) : Int) := by rw [wrap64 (by omega) (by omega)]; rfl
  have hR : nextPar ls (l : Int) op = match findUp (parEnd ls) (ls.length - (l + 1)) (l + 1) with
    | some i => (i, 0)
    | none => lastPos ls op := rfl
  generalize nextPar ls (l : Int) op = R at hR ⊢
  simp (maxSteps := 4000000) only [↓Yv,↓Yd,↓Yh,↓Xk,↓Zw,Zs,Z8,Z1,gw,Zt,↓chk,Yw,noW,↓Qe,↓Yx,↓Qd,Jk,↓Zm,↓Ym,Qf,Pg.look,Qw,Qb,Zc,implies_true,true_and,and_true,Qg,Yy,Yz,Qx,Qy,Nat.reduceAdd,ofV,Yn,Ys,Qt,AV.cells,TK.cells,AV.definite,Za,Zl,reduceCtorEq,Nat.reduceEqDiff,Nat.reduceAdd,Zh,Zg,Zn,Zj,Zp,ite_true,ite_false,Option.some.injEq,and_self,exists_eq_left',Zd,Zi,Jl,Zo,Z2,Yo,Y0,Y1,Zx,tk3,tk28,tz28,dz28,aPos,w0]
  refine loopH_intro (α := Nat) (fun i => ([(0, .sl 1 (ls.map .str)), (2, .bool op), (4, .ptr 0 2 1 0 0), (6, .ptr 1 2 1 0 0), (7, .int .i64 i)], [.arr 28 2 [.agg [.int .i64 l, .int .i64 p2]], .arr 28 2 [.agg [.int .i64 0, .int .i64 0]]]))
    (fun i => l + 1 ≤ i ∧ i ≤ ls.length ∧ R = match findUp (parEnd ls) (ls.length - i) i with
      | some i => (i, 0)
      | none => lastPos ls op) (fun i => ls.length - i) (l + 1) ⟨by omega, by omega, hR⟩ ?_ ?_
  · simp (maxSteps := 4000000) only [Pg.look,true_and,and_true,Yp,Jm,nxtQ,hdS,Jn,frzA,Zy,Qc,Zz,Qh,Qi,Y2,Jo,Qj,Qk,Ql,Yq,Jp,Jq,Jr,Js,Qm,Qn,Qo,Qp,Pg.freeze,Zf,Y3,subO,Y4,Z3,Qq,AV.cells,AV.pureLeaf,AV.pureB,Zb,Za,reduceCtorEq,Nat.reduceEqDiff,Zh,Ze,Zg,Zp,ite_true,ite_false,Zv,Z0,Zr,and_self,Yu,Yr]
    exact ⟨by decide, subX_eq rfl rfl, subX_eq rfl rfl⟩
  rintro i ⟨hi1, hi2, hR⟩
  by_cases hlt : i < ls.length
  · have c1 : decide ((i : Int) < (ls.length : Int)) = true := decide_eq_true (by omega)
    have w1 : IntKind.i64.wrap ((i : Int) - 1) = ((i - 1 : Nat) : Int) := by rw [wrap64 (by omega) (by omega)]; omega
    have w2 : IntKind.i64.wrap ((i : Int) + 1) = ((i + 1 : Nat) : Int) := by rw [wrap64 (by omega) (by omega)]; rfl
    rw [show ls.length - i = (ls.length - (i + 1)) + 1 by omega, findUp] at hR
    cases hg : parEnd ls i with
    | true =>
      rw [if_pos hg] at hR
      subst hR
      have hg' := hg
      unfold parEnd at hg'
      simp (maxSteps := 4000000) only [↓Yv,↓Y8,↓Y9,↓Yd,↓Yc,↓Yh,↓Zw,↓Yl,Zs,Z8,Z1,gw,Zt,Xl,Xm,Z6,gkind,↓chk,Yw,noW,↓Qe,↓Yx,↓Qd,↓Zm,↓Qr,↓Qu,↓Ym,Qf,Pg.look,Qw,Qb,strOp,dstOf,Zc,implies_true,imp_self,true_and,and_true,pickC,pickV,unc,gof,mux,mergeK,condsL,Qg,Yy,Yz,Qx,Qy,strV,Yp,Zy,Zz,Nat.reduceAdd,Xj,J5,ofV,Yn,sameK,Q6,Q7,Q8,Qh,Qi,Y2,Qj,Qk,Ql,Yq,Qm,Qn,Jd,Qo,Qp,Pg.freeze,Zf,Y3,Y4,Z3,Qq,Je,slen,Ys,Qt,Qa,Jt,AV.cells,TK.cells,AV.definite,AV.leaf,AV.leafy,Y6,lay,J1,Op.operands,Qv,Zb,Za,Q9,Zl,reduceCtorEq,Nat.reduceEqDiff,Nat.reduceAdd,Zh,Ze,Zg,Zn,Zj,Yk,Yj,Zu,Z4,Zp,ite_true,ite_false,Option.some.injEq,Ye,AV.int.injEq,AV.agg.injEq,Jb,Jc,Zv,Z0,Zr,and_self,exists_eq_left',Yg,Y5,Q0,Zd,Ja,Qs,Zi,Ju,Z5,Zq,Zk,Z7,Yf,Nat.reduceLeDiff,Ya,Z9,Yb,Zo,Z2,Yo,Y0,Y1,Zx,Jv,tk9,dz9,tk22,tk28,tz28,dz28,aPos,c1,w1,hg']
      exact ⟨⟨by omega, by omega⟩, fun h => ⟨h, by omega, by omega⟩⟩
    | false =>
      rw [if_neg (by rw [hg]; simp)] at hR
      have hg' := hg
      unfold parEnd at hg'
      simp (maxSteps := 4000000) only [↓Yv,↓Y8,↓Yd,↓Yc,↓Yh,↓Zw,↓Yl,↓Yi,Zs,Z8,Z1,gw,Zt,Xl,Xm,Z6,gkind,↓chk,Yw,noW,↓Qe,↓Yx,↓Qd,↓Zm,↓Qz,↓Ym,Qf,Pg.look,Qw,Qb,strOp,dstOf,Zc,implies_true,imp_self,true_and,and_true,pickC,pickV,unc,gof,mux,mergeK,condsL,Qg,Yy,Yz,Qx,Qy,strV,Yp,Jm,nxtQ,hdS,Jn,frzA,Zy,Qc,Zz,Xj,J5,ofV,Yn,sameK,Qh,Qi,Y2,Jo,Qj,Qk,Ql,Yq,Jp,Jq,Jr,Js,Qm,Qn,Qo,Qp,Pg.freeze,Zf,Y3,subO,Y4,Z3,Qq,slen,Ys,AV.cells,TK.cells,AV.pureLeaf,AV.pureB,Op.operands,Qv,Zb,Za,Q9,Zl,reduceCtorEq,Nat.reduceEqDiff,Zh,Ze,Zg,Zp,ite_true,ite_false,Option.some.injEq,AV.int.injEq,Jb,Jc,Zv,Z0,Zr,and_self,exists_eq_left',Y5,Q0,Zd,Ja,Qs,Yu,Yr,Z2,Yo,Y0,Y1,Zx,tk9,dz9,tk22,c1,w1,w2,hg']
      exact ⟨⟨by omega, by omega⟩, fun h => ⟨h, by omega, by omega⟩, i + 1, ⟨by omega, by omega, hR⟩, by omega, by decide, ⟨subX_eq rfl rfl, subX_eq rfl rfl⟩, rfl⟩
  · have c1 : decide ((i : Int) < (ls.length : Int)) = false := decide_eq_false (by omega)
    rw [show ls.length - i = 0 by omega, findUp] at hR
    subst hR
    have h6 := fits_getD hf (ls.length - 1)
    have w1 : IntKind.i64.wrap ((ls.length : Int) - 1) = (ls.length : Int) - 1 := wrap64 (by omega) (by omega)
    have e1 : ((ls.length : Int) - 1).toNat = ls.length - 1 := by omega
    have w2 : IntKind.i64.wrap (((ls.getD (ls.length - 1) []).length : Int) - 1) = ((ls.getD (ls.length - 1) []).length : Int) - 1 := wrap64 (by omega) (by omega)
    cases op with
    | true =>
      simp (maxSteps := 4000000) only [↓Yv,↓Y8,↓Y9,↓Xc,↓Yd,↓Yc,↓Zw,↓Yi,Zs,Z8,Z1,gw,Zt,Z6,↓chk,Yw,noW,↓Qe,↓Yx,↓Qd,↓Zm,↓J3,↓Jw,↓Ym,Qf,Pg.look,Qw,Qb,Xa,Zc,implies_true,true_and,and_true,Qg,Yy,Yz,Qx,Qy,Yp,Zy,Zz,Nat.reduceAdd,ofV,Yn,Q6,Q7,Q8,Qh,Qi,Y2,Qj,Qk,Ql,Yq,Qm,Qn,Jd,Qo,Qp,Pg.freeze,Zf,Y3,Y4,Z3,Qq,Je,slen,Ys,Qt,Qa,Jt,AV.cells,TK.cells,AV.definite,AV.leaf,AV.leafy,Y6,lay,J1,Zb,Za,Zl,reduceCtorEq,Nat.reduceEqDiff,Nat.reduceAdd,Zh,Ze,Zg,Zn,Zj,Yk,Yj,Zu,Z4,Zp,ite_true,ite_false,Option.some.injEq,Ye,AV.int.injEq,AV.agg.injEq,Zv,Z0,Zr,and_self,exists_eq_left',Yg,Y5,Zd,Ja,Zi,Ju,Z5,Zq,Zk,Z7,Yf,Nat.reduceLeDiff,Ya,Z9,Yb,Zo,Z2,Yo,Y0,Y1,Zx,Jv,tk9,dz9,tk22,tk28,tz28,dz28,aPos,lastPos,c1,w1,e1]
      exact ⟨by omega, by omega⟩
    | false =>
      simp (maxSteps := 4000000) only [↓Yv,↓Y9,↓Xc,↓Yd,↓Yc,↓Zw,↓Yl,↓Yi,Zs,Z8,Z1,gw,Zt,Z6,↓chk,Yw,noW,↓Qe,↓Yx,↓Qd,↓Zm,↓J3,↓Jw,↓Ym,Qf,Pg.look,Qw,Qb,J4,Zc,implies_true,true_and,and_true,Qg,Yy,Yz,Qx,Qy,Yp,Zy,Zz,Nat.reduceAdd,ofV,Yn,Q6,Q7,Q8,Qh,Qi,Y2,Qj,Qk,Ql,Yq,Qm,Qn,Jd,Qo,Qp,Pg.freeze,Zf,Y3,Y4,Z3,Qq,Je,slen,Ys,Qt,Qa,Jt,AV.cells,TK.cells,AV.definite,AV.leaf,AV.leafy,Y6,lay,J1,foldInts,Zb,Za,Zl,reduceCtorEq,Nat.reduceEqDiff,Nat.reduceAdd,Zh,Ze,Zg,Zn,Zj,Yk,Yj,Zu,Z4,Zp,ite_true,ite_false,Option.some.injEq,Ye,AV.int.injEq,AV.agg.injEq,Zv,Z0,Zr,and_self,exists_eq_left',Yg,Y5,Zd,Ja,Zi,Ju,Z5,Zq,Zk,Z7,Yf,Nat.reduceLeDiff,Ya,Z9,Yb,Zo,Z2,Yo,Y0,Y1,Zx,Jv,tk3,tk9,dz9,tk22,tk28,tz28,dz28,aPos,lastPos,c1,w1,e1,w2]
      exact ⟨by omega, by omega⟩
def kPNext : C1 := C1.by [.sl 1 [], .id, .id] (lCons cStrs (lCons cPos2 (lOne cBool))) (fun d => okText d.1 ∧ 0 ≤ d.2.1.1 ∧ d.2.1.1 < d.1.length) (fun d => aPos (nextPar d.1 d.2.1.1 d.2.2)) (fun _ => [])
theorem ok_pnext : C1OK Try.prog 96 kPNext := C1OK.by (by kernel_rfl) (fun d h => calls_pnext d.1 d.2.1 d.2.2 h.1 h.2.1 h.2.2) (fun _ => rfl) (fun _ => rfl)

set_option maxRecDepth 20000 in
set_option maxHeartbeats 4000000 in
theorem calls_pback (ls : Ls) (p : Int × Int) (hf : okText ls) (h0 : 0 ≤ p.1) (h1 : p.1 < ls.length) :
    CallsR Try.prog 94 [.sl 1 (ls.map .str), aPos p] [] (aPos (backPar ls p.1)) [] := by
  refine callsR_of (mrg := true) (dyn := []) (CtrOK.nil _) mixed Try.func94 rfl (by simp [Try.ntmps94]) (by kernel_rfl) ?_
  rw [show Try.f94.results.toList = [.cell 4 28] from by kernel_rfl]
  obtain ⟨p1, p2⟩ := p
  dsimp only at h0 h1 ⊢
  obtain ⟨l, rfl⟩ := Int.eq_ofNat_of_zero_le h0
  have h8 := hf.1
  have w0 : IntKind.i64.wrap ((l : Int) - 1) = (l : Int) - 1 := wrap64 (by omega) (by omega)
  have hR : backPar ls (l : Int) = match findDn (parBeg ls) l with
    | some i => (i, 0)
    | none => (0, 0) := rfl
  generalize backPar ls (l : Int) = R at hR ⊢
  simp (maxSteps := 4000000) only [↓Yv,↓Yd,↓Yh,↓Xk,↓Zw,Zs,Z8,Z1,gw,Zt,↓chk,Yw,noW,↓Qe,↓Yx,↓Qd,Jk,↓Zm,↓Ym,Qf,Pg.look,Qw,Qb,Zc,implies_true,true_and,and_true,Qg,Yy,Yz,Qx,Qy,Nat.reduceAdd,ofV,Yn,Ys,Qt,AV.cells,TK.cells,AV.definite,Za,Zl,reduceCtorEq,Nat.reduceEqDiff,Nat.reduceAdd,Zh,Zg,Zn,Zj,Zp,ite_true,ite_false,Option.some.injEq,and_self,exists_eq_left',Zd,Zi,Jl,Zo,Z2,Yo,Y0,Y1,Zx,tk3,tk28,tz28,dz28,aPos,w0]
  refine loopH_intro (α := Nat) (fun i => ([(0, .sl 1 (ls.map .str)), (3, .ptr 0 2 1 0 0), (4, .ptr 1 2 1 0 0), (5, .int .i64 ((i : Int) - 1))], [.arr 28 2 [.agg [.int .i64 l, .int .i64 p2]], .arr 28 2 [.agg [.int .i64 0, .int .i64 0]]]))
    (fun i => i ≤ l ∧ R = match findDn (parBeg ls) i with
      | some i => (i, 0)
      | none => (0, 0)) (fun i => i) l ⟨by omega, hR⟩ ?_ ?_
  · simp (maxSteps := 4000000) only [Pg.look,true_and,and_true,Yp,Jm,nxtQ,hdS,Jn,frzA,Zy,Qc,Zz,Qh,Qi,Y2,Jo,Qj,Qk,Ql,Yq,Jp,Jq,Jr,Js,Qm,Qn,Qo,Qp,Pg.freeze,Zf,Y3,subO,Y4,Z3,Qq,AV.cells,AV.pureLeaf,AV.pureB,Zb,Za,reduceCtorEq,Nat.reduceEqDiff,Zh,Ze,Zg,Zp,ite_true,ite_false,Zv,Z0,Zr,and_self,Yu,Yr]
    exact ⟨by decide, subX_eq rfl rfl, subX_eq rfl rfl⟩
  rintro i ⟨hi, hR⟩
  cases i with
  | succ i =>
    have e0 : (((i + 1 : Nat) : Int) - 1) = (i : Int) := by omega
    have c1 : decide ((i : Int) ≥ 0) = true := decide_eq_true (by omega)
    have w1 : IntKind.i64.wrap ((i : Int) + 1) = ((i + 1 : Nat) : Int) := by rw [wrap64 (by omega) (by omega)]; rfl
    have w2 : IntKind.i64.wrap ((i : Int) - 1) = (i : Int) - 1 := wrap64 (by omega) (by omega)
    rw [findDn] at hR
    cases hg : parBeg ls i with
    | true =>
      rw [if_pos hg] at hR
      subst hR
      have hg' := hg
      unfold parBeg at hg'
      simp (maxSteps := 4000000) only [↓Yv,↓Y8,↓Y9,↓Yd,↓Yc,↓Yh,↓Zw,↓Yl,Zs,Z8,Z1,gw,Zt,Xl,Xm,Z6,gkind,↓chk,Yw,noW,↓Qe,↓Yx,↓Qd,↓Zm,↓Qr,↓Qu,↓Ym,Qf,Pg.look,Qw,Qb,strOp,dstOf,Zc,implies_true,imp_self,true_and,and_true,pickC,pickV,unc,gof,mux,mergeK,condsL,Qg,Yy,Yz,Qx,Qy,strV,Yp,Zy,Zz,Nat.reduceAdd,Xj,J5,ofV,Yn,sameK,Q6,Q7,Q8,Qh,Qi,Y2,Qj,Qk,Ql,Yq,Qm,Qn,Jd,Qo,Qp,Pg.freeze,Zf,Y3,Y4,Z3,Qq,Je,Ys,Qt,Qa,Jt,AV.cells,TK.cells,AV.definite,AV.leaf,AV.leafy,Y6,lay,J1,Op.operands,Qv,Zb,Za,Q9,Zl,reduceCtorEq,Nat.reduceEqDiff,Nat.reduceAdd,Zh,Ze,Zg,Zn,Zj,Yk,Yj,Zu,Z4,Zp,ite_true,ite_false,Option.some.injEq,Ye,AV.agg.injEq,Jb,Jc,Zv,Z0,Zr,and_self,exists_eq_left',Yg,Y5,Q0,Zd,Ja,Qs,Zi,Ju,Z5,Zq,Zk,Z7,Yf,Nat.reduceLeDiff,Ya,Z9,Yb,Zo,Z2,Yo,Y0,Y1,Zx,Jv,tk9,dz9,tk22,tk28,tz28,dz28,aPos,e0,c1,w1,hg']
      exact ⟨⟨by omega, by omega⟩, fun h => ⟨h, by omega, by omega⟩⟩
    | false =>
      rw [if_neg (by rw [hg]; simp)] at hR
      have hg' := hg
      unfold parBeg at hg'
      simp (maxSteps := 4000000) only [↓Yv,↓Y8,↓Yd,↓Yc,↓Yh,↓Zw,↓Yl,↓Yi,Zs,Z8,Z1,gw,Zt,Xl,Xm,Z6,gkind,↓chk,Yw,noW,↓Qe,↓Yx,↓Qd,↓Zm,↓Qz,↓Ym,Qf,Pg.look,Qw,Qb,strOp,dstOf,Zc,implies_true,imp_self,true_and,and_true,pickC,pickV,unc,gof,mux,mergeK,condsL,Qg,Yy,Yz,Qx,Qy,strV,Yp,Jm,nxtQ,hdS,Jn,frzA,Zy,Qc,Zz,Xj,J5,ofV,Yn,sameK,Qh,Qi,Y2,Jo,Qj,Qk,Ql,Yq,Jp,Jq,Jr,Js,Qm,Qn,Qo,Qp,Pg.freeze,Zf,Y3,subO,Y4,Z3,Qq,Ys,AV.cells,TK.cells,AV.pureLeaf,AV.pureB,Op.operands,Qv,Zb,Za,Q9,Zl,reduceCtorEq,Nat.reduceEqDiff,Zh,Ze,Zg,Zp,ite_true,ite_false,Option.some.injEq,Jb,Jc,Zv,Z0,Zr,and_self,exists_eq_left',Y5,Q0,Zd,Ja,Qs,Yu,Yr,Z2,Yo,Y0,Y1,Zx,tk9,dz9,tk22,e0,c1,w1,w2,hg']
      exact ⟨⟨by omega, by omega⟩, fun h => ⟨h, by omega, by omega⟩, i, ⟨by omega, hR⟩, by omega, by decide, ⟨subX_eq rfl rfl, subX_eq rfl rfl⟩, rfl⟩
  | zero =>
    rw [findDn] at hR
    subst hR
    simp (maxSteps := 4000000) only [↓Yv,↓Y8,↓Y9,↓Xc,↓Yd,↓Yc,↓Yh,↓Zw,iselH_if,Zs,Z8,Z1,gw,Zt,Xl,Xm,Z6,gkind,↓chk,Yw,noW,↓Qe,↓Yx,↓Qd,↓Zm,↓Qr,↓J3,↓Qz,↓Qu,↓Jw,↓Ym,Qf,Pg.look,Qw,Qb,strOp,dstOf,Zc,implies_true,imp_self,true_and,and_true,pickC,pickV,unc,gof,mux,mergeK,condsL,Qg,Yy,Yz,Qx,Qy,strV,Yp,Jm,nxtQ,hdS,Jn,frzA,Zy,Qc,Zz,Nat.reduceAdd,Xj,J5,ofV,Yn,sameK,Q6,Q7,Q8,Qh,Qi,Y2,Jo,Qj,Qk,Ql,Yq,Jp,Jq,Jr,Js,Qm,Qn,Jd,Qo,Qp,Pg.freeze,Zf,Y3,subO,Y4,Z3,Qq,Je,Ys,Qt,Qa,Jt,AV.cells,TK.cells,AV.definite,AV.leaf,AV.leafy,AV.pureLeaf,AV.pureB,Y6,lay,J1,Op.operands,Qv,Zb,Za,Q9,Zl,reduceCtorEq,Nat.reduceEqDiff,Nat.reduceAdd,Zh,Ze,Zg,Zn,Zj,Yk,Yj,Zu,Z4,Zp,ite_true,ite_false,Option.some.injEq,Ye,AV.agg.injEq,Jb,Jc,decide_eq_true_eq,decide_eq_false_iff_not,Int.not_le,Zv,Z0,Zr,and_self,exists_eq_left',Yg,Y5,Q0,Zd,Yt,Ja,Zi,Ju,Z5,Zq,Zk,Z7,Yf,Nat.reduceLeDiff,Ya,Yu,Z9,Yb,Yr,Zo,Z2,Yo,Y0,Y1,Zx,Jv,tk9,dz9,tk22,tk28,tz28,dz28,aPos]
    exact fun h => absurd h (by decide)
def kPBack : C1 := C1.by [.sl 1 [], .id] (lCons cStrs (lOne cPos2)) (fun d => okText d.1 ∧ 0 ≤ d.2.1 ∧ d.2.1 < d.1.length) (fun d => aPos (backPar d.1 d.2.1)) (fun _ => [])
theorem ok_pback : C1OK Try.prog 94 kPBack := C1OK.by (by kernel_rfl) (fun d h => calls_pback d.1 d.2 h.1 h.2.1 h.2.2) (fun _ => rfl) (fun _ => rfl)

theorem nextPar_in {ls : Ls} {l : Int} {op : Bool} (h0 : 0 < ls.length) : 0 ≤ (nextPar ls l op).1 ∧ (nextPar ls l op).1 < ls.length := by
  unfold nextPar
  split
  · next i hi => have := findUp_some hi; dsimp only; omega
  · unfold lastPos; dsimp only; omega
theorem backPar_in {ls : Ls} {l : Int} (h1 : l < ls.length) (h0 : 0 ≤ l) : 0 ≤ (backPar ls l).1 ∧ (backPar ls l).1 < ls.length := by
  unfold backPar
  split
  · next i hi => have := findDn_some hi; dsimp only; omega
  · dsimp only; omega
/-- So many steps, each of them forth. -/
def goes (step : Int × Int → Int × Int) (good : Int × Int → Int × Int → Bool) : Nat → Int × Int → Option (Int × Int)
  | 0, p => some p
  | k + 1, p => if good p (step p) = true then goes step good k (step p) else none
def jumpM (p : Int × Int) : Mv := (p, 0, true, -1)
def jumpO (r : Option (Int × Int)) : Mv × Bool := match r with
  | some q => (jumpM q, true)
  | none => mNone
def parNextP (ls : Ls) (p : Int × Int) (n : Int) (op : Bool) : Mv × Bool := whenMay ls p n (jumpO (goes (fun q => nextPar ls q.1 op) less n.toNat p))
def parBackP (ls : Ls) (p : Int × Int) (n : Int) : Mv × Bool := whenMay ls p n (jumpO (goes (fun q => backPar ls q.1) (fun a b => less b a) n.toNat p))

theorem calls_pfails (ls : Ls) (p : Int × Int) (n : Int) : CallsR Try.prog 93 [.sl 1 (ls.map .str), aPos p, .int .i64 n] [] (.bool (!may ls p n)) [] := by
  refine callsR_of (mrg := true) (dyn := []) (CtrOK.cons ok_CPlace (CtrOK.nil _)) mixed Try.func93 rfl (by simp [Try.ntmps93]) (by kernel_rfl) ?_
  rw [show Try.f93.results.toList = [.tmp 6] from by kernel_rfl]
  simp (maxSteps := 4000000) only [↓Yv,↓Y9,↓Yd,↓Zw,Zs,Z8,Z1,gw,Zt,Xl,Xm,gkind,↓chk,Yw,noW,↓Qe,↓Yx,↓Qd,Jk,↓Zm,↓Ym,Qf,Pg.look,Qw,Qb,dstOf,Zc,implies_true,imp_self,true_and,and_true,pickC,pickV,unc,gof,mux,mergeK,condsL,Qg,Yy,Yz,Qx,Qy,Yp,Zy,Zz,Nat.reduceAdd,Xj,J5,ofV,Yn,sameK,Q6,Q7,Q8,Qh,Qi,Y2,Qj,Qk,Ql,Yq,Qm,Qn,Qo,Qp,Pg.freeze,Zf,Y3,Y4,Z3,Qq,Ys,Qt,↓Xd,Xe,Xf,Jf,Xg,Xh,resL,Jx,Qa,Jt,J6,J7,AV.cells,TK.cells,AV.definite,Op.operands,Call.operands,Array.toList_append,Qv,Zb,Za,Q9,Zl,reduceCtorEq,Nat.reduceEqDiff,Nat.reduceAdd,Zh,Ze,Zg,Zn,Zj,Yk,Yj,Zp,ite_true,ite_false,Option.some.injEq,Bool.if_true_left,decide_eq_true_eq,decide_eq_false_iff_not,Int.not_lt,Zr,and_self,Bool.not_eq_true',exists_eq_left',Yg,Jg,Q0,Xb,Jh,Ji,Q1,Q2,Zd,Y7,J2,Jy,Jj,J8,J9,Q3,Q4,Q5,Zi,Ju,Z5,Zk,Yf,Ya,Yb,Zo,Jz,Z2,Yo,Y0,Y1,Zx,↓msel,muC,↓Xi,J0,tk28,dz28,kRPlace,aPos]
  rw [Bool.eq_iff_iff]
  simp only [may,Bool.or_eq_true,decide_eq_true_eq,Bool.not_eq_true',Bool.and_eq_false_iff,decide_eq_false_iff_not]
  constructor
  · rintro (h | h)
    · right; omega
    · left; exact h
  · rintro (h | h)
    · right; exact h
    · left; omega
theorem ok_pfails : C1OK Try.prog 93 kCFails := C1OK.by (by kernel_rfl) (fun d _ => calls_pfails d.1 d.2.1 d.2.2) (fun _ => rfl) (fun _ => rfl)
theorem calls_pjump (p : Int × Int) : CallsR Try.prog 95 [aPos p] [] (aMv (jumpM p)) [] := by
  refine callsR_of (mrg := true) (dyn := []) (CtrOK.nil _) mixed Try.func95 rfl (by simp [Try.ntmps95]) (by kernel_rfl) ?_
  rw [show Try.f95.results.toList = [.cell 2 38] from by kernel_rfl]
  simp (maxSteps := 4000000) only [↓Yv,↓Y9,↓Yd,↓Zw,Zs,Z8,Z1,gw,Zt,↓chk,Yw,noW,↓Qe,↓Yx,↓Qd,Jk,↓Zm,↓Ym,Qf,Pg.look,Zc,implies_true,true_and,and_true,Qg,Yy,Yz,Yp,Zy,Zz,Nat.reduceAdd,ofV,Yn,Q6,Q7,Q8,Qh,Qi,Y2,Qj,Qk,Ql,Yq,Qm,Qn,Jd,Qo,Qp,Pg.freeze,Zf,Y3,Y4,Z3,Qq,Je,Ys,Qt,Qa,Jt,AV.cells,TK.cells,AV.definite,AV.leaf,AV.leafy,Y6,lay,J1,Zb,Za,Zl,reduceCtorEq,Nat.reduceEqDiff,Nat.reduceAdd,Zh,Ze,Zg,Zn,Zj,Yk,Yj,Zu,Z4,Zp,ite_true,ite_false,Option.some.injEq,Ye,AV.agg.injEq,Zv,Z0,Zr,and_self,exists_eq_left',Yg,Zd,Zi,Ju,Z5,Zq,Zk,Z7,Yf,Nat.reduceLeDiff,Ya,Z9,Yb,Zo,Z2,Yo,Y0,Y1,Zx,Jv,tk28,dz28,tk38,tz38,dz38,aPos,aMv,jumpM]
def kPJump : C1 := C1.by [.id] (lOne cPos2) (fun _ => True) (fun d => aMv (jumpM d)) (fun _ => [])
theorem ok_pjump : C1OK Try.prog 95 kPJump := C1OK.by (by kernel_rfl) (fun d _ => calls_pjump d) (fun _ => rfl) (fun _ => rfl)

set_option maxRecDepth 20000 in
set_option maxHeartbeats 4000000 in
theorem calls_ParNext (ls : Ls) (p : Int × Int) (n : Int) (op : Bool) (hf : okText ls) (hn : n ≤ 9223372036854775807) :
    CallsR Try.prog 86 [.sl 1 (ls.map .str), aPos p, .int .i64 n, .bool op] [] (aMove (parNextP ls p n op)) [] := by
  refine callsR_of (mrg := true) (dyn := []) (CtrOK.cons ok_pfails (CtrOK.cons ok_pnext (CtrOK.cons ok_Less (CtrOK.cons ok_pjump (CtrOK.nil _))))) mixed Try.func86 rfl (by simp [Try.ntmps86]) (by kernel_rfl) ?_
  rw [show Try.f86.results.toList = [.cell 8 38, .tmp 9] from by kernel_rfl]
  have hm := may_iff ls p n
  unfold parNextP whenMay
  cases hmm : may ls p n with
  | false =>
    rw [if_neg (by simp)]
    obtain ⟨p1, p2⟩ := p
    simp (maxSteps := 4000000) only [↓Yv,↓Y9,↓Yd,↓Yc,↓Zw,↓Yl,Zs,Z8,Z1,gw,Zt,Z6,↓chk,Yw,noW,↓Qe,↓Yx,↓Qd,Jk,↓Zm,↓Qr,↓Ym,Qf,Pg.look,J4,Zc,false_implies,implies_true,true_and,and_true,Qg,Yy,Yz,Yp,Zy,Zz,Nat.reduceAdd,ofV,Yn,Q6,Q7,Q8,Qh,Qi,Y2,Qj,Qk,Ql,Yq,Qm,Qn,Jd,Qo,Qp,Pg.freeze,Zf,Y3,Y4,Z3,Qq,Je,Ys,Qt,↓Xd,Xe,Xf,callH,Jf,Xg,Xh,resL,Jx,Qa,Jt,J6,J7,AV.cells,TK.cells,AV.definite,AV.leaf,AV.leafy,Y6,lay,J1,Zb,Za,Zl,reduceCtorEq,Nat.reduceEqDiff,Nat.reduceAdd,Zh,Ze,Zg,Zn,Zj,Yk,Yj,Zu,Z4,Zp,ite_true,ite_false,Option.some.injEq,Ye,AV.agg.injEq,Prod.mk.injEq,Zv,Z0,Zr,and_self,exists_eq_left',Yg,Jg,Xb,Jh,Ji,Q1,Q2,Zd,Y7,J2,Jy,Jj,J8,J9,Q3,Q4,Q5,Zi,Ju,Z5,Zq,Zk,Z7,Yf,Ya,Z9,Yb,Zo,Jz,Z2,Yo,Y0,Y1,Zx,↓msel,muC,↓Xi,J0,Jv,tk28,dz28,tk38,tz38,dz38,kCFails,kPNext,kLess,kPJump,aPos,aMove,aMv,mNone,hmm]
  | true =>
    rw [if_pos rfl]
    have hi := hm.1 hmm
    obtain ⟨k0, rfl⟩ := Int.eq_ofNat_of_zero_le (show 0 ≤ n by omega)
    have hR : goes (fun q => nextPar ls q.1 op) (less) ((k0 : Int)).toNat p = goes (fun q => nextPar ls q.1 op) (less) k0 p := rfl
    rw [hR]
    clear hR
    obtain ⟨R, hR⟩ : ∃ R, R = goes (fun q => nextPar ls q.1 op) (less) k0 p := ⟨_, rfl⟩
    rw [← hR]
    obtain ⟨p1, p2⟩ := p
    simp (maxSteps := 4000000) only [↓Yv,↓Y8,↓Yd,↓Yc,↓Yh,↓Xk,↓Zw,↓Yi,Zs,Z8,Z1,gw,Zt,Z6,↓chk,Yw,noW,↓Qe,↓Yx,↓Qd,Jk,↓Zm,↓Ym,Qf,Pg.look,Xa,Zc,false_implies,implies_true,true_and,and_true,Qg,Yy,Yz,Nat.reduceAdd,ofV,Yn,Pg.freeze,Zf,Ys,Qt,↓Xd,Xe,Xf,callH,Jf,Xg,Xh,resL,Jx,Qa,Jt,J6,J7,AV.cells,TK.cells,AV.definite,Za,Zl,reduceCtorEq,Nat.reduceEqDiff,Nat.reduceAdd,Zh,Ze,Zg,Zn,Zj,Yk,Yj,Zp,ite_true,ite_false,Option.some.injEq,Prod.mk.injEq,and_self,exists_eq_left',Jg,Xb,Jh,Ji,Q1,Q2,Zd,Y7,J2,Jy,Jj,J8,J9,Q3,Q4,Q5,Zi,Ju,Z5,Zk,Yf,Ya,Yb,Zo,Jz,Z2,Yo,Y0,Y1,Zx,↓msel,muC,↓Xi,J0,tk28,dz28,tz38,kCFails,kPNext,kLess,kPJump,aPos,hmm]
    refine loopH_intro (α := Nat × Int × Int) (fun x => ([(0, .sl 1 (ls.map .str)), (2, .int .i64 x.1), (3, .bool op), (5, .ptr 0 2 1 0 0), (8, .ptr 1 5 1 0 0), (9, .bool false)], [.arr 28 2 [.agg [.int .i64 x.2.1, .int .i64 x.2.2]], .arr 38 5 [.agg [.int .i64 0, .int .i64 0, .int .i64 0, .bool false, .int .i64 0]]]))
      (fun x => x.1 ≤ k0 ∧ 0 ≤ x.2.1 ∧ x.2.1 < ls.length ∧ R = goes (fun q => nextPar ls q.1 op) (less) x.1 x.2) (fun x => x.1) (k0, p1, p2) ⟨Nat.le_refl _, hi.2.1, by have : p1.toNat < ls.length := hi.2.2.1; show p1 < _; omega, hR⟩ ?_ ?_
    · simp (maxSteps := 4000000) only [Pg.look,true_and,and_true,Yp,Jm,nxtQ,hdS,Jn,frzA,Zy,Qc,Zz,Qh,Qi,Y2,Jo,Qj,Qk,Ql,Yq,Jp,Jq,Jr,Js,Qm,Qn,Qo,Qp,Pg.freeze,Zf,Y3,subO,Y4,Z3,Qq,AV.cells,AV.pureLeaf,AV.pureB,Zb,Za,reduceCtorEq,Nat.reduceEqDiff,Zh,Ze,Zg,Zp,ite_true,ite_false,Zv,Z0,Zr,and_self,Yu,Yr]
      exact ⟨by decide, subX_eq rfl rfl, subX_eq rfl rfl⟩
    rintro ⟨m, q1, q2⟩ ⟨hk, hq1, hq2, hR⟩
    dsimp only at hk hq1 hq2 hR
    cases m with
    | zero =>
      rw [goes] at hR
      subst hR
      simp (maxSteps := 4000000) only [↓Yv,↓Y9,↓Xc,↓Yd,↓Yc,↓Zw,↓Yi,Zs,Z8,Z1,gw,Zt,Z6,↓chk,Yw,noW,↓Qe,↓Yx,↓Qd,↓Zm,↓J3,↓Jw,↓Ym,Qf,Pg.look,Qw,Qb,Zc,false_implies,implies_true,true_and,and_true,Qg,Yy,Yz,Qx,Qy,Yp,Zy,Zz,Nat.reduceAdd,ofV,Yn,Q6,Q7,Q8,Qh,Qi,Y2,Qj,Qk,Ql,Yq,Qm,Qn,Jd,Qo,Qp,Pg.freeze,Zf,Y3,Y4,Z3,Qq,Je,Ys,Qt,↓Xd,Xe,Xf,callH,Jf,Xg,Xh,resL,Jx,Qa,Jt,J6,J7,AV.cells,TK.cells,AV.leaf,AV.leafy,Y6,lay,Zb,Za,Zl,reduceCtorEq,Nat.reduceEqDiff,Nat.reduceAdd,Zh,Ze,Zg,Zn,Zj,Yk,Yj,Zu,Z4,Zp,ite_true,ite_false,Option.some.injEq,Prod.mk.injEq,Zv,Z0,Zr,and_self,exists_eq_left',Yg,Jg,Jh,Ji,Q1,Q2,Zd,Yt,Y7,Jy,Jj,J8,J9,Q3,Q4,Q5,Zi,Ju,Z5,Zq,Zk,Z7,Yf,Ya,Z9,Yb,Zo,Jz,Z2,Yo,Y0,Y1,Zx,↓msel,muC,↓Xi,J0,Jv,tk28,dz28,tk38,dz38,kCFails,kPNext,kLess,kPJump,aPos,aMove,aMv,jumpO,jumpM,Int.reduceGT,decide_false]
    | succ m =>
      have c1 : decide (((m + 1 : Nat) : Int) > 0) = true := decide_eq_true (by omega)
      have w1 : IntKind.i64.wrap (((m + 1 : Nat) : Int) - 1) = (m : Int) := by rw [wrap64 (by omega) (by omega)]; omega
      rw [goes] at hR
      dsimp only at hR
      have hin := nextPar_in (ls := ls) (l := q1) (op := op) (by omega)
      obtain ⟨t, ht⟩ : ∃ t, t = nextPar ls q1 op := ⟨_, rfl⟩
      rw [← ht] at hR hin
      obtain ⟨t1, t2⟩ := t
      cases hg : less (q1, q2) (t1, t2) with
      | true =>
        rw [if_pos hg] at hR
        simp (maxSteps := 4000000) only [↓Yv,↓Y8,↓Yd,↓Yc,↓Yh,↓Zw,↓Yl,↓Yi,Zs,Z8,Z1,gw,Zt,Z6,↓chk,Yw,noW,↓Qe,↓Yx,↓Qd,↓Zm,↓Qz,↓Ym,Qf,Pg.look,Qw,Qb,Xa,Zc,false_implies,implies_true,true_and,and_true,Qg,Yy,Yz,Qx,Qy,Yp,Jm,nxtQ,hdS,Jn,frzA,Zy,Qc,Zz,Nat.reduceAdd,ofV,Yn,Qh,Qi,Y2,Jo,Qj,Qk,Ql,Yq,Jp,Jq,Jr,Js,Qm,Qn,Qo,Qp,Pg.freeze,Zf,Y3,subO,Y4,Z3,Qq,Ys,Qt,↓Xd,Xe,Xf,callH,Jf,Xg,Xh,resL,Jx,Qa,Jt,J6,J7,AV.cells,TK.cells,AV.definite,AV.leaf,AV.leafy,AV.pureLeaf,AV.pureB,Y6,lay,Zb,Za,Zl,reduceCtorEq,Nat.reduceEqDiff,Nat.reduceAdd,Zh,Ze,Zg,Zn,Zj,Yk,Yj,Zu,Z4,Zp,ite_true,ite_false,Option.some.injEq,Prod.mk.injEq,Zv,Z0,Zr,and_self,exists_eq_left',Jg,cBool_dec,Xb,Jh,Ji,Q1,Q2,Zd,Y7,J2,Jy,Jj,J8,J9,Q3,Q4,Q5,Zi,Ju,Z5,Zq,Zk,Z7,Yf,Ya,Yu,Z9,Yb,Yr,Zo,Jz,Z2,Yo,Y0,Y1,Zx,↓msel,muC,↓Xi,J0,tk28,tz28,dz28,kCFails,kPNext,kLess,kPJump,aPos,aMv,jumpM,c1,w1,← ht,hg]
        exact ⟨⟨hf, hq1, hq2⟩, (m, t1, t2), ⟨by dsimp only; omega, hin.1, hin.2, hR⟩, by dsimp only; omega, by decide, ⟨subX_eq rfl rfl, subX_eq rfl rfl⟩, rfl⟩
      | false =>
        rw [if_neg (by rw [hg]; simp)] at hR
        subst hR
        simp (maxSteps := 4000000) only [↓Yv,↓Y8,↓Y9,↓Yd,↓Yc,↓Yh,↓Zw,↓Yl,Zs,Z8,Z1,gw,Zt,Z6,↓chk,Yw,noW,↓Qe,↓Yx,↓Qd,↓Zm,↓Qr,↓Qu,↓Ym,Qf,Pg.look,Qw,Qb,J4,Zc,false_implies,implies_true,true_and,and_true,Qg,Yy,Yz,Qx,Qy,Yp,Zy,Zz,Nat.reduceAdd,ofV,Yn,Q6,Q7,Q8,Qh,Qi,Y2,Qj,Qk,Ql,Yq,Qm,Qn,Jd,Qo,Qp,Pg.freeze,Zf,Y3,Y4,Z3,Qq,Je,Ys,Qt,↓Xd,Xe,Xf,callH,Jf,Xg,Xh,resL,Jx,Qa,Jt,J6,J7,AV.cells,TK.cells,AV.definite,AV.leaf,AV.leafy,Y6,lay,J1,Zb,Za,Zl,reduceCtorEq,Nat.reduceEqDiff,Nat.reduceAdd,Zh,Ze,Zg,Zn,Zj,Yk,Yj,Zu,Z4,Zp,ite_true,ite_false,Option.some.injEq,Ye,AV.agg.injEq,Prod.mk.injEq,Zv,Z0,Zr,and_self,exists_eq_left',Yg,Jg,cBool_dec,Xb,Jh,Ji,Q1,Q2,Zd,Y7,J2,Jy,Jj,J8,J9,Q3,Q4,Q5,Zi,Ju,Z5,Zq,Zk,Z7,Yf,Ya,Z9,Yb,Zo,Jz,Z2,Yo,Y0,Y1,Zx,↓msel,muC,↓Xi,J0,Jv,tk28,tz28,dz28,tk38,tz38,dz38,kCFails,kPNext,kLess,kPJump,aPos,aMove,aMv,jumpO,jumpM,mNone,c1,← ht,hg]
        exact ⟨hf, hq1, hq2⟩

set_option maxRecDepth 20000 in
set_option maxHeartbeats 4000000 in
theorem calls_ParBack (ls : Ls) (p : Int × Int) (n : Int) (hf : okText ls) (hn : n ≤ 9223372036854775807) :
    CallsR Try.prog 85 [.sl 1 (ls.map .str), aPos p, .int .i64 n] [] (aMove (parBackP ls p n)) [] := by
  refine callsR_of (mrg := true) (dyn := []) (CtrOK.cons ok_pfails (CtrOK.cons ok_pback (CtrOK.cons ok_Less (CtrOK.cons ok_pjump (CtrOK.nil _))))) mixed Try.func85 rfl (by simp [Try.ntmps85]) (by kernel_rfl) ?_
  rw [show Try.f85.results.toList = [.cell 6 38, .tmp 7] from by kernel_rfl]
  have hm := may_iff ls p n
  unfold parBackP whenMay
  cases hmm : may ls p n with
  | false =>
    rw [if_neg (by simp)]
    obtain ⟨p1, p2⟩ := p
    simp (maxSteps := 4000000) only [↓Yv,↓Y9,↓Yd,↓Yc,↓Zw,↓Yl,Zs,Z8,Z1,gw,Zt,Z6,↓chk,Yw,noW,↓Qe,↓Yx,↓Qd,Jk,↓Zm,↓Qr,↓Ym,Qf,Pg.look,J4,Zc,false_implies,implies_true,true_and,and_true,Qg,Yy,Yz,Yp,Zy,Zz,Nat.reduceAdd,ofV,Yn,Q6,Q7,Q8,Qh,Qi,Y2,Qj,Qk,Ql,Yq,Qm,Qn,Jd,Qo,Qp,Pg.freeze,Zf,Y3,Y4,Z3,Qq,Je,Ys,Qt,↓Xd,Xe,Xf,callH,Jf,Xg,Xh,resL,Jx,Qa,Jt,J6,J7,AV.cells,TK.cells,AV.definite,AV.leaf,AV.leafy,Y6,lay,J1,Zb,Za,Zl,reduceCtorEq,Nat.reduceEqDiff,Nat.reduceAdd,Zh,Ze,Zg,Zn,Zj,Yk,Yj,Zu,Z4,Zp,ite_true,ite_false,Option.some.injEq,Ye,AV.agg.injEq,Prod.mk.injEq,Zv,Z0,Zr,and_self,exists_eq_left',Yg,Jg,Xb,Jh,Ji,Q1,Q2,Zd,Y7,J2,Jy,Jj,J8,J9,Q3,Q4,Q5,Zi,Ju,Z5,Zq,Zk,Z7,Yf,Ya,Z9,Yb,Zo,Jz,Z2,Yo,Y0,Y1,Zx,↓msel,muC,↓Xi,J0,Jv,tk28,dz28,tk38,tz38,dz38,kCFails,kPBack,kLess,kPJump,aPos,aMove,aMv,mNone,hmm]
  | true =>
    rw [if_pos rfl]
    have hi := hm.1 hmm
    obtain ⟨k0, rfl⟩ := Int.eq_ofNat_of_zero_le (show 0 ≤ n by omega)
    have hR : goes (fun q => backPar ls q.1) (fun a b => less b a) ((k0 : Int)).toNat p = goes (fun q => backPar ls q.1) (fun a b => less b a) k0 p := rfl
    rw [hR]
    clear hR
    obtain ⟨R, hR⟩ : ∃ R, R = goes (fun q => backPar ls q.1) (fun a b => less b a) k0 p := ⟨_, rfl⟩
    rw [← hR]
    obtain ⟨p1, p2⟩ := p
    simp (maxSteps := 4000000) only [↓Yv,↓Y8,↓Yd,↓Yc,↓Yh,↓Xk,↓Zw,↓Yi,Zs,Z8,Z1,gw,Zt,Z6,↓chk,Yw,noW,↓Qe,↓Yx,↓Qd,Jk,↓Zm,↓Ym,Qf,Pg.look,Xa,Zc,false_implies,implies_true,true_and,and_true,Qg,Yy,Yz,Nat.reduceAdd,ofV,Yn,Pg.freeze,Zf,Ys,Qt,↓Xd,Xe,Xf,callH,Jf,Xg,Xh,resL,Jx,Qa,Jt,J6,J7,AV.cells,TK.cells,AV.definite,Za,Zl,reduceCtorEq,Nat.reduceEqDiff,Nat.reduceAdd,Zh,Ze,Zg,Zn,Zj,Yk,Yj,Zp,ite_true,ite_false,Option.some.injEq,Prod.mk.injEq,and_self,exists_eq_left',Jg,Xb,Jh,Ji,Q1,Q2,Zd,Y7,J2,Jy,Jj,J8,J9,Q3,Q4,Q5,Zi,Ju,Z5,Zk,Yf,Ya,Yb,Zo,Jz,Z2,Yo,Y0,Y1,Zx,↓msel,muC,↓Xi,J0,tk28,dz28,tz38,kCFails,kPBack,kLess,kPJump,aPos,hmm]
    refine loopH_intro (α := Nat × Int × Int) (fun x => ([(0, .sl 1 (ls.map .str)), (2, .int .i64 x.1), (4, .ptr 0 2 1 0 0), (6, .ptr 1 5 1 0 0), (7, .bool false)], [.arr 28 2 [.agg [.int .i64 x.2.1, .int .i64 x.2.2]], .arr 38 5 [.agg [.int .i64 0, .int .i64 0, .int .i64 0, .bool false, .int .i64 0]]]))
      (fun x => x.1 ≤ k0 ∧ 0 ≤ x.2.1 ∧ x.2.1 < ls.length ∧ R = goes (fun q => backPar ls q.1) (fun a b => less b a) x.1 x.2) (fun x => x.1) (k0, p1, p2) ⟨Nat.le_refl _, hi.2.1, by have : p1.toNat < ls.length := hi.2.2.1; show p1 < _; omega, hR⟩ ?_ ?_
    · simp (maxSteps := 4000000) only [Pg.look,true_and,and_true,Yp,Jm,nxtQ,hdS,Jn,frzA,Zy,Qc,Zz,Qh,Qi,Y2,Jo,Qj,Qk,Ql,Yq,Jp,Jq,Jr,Js,Qm,Qn,Qo,Qp,Pg.freeze,Zf,Y3,subO,Y4,Z3,Qq,AV.cells,AV.pureLeaf,AV.pureB,Zb,Za,reduceCtorEq,Nat.reduceEqDiff,Zh,Ze,Zg,Zp,ite_true,ite_false,Zv,Z0,Zr,and_self,Yu,Yr]
      exact ⟨by decide, subX_eq rfl rfl, subX_eq rfl rfl⟩
    rintro ⟨m, q1, q2⟩ ⟨hk, hq1, hq2, hR⟩
    dsimp only at hk hq1 hq2 hR
    cases m with
    | zero =>
      rw [goes] at hR
      subst hR
      simp (maxSteps := 4000000) only [↓Yv,↓Y9,↓Xc,↓Yd,↓Yc,↓Zw,↓Yi,Zs,Z8,Z1,gw,Zt,Z6,↓chk,Yw,noW,↓Qe,↓Yx,↓Qd,↓Zm,↓J3,↓Jw,↓Ym,Qf,Pg.look,Qw,Qb,Zc,false_implies,implies_true,true_and,and_true,Qg,Yy,Yz,Qx,Qy,Yp,Zy,Zz,Nat.reduceAdd,ofV,Yn,Q6,Q7,Q8,Qh,Qi,Y2,Qj,Qk,Ql,Yq,Qm,Qn,Jd,Qo,Qp,Pg.freeze,Zf,Y3,Y4,Z3,Qq,Je,Ys,Qt,↓Xd,Xe,Xf,callH,Jf,Xg,Xh,resL,Jx,Qa,Jt,J6,J7,AV.cells,TK.cells,AV.leaf,AV.leafy,Y6,lay,Zb,Za,Zl,reduceCtorEq,Nat.reduceEqDiff,Nat.reduceAdd,Zh,Ze,Zg,Zn,Zj,Yk,Yj,Zu,Z4,Zp,ite_true,ite_false,Option.some.injEq,Prod.mk.injEq,Zv,Z0,Zr,and_self,exists_eq_left',Yg,Jg,Jh,Ji,Q1,Q2,Zd,Yt,Y7,Jy,Jj,J8,J9,Q3,Q4,Q5,Zi,Ju,Z5,Zq,Zk,Z7,Yf,Ya,Z9,Yb,Zo,Jz,Z2,Yo,Y0,Y1,Zx,↓msel,muC,↓Xi,J0,Jv,tk28,dz28,tk38,dz38,kCFails,kPBack,kLess,kPJump,aPos,aMove,aMv,jumpO,jumpM,Int.reduceGT,decide_false]
    | succ m =>
      have c1 : decide (((m + 1 : Nat) : Int) > 0) = true := decide_eq_true (by omega)
      have w1 : IntKind.i64.wrap (((m + 1 : Nat) : Int) - 1) = (m : Int) := by rw [wrap64 (by omega) (by omega)]; omega
      rw [goes] at hR
      dsimp only at hR
      have hin := backPar_in (ls := ls) (l := q1) hq2 hq1
      obtain ⟨t, ht⟩ : ∃ t, t = backPar ls q1 := ⟨_, rfl⟩
      rw [← ht] at hR hin
      obtain ⟨t1, t2⟩ := t
      cases hg : less (t1, t2) (q1, q2) with
      | true =>
        rw [if_pos hg] at hR
        simp (maxSteps := 4000000) only [↓Yv,↓Y8,↓Yd,↓Yc,↓Yh,↓Zw,↓Yl,↓Yi,Zs,Z8,Z1,gw,Zt,Z6,↓chk,Yw,noW,↓Qe,↓Yx,↓Qd,↓Zm,↓Qz,↓Ym,Qf,Pg.look,Qw,Qb,Xa,Zc,false_implies,implies_true,true_and,and_true,Qg,Yy,Yz,Qx,Qy,Yp,Jm,nxtQ,hdS,Jn,frzA,Zy,Qc,Zz,Nat.reduceAdd,ofV,Yn,Qh,Qi,Y2,Jo,Qj,Qk,Ql,Yq,Jp,Jq,Jr,Js,Qm,Qn,Qo,Qp,Pg.freeze,Zf,Y3,subO,Y4,Z3,Qq,Ys,Qt,↓Xd,Xe,Xf,callH,Jf,Xg,Xh,resL,Jx,Qa,Jt,J6,J7,AV.cells,TK.cells,AV.definite,AV.leaf,AV.leafy,AV.pureLeaf,AV.pureB,Y6,lay,Zb,Za,Zl,reduceCtorEq,Nat.reduceEqDiff,Nat.reduceAdd,Zh,Ze,Zg,Zn,Zj,Yk,Yj,Zu,Z4,Zp,ite_true,ite_false,Option.some.injEq,Prod.mk.injEq,Zv,Z0,Zr,and_self,exists_eq_left',Jg,Xb,Jh,Ji,Q1,Q2,Zd,Y7,J2,Jy,Jj,J8,J9,Q3,Q4,Q5,Zi,Ju,Z5,Zq,Zk,Z7,Yf,Ya,Yu,Z9,Yb,Yr,Zo,Jz,Z2,Yo,Y0,Y1,Zx,↓msel,muC,↓Xi,J0,tk28,tz28,dz28,kCFails,kPBack,kLess,kPJump,aPos,aMv,jumpM,c1,w1,← ht,hg]
        exact ⟨⟨hf, hq1, hq2⟩, (m, t1, t2), ⟨by dsimp only; omega, hin.1, hin.2, hR⟩, by dsimp only; omega, by decide, ⟨subX_eq rfl rfl, subX_eq rfl rfl⟩, rfl⟩
      | false =>
        rw [if_neg (by rw [hg]; simp)] at hR
        subst hR
        simp (maxSteps := 4000000) only [↓Yv,↓Y8,↓Y9,↓Yd,↓Yc,↓Yh,↓Zw,↓Yl,Zs,Z8,Z1,gw,Zt,Z6,↓chk,Yw,noW,↓Qe,↓Yx,↓Qd,↓Zm,↓Qr,↓Qu,↓Ym,Qf,Pg.look,Qw,Qb,J4,Zc,false_implies,implies_true,true_and,and_true,Qg,Yy,Yz,Qx,Qy,Yp,Zy,Zz,Nat.reduceAdd,ofV,Yn,Q6,Q7,Q8,Qh,Qi,Y2,Qj,Qk,Ql,Yq,Qm,Qn,Jd,Qo,Qp,Pg.freeze,Zf,Y3,Y4,Z3,Qq,Je,Ys,Qt,↓Xd,Xe,Xf,callH,Jf,Xg,Xh,resL,Jx,Qa,Jt,J6,J7,AV.cells,TK.cells,AV.definite,AV.leaf,AV.leafy,Y6,lay,J1,Zb,Za,Zl,reduceCtorEq,Nat.reduceEqDiff,Nat.reduceAdd,Zh,Ze,Zg,Zn,Zj,Yk,Yj,Zu,Z4,Zp,ite_true,ite_false,Option.some.injEq,Ye,AV.agg.injEq,Prod.mk.injEq,Zv,Z0,Zr,and_self,exists_eq_left',Yg,Jg,Xb,Jh,Ji,Q1,Q2,Zd,Y7,J2,Jy,Jj,J8,J9,Q3,Q4,Q5,Zi,Ju,Z5,Zq,Zk,Z7,Yf,Ya,Z9,Yb,Zo,Jz,Z2,Yo,Y0,Y1,Zx,↓msel,muC,↓Xi,J0,Jv,tk28,tz28,dz28,tk38,tz38,dz38,kCFails,kPBack,kLess,kPJump,aPos,aMove,aMv,jumpO,jumpM,mNone,c1,← ht,hg]
        exact ⟨hf, hq1, hq2⟩
theorem ok_ParNext : C1OK Try.prog 86 (kMvNB parNextP) := C1OK.by (by kernel_rfl) (fun d h => calls_ParNext d.1 d.2.1 d.2.2.1 d.2.2.2 h.1 h.2) (fun _ => rfl) (fun _ => rfl)
theorem ok_ParBack : C1OK Try.prog 85 (kMvN parBackP) := C1OK.by (by kernel_rfl) (fun d h => calls_ParBack d.1 d.2.1 d.2.2 h.1 h.2) (fun _ => rfl) (fun _ => rfl)
end Go.Pg
namespace Go.Pg
open Go Go.Proofs

def kindF (c : UInt8) : UInt8 × UInt8 × Bool × Bool :=
  if c = 40 ∨ c = 41 then (40, 41, c == 40, true) else if c = 91 ∨ c = 93 then (91, 93, c == 91, true) else if c = 123 ∨ c = 125 then (123, 125, c == 123, true) else (0, 0, false, false)
def aKind (k : UInt8 × UInt8 × Bool × Bool) : AV := .tuple [byteA k.1, byteA k.2.1, .bool k.2.2.1, .bool k.2.2.2]
set_option maxHeartbeats 4000000 in
theorem calls_Kind (c : UInt8) : CallsR Try.prog 98 [byteA c] [] (aKind (kindF c)) [] := by
  refine callsR_of (mrg := true) (dyn := []) (CtrOK.nil _) mixed Try.func98 rfl (by simp [Try.ntmps98]) (by kernel_rfl) ?_
  rw [show Try.f98.results.toList = [.tmp 2, .tmp 3, .tmp 4, .tmp 5] from by kernel_rfl]
  by_cases h1 : c = 40
  · subst h1
    rw [show kindF 40 = (40, 41, true, true) by decide]
    simp (maxSteps := 4000000) only [↓Yv,↓Y8,↓Y9,↓Yd,↓Yc,↓Yh,↓Zw,↓Yl,Zs,Z8,Z1,gw,Zt,Z6,↓chk,Yw,↓Qe,↓Yx,Jk,↓Zm,↓Qr,↓Qu,↓Ym,Qf,Pg.look,Qw,Qb,Zc,implies_true,Qg,Yy,Yz,Qx,Qy,Yp,Zy,Zz,ofV,Yn,Q6,Q7,Q8,Qh,Qi,Y2,Qj,Qk,Ql,Yq,Qm,Qn,Jd,Qo,Qp,Pg.freeze,Zf,Y3,Y4,Z3,Qq,Je,reduceCtorEq,Nat.reduceEqDiff,Ze,Zj,ite_true,ite_false,and_self,Yg,Zd,beq_self_eq_true,Yt,Z2,Yo,Y0,Y1,Zx,aKind,byteA,UInt8.reduceToNat]
    all_goals first | rfl | decide
  by_cases h2 : c = 41
  · subst h2
    rw [show kindF 41 = (40, 41, false, true) by decide]
    simp (maxSteps := 4000000) only [↓Yv,↓Y9,↓Yd,↓Yc,↓Yh,↓Zw,↓Yl,↓Yi,Zs,Z8,Z1,gw,Zt,Z6,↓chk,Yw,↓Qe,↓Yx,Jk,↓Zm,↓Qr,↓Qu,↓Ym,Qf,Pg.look,Qw,Qb,Zc,implies_true,Qg,Yy,Yz,Qx,Qy,Yp,Zy,Zz,ofV,Yn,Q6,Q7,Q8,Qh,Qi,Y2,Qj,Qk,Ql,Yq,Qm,Qn,Jd,Qo,Qp,Pg.freeze,Zf,Y3,Y4,Z3,Qq,Je,reduceCtorEq,Nat.reduceEqDiff,Ze,Zj,ite_true,ite_false,and_self,Yg,Zd,beq_self_eq_true,Yt,Int.reduceBEq,Z2,Yo,Y0,Y1,Zx,aKind,byteA,UInt8.reduceToNat]
    all_goals first | rfl | decide
  by_cases h3 : c = 91
  · subst h3
    rw [show kindF 91 = (91, 93, true, true) by decide]
    simp (maxSteps := 4000000) only [↓Yv,↓Y8,↓Y9,↓Yd,↓Yc,↓Yh,↓Zw,↓Yl,↓Yi,Zs,Z8,Z1,gw,Zt,Z6,↓chk,Yw,↓Qe,↓Yx,Jk,↓Zm,↓Qr,↓Qu,↓Ym,Qf,Pg.look,Qw,Qb,Zc,implies_true,Qg,Yy,Yz,Qx,Qy,Yp,Zy,Zz,ofV,Yn,Q6,Q7,Q8,Qh,Qi,Y2,Qj,Qk,Ql,Yq,Qm,Qn,Jd,Qo,Qp,Pg.freeze,Zf,Y3,Y4,Z3,Qq,Je,reduceCtorEq,Nat.reduceEqDiff,Ze,Zj,ite_true,ite_false,and_self,Yg,Zd,beq_self_eq_true,Yt,Int.reduceBEq,Z2,Yo,Y0,Y1,Zx,aKind,byteA,UInt8.reduceToNat]
    all_goals first | rfl | decide
  by_cases h4 : c = 93
  · subst h4
    rw [show kindF 93 = (91, 93, false, true) by decide]
    simp (maxSteps := 4000000) only [↓Yv,↓Y9,↓Yd,↓Yc,↓Yh,↓Zw,↓Yl,↓Yi,Zs,Z8,Z1,gw,Zt,Z6,↓chk,Yw,↓Qe,↓Yx,Jk,↓Zm,↓Qr,↓Qu,↓Ym,Qf,Pg.look,Qw,Qb,Zc,implies_true,Qg,Yy,Yz,Qx,Qy,Yp,Zy,Zz,ofV,Yn,Q6,Q7,Q8,Qh,Qi,Y2,Qj,Qk,Ql,Yq,Qm,Qn,Jd,Qo,Qp,Pg.freeze,Zf,Y3,Y4,Z3,Qq,Je,reduceCtorEq,Nat.reduceEqDiff,Ze,Zj,ite_true,ite_false,and_self,Yg,Zd,beq_self_eq_true,Yt,Int.reduceBEq,Z2,Yo,Y0,Y1,Zx,aKind,byteA,UInt8.reduceToNat]
    all_goals first | rfl | decide
  by_cases h5 : c = 123
  · subst h5
    rw [show kindF 123 = (123, 125, true, true) by decide]
    simp (maxSteps := 4000000) only [↓Yv,↓Y8,↓Y9,↓Yd,↓Yc,↓Yh,↓Zw,↓Yl,↓Yi,Zs,Z8,Z1,gw,Zt,Z6,↓chk,Yw,↓Qe,↓Yx,Jk,↓Zm,↓Qr,↓Qu,↓Ym,Qf,Pg.look,Qw,Qb,Zc,implies_true,Qg,Yy,Yz,Qx,Qy,Yp,Zy,Zz,ofV,Yn,Q6,Q7,Q8,Qh,Qi,Y2,Qj,Qk,Ql,Yq,Qm,Qn,Jd,Qo,Qp,Pg.freeze,Zf,Y3,Y4,Z3,Qq,Je,reduceCtorEq,Nat.reduceEqDiff,Ze,Zj,ite_true,ite_false,and_self,Yg,Zd,beq_self_eq_true,Yt,Int.reduceBEq,Z2,Yo,Y0,Y1,Zx,aKind,byteA,UInt8.reduceToNat]
    all_goals first | rfl | decide
  by_cases h6 : c = 125
  · subst h6
    rw [show kindF 125 = (123, 125, false, true) by decide]
    simp (maxSteps := 4000000) only [↓Yv,↓Y9,↓Yd,↓Yc,↓Yh,↓Zw,↓Yl,↓Yi,Zs,Z8,Z1,gw,Zt,Z6,↓chk,Yw,↓Qe,↓Yx,Jk,↓Zm,↓Qr,↓Qu,↓Ym,Qf,Pg.look,Qw,Qb,Zc,implies_true,Qg,Yy,Yz,Qx,Qy,Yp,Zy,Zz,ofV,Yn,Q6,Q7,Q8,Qh,Qi,Y2,Qj,Qk,Ql,Yq,Qm,Qn,Jd,Qo,Qp,Pg.freeze,Zf,Y3,Y4,Z3,Qq,Je,reduceCtorEq,Nat.reduceEqDiff,Ze,Zj,ite_true,ite_false,and_self,Yg,Zd,beq_self_eq_true,Yt,Int.reduceBEq,Z2,Yo,Y0,Y1,Zx,aKind,byteA,UInt8.reduceToNat]
    all_goals first | rfl | decide
  have e1 := byte_lit c 40 40 rfl h1
  have e2 := byte_lit c 41 41 rfl h2
  have e3 := byte_lit c 91 91 rfl h3
  have e4 := byte_lit c 93 93 rfl h4
  have e5 := byte_lit c 123 123 rfl h5
  have e6 := byte_lit c 125 125 rfl h6
  have e : kindF c = (0, 0, false, false) := by
    unfold kindF
    rw [if_neg (by simp [h1, h2]), if_neg (by simp [h3, h4]), if_neg (by simp [h5, h6])]
  rw [e]
  simp (maxSteps := 4000000) only [↓Yv,↓Y8,↓Y9,↓Yd,↓Yc,↓Yh,↓Zw,↓Yi,Zs,Z8,Z1,gw,Zt,Z6,↓chk,Yw,↓Qe,↓Yx,Jk,↓Zm,↓Qz,↓Ym,Qf,Pg.look,Qw,Qb,Zc,implies_true,Qg,Yy,Yz,Qx,Qy,Yp,Zy,Zz,ofV,Yn,Q6,Q7,Q8,Qh,Qi,Y2,Qj,Qk,Ql,Yq,Qm,Qn,Jd,Qo,Qp,Pg.freeze,Zf,Y3,Y4,Z3,Qq,Je,reduceCtorEq,Nat.reduceEqDiff,Ze,Zj,ite_true,ite_false,and_self,Yg,Zd,Yt,Z2,Yo,Y0,Y1,Zx,aKind,byteA,UInt8.reduceToNat,e1,e2,e3,e4,e5,e6]
  all_goals first | rfl | decide
def kKind : C1 := C1.by [.id] (lOne cByte) (fun _ => True) (fun d => aKind (kindF d)) (fun _ => [])
theorem ok_Kind : C1OK Try.prog 98 kKind := C1OK.by (by kernel_rfl) (fun d _ => calls_Kind d) (fun _ => rfl) (fun _ => rfl)

def lineEndB (ls : Ls) (l : Nat) : Int × Int := ((l : Int), ((ls.getD l []).length : Int) - 1)
def lineBegB (l : Nat) : Int × Int := ((l : Int), 0)
def full (ls : Ls) (l : Nat) : Bool := (ls.getD l []).length != 0
/-- The next byte's place. -/
def nextB (ls : Ls) (p : Int × Int) (back : Bool) : Option (Int × Int) :=
  if back = true then (if p.2 - 1 ≥ 0 then some (p.1, p.2 - 1) else (findDn (full ls) p.1.toNat).map (lineEndB ls))
  else (if p.2 + 1 < (ls.getD p.1.toNat []).length then some (p.1, p.2 + 1) else (findUp (full ls) (ls.length - (p.1.toNat + 1)) (p.1.toNat + 1)).map lineBegB)
def aOpt (r : Option (Int × Int)) : AV := .tuple [aPos (r.getD (0, 0)), .bool r.isSome]

set_option maxRecDepth 20000 in
set_option maxHeartbeats 4000000 in
theorem calls_bnext (ls : Ls) (p : Int × Int) (back : Bool) (hf : okText ls) (h0 : 0 ≤ p.1) (h1 : p.1 < ls.length) (h2 : 0 ≤ p.2) (h3 : p.2 ≤ 65536) :
    CallsR Try.prog 105 [.sl 1 (ls.map .str), aPos p, .bool back] [] (aOpt (nextB ls p back)) [] := by
  obtain ⟨p1, p2⟩ := p
  dsimp only at h0 h1 h2 h3
  refine callsR_of (mrg := true) (dyn := []) (CtrOK.nil _) mixed Try.func105 rfl (by simp [Try.ntmps105]) (by kernel_rfl) ?_
  rw [show Try.f105.results.toList = [.cell 6 28, .tmp 7] from by kernel_rfl]
  obtain ⟨l, rfl⟩ := Int.eq_ofNat_of_zero_le h0
  have hll := hf.1
  cases back with
  | true =>
    have w1 : IntKind.i64.wrap (p2 - 1) = p2 - 1 := wrap64 (by omega) (by omega)
    have hR : nextB ls ((l : Int), p2) true = if p2 - 1 ≥ 0 then some ((l : Int), p2 - 1) else (findDn (full ls) l).map (lineEndB ls) := rfl
    generalize nextB ls ((l : Int), p2) true = R at hR ⊢
    simp (maxSteps := 4000000) only [↓Yv,↓Yd,↓Yc,↓Yh,↓Xk,↓Zw,↓Yl,Zs,Z8,Z1,gw,Zt,Z6,↓chk,Yw,noW,↓Qe,↓Yx,↓Qd,Jk,↓Zm,↓Ym,Qf,Pg.look,Qw,Qb,Zc,implies_true,true_and,and_true,Qg,Yy,Yz,Qx,Qy,Nat.reduceAdd,ofV,Yn,Ys,Qt,AV.cells,TK.cells,AV.definite,AV.leaf,AV.leafy,Y6,lay,Zb,Za,Zl,reduceCtorEq,Nat.reduceEqDiff,Nat.reduceAdd,Zh,Ze,Zg,Zn,Zj,Zu,Zp,ite_true,ite_false,Option.some.injEq,Zv,Z0,Zr,and_self,exists_eq_left',Zd,Zi,Zq,Zk,Z7,Ya,Z9,Zo,Z2,Yo,Y0,Y1,Zx,tk3,tk28,tz28,dz28,aPos,w1]
    refine loopH_intro (α := Nat × Int) (fun x => ([(0, .sl 1 (ls.map .str)), (4, .ptr 0 2 1 0 0), (6, .ptr 1 2 1 0 0)], [.arr 28 2 [.agg [.int .i64 x.1, .int .i64 x.2]], .arr 28 2 [.agg [.int .i64 0, .int .i64 0]]]))
      (fun x => x.1 < ls.length ∧ -1 ≤ x.2 ∧ x.2 ≤ 65536 ∧ R = if x.2 ≥ 0 then some ((x.1 : Int), x.2) else (findDn (full ls) x.1).map (lineEndB ls)) (fun x => x.1) (l, p2 - 1) ⟨by dsimp only; omega, by dsimp only; omega, by dsimp only; omega, hR⟩ ?_ ?_
    · simp (maxSteps := 4000000) only [Pg.look,true_and,and_true,Yp,Jm,nxtQ,hdS,Jn,frzA,Zy,Qc,Zz,Qh,Qi,Y2,Jo,Qj,Qk,Ql,Yq,Jp,Jq,Jr,Js,Qm,Qn,Qo,Qp,Pg.freeze,Zf,Y3,subO,Y4,Z3,Qq,AV.cells,AV.pureLeaf,AV.pureB,Zb,Za,reduceCtorEq,Nat.reduceEqDiff,Zh,Ze,Zg,Zp,ite_true,ite_false,Zv,Z0,Zr,and_self,Yu,Yr]
      exact ⟨by decide, subX_eq rfl rfl, subX_eq rfl rfl⟩
    rintro ⟨i, c⟩ ⟨hi, hc1, hc2, hR⟩
    dsimp only at hi hc1 hc2 hR
    by_cases hc : c ≥ 0
    · have c1 : decide (c < 0) = false := decide_eq_false (by omega)
      rw [if_pos hc] at hR
      subst hR
      simp (maxSteps := 4000000) only [↓Yv,↓Y9,↓Xc,↓Yd,↓Yc,↓Zw,↓Yi,Zs,Z8,Z1,gw,Zt,Z6,↓chk,Yw,noW,↓Qe,↓Yx,↓Qd,↓Zm,↓Qr,↓J3,↓Jw,↓Ym,Qf,Pg.look,Qw,Qb,Zc,implies_true,true_and,and_true,Qg,Yy,Yz,Qx,Qy,Yp,Zy,Zz,Nat.reduceAdd,ofV,Yn,Q6,Q7,Q8,Qh,Qi,Y2,Qj,Qk,Ql,Yq,Qm,Qn,Jd,Qo,Qp,Pg.freeze,Zf,Y3,Y4,Z3,Qq,Je,Ys,Qt,Qa,Jt,AV.cells,TK.cells,AV.leaf,AV.leafy,Y6,lay,Zb,Za,Zl,reduceCtorEq,Nat.reduceEqDiff,Nat.reduceAdd,Zh,Ze,Zn,Zj,Zu,Z4,Zp,ite_true,ite_false,Option.some.injEq,Ye,Zv,Z0,Zr,and_self,exists_eq_left',Yg,Zd,Zi,Ju,Z5,Zq,Zk,Z7,Yf,Ya,Z9,Yb,Zo,Z2,Yo,Y0,Y1,Zx,Jv,tk3,tk28,dz28,aPos,aOpt,c1]
    · have c1 : decide (c < 0) = true := decide_eq_true (by omega)
      rw [if_neg hc] at hR
      cases i with
      | zero =>
        have w2 : IntKind.i64.wrap ((0 : Int) - 1) = -1 := rfl
        rw [findDn] at hR
        subst hR
        simp (maxSteps := 4000000) only [↓Yv,↓Y8,↓Y9,↓Yd,↓Yc,↓Yh,↓Zw,↓Yl,iselH_if,Zs,Z8,Z1,gw,Zt,Z6,↓chk,Yw,noW,↓Qe,↓Yx,↓Qd,↓Zm,↓Qr,↓Qz,↓Qu,↓Ym,Qf,Pg.look,Qw,Qb,Zc,false_implies,implies_true,true_and,and_true,Qg,Yy,Yz,Qx,Qy,Yp,Jm,nxtQ,hdS,Jn,frzA,Zy,Qc,Zz,Nat.reduceAdd,ofV,Yn,Q6,Q7,Q8,Qh,Qi,Y2,Jo,Qj,Qk,Ql,Yq,Jp,Jq,Jr,Js,Qm,Qn,Jd,Qo,Qp,Pg.freeze,Zf,Y3,subO,Y4,Z3,Qq,Je,Ys,Qt,Qa,Jt,AV.cells,TK.cells,AV.leaf,AV.leafy,AV.pureLeaf,AV.pureB,Y6,lay,J1,Zb,Za,Option.map_none,Zl,Option.getD_none,reduceCtorEq,Nat.reduceEqDiff,Nat.reduceAdd,Zh,Ze,Zg,Zn,Zj,Yj,Zu,Z4,Zp,Int.reduceToNat,ite_true,ite_false,Option.some.injEq,Ye,Option.isSome_none,AV.agg.injEq,decide_eq_true_eq,decide_eq_false_iff_not,not_true_eq_false,Zv,Z0,Zr,and_self,exists_eq_left',Yg,Y5,Int.reduceLE,Int.reduceLT,Zd,Yt,Ja,Zi,Ju,Z5,Zq,Zk,Z7,Jl,Yf,Nat.reduceLeDiff,Ya,Yu,Z9,Yb,Yr,Zo,Z2,Yo,Y0,Y1,Zx,Jv,tk3,tk9,dz9,tk22,tk28,tz28,dz28,aPos,aOpt,c1,w2]
        all_goals (try exact ⟨⟨rfl, rfl⟩, rfl⟩)
      | succ i =>
        have w2 : IntKind.i64.wrap (((i + 1 : Nat) : Int) - 1) = (i : Int) := by rw [wrap64 (by omega) (by omega)]; omega
        have c2 : decide ((i : Int) < 0) = false := decide_eq_false (by omega)
        have h6 := fits_getD hf i
        have w3 : IntKind.i64.wrap (((ls.getD i []).length : Int) - 1) = ((ls.getD i []).length : Int) - 1 := wrap64 (by omega) (by omega)
        rw [findDn] at hR
        have hR2 : R = if ((ls.getD i []).length : Int) - 1 ≥ 0 then some ((i : Int), ((ls.getD i []).length : Int) - 1) else (findDn (full ls) i).map (lineEndB ls) := by
          rw [hR]
          by_cases hfl : (ls.getD i []).length = 0
          · rw [if_neg (by simp only [full,bne_iff_ne,ne_eq,hfl]; simp), if_neg (by omega)]
          · rw [if_pos (by simp only [full,bne_iff_ne,ne_eq,hfl]; simp), if_pos (by omega)]; rfl
        simp (maxSteps := 4000000) only [↓Yv,↓Y8,↓Yd,↓Yc,↓Yh,↓Zw,↓Yl,↓Yi,Zs,Z8,Z1,gw,Zt,Z6,↓chk,Yw,noW,↓Qe,↓Yx,↓Qd,↓Zm,↓Qz,↓Ym,Qf,Pg.look,Qw,Qb,Zc,implies_true,true_and,and_true,Qg,Yy,Yz,Qx,Qy,Yp,Jm,nxtQ,hdS,Jn,frzA,Zy,Qc,Zz,Nat.reduceAdd,ofV,Yn,Qh,Qi,Y2,Jo,Qj,Qk,Ql,Yq,Jp,Jq,Jr,Js,Qm,Qn,Qo,Qp,Pg.freeze,Zf,Y3,subO,Y4,Z3,Qq,Ys,Qt,AV.cells,TK.cells,AV.leaf,AV.leafy,AV.pureLeaf,AV.pureB,Y6,lay,Zb,Za,Zl,reduceCtorEq,Nat.reduceEqDiff,Nat.reduceAdd,Zh,Ze,Zg,Zn,Zj,Zu,Zp,ite_true,ite_false,Option.some.injEq,Zv,Z0,Zr,and_self,exists_eq_left',Y5,Zd,Ja,Qs,Zi,Z5,Zq,Zk,Z7,Jl,Nat.reduceLeDiff,Ya,Yu,Z9,Yr,Zo,Z2,Yo,Y0,Y1,Zx,tk3,tk9,dz9,tk22,tk28,dz28,c1,w2,c2,w3]
        exact ⟨⟨by omega, by omega⟩, (i, _), ⟨by dsimp only; omega, by dsimp only; omega, by dsimp only; omega, hR2⟩, by dsimp only; omega, by decide, subX_eq rfl rfl, subX_eq rfl rfl⟩
  | false =>
    have w1 : IntKind.i64.wrap (p2 + 1) = p2 + 1 := wrap64 (by omega) (by omega)
    have hR : nextB ls ((l : Int), p2) false = if p2 + 1 < (ls.getD l []).length then some ((l : Int), p2 + 1) else (findUp (full ls) (ls.length - (l + 1)) (l + 1)).map lineBegB := rfl
    generalize nextB ls ((l : Int), p2) false = R at hR ⊢
    simp (maxSteps := 4000000) only [↓Yv,↓Y8,↓Yd,↓Yc,↓Yh,↓Xk,↓Zw,↓Yi,Zs,Z8,Z1,gw,Zt,Z6,↓chk,Yw,noW,↓Qe,↓Yx,↓Qd,Jk,↓Zm,↓Ym,Qf,Pg.look,Qw,Qb,Zc,implies_true,true_and,and_true,Qg,Yy,Yz,Qx,Qy,Nat.reduceAdd,ofV,Yn,Ys,Qt,AV.cells,TK.cells,AV.definite,AV.leaf,AV.leafy,Y6,lay,Zb,Za,Zl,reduceCtorEq,Nat.reduceEqDiff,Nat.reduceAdd,Zh,Ze,Zg,Zn,Zj,Zu,Zp,ite_true,ite_false,Option.some.injEq,Zv,Z0,Zr,and_self,exists_eq_left',Zd,Zi,Zq,Zk,Z7,Ya,Z9,Zo,Z2,Yo,Y0,Y1,Zx,tk3,tk28,tz28,dz28,aPos,w1]
    refine loopH_intro (α := Nat × Int) (fun x => ([(0, .sl 1 (ls.map .str)), (4, .ptr 0 2 1 0 0), (6, .ptr 1 2 1 0 0)], [.arr 28 2 [.agg [.int .i64 x.1, .int .i64 x.2]], .arr 28 2 [.agg [.int .i64 0, .int .i64 0]]]))
      (fun x => x.1 < ls.length ∧ 0 ≤ x.2 ∧ x.2 ≤ 65537 ∧ R = if x.2 < (ls.getD x.1 []).length then some ((x.1 : Int), x.2) else (findUp (full ls) (ls.length - (x.1 + 1)) (x.1 + 1)).map lineBegB) (fun x => ls.length - x.1) (l, p2 + 1) ⟨by dsimp only; omega, by dsimp only; omega, by dsimp only; omega, hR⟩ ?_ ?_
    · simp (maxSteps := 4000000) only [Pg.look,true_and,and_true,Yp,Jm,nxtQ,hdS,Jn,frzA,Zy,Qc,Zz,Qh,Qi,Y2,Jo,Qj,Qk,Ql,Yq,Jp,Jq,Jr,Js,Qm,Qn,Qo,Qp,Pg.freeze,Zf,Y3,subO,Y4,Z3,Qq,AV.cells,AV.pureLeaf,AV.pureB,Zb,Za,reduceCtorEq,Nat.reduceEqDiff,Zh,Ze,Zg,Zp,ite_true,ite_false,Zv,Z0,Zr,and_self,Yu,Yr]
      exact ⟨by decide, subX_eq rfl rfl, subX_eq rfl rfl⟩
    rintro ⟨i, c⟩ ⟨hi, hc1, hc2, hR⟩
    dsimp only at hi hc1 hc2 hR
    by_cases hc : c < (ls.getD i []).length
    · have c1 : decide (c ≥ ((ls.getD i []).length : Int)) = false := decide_eq_false (by omega)
      rw [if_pos hc] at hR
      subst hR
      simp (maxSteps := 4000000) only [↓Yv,↓Y9,↓Xc,↓Yd,↓Yc,↓Zw,↓Yi,Zs,Z8,Z1,gw,Zt,Z6,↓chk,Yw,noW,↓Qe,↓Yx,↓Qd,↓Zm,↓J3,↓Jw,↓Ym,Qf,Pg.look,Qw,Qb,Zc,implies_true,true_and,and_true,Qg,Yy,Yz,Qx,Qy,Yp,Zy,Zz,Nat.reduceAdd,ofV,Yn,Q6,Q7,Q8,Qh,Qi,Y2,Qj,Qk,Ql,Yq,Qm,Qn,Jd,Qo,Qp,Pg.freeze,Zf,Y3,Y4,Z3,Qq,Je,Ys,Qt,Qa,Jt,AV.cells,TK.cells,AV.leaf,AV.leafy,Y6,lay,Zb,Za,Zl,reduceCtorEq,Nat.reduceEqDiff,Nat.reduceAdd,Zh,Ze,Zn,Zj,Zu,Z4,Zp,ite_true,ite_false,Option.some.injEq,Ye,Zv,Z0,Zr,and_self,exists_eq_left',Yg,Y5,Zd,Ja,Qs,Zi,Ju,Z5,Zq,Zk,Z7,Jl,Yf,Ya,Z9,Yb,Zo,Z2,Yo,Y0,Y1,selC_true,Zx,pureC,Jv,tk3,tk9,dz9,tk22,tk28,dz28,aPos,aOpt,c1]
      exact ⟨by omega, by omega⟩
    · have c1 : decide (c ≥ ((ls.getD i []).length : Int)) = true := decide_eq_true (by omega)
      have w2 : IntKind.i64.wrap ((i : Int) + 1) = ((i + 1 : Nat) : Int) := by rw [wrap64 (by omega) (by omega)]; rfl
      rw [if_neg hc] at hR
      by_cases he : i + 1 < ls.length
      · have c2 : decide (((i + 1 : Nat) : Int) ≥ (ls.length : Int)) = false := decide_eq_false (by omega)
        rw [show ls.length - (i + 1) = (ls.length - (i + 1 + 1)) + 1 by omega, findUp] at hR
        have hR2 : R = if (0 : Int) < (ls.getD (i + 1) []).length then some (((i + 1 : Nat) : Int), 0) else (findUp (full ls) (ls.length - (i + 1 + 1)) (i + 1 + 1)).map lineBegB := by
          rw [hR]
          by_cases hfl : (ls.getD (i + 1) []).length = 0
          · rw [if_neg (by simp only [full,bne_iff_ne,ne_eq,hfl]; simp), if_neg (by omega)]
          · rw [if_pos (by simp only [full,bne_iff_ne,ne_eq,hfl]; simp), if_pos (by omega)]; rfl
        simp (maxSteps := 4000000) only [↓Yv,↓Y8,↓Yd,↓Yc,↓Yh,↓Zw,↓Yl,↓Yi,Zs,Z8,Z1,gw,Zt,Z6,↓chk,Yw,noW,↓Qe,↓Yx,↓Qd,↓Zm,↓Qz,↓Ym,Qf,Pg.look,Qw,Qb,Zc,implies_true,true_and,and_true,Qg,Yy,Yz,Qx,Qy,Yp,Jm,nxtQ,hdS,Jn,frzA,Zy,Qc,Zz,Nat.reduceAdd,ofV,Yn,Qh,Qi,Y2,Jo,Qj,Qk,Ql,Yq,Jp,Jq,Jr,Js,Qm,Qn,Qo,Qp,Pg.freeze,Zf,Y3,subO,Y4,Z3,Qq,slen,Ys,Qt,AV.cells,TK.cells,AV.leaf,AV.leafy,AV.pureLeaf,AV.pureB,Y6,lay,Zb,Za,Zl,reduceCtorEq,Nat.reduceEqDiff,Nat.reduceAdd,Zh,Ze,Zg,Zn,Zj,Zu,Zp,ite_true,ite_false,Option.some.injEq,AV.int.injEq,Zv,Z0,Zr,and_self,exists_eq_left',Y5,Zd,Ja,Qs,Zi,Z5,Zq,Zk,Z7,Jl,Nat.reduceLeDiff,Ya,Yu,Z9,Yr,Zo,Z2,Yo,Y0,Y1,selC_true,Zx,pureC,tk3,tk9,dz9,tk22,tk28,dz28,c1,w2,c2]
        exact ⟨⟨by omega, by omega⟩, (i + 1, 0), ⟨by dsimp only; omega, by dsimp only; omega, by dsimp only; omega, hR2⟩, by dsimp only; omega, by decide, subX_eq rfl rfl, subX_eq rfl rfl⟩
      · have c2 : decide (((i + 1 : Nat) : Int) ≥ (ls.length : Int)) = true := decide_eq_true (by omega)
        rw [show ls.length - (i + 1) = 0 by omega, findUp] at hR
        subst hR
        simp (maxSteps := 4000000) only [↓Yv,↓Y8,↓Y9,↓Yd,↓Yc,↓Yh,↓Zw,↓Yl,Zs,Z8,Z1,gw,Zt,Z6,↓chk,Yw,noW,↓Qe,↓Yx,↓Qd,↓Zm,↓Qr,↓Qu,↓Ym,Qf,Pg.look,Qw,Qb,Zc,implies_true,true_and,and_true,Qg,Yy,Yz,Qx,Qy,Yp,Zy,Zz,Nat.reduceAdd,ofV,Yn,Q6,Q7,Q8,Qh,Qi,Y2,Qj,Qk,Ql,Yq,Qm,Qn,Jd,Qo,Qp,Pg.freeze,Zf,Y3,Y4,Z3,Qq,Je,slen,Ys,Qt,Qa,Jt,AV.cells,TK.cells,AV.leaf,AV.leafy,Y6,lay,J1,Zb,Za,Option.map_none,Zl,Option.getD_none,reduceCtorEq,Nat.reduceEqDiff,Nat.reduceAdd,Zh,Ze,Zg,Zn,Zj,Yj,Zu,Z4,Zp,ite_true,ite_false,Option.some.injEq,Ye,Option.isSome_none,AV.int.injEq,AV.agg.injEq,Zv,Z0,Zr,and_self,exists_eq_left',Yg,Y5,Zd,Ja,Qs,Zi,Ju,Z5,Zq,Zk,Z7,Jl,Yf,Nat.reduceLeDiff,Ya,Z9,Yb,Zo,Z2,Yo,Y0,Y1,selC_true,Zx,pureC,Jv,tk3,tk9,dz9,tk22,tk28,tz28,dz28,aPos,aOpt,c1,w2,c2]
        exact ⟨by omega, by omega⟩
def kBNext : C1 := C1.by [.sl 1 [], .id, .id] (lCons cStrs (lCons cPos2 (lOne cBool))) (fun d => okText d.1 ∧ 0 ≤ d.2.1.1 ∧ d.2.1.1 < d.1.length ∧ 0 ≤ d.2.1.2 ∧ d.2.1.2 ≤ 65536) (fun d => aOpt (nextB d.1 d.2.1 d.2.2)) (fun _ => [])
theorem ok_bnext : C1OK Try.prog 105 kBNext := C1OK.by (by kernel_rfl) (fun d h => calls_bnext d.1 d.2.1 d.2.2 h.1 h.2.1 h.2.2.1 h.2.2.2.1 h.2.2.2.2) (fun _ => rfl) (fun _ => rfl)
end Go.Pg
