/- Motions by lines: the program's. -/
import Derived.Test.YtkkcfkggfpoagaaPgFx1
open List renaming getElem?_cons_succ → Za, getElem?_cons_zero → Zb, getD_cons_zero → Zd, take_succ_cons → Ze, contains_nil → Zf, drop_succ_cons → Zg, cons_append → Zi, length_cons → Zj, set_cons_zero → Zl, nil_append → Zm, append_nil → Zn, length_nil → Zo, set_cons_succ → Zp, foldl_nil → Zq, range'_zero → Zr, drop_zero → Zs, take_nil → Zu, take_zero → Zv, map_nil → Zx, getElem?_toArray → Z0, map_cons → Z1, all_cons → Z2, drop_nil → Z3, all_nil → Z7, toList_toArray → Z8, length_map → Y3
open Bool renaming false_eq_true → Zc, and_self → Zt, not_eq_true' → Qf, not_false → Qm, not_true → Q1, if_true_left → Jz, and_eq_false_iff → Xb, and_eq_true → Xf, or_eq_true → Xg
open Option renaming getD_some → Zh, bind_some → Yi, isSome_some → Yj
open Nat renaming zero_lt_succ → Zk, zero_add → Zy, sub_zero → Zz, le_refl → Z6
open Go.Pg renaming thenA_normal → Zw, bselH_false → Z4, gselH_plain → Z5, wpH_region → Z9, closeQ_nil → Ya, diagQ_zero → Yb, pickOK_nil → Yc, selC_false → Yd, runH_cons → Ye, subV_succ → Yf, regH_none → Yg, cselH_bool → Yh, runH_nil → Yk, res_succ → Yl, optP_some → Yn, optV_some → Yo, optH_some → Yp, lCons_dec → Yq, dec2_some → Yr, wpH_ret → Ys, wpH_seq → Yt, wpH_cond → Yu, ldCells → Yv, normArgs → Yw, lOne_dec → Yx, C1by_pre → Yy, putCells → Yz, cInt_dec → Y0, cAgg_dec → Y1, decL_str → Y2, res8_eq → Y4, C1by_ns → Y5, C1by_it → Y6, C1by_mu → Y7, stepEv → Y8, alives → Y9, ofLeaf → Qa, pickOf → Qb, isNext → Qc, look_stripE → Qd, cSl_dec → Qe, iselH_false → Qg, iselH_true → Qh, shiftR → Qi, shift1 → Qj, C1by_r → Qk, C1by_H → Ql, wpA_H → Qn, justK → Qo, pureK → Qp, heapK → Qq, envOf → Qr, heapV → Qs, footV → Qt, ptrsE → Qu, subOs → Qv, subEv → Qw, objAt → Qx, nextF → Qy, nextG → Qz, mergeable → Q0, callT → Q2, callC → Q3, callV → Q4, normA → Q5, callP → Q6, mapAt → Q7, gselH_if → Q8, normC → Q9, thenA_ret → Ja, oneK → Jb, opnd → Jc, valV → Jd, retA → Je, resK → Jf, tupA → Jg, subA → Jh, subQ → Ji, frzO → Jj, subF → Jk, subG → Jl, frzE → Jm, frzC → Jn, frzL → Jo, frz0 → Jp, frzH → Jq, subM → Jr, subL → Js, resM → Jt, cutL → Ju, wpH_skip → Jv, intOp → Jw, kselH_1 → Jx, cBool_dec → Jy, resL → J0, msel → J1, mergeK → J2, condsL → J3, callH → J4, buildL → J5, gkind → J6, dstOf → J7, pickC → J8, pickV → J9, sameK → Xa, foldInts → Xc, blockA_normal → Xh
open Array renaming toList_append → Ym
open Int renaming cast_ofNat_Int → Xd, not_lt → Xe
namespace Go.Pg
open Go Go.Proofs

/-- Lines further. -/
def toL (p : Int × Int) (n : Int) (up : Bool) : Int := if up = true then p.1 - n else p.1 + n
def vlineF (ls : Ls) (p : Int × Int) (n : Int) (up : Bool) : Int × Bool :=
  if n < 0 ∨ ¬ (p.1 ≥ 0 ∧ p.1 < ls.length ∧ p.2 ≥ 0 ∧ p.2 ≤ (ls.getD p.1.toNat []).length) then (0, false)
  else if up = true then (p.1 - n, decide (n ≤ p.1)) else (p.1 + min n ls.length, decide (n < ls.length - p.1))
set_option maxHeartbeats 4000000 in
theorem calls_vline (ls : Ls) (p : Int × Int) (n : Int) (up : Bool) (hf : okText ls) (hn : n ≤ 9223372036854775807) : CallsR Try.prog 92 [.sl 1 (ls.map .str), aPos p, .int .i64 n, .bool up] [] (.tuple [.int .i64 (vlineF ls p n up).1, .bool (vlineF ls p n up).2]) [] := by
  refine callsR_of (mrg := true) (dyn := []) (CtrOK.cons ok_CPlace (CtrOK.nil _)) mixed Try.func92 rfl (by simp [Try.ntmps92]) (by kernel_rfl) ?_
  rw [show Try.f92.results.toList = [.tmp 8, .tmp 9] from by kernel_rfl]
  obtain ⟨p1, p2⟩ := p
  generalize hr : vlineF ls (p1, p2) n up = r
  obtain ⟨r1, r2⟩ := r
  have h6 := fits_getD hf p1.toNat
  have h8 := hf.1
  have hpl : place ls p1 p2 = (decide (p1 ≥ 0) && decide (p1 < (ls.length : Int)) && decide (p2 ≥ 0) && decide (p2 ≤ ((ls.getD p1.toNat []).length : Int))) := rfl
  by_cases hg : n < 0 ∨ ¬ (p1 ≥ 0 ∧ p1 < ls.length ∧ p2 ≥ 0 ∧ p2 ≤ (ls.getD p1.toNat []).length)
  · have c1 : (decide (n < 0) || !place ls p1 p2) = true := by
      rw [hpl]; simp only [Xg,decide_eq_true_eq,Qf,Xb,decide_eq_false_iff_not]; omega
    rw [vlineF, if_pos hg] at hr
    cases hr
    simp (maxSteps := 4000000) only [↓Qn,↓Ys,↓Yt,↓Yu,↓Z9,↓Qh,Z4,Yk,Ye,gw,Z5,Q8,Jx,Yh,J6,↓chk,Qo,noW,↓Jb,↓Qp,↓Qq,Qr,↓Zw,↓Ja,↓Y8,Jc,Pg.look,binK,Jw,J7,Zc,implies_true,imp_self,true_and,and_true,J8,J9,unc,gof,mux,J2,J3,Jd,Qs,Qt,binV,intV,Y9,Ya,Yb,Nat.reduceAdd,Q0,Qd,ofV,Qa,Xa,Je,Jf,Jg,Jh,Ji,Qu,Jj,Jk,Jl,Qb,Jm,Jn,Jo,Jp,Jq,Pg.freeze,Zq,Qv,Qw,Yf,Jr,Js,Yv,Qx,↓Q2,Q3,Q4,Yw,Q5,Q9,J0,Y4,Yl,Jt,Qi,Qj,AV.cells,TK.cells,AV.definite,Op.operands,Call.operands,Ym,Z0,Za,Zb,Yi,Zh,reduceCtorEq,Nat.reduceEqDiff,Nat.reduceAdd,Zm,Zn,Zi,Zj,Zo,Z1,Zx,Zy,ite_true,ite_false,Option.some.injEq,Jz,decide_eq_true_eq,decide_eq_false_iff_not,Xe,Zt,and_self,Qf,exists_eq_left',Yc,Y0,Z8,Qe,Y1,Yx,Yq,Yr,Zf,Zr,Y2,Y5,Yy,Qk,Ql,Yn,Yo,Yp,Zd,Ju,Zs,Ze,Zz,Z6,Zu,Zk,Y6,Yg,Qc,Qy,Qz,Yd,↓J1,muC,↓Q6,Y7,tk28,dz28,kRPlace,aPos,c1]
    all_goals (intros; first | rfl | simp_all)
  · have c1 : (decide (n < 0) || !place ls p1 p2) = false := by
      rw [hpl]; simp only [Bool.or_eq_false_iff,decide_eq_false_iff_not,Bool.not_eq_false',Xf,decide_eq_true_eq]; omega
    rw [vlineF, if_neg hg] at hr
    cases up with
    | true =>
      rw [if_pos rfl] at hr
      cases hr
      have w1 : IntKind.i64.wrap (p1 - n) = p1 - n := wrap64 (by omega) (by omega)
      simp (maxSteps := 4000000) only [↓Qn,↓Jv,↓Ys,↓Yt,↓Yu,↓Z9,↓Qh,↓Qg,Z4,Yk,Ye,gw,Z5,Q8,Jx,Yh,J6,↓chk,Qo,noW,↓Jb,↓Qp,↓Qq,Qr,↓Zw,↓Ja,↓Y8,Jc,Pg.look,binK,Jw,J7,Zc,implies_true,imp_self,true_and,and_true,J8,J9,unc,gof,mux,J2,J3,Jd,Qs,Qt,binV,intV,Y9,Ya,Yb,Nat.reduceAdd,Q0,Qd,ofV,Qa,Xa,Je,Jf,Jg,Jh,Ji,Qu,Jj,Jk,Jl,Qb,Jm,Jn,Jo,Jp,Jq,Pg.freeze,Zq,Qv,Qw,Yf,Jr,Js,Yv,Qx,↓Q2,Q3,Q4,Yw,Q5,Q9,J0,Y4,Yl,Jt,Qi,Qj,AV.cells,TK.cells,AV.definite,Op.operands,Call.operands,Ym,Z0,Za,Zb,Yi,Zh,reduceCtorEq,Nat.reduceEqDiff,Nat.reduceAdd,Zm,Zn,Zi,Zj,Zo,Z1,Zx,Zy,ite_true,ite_false,Option.some.injEq,Option.isSome_none,Jz,decide_eq_true_eq,decide_eq_false_iff_not,Xe,Zt,and_self,Qf,exists_eq_left',Yc,Y0,Z8,Qe,Y1,Yx,Yq,Yr,Zf,Zr,Y2,Y5,Yy,Qk,Ql,Yn,Yo,Yp,Zd,Ju,Zs,Ze,Nat.add_zero,Zz,Z6,Zu,Zk,Y6,Yg,Qc,Qy,Qz,selC_true,Yd,pureC,↓J1,muC,↓Q6,Y7,tk3,tk28,dz28,kRPlace,aPos,c1,w1]
      all_goals (intros; first | rfl | simp_all)
    | false =>
      rw [if_neg (by simp)] at hr
      cases hr
      have w1 : IntKind.i64.wrap (p1 + min n (ls.length : Int)) = p1 + min n (ls.length : Int) := wrap64 (by omega) (by omega)
      have w2 : IntKind.i64.wrap ((ls.length : Int) - p1) = (ls.length : Int) - p1 := wrap64 (by omega) (by omega)
      simp (maxSteps := 4000000) only [↓Qn,↓Jv,↓Ys,↓Yt,↓Yu,↓Z9,↓Qg,Z4,Yk,Ye,gw,Z5,Q8,Jx,Yh,J6,↓chk,Qo,noW,↓Jb,↓Qp,↓Qq,Qr,↓Zw,↓Y8,Jc,Pg.look,binK,Jw,J7,Zc,implies_true,imp_self,true_and,and_true,J8,J9,unc,gof,mux,J2,J3,Jd,Qs,Qt,binV,intV,Y9,Ya,Yb,Nat.reduceAdd,Q0,Qd,ofV,Qa,Xa,Je,Jf,Jg,Jh,Ji,Qu,Jj,Jk,Jl,Qb,Jm,Jn,Jo,Jp,Jq,Pg.freeze,Zq,Qv,Qw,Yf,Jr,Js,slen,Yv,Qx,↓Q2,Q3,Q4,Yw,Q5,Q9,J0,Y4,Yl,Jt,Qi,Qj,AV.cells,TK.cells,AV.definite,Xc,Op.operands,Call.operands,Ym,Z0,Za,Zb,Yi,Zh,reduceCtorEq,Nat.reduceEqDiff,Nat.reduceAdd,Zm,Zn,Zi,Zj,Zo,Z1,Zx,Zy,ite_true,ite_false,Option.some.injEq,Option.isSome_none,AV.int.injEq,Jz,decide_eq_true_eq,decide_eq_false_iff_not,Xe,Zt,and_self,Qf,exists_eq_left',Yc,Y3,Y0,Z8,Qe,Y1,Yx,Yq,Yr,Zf,Zr,Y2,Y5,Yy,Qk,Ql,Yn,Yo,Yp,Zd,Ju,Zs,Ze,Nat.add_zero,Zz,Z6,Zu,Zk,Y6,Yg,Qc,Qy,Qz,selC_true,Yd,pureC,↓J1,muC,↓Q6,Y7,tk3,tk22,tk28,dz28,kRPlace,aPos,c1,w1,w2]
      all_goals (intros; first | rfl | simp_all)
theorem vline_t {ls : Ls} {p : Int × Int} {n a : Int} {up : Bool} (h : (a, true) = vlineF ls p n up) : 0 ≤ n ∧ (0 ≤ p.1 ∧ p.1 < ls.length ∧ 0 ≤ p.2 ∧ p.2 ≤ (ls.getD p.1.toNat []).length) ∧ a = toL p n up ∧ 0 ≤ a ∧ a < ls.length := by
  obtain ⟨p1, p2⟩ := p
  simp only [vlineF,toL] at h ⊢
  split at h
  · cases h
  · cases up <;> simp only [Zc,if_true,if_false,Prod.mk.injEq,true_eq_decide_iff] at h ⊢ <;> omega
theorem vline_f {ls : Ls} {p : Int × Int} {n a : Int} {up : Bool} (h : (a, false) = vlineF ls p n up) : n < 0 ∨ ¬ (0 ≤ p.1 ∧ p.1 < ls.length ∧ 0 ≤ p.2 ∧ p.2 ≤ (ls.getD p.1.toNat []).length) ∨ toL p n up < 0 ∨ toL p n up ≥ ls.length := by
  obtain ⟨p1, p2⟩ := p
  simp only [vlineF,toL] at h ⊢
  split at h
  · omega
  · cases up <;> simp only [Zc,if_true,if_false,Prod.mk.injEq,false_eq_decide_iff] at h ⊢ <;> omega
def kVLine : C1 := C1.by [.sl 1 [], .id, .id, .id] (lCons cStrs (lCons cPos2 (lCons (cInt .i64) (lOne cBool)))) (fun d => okText d.1 ∧ d.2.2.1 ≤ 9223372036854775807) (fun d => .tuple [.int .i64 (vlineF d.1 d.2.1 d.2.2.1 d.2.2.2).1, .bool (vlineF d.1 d.2.1 d.2.2.1 d.2.2.2).2]) (fun _ => [])
theorem ok_vline : C1OK Try.prog 92 kVLine := C1OK.by (by kernel_rfl) (fun d h => calls_vline d.1 d.2.1 d.2.2.1 d.2.2.2 h.1 h.2) (fun _ => rfl) (fun _ => rfl)

def firstM (ls : Ls) (l : Int) (jump : Bool) : Mv := ((l, firstC (ls.getD l.toNat [])), 2, jump, -1)
def lineM (ls : Ls) (l : Int) (jump : Bool) : Mv × Bool := if l < 0 ∨ l ≥ ls.length then mNone else (firstM ls l jump, true)
theorem calls_vfirst (ls : Ls) (l : Int) (hf : okText ls) (h0 : 0 ≤ l) (h1 : l < ls.length) : CallsR Try.prog 84 [.sl 1 (ls.map .str), .int .i64 l] [] (aMv (firstM ls l false)) [] := by
  refine callsR_of (mrg := true) (dyn := []) (CtrOK.cons ok_First (CtrOK.nil _)) mixed Try.func84 rfl (by simp [Try.ntmps84]) (by kernel_rfl) ?_
  rw [show Try.f84.results.toList = [.cell 4 38] from by kernel_rfl]
  have h6 := fits_getD hf l.toNat
  simp (maxSteps := 4000000) only [↓Qn,↓Ys,↓Yt,↓Z9,Z4,Yk,Ye,gw,Z5,↓chk,Qo,noW,↓Jb,↓Qp,↓Qq,Qr,↓Zw,↓Y8,Jc,Pg.look,Zc,implies_true,true_and,and_true,Jd,Qs,Qt,Y9,Ya,Yb,Nat.reduceAdd,ofV,Qa,Je,Jf,Jg,Jh,Ji,Qu,Jj,Jk,Jl,Qb,Jm,Jn,Jo,Jp,Jq,Pg.freeze,Zq,Qv,Qw,Yf,Jr,Js,Yv,Qx,↓Q2,Q3,Q4,J4,Yw,Q5,J0,Y4,Yl,Jt,Qi,Qj,AV.cells,TK.cells,AV.definite,AV.leaf,AV.leafy,Yz,lay,J5,Za,Zb,Zh,reduceCtorEq,Nat.reduceEqDiff,Nat.reduceAdd,Zm,Zn,Zi,Zj,Zo,Z1,Zx,Zl,Zy,ite_true,ite_false,Option.some.injEq,Yj,AV.agg.injEq,Z2,Z7,Zt,and_self,exists_eq_left',Yc,Y3,cStr_dec,Yx,Zf,Zr,Y5,Yy,Qk,Ql,Yn,Yo,Yp,getD_str,Zd,Ju,Zs,Zg,Ze,Zv,Zz,Nat.reduceLeDiff,Z6,Z3,Zu,Zk,Y6,Yg,Qc,Qy,Qz,Yd,↓J1,muC,↓Q6,Y7,Q7,tk9,dz9,tk22,tk28,tz28,tk38,tz38,dz38,kFirst,aMv,firstM]
  omega
def kVFirst : C1 := C1.by [.sl 1 [], .id] (lCons cStrs (lOne (cInt .i64))) (fun d => okText d.1 ∧ 0 ≤ d.2 ∧ d.2 < d.1.length) (fun d => aMv (firstM d.1 d.2 false)) (fun _ => [])
theorem ok_vfirst : C1OK Try.prog 84 kVFirst := C1OK.by (by kernel_rfl) (fun d h => calls_vfirst d.1 d.2 h.1 h.2.1 h.2.2) (fun _ => rfl) (fun _ => rfl)

def vertP (ls : Ls) (p : Int × Int) (n want : Int) (up : Bool) : Mv × Bool :=
  whenMay ls p n (orNone (toL p n up < 0 ∨ toL p n up ≥ ls.length)
    (((toL p n up, min (min (max want 0) 1073741824) (max (((ls.getD (toL p n up).toNat []).length : Int) - 1) 0)), 2, false, min (max want 0) 1073741824), true))
set_option maxHeartbeats 4000000 in
theorem calls_vby (ls : Ls) (p : Int × Int) (n want : Int) (up : Bool) (hf : okText ls) (hn : n ≤ 9223372036854775807) : CallsR Try.prog 82 [.sl 1 (ls.map .str), aPos p, .int .i64 n, .int .i64 want, .bool up] [] (aMove (vertP ls p n want up)) [] := by
  refine callsR_of (mrg := true) (dyn := []) (CtrOK.cons ok_vline (CtrOK.nil _)) mixed Try.func82 rfl (by simp [Try.ntmps82]) (by kernel_rfl) ?_
  rw [show Try.f82.results.toList = [.cell 10 38, .tmp 11] from by kernel_rfl]
  obtain ⟨p1, p2⟩ := p
  obtain ⟨x, hx⟩ : ∃ x, x = vlineF ls (p1, p2) n up := ⟨_, rfl⟩
  obtain ⟨a, ok⟩ := x
  have hm := may_iff ls (p1, p2) n
  simp only at hm
  unfold vertP whenMay
  cases ok with
  | false =>
    have hv := vline_f hx
    simp only at hv
    have e : (if may ls (p1, p2) n = true then orNone (toL (p1, p2) n up < 0 ∨ toL (p1, p2) n up ≥ ls.length) (((toL (p1, p2) n up, min (min (max want 0) 1073741824) (max (((ls.getD (toL (p1, p2) n up).toNat []).length : Int) - 1) 0)), 2, false, min (max want 0) 1073741824), true) else mNone) = mNone := by
      split
      · next h => rw [orNone, if_pos (by have := hm.1 h; omega)]
      · rfl
    rw [e]
    simp (maxSteps := 4000000) only [↓Qn,↓Ys,↓Yt,↓Yu,↓Z9,↓Qh,Z4,Yk,Ye,gw,Z5,Q8,Jx,Yh,J6,↓chk,Qo,noW,↓Jb,↓Qp,↓Qq,Qr,↓Zw,↓Ja,↓Y8,Jc,Pg.look,binK,Jw,J7,Qm,Q1,Zc,Bool.true_eq_false,implies_true,imp_self,true_and,and_true,J8,J9,unc,gof,mux,J2,J3,Jd,Qs,Qt,binV,intV,Y9,Ya,Yb,Nat.reduceAdd,Q0,Qd,ofV,Qa,Xa,Je,Jf,Jg,Jh,Ji,Qu,Jj,Jk,Jl,Qb,Jm,Jn,Jo,Jp,Jq,Pg.freeze,Zq,Qv,Qw,Yf,Jr,Js,Yv,Qx,↓Q2,Q3,Q4,J4,Yw,Q5,Q9,J0,Y4,Yl,Jt,Qi,Qj,AV.cells,TK.cells,AV.definite,AV.leaf,AV.leafy,Yz,lay,J5,Op.operands,Z0,Za,Zb,Yi,Zh,reduceCtorEq,Nat.reduceEqDiff,Nat.reduceAdd,Zm,Zn,Zi,Zj,Zo,Z1,Zx,Zl,Zp,Zy,ite_true,ite_false,Option.some.injEq,Yj,AV.agg.injEq,Z2,Z7,Zt,and_self,exists_eq_left',Yc,Y0,Jy,Z8,Qe,Y1,Yx,Yq,Yr,Zf,Zr,Y2,Y5,Yy,Qk,Ql,Yn,Yo,Yp,Zd,Ju,Zs,Zg,Ze,Zv,Zz,Z6,Z3,Zu,Zk,Y6,Yg,Qc,Qy,Qz,Yd,↓J1,muC,↓Q6,Y7,Q7,tk28,dz28,tk38,tz38,dz38,kVLine,aPos,aMove,aMv,mNone,← hx]
    exact ⟨hf, hn⟩
  | true =>
    have hv := vline_t hx
    simp only at hv
    obtain ⟨v1, v2, v3, v4, v5⟩ := hv
    by_cases h1 : n < 1
    · have c1 : decide (n < 1) = true := decide_eq_true h1
      rw [if_neg (fun h => by have := hm.1 h; omega)]
      simp (maxSteps := 4000000) only [↓Qn,↓Ys,↓Yt,↓Yu,↓Z9,↓Qh,Z4,Yk,Ye,gw,Z5,Q8,Jx,Yh,J6,↓chk,Qo,noW,↓Jb,↓Qp,↓Qq,Qr,↓Zw,↓Ja,↓Y8,Jc,Pg.look,binK,Jw,J7,Qm,Q1,Zc,implies_true,true_and,and_true,J8,J9,unc,gof,mux,J2,J3,Jd,Qs,Qt,binV,intV,Y9,Ya,Yb,Nat.reduceAdd,Q0,Qd,ofV,Qa,Xa,Je,Jf,Jg,Jh,Ji,Qu,Jj,Jk,Jl,Qb,Jm,Jn,Jo,Jp,Jq,Pg.freeze,Zq,Qv,Qw,Yf,Jr,Js,Yv,Qx,↓Q2,Q3,Q4,J4,Yw,Q5,Q9,J0,Y4,Yl,Jt,Qi,Qj,AV.cells,TK.cells,AV.definite,AV.leaf,AV.leafy,Yz,lay,J5,Op.operands,Z0,Za,Zb,Yi,Zh,reduceCtorEq,Nat.reduceEqDiff,Nat.reduceAdd,Zm,Zn,Zi,Zj,Zo,Z1,Zx,Zl,Zp,Zy,ite_true,ite_false,Option.some.injEq,Yj,AV.agg.injEq,Z2,Z7,Zt,and_self,exists_eq_left',Yc,Y0,Jy,Z8,Qe,Y1,Yx,Yq,Yr,Zf,Zr,Y2,Y5,Yy,Qk,Ql,Yn,Yo,Yp,Zd,Ju,Zs,Zg,Ze,Zv,Zz,Z6,Z3,Zu,Zk,Y6,Yg,Qc,Qy,Qz,Yd,↓J1,muC,↓Q6,Y7,Q7,tk28,dz28,tk38,tz38,dz38,kVLine,aPos,aMove,aMv,mNone,← hx,c1]
      exact ⟨hf, hn⟩
    · have c1 : decide (n < 1) = false := decide_eq_false h1
      have h6 := fits_getD hf a.toNat
      have w1 : IntKind.i64.wrap (((ls.getD a.toNat []).length : Int) - 1) = ((ls.getD a.toNat []).length : Int) - 1 := wrap64 (by omega) (by omega)
      rw [if_pos (hm.2 ⟨by omega, by omega, by omega, by omega, by omega⟩), orNone, if_neg (by rw [← v3]; omega), ← v3]
      simp (maxSteps := 4000000) only [↓Qn,↓Jv,↓Ys,↓Yt,↓Yu,↓Z9,↓Qg,Z4,Yk,Ye,gw,Z5,Q8,Jx,Yh,J6,↓chk,Qo,noW,↓Jb,↓Qp,↓Qq,Qr,↓Zw,↓Y8,Jc,Pg.look,binK,Jw,J7,Qm,Q1,Zc,implies_true,true_and,and_true,J8,J9,unc,gof,mux,J2,J3,Jd,Qs,Qt,binV,intV,Y9,Ya,Yb,Nat.reduceAdd,Q0,Qd,ofV,Qa,Xa,Je,Jf,Jg,Jh,Ji,Qu,Jj,Jk,Jl,Qb,Jm,Jn,Jo,Jp,Jq,Pg.freeze,Zq,Qv,Qw,Yf,Jr,Js,Yv,Qx,↓Q2,Q3,Q4,J4,Yw,Q5,Q9,J0,Y4,Yl,Jt,Qi,Qj,AV.cells,TK.cells,AV.definite,AV.leaf,AV.leafy,Yz,lay,J5,Xc,Op.operands,Z0,Za,Zb,Yi,Zh,reduceCtorEq,Nat.reduceEqDiff,Nat.reduceAdd,Zm,Zn,Zi,Zj,Zo,Z1,Zx,Zl,Zp,Zy,ite_true,ite_false,Option.some.injEq,Yj,AV.int.injEq,AV.agg.injEq,Z2,Z7,Zt,and_self,exists_eq_left',Yc,Y3,Y0,Jy,Z8,Qe,Y1,Yx,Yq,Yr,Zf,Zr,Y2,Y5,Yy,Qk,Ql,Yn,Yo,Yp,getD_str,Zd,Ju,Zs,Zg,Ze,Zv,Zz,Nat.reduceLeDiff,Z6,Z3,Zu,Zk,Y6,Yg,Qc,Qy,Qz,Yd,↓J1,muC,↓Q6,Y7,Q7,tk9,dz9,tk22,tk28,tz28,dz28,tk38,tz38,dz38,kVLine,aPos,aMove,aMv,← hx,c1,w1]
      exact ⟨⟨hf, hn⟩, by omega, by omega⟩
def kVBy : C1 := C1.by [.sl 1 [], .id, .id, .id, .id] (lCons cStrs (lCons cPos2 (lCons (cInt .i64) (lCons (cInt .i64) (lOne cBool))))) (fun d => okText d.1 ∧ d.2.2.1 ≤ 9223372036854775807) (fun d => aMove (vertP d.1 d.2.1 d.2.2.1 d.2.2.2.1 d.2.2.2.2)) (fun _ => [])
theorem ok_vby : C1OK Try.prog 82 kVBy := C1OK.by (by kernel_rfl) (fun d h => calls_vby d.1 d.2.1 d.2.2.1 d.2.2.2.1 d.2.2.2.2 h.1 h.2) (fun _ => rfl) (fun _ => rfl)
theorem calls_Down (ls : Ls) (p : Int × Int) (n want : Int) (hf : okText ls) (hn : n ≤ 9223372036854775807) : CallsR Try.prog 70 [.sl 1 (ls.map .str), aPos p, .int .i64 n, .int .i64 want] [] (aMove (vertP ls p n want false)) [] := by
  refine callsR_of (mrg := true) (dyn := []) (CtrOK.cons ok_vby (CtrOK.nil _)) mixed Try.func70 rfl (by simp [Try.ntmps70]) (by kernel_rfl) ?_
  rw [show Try.f70.results.toList = [.cell 8 38, .tmp 9] from by kernel_rfl]
  simp (maxSteps := 4000000) only [↓Qn,↓Ys,↓Yt,↓Z9,Z4,Yk,Ye,gw,Z5,↓chk,Qo,noW,↓Jb,↓Qp,↓Qq,Qr,↓Zw,↓Y8,Jc,Pg.look,Zc,implies_true,true_and,and_true,Jd,Qs,Qt,Y9,Ya,Yb,Nat.reduceAdd,ofV,Qa,Je,Jf,Jg,Jh,Ji,Qu,Jj,Jk,Jl,Qb,Jm,Jn,Jo,Jp,Jq,Pg.freeze,Zq,Qv,Qw,Yf,Jr,Js,Yv,Qx,↓Q2,Q3,Q4,J4,Yw,Q5,Q9,J0,Y4,Yl,Jt,Qi,Qj,AV.cells,TK.cells,AV.definite,AV.leaf,AV.leafy,Yz,lay,Za,Zb,Zh,reduceCtorEq,Nat.reduceEqDiff,Nat.reduceAdd,Zm,Zn,Zi,Zj,Zo,Z1,Zx,Zl,Zp,Zy,ite_true,ite_false,Option.some.injEq,Z2,Z7,Zt,and_self,exists_eq_left',Yc,Y0,Jy,Qe,Y1,Yx,Yq,Yr,Zf,Zr,Y2,Y5,Yy,Qk,Ql,Yn,Yo,Yp,Zd,Ju,Zs,Zg,Ze,Zv,Zz,Z6,Z3,Zu,Zk,Y6,Yg,Qc,Qy,Qz,Yd,↓J1,muC,↓Q6,Y7,Q7,tk28,dz28,tk38,tz38,dz38,kVBy,aPos,aMove,aMv]
  exact ⟨hf, hn⟩
theorem calls_Up (ls : Ls) (p : Int × Int) (n want : Int) (hf : okText ls) (hn : n ≤ 9223372036854775807) : CallsR Try.prog 71 [.sl 1 (ls.map .str), aPos p, .int .i64 n, .int .i64 want] [] (aMove (vertP ls p n want true)) [] := by
  refine callsR_of (mrg := true) (dyn := []) (CtrOK.cons ok_vby (CtrOK.nil _)) mixed Try.func71 rfl (by simp [Try.ntmps71]) (by kernel_rfl) ?_
  rw [show Try.f71.results.toList = [.cell 8 38, .tmp 9] from by kernel_rfl]
  simp (maxSteps := 4000000) only [↓Qn,↓Ys,↓Yt,↓Z9,Z4,Yk,Ye,gw,Z5,↓chk,Qo,noW,↓Jb,↓Qp,↓Qq,Qr,↓Zw,↓Y8,Jc,Pg.look,Zc,implies_true,true_and,and_true,Jd,Qs,Qt,Y9,Ya,Yb,Nat.reduceAdd,ofV,Qa,Je,Jf,Jg,Jh,Ji,Qu,Jj,Jk,Jl,Qb,Jm,Jn,Jo,Jp,Jq,Pg.freeze,Zq,Qv,Qw,Yf,Jr,Js,Yv,Qx,↓Q2,Q3,Q4,J4,Yw,Q5,Q9,J0,Y4,Yl,Jt,Qi,Qj,AV.cells,TK.cells,AV.definite,AV.leaf,AV.leafy,Yz,lay,Za,Zb,Zh,reduceCtorEq,Nat.reduceEqDiff,Nat.reduceAdd,Zm,Zn,Zi,Zj,Zo,Z1,Zx,Zl,Zp,Zy,ite_true,ite_false,Option.some.injEq,Z2,Z7,Zt,and_self,exists_eq_left',Yc,Y0,Jy,Qe,Y1,Yx,Yq,Yr,Zf,Zr,Y2,Y5,Yy,Qk,Ql,Yn,Yo,Yp,Zd,Ju,Zs,Zg,Ze,Zv,Zz,Z6,Z3,Zu,Zk,Y6,Yg,Qc,Qy,Qz,Yd,↓J1,muC,↓Q6,Y7,Q7,tk28,dz28,tk38,tz38,dz38,kVBy,aPos,aMove,aMv]
  exact ⟨hf, hn⟩
def kVert (up : Bool) : C1 := C1.by [.sl 1 [], .id, .id, .id] (lCons cStrs (lCons cPos2 (lCons (cInt .i64) (lOne (cInt .i64))))) (fun d => okText d.1 ∧ d.2.2.1 ≤ 9223372036854775807) (fun d => aMove (vertP d.1 d.2.1 d.2.2.1 d.2.2.2 up)) (fun _ => [])
theorem ok_Down : C1OK Try.prog 70 (kVert false) := C1OK.by (by kernel_rfl) (fun d h => calls_Down d.1 d.2.1 d.2.2.1 d.2.2.2 h.1 h.2) (fun _ => rfl) (fun _ => rfl)
theorem ok_Up : C1OK Try.prog 71 (kVert true) := C1OK.by (by kernel_rfl) (fun d h => calls_Up d.1 d.2.1 d.2.2.1 d.2.2.2 h.1 h.2) (fun _ => rfl) (fun _ => rfl)

def firstByP (ls : Ls) (p : Int × Int) (n : Int) (up : Bool) : Mv × Bool := if 0 ≤ n ∧ (0 ≤ p.1 ∧ p.1 < ls.length ∧ 0 ≤ p.2 ∧ p.2 ≤ (ls.getD p.1.toNat []).length) then lineM ls (toL p n up) false else mNone
set_option maxHeartbeats 4000000 in
theorem calls_firstBy (ls : Ls) (p : Int × Int) (n : Int) (up : Bool) (hf : okText ls) (hn : n ≤ 9223372036854775807) : CallsR Try.prog 83 [.sl 1 (ls.map .str), aPos p, .int .i64 n, .bool up] [] (aMove (firstByP ls p n up)) [] := by
  refine callsR_of (mrg := true) (dyn := []) (CtrOK.cons ok_vline (CtrOK.cons ok_vfirst (CtrOK.nil _))) mixed Try.func83 rfl (by simp [Try.ntmps83]) (by kernel_rfl) ?_
  rw [show Try.f83.results.toList = [.cell 8 38, .tmp 9] from by kernel_rfl]
  obtain ⟨p1, p2⟩ := p
  obtain ⟨x, hx⟩ : ∃ x, x = vlineF ls (p1, p2) n up := ⟨_, rfl⟩
  obtain ⟨a, ok⟩ := x
  cases ok with
  | false =>
    have hv := vline_f hx
    simp only at hv
    have e : firstByP ls (p1, p2) n up = mNone := by
      unfold firstByP lineM
      dsimp only
      split
      · rw [if_pos (by omega)]
      · rfl
    rw [e]
    simp (maxSteps := 4000000) only [↓Qn,↓Ys,↓Yt,↓Yu,↓Z9,↓Qh,Z4,Yk,Ye,gw,Z5,Yh,↓chk,Qo,noW,↓Jb,↓Qp,↓Qq,Qr,↓Zw,↓Ja,↓Y8,Jc,Pg.look,Qm,Zc,false_implies,implies_true,true_and,and_true,Jd,Qs,Qt,Y9,Ya,Yb,Nat.reduceAdd,ofV,Qa,Je,Jf,Jg,Jh,Ji,Qu,Jj,Jk,Jl,Qb,Jm,Jn,Jo,Jp,Jq,Pg.freeze,Zq,Qv,Qw,Yf,Jr,Js,Yv,Qx,↓Q2,Q3,Q4,J4,Yw,Q5,Q9,J0,Y4,Yl,Jt,Qi,Qj,AV.cells,TK.cells,AV.definite,AV.leaf,AV.leafy,Yz,lay,J5,Za,Zb,Zh,reduceCtorEq,Nat.reduceEqDiff,Nat.reduceAdd,Zm,Zn,Zi,Zj,Zo,Z1,Zx,Zl,Zp,Zy,ite_true,ite_false,Option.some.injEq,Yj,AV.agg.injEq,Prod.mk.injEq,Z2,Z7,Zt,and_self,exists_eq_left',Yc,Y0,Jy,Qe,Y1,Yx,Yq,Yr,Zf,Zr,Y2,Y5,Yy,Qk,Ql,Yn,Yo,Yp,Zd,Ju,Zs,Zg,Ze,Zv,Zz,Z6,Z3,Zu,Zk,Y6,Yg,Qc,Qy,Qz,Yd,↓J1,muC,↓Q6,Y7,Q7,tk28,dz28,tk38,tz38,dz38,kVLine,kVFirst,aPos,aMove,aMv,mNone,← hx]
    exact ⟨hf, hn⟩
  | true =>
    have hv := vline_t hx
    simp only at hv
    obtain ⟨v1, v2, v3, v4, v5⟩ := hv
    have e : firstByP ls (p1, p2) n up = (firstM ls a false, true) := by
      unfold firstByP lineM
      rw [if_pos ⟨v1, v2⟩, if_neg (by omega), ← v3]
    rw [e]
    simp (maxSteps := 4000000) only [↓Qn,↓Jv,↓Ys,↓Yt,↓Yu,↓Z9,↓Qg,Z4,Yk,Ye,gw,Z5,Yh,↓chk,Qo,noW,↓Jb,↓Qp,↓Qq,Qr,↓Zw,↓Y8,Jc,Pg.look,Q1,Zc,false_implies,implies_true,true_and,and_true,Jd,Qs,Qt,Y9,Ya,Yb,Nat.reduceAdd,ofV,Qa,Je,Jf,Jg,Jh,Ji,Qu,Jj,Jk,Jl,Qb,Jm,Jn,Jo,Jp,Jq,Pg.freeze,Zq,Qv,Qw,Yf,Jr,Js,Yv,Qx,↓Q2,Q3,Q4,J4,Yw,Q5,Q9,J0,Y4,Yl,Jt,Qi,Qj,AV.cells,TK.cells,AV.definite,AV.leaf,AV.leafy,Yz,lay,Za,Zb,Zh,reduceCtorEq,Nat.reduceEqDiff,Nat.reduceAdd,Zm,Zn,Zi,Zj,Zo,Z1,Zx,Zl,Zp,Zy,ite_true,ite_false,Option.some.injEq,Prod.mk.injEq,Z2,Z7,Zt,and_self,exists_eq_left',Yc,Y0,Jy,Qe,Y1,Yx,Yq,Yr,Zf,Zr,Y2,Y5,Yy,Qk,Ql,Yn,Yo,Yp,Zd,Ju,Zs,Zg,Ze,Zv,Zz,Z6,Z3,Zu,Zk,Y6,Yg,Qc,Qy,Qz,Yd,↓J1,muC,↓Q6,Y7,Q7,tk28,dz28,tk38,tz38,dz38,kVLine,kVFirst,aPos,aMove,aMv,firstM,← hx]
    exact ⟨⟨hf, hn⟩, hf, v4, v5⟩
def kFirstBy : C1 := C1.by [.sl 1 [], .id, .id, .id] (lCons cStrs (lCons cPos2 (lCons (cInt .i64) (lOne cBool)))) (fun d => okText d.1 ∧ d.2.2.1 ≤ 9223372036854775807) (fun d => aMove (firstByP d.1 d.2.1 d.2.2.1 d.2.2.2)) (fun _ => [])
theorem ok_firstBy : C1OK Try.prog 83 kFirstBy := C1OK.by (by kernel_rfl) (fun d h => calls_firstBy d.1 d.2.1 d.2.2.1 d.2.2.2 h.1 h.2) (fun _ => rfl) (fun _ => rfl)

def plusP (ls : Ls) (p : Int × Int) (n : Int) : Mv × Bool := whenMay ls p n (lineM ls (p.1 + n) false)
def minusP (ls : Ls) (p : Int × Int) (n : Int) : Mv × Bool := whenMay ls p n (lineM ls (p.1 - n) false)
def underP (ls : Ls) (p : Int × Int) (n : Int) : Mv × Bool := whenMay ls p n (lineM ls (p.1 + n - 1) false)
set_option maxHeartbeats 4000000 in
theorem calls_Plus (ls : Ls) (p : Int × Int) (n : Int) (hf : okText ls) (hn : n ≤ 9223372036854775807) : CallsR Try.prog 72 [.sl 1 (ls.map .str), aPos p, .int .i64 n] [] (aMove (plusP ls p n)) [] := by
  refine callsR_of (mrg := true) (dyn := []) (CtrOK.cons ok_firstBy (CtrOK.nil _)) mixed Try.func72 rfl (by simp [Try.ntmps72]) (by kernel_rfl) ?_
  rw [show Try.f72.results.toList = [.cell 6 38, .tmp 7] from by kernel_rfl]
  obtain ⟨p1, p2⟩ := p
  have hm := may_iff ls (p1, p2) n
  simp only at hm
  by_cases h1 : n < 1
  · have c1 : decide (n < 1) = true := decide_eq_true h1
    rw [plusP, whenMay, if_neg (fun h => by have := hm.1 h; omega)]
    simp (maxSteps := 4000000) only [↓Qn,↓Ys,↓Yt,↓Yu,↓Z9,↓Qh,Z4,Yk,Ye,gw,Z5,Yh,↓chk,Qo,noW,↓Jb,↓Qp,↓Qq,Qr,↓Zw,↓Ja,↓Y8,Jc,Pg.look,binK,Jw,Zc,implies_true,true_and,and_true,Jd,Qs,Qt,binV,intV,Y9,Ya,Yb,Nat.reduceAdd,ofV,Qa,Je,Jf,Jg,Jh,Ji,Qu,Jj,Jk,Jl,Qb,Jm,Jn,Jo,Jp,Jq,Pg.freeze,Zq,Qv,Qw,Yf,Jr,Js,Yv,Qx,Yl,Jt,AV.cells,TK.cells,AV.definite,AV.leaf,AV.leafy,Yz,lay,J5,Za,Zb,Zh,reduceCtorEq,Nat.reduceEqDiff,Nat.reduceAdd,Zm,Zn,Zi,Zj,Zo,Zx,Zl,Zp,Zy,ite_true,ite_false,Option.some.injEq,Yj,AV.agg.injEq,Z2,Z7,Zt,and_self,exists_eq_left',Yc,Zf,Zd,Ju,Zs,Zg,Ze,Zv,Zz,Z6,Z3,Zu,Zk,Yg,Qc,Qy,Qz,Yd,Q7,tk38,tz38,dz38,kFirstBy,aPos,aMove,aMv,mNone,c1]
  · have c1 : decide (n < 1) = false := decide_eq_false h1
    have w1 : IntKind.i64.wrap (n - 1) = n - 1 := wrap64 (by omega) (by omega)
    have e : plusP ls (p1, p2) n = firstByP ls (p1, p2) n false := by
      unfold plusP whenMay firstByP toL
      dsimp only
      by_cases h : may ls (p1, p2) n = true
      · rw [if_pos h, if_pos (by have := hm.1 h; omega)]
        simp only [Zc,if_false]
        try rw [show p1 + n - 1 = p1 + (n - 1) by omega]
      · rw [if_neg h, if_neg (fun g => h (hm.2 (by omega)))]
    rw [e]
    simp (maxSteps := 4000000) only [↓Qn,↓Jv,↓Ys,↓Yt,↓Yu,↓Z9,↓Qg,Z4,Yk,Ye,gw,Z5,Yh,↓chk,Qo,noW,↓Jb,↓Qp,↓Qq,Qr,↓Zw,↓Y8,Jc,Pg.look,binK,Jw,Zc,implies_true,true_and,and_true,Jd,Qs,Qt,binV,intV,Y9,Ya,Yb,Nat.reduceAdd,ofV,Qa,Je,Jf,Jg,Jh,Ji,Qu,Jj,Jk,Jl,Qb,Jm,Jn,Jo,Jp,Jq,Pg.freeze,Zq,Qv,Qw,Yf,Jr,Js,Yv,Qx,↓Q2,Q3,Q4,J4,Yw,Q5,Q9,J0,Y4,Yl,Jt,Qi,Qj,AV.cells,TK.cells,AV.definite,AV.leaf,AV.leafy,Yz,lay,Za,Zb,Zh,reduceCtorEq,Nat.reduceEqDiff,Nat.reduceAdd,Zm,Zn,Zi,Zj,Zo,Z1,Zx,Zl,Zp,Zy,ite_true,ite_false,Option.some.injEq,Z2,Z7,Zt,and_self,exists_eq_left',Yc,Y0,Jy,Qe,Y1,Yx,Yq,Yr,Zf,Zr,Y2,Y5,Yy,Qk,Ql,Yn,Yo,Yp,Zd,Ju,Zs,Zg,Ze,Zv,Zz,Z6,Z3,Zu,Zk,Y6,Yg,Qc,Qy,Qz,Yd,↓J1,muC,↓Q6,Y7,Q7,tk28,dz28,tk38,tz38,dz38,kFirstBy,aPos,aMove,aMv,c1]
    exact ⟨hf, by omega⟩
theorem ok_Plus : C1OK Try.prog 72 (kMvN plusP) := C1OK.by (by kernel_rfl) (fun d h => calls_Plus d.1 d.2.1 d.2.2 h.1 h.2) (fun _ => rfl) (fun _ => rfl)
set_option maxHeartbeats 4000000 in
theorem calls_Minus (ls : Ls) (p : Int × Int) (n : Int) (hf : okText ls) (hn : n ≤ 9223372036854775807) : CallsR Try.prog 73 [.sl 1 (ls.map .str), aPos p, .int .i64 n] [] (aMove (minusP ls p n)) [] := by
  refine callsR_of (mrg := true) (dyn := []) (CtrOK.cons ok_firstBy (CtrOK.nil _)) mixed Try.func73 rfl (by simp [Try.ntmps73]) (by kernel_rfl) ?_
  rw [show Try.f73.results.toList = [.cell 6 38, .tmp 7] from by kernel_rfl]
  obtain ⟨p1, p2⟩ := p
  have hm := may_iff ls (p1, p2) n
  simp only at hm
  by_cases h1 : n < 1
  · have c1 : decide (n < 1) = true := decide_eq_true h1
    rw [minusP, whenMay, if_neg (fun h => by have := hm.1 h; omega)]
    simp (maxSteps := 4000000) only [↓Qn,↓Ys,↓Yt,↓Yu,↓Z9,↓Qh,Z4,Yk,Ye,gw,Z5,Yh,↓chk,Qo,noW,↓Jb,↓Qp,↓Qq,Qr,↓Zw,↓Ja,↓Y8,Jc,Pg.look,binK,Jw,Zc,implies_true,true_and,and_true,Jd,Qs,Qt,binV,intV,Y9,Ya,Yb,Nat.reduceAdd,ofV,Qa,Je,Jf,Jg,Jh,Ji,Qu,Jj,Jk,Jl,Qb,Jm,Jn,Jo,Jp,Jq,Pg.freeze,Zq,Qv,Qw,Yf,Jr,Js,Yv,Qx,Yl,Jt,AV.cells,TK.cells,AV.definite,AV.leaf,AV.leafy,Yz,lay,J5,Za,Zb,Zh,reduceCtorEq,Nat.reduceEqDiff,Nat.reduceAdd,Zm,Zn,Zi,Zj,Zo,Zx,Zl,Zp,Zy,ite_true,ite_false,Option.some.injEq,Yj,AV.agg.injEq,Z2,Z7,Zt,and_self,exists_eq_left',Yc,Zf,Zd,Ju,Zs,Zg,Ze,Zv,Zz,Z6,Z3,Zu,Zk,Yg,Qc,Qy,Qz,Yd,Q7,tk38,tz38,dz38,kFirstBy,aPos,aMove,aMv,mNone,c1]
  · have c1 : decide (n < 1) = false := decide_eq_false h1
    have w1 : IntKind.i64.wrap (n - 1) = n - 1 := wrap64 (by omega) (by omega)
    have e : minusP ls (p1, p2) n = firstByP ls (p1, p2) n true := by
      unfold minusP whenMay firstByP toL
      dsimp only
      by_cases h : may ls (p1, p2) n = true
      · rw [if_pos h, if_pos (by have := hm.1 h; omega)]
        simp only [if_true]
        try rw [show p1 + n - 1 = p1 + (n - 1) by omega]
      · rw [if_neg h, if_neg (fun g => h (hm.2 (by omega)))]
    rw [e]
    simp (maxSteps := 4000000) only [↓Qn,↓Jv,↓Ys,↓Yt,↓Yu,↓Z9,↓Qg,Z4,Yk,Ye,gw,Z5,Yh,↓chk,Qo,noW,↓Jb,↓Qp,↓Qq,Qr,↓Zw,↓Y8,Jc,Pg.look,binK,Jw,Zc,implies_true,true_and,and_true,Jd,Qs,Qt,binV,intV,Y9,Ya,Yb,Nat.reduceAdd,ofV,Qa,Je,Jf,Jg,Jh,Ji,Qu,Jj,Jk,Jl,Qb,Jm,Jn,Jo,Jp,Jq,Pg.freeze,Zq,Qv,Qw,Yf,Jr,Js,Yv,Qx,↓Q2,Q3,Q4,J4,Yw,Q5,Q9,J0,Y4,Yl,Jt,Qi,Qj,AV.cells,TK.cells,AV.definite,AV.leaf,AV.leafy,Yz,lay,Za,Zb,Zh,reduceCtorEq,Nat.reduceEqDiff,Nat.reduceAdd,Zm,Zn,Zi,Zj,Zo,Z1,Zx,Zl,Zp,Zy,ite_true,ite_false,Option.some.injEq,Z2,Z7,Zt,and_self,exists_eq_left',Yc,Y0,Jy,Qe,Y1,Yx,Yq,Yr,Zf,Zr,Y2,Y5,Yy,Qk,Ql,Yn,Yo,Yp,Zd,Ju,Zs,Zg,Ze,Zv,Zz,Z6,Z3,Zu,Zk,Y6,Yg,Qc,Qy,Qz,Yd,↓J1,muC,↓Q6,Y7,Q7,tk28,dz28,tk38,tz38,dz38,kFirstBy,aPos,aMove,aMv,c1]
    exact ⟨hf, by omega⟩
theorem ok_Minus : C1OK Try.prog 73 (kMvN minusP) := C1OK.by (by kernel_rfl) (fun d h => calls_Minus d.1 d.2.1 d.2.2 h.1 h.2) (fun _ => rfl) (fun _ => rfl)
set_option maxHeartbeats 4000000 in
theorem calls_Under (ls : Ls) (p : Int × Int) (n : Int) (hf : okText ls) (hn : n ≤ 9223372036854775807) : CallsR Try.prog 74 [.sl 1 (ls.map .str), aPos p, .int .i64 n] [] (aMove (underP ls p n)) [] := by
  refine callsR_of (mrg := true) (dyn := []) (CtrOK.cons ok_firstBy (CtrOK.nil _)) mixed Try.func74 rfl (by simp [Try.ntmps74]) (by kernel_rfl) ?_
  rw [show Try.f74.results.toList = [.cell 6 38, .tmp 7] from by kernel_rfl]
  obtain ⟨p1, p2⟩ := p
  have hm := may_iff ls (p1, p2) n
  simp only at hm
  by_cases h1 : n < 1
  · have c1 : decide (n < 1) = true := decide_eq_true h1
    rw [underP, whenMay, if_neg (fun h => by have := hm.1 h; omega)]
    simp (maxSteps := 4000000) only [↓Qn,↓Ys,↓Yt,↓Yu,↓Z9,↓Qh,Z4,Yk,Ye,gw,Z5,Yh,↓chk,Qo,noW,↓Jb,↓Qp,↓Qq,Qr,↓Zw,↓Ja,↓Y8,Jc,Pg.look,binK,Jw,Zc,implies_true,true_and,and_true,Jd,Qs,Qt,binV,intV,Y9,Ya,Yb,Nat.reduceAdd,ofV,Qa,Je,Jf,Jg,Jh,Ji,Qu,Jj,Jk,Jl,Qb,Jm,Jn,Jo,Jp,Jq,Pg.freeze,Zq,Qv,Qw,Yf,Jr,Js,Yv,Qx,Yl,Jt,AV.cells,TK.cells,AV.definite,AV.leaf,AV.leafy,Yz,lay,J5,Za,Zb,Zh,reduceCtorEq,Nat.reduceEqDiff,Nat.reduceAdd,Zm,Zn,Zi,Zj,Zo,Zx,Zl,Zp,Zy,ite_true,ite_false,Option.some.injEq,Yj,AV.agg.injEq,Z2,Z7,Zt,and_self,exists_eq_left',Yc,Zf,Zd,Ju,Zs,Zg,Ze,Zv,Zz,Z6,Z3,Zu,Zk,Yg,Qc,Qy,Qz,Yd,Q7,tk38,tz38,dz38,kFirstBy,aPos,aMove,aMv,mNone,c1]
  · have c1 : decide (n < 1) = false := decide_eq_false h1
    have w1 : IntKind.i64.wrap (n - 1) = n - 1 := wrap64 (by omega) (by omega)
    have e : underP ls (p1, p2) n = firstByP ls (p1, p2) (n - 1) false := by
      unfold underP whenMay firstByP toL
      dsimp only
      by_cases h : may ls (p1, p2) n = true
      · rw [if_pos h, if_pos (by have := hm.1 h; omega)]
        simp only [Zc,if_false]
        try rw [show p1 + n - 1 = p1 + (n - 1) by omega]
      · rw [if_neg h, if_neg (fun g => h (hm.2 (by omega)))]
    rw [e]
    simp (maxSteps := 4000000) only [↓Qn,↓Jv,↓Ys,↓Yt,↓Yu,↓Z9,↓Qg,Z4,Yk,Ye,gw,Z5,Yh,↓chk,Qo,noW,↓Jb,↓Qp,↓Qq,Qr,↓Zw,↓Y8,Jc,Pg.look,binK,Jw,Zc,implies_true,true_and,and_true,Jd,Qs,Qt,binV,intV,Y9,Ya,Yb,Nat.reduceAdd,ofV,Qa,Je,Jf,Jg,Jh,Ji,Qu,Jj,Jk,Jl,Qb,Jm,Jn,Jo,Jp,Jq,Pg.freeze,Zq,Qv,Qw,Yf,Jr,Js,Yv,Qx,↓Q2,Q3,Q4,J4,Yw,Q5,Q9,J0,Y4,Yl,Jt,Qi,Qj,AV.cells,TK.cells,AV.definite,AV.leaf,AV.leafy,Yz,lay,Za,Zb,Zh,reduceCtorEq,Nat.reduceEqDiff,Nat.reduceAdd,Zm,Zn,Zi,Zj,Zo,Z1,Zx,Zl,Zp,Zy,ite_true,ite_false,Option.some.injEq,Z2,Z7,Zt,and_self,exists_eq_left',Yc,Y0,Jy,Qe,Y1,Yx,Yq,Yr,Zf,Zr,Y2,Y5,Yy,Qk,Ql,Yn,Yo,Yp,Zd,Ju,Zs,Zg,Ze,Zv,Zz,Z6,Z3,Zu,Zk,Y6,Yg,Qc,Qy,Qz,Yd,↓J1,muC,↓Q6,Y7,Q7,tk28,dz28,tk38,tz38,dz38,kFirstBy,aPos,aMove,aMv,c1,w1]
    exact ⟨hf, by omega⟩
theorem ok_Under : C1OK Try.prog 74 (kMvN underP) := C1OK.by (by kernel_rfl) (fun d h => calls_Under d.1 d.2.1 d.2.2 h.1 h.2) (fun _ => rfl) (fun _ => rfl)
def gotoP (ls : Ls) (p : Int × Int) (n : Int) : Mv × Bool := whenMay ls p n (lineM ls (n - 1) true)
set_option maxHeartbeats 4000000 in
theorem calls_Goto (ls : Ls) (p : Int × Int) (n : Int) (hf : okText ls) : CallsR Try.prog 75 [.sl 1 (ls.map .str), aPos p, .int .i64 n] [] (aMove (gotoP ls p n)) [] := by
  refine callsR_of (mrg := true) (dyn := []) (CtrOK.cons ok_CPlace (CtrOK.cons ok_vfirst (CtrOK.nil _))) mixed Try.func75 rfl (by simp [Try.ntmps75]) (by kernel_rfl) ?_
  rw [show Try.f75.results.toList = [.cell 6 38, .tmp 7] from by kernel_rfl]
  obtain ⟨p1, p2⟩ := p
  have hm := may_iff ls (p1, p2) n
  simp only at hm
  have h8 := hf.1
  have hpl : place ls p1 p2 = (decide (p1 ≥ 0) && decide (p1 < (ls.length : Int)) && decide (p2 ≥ 0) && decide (p2 ≤ ((ls.getD p1.toNat []).length : Int))) := rfl
  by_cases hg : may ls (p1, p2) n = true ∧ n ≤ ls.length
  · obtain ⟨hg, h2⟩ := hg
    have hi := hm.1 hg
    have c1 : decide (n < 1) = false := decide_eq_false (by omega)
    have c2 : decide (n > (ls.length : Int)) = false := decide_eq_false (by omega)
    have c3 : place ls p1 p2 = true := by rw [hpl]; simp only [Xf,decide_eq_true_eq]; omega
    have w1 : IntKind.i64.wrap (n - 1) = n - 1 := wrap64 (by omega) (by omega)
    rw [gotoP, whenMay, if_pos hg, lineM, if_neg (by omega)]
    simp (maxSteps := 4000000) only [↓Qn,↓Jv,↓Ys,↓Yt,↓Yu,↓Z9,↓Qg,Z4,Yk,Ye,gw,Z5,Q8,Jx,Yh,J6,↓chk,Qo,noW,↓Jb,↓Qp,↓Qq,Qr,↓Zw,↓Y8,Jc,Pg.look,binK,Jw,J7,Qm,Q1,Zc,false_implies,implies_true,true_and,and_true,J8,J9,unc,gof,mux,J2,J3,Jd,Qs,Qt,binV,intV,Y9,Ya,Yb,Nat.reduceAdd,Q0,Qd,ofV,Qa,Xa,Je,Jf,Jg,Jh,Ji,Qu,Jj,Jk,Jl,Qb,Jm,Jn,Jo,Jp,Jq,Pg.freeze,Zq,Qv,Qw,Yf,Jr,Js,slen,Yv,Qx,↓Q2,Q3,Q4,J4,Yw,Q5,Q9,J0,Y4,Yl,Jt,Qi,Qj,AV.cells,TK.cells,AV.definite,AV.leaf,AV.leafy,Yz,lay,Op.operands,Call.operands,Ym,Z0,Za,Zb,Yi,Zh,reduceCtorEq,Nat.reduceEqDiff,Nat.reduceAdd,Zm,Zn,Zi,Zj,Zo,Z1,Zx,Zl,Zp,Zy,ite_true,ite_false,Option.some.injEq,AV.int.injEq,Prod.mk.injEq,Z2,Z7,Zt,and_self,exists_eq_left',Yc,Y3,Y0,Z8,Qe,Y1,Yx,Yq,Yr,Zf,Zr,Y2,Y5,Yy,Qk,Ql,Yn,Yo,Yp,Zd,Ju,Zs,Zg,Ze,Zv,Zz,Nat.reduceLeDiff,Z6,Z3,Zu,Zk,Y6,Yg,Qc,Qy,Qz,Yd,↓J1,muC,↓Q6,Y7,Q7,tk4,tk22,tk28,dz28,tk38,tz38,dz38,kRPlace,kVFirst,aPos,aMove,aMv,firstM,c1,c2,c3,w1]
    exact ⟨hf, by omega, by omega⟩
  · have c1 : (decide (n < 1) || decide (n > (ls.length : Int)) || !place ls p1 p2) = true := by
      rw [hpl]; simp only [Xg,decide_eq_true_eq,Qf,Xb,decide_eq_false_iff_not]
      by_cases hgg : may ls (p1, p2) n = true
      · have : ¬ n ≤ ls.length := fun h => hg ⟨hgg, h⟩
        omega
      · have : ¬ (1 ≤ n ∧ 0 ≤ p1 ∧ p1.toNat < ls.length ∧ 0 ≤ p2 ∧ p2 ≤ (ls.getD p1.toNat []).length) := fun h => hgg (hm.2 h)
        omega
    have e : gotoP ls (p1, p2) n = mNone := by
      unfold gotoP whenMay lineM
      split
      · next h => rw [if_pos (by have : ¬ n ≤ ls.length := fun h2 => hg ⟨h, h2⟩; omega)]
      · rfl
    rw [e]
    simp (maxSteps := 4000000) only [↓Qn,↓Ys,↓Yt,↓Yu,↓Z9,↓Qh,Z4,Yk,Ye,gw,Z5,Q8,Jx,Yh,J6,↓chk,Qo,noW,↓Jb,↓Qp,↓Qq,Qr,↓Zw,↓Ja,↓Y8,Jc,Pg.look,binK,Jw,J7,Zc,implies_true,imp_self,true_and,and_true,J8,J9,unc,gof,mux,J2,J3,Jd,Qs,Qt,binV,intV,Y9,Ya,Yb,Nat.reduceAdd,Q0,Qd,ofV,Qa,Xa,Je,Jf,Jg,Jh,Ji,Qu,Jj,Jk,Jl,Qb,Jm,Jn,Jo,Jp,Jq,Pg.freeze,Zq,Qv,Qw,Yf,Jr,Js,slen,Yv,Qx,↓Q2,Q3,Q4,Yw,Q5,Q9,J0,Y4,Yl,Jt,Qi,Qj,AV.cells,TK.cells,AV.definite,AV.leaf,AV.leafy,Yz,lay,J5,Op.operands,Call.operands,Ym,Z0,Za,Zb,Yi,Zh,reduceCtorEq,Nat.reduceEqDiff,Nat.reduceAdd,Zm,Zn,Zi,Zj,Zo,Z1,Zx,Zl,Zp,Zy,ite_true,ite_false,Option.some.injEq,Yj,AV.int.injEq,AV.agg.injEq,Jz,Bool.decide_eq_true,decide_eq_true_eq,decide_eq_false_iff_not,Xe,Z2,Z7,Zt,and_self,Qf,exists_eq_left',Yc,Y3,Y0,Z8,Qe,Y1,Yx,Yq,Yr,Zf,Zr,Y2,Y5,Yy,Qk,Ql,Yn,Yo,Yp,Zd,Ju,Zs,Zg,Ze,Zv,Zz,Z6,Z3,Zu,Zk,Y6,Yg,Qc,Qy,Qz,Yd,↓J1,muC,↓Q6,Y7,Q7,tk22,tk28,dz28,tk38,tz38,dz38,kRPlace,kVFirst,aPos,aMove,aMv,mNone,c1]
    all_goals (intros; simp_all)
theorem ok_Goto : C1OK Try.prog 75 (kMvN gotoP) := C1OK.by (by kernel_rfl) (fun d h => calls_Goto d.1 d.2.1 d.2.2 h.1) (fun _ => rfl) (fun _ => rfl)

/-- A line of the window. -/
def screenTo (ls : Ls) (top : Int) (key : UInt8) (n : Int) : Mv × Bool :=
  if key = 72 then lineM ls (top + (min n (min 10 (ls.length - top)) - 1)) true
  else if key = 76 then lineM ls (top + (min 10 (ls.length - top) - min n (min 10 (ls.length - top)))) true
  else if key = 77 then lineM ls (top + (min 10 (ls.length - top) - 1) / 2) true
  else mNone
def screenP (ls : Ls) (p : Int × Int) (top : Int) (key : UInt8) (n : Int) : Mv × Bool :=
  whenMay ls p n (orNone (max top 0 ≥ ls.length) (screenTo ls (max top 0) key n))
set_option maxRecDepth 20000 in
set_option maxHeartbeats 4000000 in
theorem calls_Screen (ls : Ls) (p : Int × Int) (top : Int) (key : UInt8) (n : Int) (hf : okText ls) : CallsR Try.prog 77 [.sl 1 (ls.map .str), aPos p, .int .i64 top, byteA key, .int .i64 n] [] (aMove (screenP ls p top key n)) [] := by
  refine callsR_of (mrg := true) (dyn := []) (CtrOK.cons ok_CPlace (CtrOK.cons ok_vfirst (CtrOK.nil _))) mixed Try.func77 rfl (by simp [Try.ntmps77]) (by kernel_rfl) ?_
  rw [show Try.f77.results.toList = [.cell 10 38, .tmp 11] from by kernel_rfl]
  obtain ⟨p1, p2⟩ := p
  have hm := may_iff ls (p1, p2) n
  simp only at hm
  have h8 := hf.1
  obtain ⟨t, ht⟩ : ∃ t, t = max top 0 := ⟨_, rfl⟩
  have ht0 : 0 ≤ t := by omega
  have hpl : place ls p1 p2 = (decide (p1 ≥ 0) && decide (p1 < (ls.length : Int)) && decide (p2 ≥ 0) && decide (p2 ≤ ((ls.getD p1.toNat []).length : Int))) := rfl
  unfold screenP whenMay
  rw [← ht]
  by_cases hg : may ls (p1, p2) n = true ∧ t < ls.length
  · obtain ⟨hg, h2⟩ := hg
    have hi := hm.1 hg
    have c1 : decide (n < 1) = false := decide_eq_false (by omega)
    have c2 : decide (t ≥ (ls.length : Int)) = false := decide_eq_false (by omega)
    have c3 : place ls p1 p2 = true := by rw [hpl]; simp only [Xf,decide_eq_true_eq]; omega
    have w1 : IntKind.i64.wrap ((ls.length : Int) - t) = (ls.length : Int) - t := wrap64 (by omega) (by omega)
    obtain ⟨k, hk⟩ : ∃ k, k = min 10 ((ls.length : Int) - t) := ⟨_, rfl⟩
    have hk1 : 1 ≤ k ∧ k ≤ 10 ∧ t + k ≤ ls.length := by omega
    obtain ⟨m, hmm⟩ : ∃ m, m = min n k := ⟨_, rfl⟩
    have hm1 : 1 ≤ m ∧ m ≤ k := by omega
    rw [if_pos hg, orNone, if_neg (by omega), screenTo, ← hk, ← hmm]
    have w2 : IntKind.i64.wrap (m - 1) = m - 1 := wrap64 (by omega) (by omega)
    have w3 : IntKind.i64.wrap (k - m) = k - m := wrap64 (by omega) (by omega)
    have w4 : IntKind.i64.wrap (k - 1) = k - 1 := wrap64 (by omega) (by omega)
    by_cases hk72 : key = 72
    · subst hk72
      have w5 : IntKind.i64.wrap (t + (m - 1)) = t + (m - 1) := wrap64 (by omega) (by omega)
      have wt : IntKind.i64.wrap ((k - 1).tdiv 2) = (k - 1) / 2 := by rw [Int.tdiv_eq_ediv_of_nonneg (by omega)]; exact wrap64 (by omega) (by omega)
      rw [if_pos rfl, lineM, if_neg (by omega)]
      simp (maxSteps := 4000000) only [↓Qn,↓Jv,↓Ys,↓Yt,↓Yu,↓wpH_block,↓Z9,↓Qh,↓Qg,Z4,Yk,Ye,gw,Z5,Q8,Jx,Yh,J6,↓chk,Qo,noW,↓Jb,↓Qp,↓Qq,Qr,↓Zw,↓Xh,↓Y8,Jc,Pg.look,binK,Jw,J7,Qm,Q1,Zc,false_implies,implies_true,true_and,and_true,J8,J9,unc,gof,mux,J2,J3,Jd,Qs,Qt,binV,intV,Y9,Ya,Yb,Nat.reduceAdd,Q0,Qd,ofV,Qa,Xa,Je,Jf,Jg,Jh,Ji,Qu,Jj,Jk,Jl,Qb,Jm,Jn,Jo,Jp,Jq,Pg.freeze,Zq,Qv,Qw,Yf,Jr,Js,slen,Yv,Qx,↓Q2,Q3,Q4,J4,Yw,Q5,Q9,J0,Y4,Yl,Jt,Qi,Qj,AV.cells,TK.cells,AV.definite,AV.leaf,AV.leafy,Yz,lay,Xc,Op.operands,Call.operands,Ym,Z0,Za,Zb,Yi,Zh,reduceCtorEq,Nat.reduceEqDiff,Nat.reduceAdd,Zm,Zn,Zi,Zj,Zo,Z1,Zx,Zl,Zp,Zy,ite_true,ite_false,Option.some.injEq,AV.int.injEq,Prod.mk.injEq,Z2,Z7,Zt,and_self,exists_eq_left',Yc,Y3,Y0,Z8,Qe,Y1,Yx,Yq,Yr,Zf,beq_self_eq_true,Xd,Zr,Y2,Y5,Yy,Qk,Ql,Yn,Yo,Yp,Zd,Ju,Zs,Zg,Ze,Zv,Zz,Nat.reduceLeDiff,Z6,Z3,Zu,Zk,Y6,Yg,Qc,Qy,Qz,Yd,↓J1,muC,↓Q6,Y7,Q7,tk4,tk22,tk28,dz28,tk38,tz38,dz38,kRPlace,kVFirst,aPos,aMove,aMv,firstM,← ht,c1,c2,c3,w1,← hk,← hmm,w2,w5,byteA,UInt8.reduceToNat]
      first | exact ⟨hf, by omega, by omega⟩ | exact ⟨by decide, hf, by omega, by omega⟩
    by_cases hk76 : key = 76
    · subst hk76
      have w5 : IntKind.i64.wrap (t + (k - m)) = t + (k - m) := wrap64 (by omega) (by omega)
      have wt : IntKind.i64.wrap ((k - 1).tdiv 2) = (k - 1) / 2 := by rw [Int.tdiv_eq_ediv_of_nonneg (by omega)]; exact wrap64 (by omega) (by omega)
      rw [if_neg (by decide), if_pos rfl, lineM, if_neg (by omega)]
      simp (maxSteps := 4000000) only [↓Qn,↓Jv,↓Ys,↓Yt,↓Yu,↓wpH_block,↓Z9,↓Qh,↓Qg,Z4,Yk,Ye,gw,Z5,Q8,Jx,Yh,J6,↓chk,Qo,noW,↓Jb,↓Qp,↓Qq,Qr,↓Zw,↓Xh,↓Y8,Jc,Pg.look,binK,Jw,J7,Qm,Q1,Zc,false_implies,implies_true,true_and,and_true,J8,J9,unc,gof,mux,J2,J3,Jd,Qs,Qt,binV,intV,Y9,Ya,Yb,Nat.reduceAdd,Q0,Qd,ofV,Qa,Xa,Je,Jf,Jg,Jh,Ji,Qu,Jj,Jk,Jl,Qb,Jm,Jn,Jo,Jp,Jq,Pg.freeze,Zq,Qv,Qw,Yf,Jr,Js,slen,Yv,Qx,↓Q2,Q3,Q4,J4,Yw,Q5,Q9,J0,Y4,Yl,Jt,Qi,Qj,AV.cells,TK.cells,AV.definite,AV.leaf,AV.leafy,Yz,lay,Xc,Op.operands,Call.operands,Ym,Z0,Za,Zb,Yi,Zh,reduceCtorEq,Nat.reduceEqDiff,Nat.reduceAdd,Zm,Zn,Zi,Zj,Zo,Z1,Zx,Zl,Zp,Zy,ite_true,ite_false,Option.some.injEq,AV.int.injEq,Prod.mk.injEq,Z2,Z7,Zt,and_self,exists_eq_left',Yc,Y3,Y0,Z8,Qe,Y1,Yx,Yq,Yr,Zf,beq_self_eq_true,Xd,Int.reduceBEq,Zr,Y2,Y5,Yy,Qk,Ql,Yn,Yo,Yp,Zd,Ju,Zs,Zg,Ze,Zv,Zz,Nat.reduceLeDiff,Z6,Z3,Zu,Zk,Y6,Yg,Qc,Qy,Qz,Yd,↓J1,muC,↓Q6,Y7,Q7,tk4,tk22,tk28,dz28,tk38,tz38,dz38,kRPlace,kVFirst,aPos,aMove,aMv,firstM,← ht,c1,c2,c3,w1,← hk,← hmm,w3,w5,byteA,UInt8.reduceToNat]
      first | exact ⟨hf, by omega, by omega⟩ | exact ⟨by decide, hf, by omega, by omega⟩
    by_cases hk77 : key = 77
    · subst hk77
      have w5 : IntKind.i64.wrap (t + (k - 1) / 2) = t + (k - 1) / 2 := wrap64 (by omega) (by omega)
      have wt : IntKind.i64.wrap ((k - 1).tdiv 2) = (k - 1) / 2 := by rw [Int.tdiv_eq_ediv_of_nonneg (by omega)]; exact wrap64 (by omega) (by omega)
      rw [if_neg (by decide), if_neg (by decide), if_pos rfl, lineM, if_neg (by omega)]
      simp (maxSteps := 4000000) only [↓Qn,↓Jv,↓Ys,↓Yt,↓Yu,↓wpH_block,↓Z9,↓Qh,↓Qg,Z4,Yk,Ye,gw,Z5,Q8,Jx,Yh,J6,↓chk,Qo,noW,↓Jb,↓Qp,↓Qq,Qr,↓Zw,↓Xh,↓Y8,Jc,Pg.look,binK,Jw,J7,Qm,Q1,Zc,false_implies,implies_true,true_and,and_true,J8,J9,unc,gof,mux,J2,J3,Jd,Qs,Qt,binV,intV,Y9,Ya,Yb,Nat.reduceAdd,Q0,Qd,ofV,Qa,Xa,Je,Jf,Jg,Jh,Ji,Qu,Jj,Jk,Jl,Qb,Jm,Jn,Jo,Jp,Jq,Pg.freeze,Zq,Qv,Qw,Yf,Jr,Js,slen,Yv,Qx,↓Q2,Q3,Q4,J4,Yw,Q5,Q9,J0,Y4,Yl,Jt,Qi,Qj,AV.cells,TK.cells,AV.definite,AV.leaf,AV.leafy,Yz,lay,Xc,Op.operands,Call.operands,Ym,Z0,Za,Zb,Yi,Zh,reduceCtorEq,Nat.reduceEqDiff,Nat.reduceAdd,Zm,Zn,Zi,Zj,Zo,Z1,Zx,Zl,Zp,Zy,ite_true,ite_false,Option.some.injEq,AV.int.injEq,Prod.mk.injEq,ne_eq,Z2,Z7,Zt,and_self,exists_eq_left',Yc,Y3,Y0,Z8,Qe,Y1,Yx,Yq,Yr,Zf,beq_self_eq_true,Xd,Int.reduceBEq,Zr,Y2,Y5,Yy,Qk,Ql,Yn,Yo,Yp,Zd,Ju,Zs,Zg,Ze,Zv,Zz,Nat.reduceLeDiff,Z6,Z3,Zu,Zk,Y6,Yg,Qc,Qy,Qz,Yd,↓J1,muC,↓Q6,Y7,Q7,tk4,tk22,tk28,dz28,tk38,tz38,dz38,kRPlace,kVFirst,aPos,aMove,aMv,firstM,← ht,c1,c2,c3,w1,← hk,← hmm,w4,w5,wt,byteA,UInt8.reduceToNat]
      first | exact ⟨hf, by omega, by omega⟩ | exact ⟨by decide, hf, by omega, by omega⟩
    have e1 := byte_lit key 72 72 rfl hk72
    have e2 := byte_lit key 76 76 rfl hk76
    have e3 := byte_lit key 77 77 rfl hk77
    rw [if_neg hk72, if_neg hk76, if_neg hk77]
    simp (maxSteps := 4000000) only [↓Qn,↓Jv,↓Ys,↓Yt,↓Yu,↓wpH_block,↓Z9,↓Qg,Z4,Yk,Ye,gw,Z5,Q8,Jx,Yh,J6,↓chk,Qo,noW,↓Jb,↓Qp,↓Qq,Qr,↓Zw,↓Ja,↓blockA_ret,↓Y8,Jc,Pg.look,binK,Jw,J7,Qm,Q1,Zc,implies_true,true_and,and_true,J8,J9,unc,gof,mux,J2,J3,Jd,Qs,Qt,binV,intV,Y9,Ya,Yb,Nat.reduceAdd,Q0,Qd,ofV,Qa,Xa,Je,Jf,Jg,Jh,Ji,Qu,Jj,Jk,Jl,Qb,Jm,Jn,Jo,Jp,Jq,Pg.freeze,Zq,Qv,Qw,Yf,Jr,Js,slen,Yv,Qx,↓Q2,Q3,Q4,Yw,Q5,Q9,J0,Y4,Yl,Jt,Qi,Qj,AV.cells,TK.cells,AV.definite,AV.leaf,AV.leafy,Yz,lay,J5,Xc,Op.operands,Call.operands,Ym,Z0,Za,Zb,Yi,Zh,reduceCtorEq,Nat.reduceEqDiff,Nat.reduceAdd,Zm,Zn,Zi,Zj,Zo,Z1,Zx,Zl,Zp,Zy,ite_true,ite_false,Option.some.injEq,Yj,AV.int.injEq,AV.agg.injEq,Z2,Z7,Zt,and_self,exists_eq_left',Yc,Y3,Y0,Z8,Qe,Y1,Yx,Yq,Yr,Zf,Zr,Y2,Y5,Yy,Qk,Ql,Yn,Yo,Yp,Zd,Ju,Zs,Zg,Ze,Zv,Zz,Z6,Z3,Zu,Zk,Y6,Yg,Qc,Qy,Qz,Yd,↓J1,muC,↓Q6,Y7,Q7,tk22,tk28,dz28,tk38,tz38,dz38,kRPlace,kVFirst,aPos,aMove,aMv,mNone,← ht,c1,c2,c3,w1,e1,e2,e3]
  · have c1 : (decide (n < 1) || !place ls p1 p2 || decide (t ≥ (ls.length : Int))) = true := by
      rw [hpl]; simp only [Xg,decide_eq_true_eq,Qf,Xb,decide_eq_false_iff_not]
      by_cases hgg : may ls (p1, p2) n = true
      · have : ¬ t < ls.length := fun h => hg ⟨hgg, h⟩
        omega
      · have : ¬ (1 ≤ n ∧ 0 ≤ p1 ∧ p1.toNat < ls.length ∧ 0 ≤ p2 ∧ p2 ≤ (ls.getD p1.toNat []).length) := fun h => hgg (hm.2 h)
        omega
    have e : (if may ls (p1, p2) n = true then orNone (t ≥ ls.length) (screenTo ls t key n) else mNone) = mNone := by
      unfold orNone
      split
      · next h => rw [if_pos (by have : ¬ t < ls.length := fun h2 => hg ⟨h, h2⟩; omega)]
      · rfl
    rw [e]
    simp (maxSteps := 4000000) only [↓Qn,↓Ys,↓Yt,↓Yu,↓Z9,↓Qh,Z4,Yk,Ye,gw,Z5,Q8,Jx,Yh,J6,↓chk,Qo,noW,↓Jb,↓Qp,↓Qq,Qr,↓Zw,↓Ja,↓Y8,Jc,Pg.look,binK,Jw,J7,Zc,implies_true,imp_self,true_and,and_true,J8,J9,unc,gof,mux,J2,J3,Jd,Qs,Qt,binV,intV,Y9,Ya,Yb,Nat.reduceAdd,Q0,Qd,ofV,Qa,Xa,Je,Jf,Jg,Jh,Ji,Qu,Jj,Jk,Jl,Qb,Jm,Jn,Jo,Jp,Jq,Pg.freeze,Zq,Qv,Qw,Yf,Jr,Js,slen,Yv,Qx,↓Q2,Q3,Q4,Yw,Q5,Q9,J0,Y4,Yl,Jt,Qi,Qj,AV.cells,TK.cells,AV.definite,AV.leaf,AV.leafy,Yz,lay,J5,Xc,Op.operands,Call.operands,Ym,Z0,Za,Zb,Yi,Zh,reduceCtorEq,Nat.reduceEqDiff,Nat.reduceAdd,Zm,Zn,Zi,Zj,Zo,Z1,Zx,Zl,Zp,Zy,ite_true,ite_false,Option.some.injEq,Yj,AV.int.injEq,AV.agg.injEq,Jz,Bool.decide_eq_true,decide_eq_true_eq,decide_eq_false_iff_not,Xe,Z2,Z7,Zt,and_self,Qf,exists_eq_left',Yc,Y3,Y0,Z8,Qe,Y1,Yx,Yq,Yr,Zf,Zr,Y2,Y5,Yy,Qk,Ql,Yn,Yo,Yp,Zd,Ju,Zs,Zg,Ze,Zv,Zz,Z6,Z3,Zu,Zk,Y6,Yg,Qc,Qy,Qz,Yd,↓J1,muC,↓Q6,Y7,Q7,tk22,tk28,dz28,tk38,tz38,dz38,kRPlace,kVFirst,aPos,aMove,aMv,mNone,← ht,c1]
    all_goals (intros; simp_all)
def kScreen : C1 := C1.by [.sl 1 [], .id, .id, .id, .id] (lCons cStrs (lCons cPos2 (lCons (cInt .i64) (lCons cByte (lOne (cInt .i64)))))) (fun d => okText d.1) (fun d => aMove (screenP d.1 d.2.1 d.2.2.1 d.2.2.2.1 d.2.2.2.2)) (fun _ => [])
theorem ok_Screen : C1OK Try.prog 77 kScreen := C1OK.by (by kernel_rfl) (fun d h => calls_Screen d.1 d.2.1 d.2.2.1 d.2.2.2.1 d.2.2.2.2 h) (fun _ => rfl) (fun _ => rfl)
end Go.Pg
