/- Motions within a line: the program's. -/
import Derived.Test.YtkkcfkggfpoagaaPgFx0
open Bool renaming false_eq_true → Za, and_self → Zk, not_false → Yt, not_true → Y6, not_eq_true' → Qt, and_eq_false_iff → Q2, and_eq_true → Jw, not_eq_false' → Xa, if_true_left → Xk, or_eq_true → Xm
open List renaming getElem?_cons_succ → Zb, getElem?_cons_zero → Zc, contains_nil → Zd, append_nil → Ze, foldl_nil → Zf, nil_append → Zg, length_nil → Zh, getD_cons_zero → Zi, take_succ_cons → Zj, drop_succ_cons → Zl, set_cons_zero → Zn, set_cons_succ → Zo, cons_append → Zs, length_cons → Zt, range'_zero → Zv, getElem?_toArray → Z1, drop_zero → Z2, toList_toArray → Z8, take_zero → Z9, map_cons → Ya, take_nil → Yb, all_cons → Yd, drop_nil → Ye, map_nil → Yg, all_nil → Yj, length_map → Yo
open Go.Pg renaming thenA_normal → Zm, bselH_false → Zp, gselH_plain → Zq, wpH_region → Zw, closeQ_nil → Zx, diagQ_zero → Zy, pickOK_nil → Zz, selC_false → Z0, runH_cons → Z3, subV_succ → Z4, regH_none → Z5, cselH_bool → Z7, runH_nil → Yf, wpH_cond → Ym, wpH_seq → Yn, iselH_false → Yp, iselH_true → Yq, wpH_ret → Yr, wpH_skip → Ys, stepEv → Yu, alives → Yv, ofLeaf → Yw, pickOf → Yx, isNext → Yy, lCons_dec → Y1, dec2_some → Y2, optP_some → Y3, optV_some → Y4, optH_some → Y5, wpH_block → Y7, res_succ → Y9, look_stripE → Qa, normArgs → Qb, cInt_dec → Qc, cAgg_dec → Qd, lOne_dec → Qe, decL_str → Qf, C1by_pre → Qg, putCells → Qh, wpA_H → Qi, justK → Qj, pureK → Qk, heapV → Ql, footV → Qm, ptrsE → Qn, subOs → Qo, subEv → Qp, nextF → Qq, nextG → Qr, ldCells → Qs, thenA_ret → Qu, res8_eq → Qv, cSl_dec → Qw, C1by_ns → Qx, C1by_it → Qy, C1by_mu → Qz, blockA_normal → Q0, mergeable → Q1, intOp → Q3, oneK → Q4, opnd → Q5, valV → Q6, subA → Q7, subQ → Q8, frzO → Q9, subF → Ja, subG → Jb, frzE → Jc, frzC → Jd, frz0 → Je, frzH → Jf, subM → Jg, shiftR → Jh, shift1 → Ji, C1by_r → Jj, C1by_H → Jk, gselH_if → Jl, retA → Jm, resK → Jn, tupA → Jo, envOf → Jp, heapK → Jq, binK → Jr, binV → Js, intV → Jt, objAt → Ju, kselH_1 → Jv, getD_str → Jx, callT → Jy, callC → Jz, callV → J0, normA → J1, normC → J2, callP → J3, mapAt → J4, buildL → J5, callH → J6, selC_true → J7, mergeK → J8, condsL → J9, cStr_dec → Xb, cBool_dec → Xc, cByte_dec → Xd, gkind → Xe, dstOf → Xf, pickC → Xg, pickV → Xh, sameK → Xi, blockA_exit → Xj, thenA_exit → Xl, iselH_if → Xn, wpH_exit → Xo
open Option renaming getD_some → Zr, isSome_some → Z6, bind_some → Yk, isSome_none → Y0
open Nat renaming zero_lt_succ → Zu, zero_add → Yc, sub_zero → Yh, le_refl → Yl, add_zero → Yz
open Array renaming toList_append → Yi
open Int renaming cast_ofNat_Int → Y8
namespace Go.Pg
open Go Go.Proofs

abbrev byteA (b : UInt8) : AV := .int .u8 b.toNat
theorem may_iff (ls : Ls) (p : Int × Int) (n : Int) : may ls p n = true ↔ 1 ≤ n ∧ 0 ≤ p.1 ∧ p.1.toNat < ls.length ∧ 0 ≤ p.2 ∧ p.2 ≤ (ls.getD p.1.toNat []).length := by
  simp only [may,Jw,decide_eq_true_eq,place_iff]
  omega
def toC (p : Int × Int) (c : Int) : Mv × Bool := mTo (p.1, c) 0

theorem calls_cfails (ls : Ls) (p : Int × Int) (n : Int) : CallsR Try.prog 55 [.sl 1 (ls.map .str), aPos p, .int .i64 n] [] (.bool (!may ls p n)) [] := by
  refine callsR_of (mrg := true) (dyn := []) (CtrOK.cons ok_CPlace (CtrOK.nil _)) mixed Try.func55 rfl (by simp [Try.ntmps55]) (by kernel_rfl) ?_
  rw [show Try.f55.results.toList = [.tmp 6] from by kernel_rfl]
  simp (maxSteps := 4000000) only [↓Qi,↓Yr,↓Yn,↓Zw,Zp,Yf,Z3,gw,Zq,Jl,Jv,Xe,↓chk,Qj,noW,↓Q4,↓Qk,↓Jq,Jp,↓Zm,↓Yu,Q5,Pg.look,Jr,Q3,Xf,Za,implies_true,imp_self,true_and,and_true,Xg,Xh,unc,gof,mux,J8,J9,Q6,Ql,Qm,Js,Jt,Yv,Zx,Zy,Nat.reduceAdd,Q1,Qa,ofV,Yw,Xi,Jm,Jn,Jo,Q7,Q8,Qn,Q9,Ja,Jb,Yx,Jc,Jd,Je,Jf,Pg.freeze,Zf,Qo,Qp,Z4,Jg,Qs,Ju,↓Jy,Jz,J0,Qb,J1,J2,resL,Qv,Y9,resM,Jh,Ji,AV.cells,TK.cells,AV.definite,Op.operands,Call.operands,Yi,Z1,Zb,Zc,Yk,Zr,reduceCtorEq,Nat.reduceEqDiff,Nat.reduceAdd,Zg,Ze,Zs,Zt,Zh,Ya,Yg,Yc,ite_true,ite_false,Option.some.injEq,Xk,decide_eq_true_eq,decide_eq_false_iff_not,Int.not_lt,Zk,and_self,Qt,exists_eq_left',Zz,Qc,Z8,Qw,Qd,Qe,Y1,Y2,Zd,Zv,Qf,Qx,Qg,Jj,Jk,Y3,Y4,Y5,Zi,cutL,Z2,Zj,Yh,Yl,Yb,Zu,Qy,Z5,Yy,Qq,Qr,Z0,↓msel,muC,↓J3,Qz,tk28,dz28,kRPlace,aPos]
  rw [Bool.eq_iff_iff]
  simp only [may,Xm,decide_eq_true_eq,Qt,Q2,decide_eq_false_iff_not]
  constructor
  · rintro (h | h)
    · right; omega
    · left; exact h
  · rintro (h | h)
    · right; exact h
    · left; omega
def kCFails : C1 := C1.by [.sl 1 [], .id, .id] (lCons cStrs (lCons cPos2 (lOne (cInt .i64)))) (fun _ => True) (fun d => .bool (!may d.1 d.2.1 d.2.2)) (fun _ => [])
theorem ok_cfails : C1OK Try.prog 55 kCFails := C1OK.by (by kernel_rfl) (fun d _ => calls_cfails d.1 d.2.1 d.2.2) (fun _ => rfl) (fun _ => rfl)
theorem calls_cto (p : Int × Int) (c : Int) : CallsR Try.prog 56 [aPos p, .int .i64 c] [] (aMove (toC p c)) [] := by
  refine callsR_of (mrg := true) (dyn := []) (CtrOK.nil _) mixed Try.func56 rfl (by simp [Try.ntmps56]) (by kernel_rfl) ?_
  rw [show Try.f56.results.toList = [.cell 4 38, .tmp 5] from by kernel_rfl]
  simp (maxSteps := 4000000) only [↓Qi,↓Yr,↓Yn,↓Zw,Zp,Yf,Z3,gw,Zq,↓chk,Qj,noW,↓Q4,↓Qk,↓Jq,Jp,↓Zm,↓Yu,Q5,Pg.look,Za,implies_true,true_and,and_true,Q6,Ql,Qm,Yv,Zx,Zy,Nat.reduceAdd,ofV,Yw,Jm,Jn,Jo,Q7,Q8,Qn,Q9,Ja,Jb,Yx,Jc,Jd,frzL,Je,Jf,Pg.freeze,Zf,Qo,Qp,Z4,Jg,subL,Qs,Ju,Y9,resM,AV.cells,TK.cells,AV.definite,AV.leaf,AV.leafy,Qh,lay,J5,Zb,Zc,Zr,reduceCtorEq,Nat.reduceEqDiff,Nat.reduceAdd,Zg,Ze,Zs,Zt,Zh,Ya,Yg,Zn,Zo,Yc,ite_true,ite_false,Option.some.injEq,Z6,AV.agg.injEq,Yd,Yj,Zk,and_self,exists_eq_left',Zz,Zd,Zi,cutL,Z2,Zl,Zj,Z9,Yz,Yh,Nat.reduceLeDiff,Yl,Ye,Yb,Zu,Z5,Yy,Qq,Qr,Z0,J4,tk3,tk28,tz28,dz28,tk38,tz38,dz38,aPos,aMove,aMv,toC,mTo]
def kCTo : C1 := C1.by [.id, .id] (lCons cPos2 (lOne (cInt .i64))) (fun _ => True) (fun d => aMove (toC d.1 d.2)) (fun _ => [])
theorem ok_cto : C1OK Try.prog 56 kCTo := C1OK.by (by kernel_rfl) (fun d _ => calls_cto d.1 d.2) (fun _ => rfl) (fun _ => rfl)

abbrev okText (ls : Ls) : Prop := fits 65536 65536 ls
def whenMay (ls : Ls) (p : Int × Int) (n : Int) (r : Mv × Bool) : Mv × Bool := if may ls p n = true then r else mNone
def orNone (c : Prop) [Decidable c] (r : Mv × Bool) : Mv × Bool := if c then mNone else r
def leftP (ls : Ls) (p : Int × Int) (n : Int) : Mv × Bool := whenMay ls p n (orNone (p.2 = 0) (toC p (p.2 - min n p.2)))
def rightP (ls : Ls) (p : Int × Int) (n : Int) (past : Bool) : Mv × Bool :=
  whenMay ls p n (orNone ((ls.getD p.1.toNat []).length = 0 ∨ p.2 ≥ ((ls.getD p.1.toNat []).length : Int) - (if past = true then 0 else 1))
    (toC p (p.2 + min n (((ls.getD p.1.toNat []).length : Int) - (if past = true then 0 else 1) - p.2))))
def zeroP (ls : Ls) (p : Int × Int) : Mv × Bool := whenMay ls p 1 (toC p 0)
def firstP (ls : Ls) (p : Int × Int) : Mv × Bool := whenMay ls p 1 (toC p (firstC (ls.getD p.1.toNat [])))
def lastP (ls : Ls) (p : Int × Int) (n : Int) : Mv × Bool :=
  whenMay ls p n (orNone (n > ls.length - p.1) (((p.1 + n - 1, max (((ls.getD (p.1 + n - 1).toNat []).length : Int) - 1) 0), 1, false, 1073741824), true))
def colP (ls : Ls) (p : Int × Int) (n : Int) : Mv × Bool :=
  whenMay ls p n (((p.1, min (min n 1073741824 - 1) (max (((ls.getD p.1.toNat []).length : Int) - 1) 0)), 0, false, min n 1073741824 - 1), true)

def kMv0 (f : Ls → Int × Int → Mv × Bool) : C1 := C1.by [.sl 1 [], .id] (lCons cStrs (lOne cPos2)) (fun d => okText d.1) (fun d => aMove (f d.1 d.2)) (fun _ => [])
def kMvN (f : Ls → Int × Int → Int → Mv × Bool) : C1 := C1.by [.sl 1 [], .id, .id] (lCons cStrs (lCons cPos2 (lOne (cInt .i64)))) (fun d => okText d.1 ∧ d.2.2 ≤ 9223372036854775807) (fun d => aMove (f d.1 d.2.1 d.2.2)) (fun _ => [])
def kMvNB (f : Ls → Int × Int → Int → Bool → Mv × Bool) : C1 := C1.by [.sl 1 [], .id, .id, .id] (lCons cStrs (lCons cPos2 (lCons (cInt .i64) (lOne cBool)))) (fun d => okText d.1 ∧ d.2.2.1 ≤ 9223372036854775807) (fun d => aMove (f d.1 d.2.1 d.2.2.1 d.2.2.2)) (fun _ => [])

set_option maxHeartbeats 4000000 in
theorem calls_Left (ls : Ls) (p : Int × Int) (n : Int) (hf : okText ls) : CallsR Try.prog 41 [.sl 1 (ls.map .str), aPos p, .int .i64 n] [] (aMove (leftP ls p n)) [] := by
  refine callsR_of (mrg := true) (dyn := []) (CtrOK.cons ok_cfails (CtrOK.cons ok_cto (CtrOK.nil _))) mixed Try.func41 rfl (by simp [Try.ntmps41]) (by kernel_rfl) ?_
  rw [show Try.f41.results.toList = [.cell 6 38, .tmp 7] from by kernel_rfl]
  obtain ⟨p1, p2⟩ := p
  generalize hr : leftP ls (p1, p2) n = r
  obtain ⟨⟨⟨r1, r2⟩, r3, r4, r5⟩, r6⟩ := r
  have h6 := fits_getD hf p1.toNat
  have h8 := hf.1
  all_goals
    simp (maxSteps := 4000000) only [↓Qi,↓Ys,↓Yr,↓Yn,↓Ym,↓Zw,Xn,Zp,Yf,Z3,gw,Zq,Jl,Jv,Z7,Xe,↓chk,Qj,noW,↓Q4,↓Qk,↓Jq,Jp,↓Zm,↓Qu,↓Yu,Q5,Pg.look,Jr,Q3,Xf,Za,false_implies,implies_true,imp_self,true_and,and_true,Xg,Xh,unc,gof,mux,J8,J9,Q6,Ql,Qm,Js,Jt,Yv,Zx,Zy,Nat.reduceAdd,Q1,Qa,ofV,Yw,Xi,Jm,Jn,Jo,Q7,Q8,Qn,Q9,Ja,Jb,Yx,Jc,Jd,frzL,Je,Jf,Pg.freeze,Zf,Qo,Qp,Z4,Jg,subL,Qs,Ju,↓Jy,Jz,J0,J6,Qb,J1,J2,resL,Qv,Y9,resM,Jh,Ji,AV.cells,TK.cells,AV.definite,AV.leaf,AV.leafy,Qh,lay,J5,foldInts,Op.operands,Z1,Zb,Zc,Yk,Zr,reduceCtorEq,Nat.reduceEqDiff,Nat.reduceAdd,Zg,Ze,Zs,Zt,Zh,Ya,Yg,Zn,Zo,Yc,ite_true,ite_false,Option.some.injEq,Z6,AV.int.injEq,AV.agg.injEq,Prod.mk.injEq,Xk,Yd,Yj,Zk,and_self,Qt,exists_eq_left',Zz,Qc,Z8,Qw,Qd,Qe,Y1,Y2,Zd,Zv,Qf,Qx,Qg,Jj,Jk,Y3,Y4,Y5,Zi,cutL,Z2,Zl,Zj,Z9,Yh,Yl,Ye,Yb,Zu,Qy,Z5,Yy,Qq,Qr,Z0,↓msel,muC,↓J3,Qz,J4,tk3,tk28,dz28,tk38,tz38,dz38,kCFails,kCTo,aPos,aMove,aMv,toC,mTo]
    simp only [leftP,whenMay,orNone,may,place,mNone,toC,mTo,IntKind.wrap_i64,Xm,Jw,Bool.or_eq_false_iff,Q2,decide_eq_true_eq,decide_eq_false_iff_not,beq_iff_eq,beq_eq_false_iff_ne,ne_eq] at *
    (repeat' split at hr) <;> cases hr <;> (repeat' (first | intro _ | apply And.intro)) <;> (first | rfl | omega | (exfalso; omega))
theorem ok_Left : C1OK Try.prog 41 (kMvN leftP) := C1OK.by (by kernel_rfl) (fun d h => calls_Left d.1 d.2.1 d.2.2 h.1) (fun _ => rfl) (fun _ => rfl)

set_option maxHeartbeats 4000000 in
theorem calls_Right (ls : Ls) (p : Int × Int) (n : Int) (b : Bool) (hf : okText ls) : CallsR Try.prog 42 [.sl 1 (ls.map .str), aPos p, .int .i64 n, .bool b] [] (aMove (rightP ls p n b)) [] := by
  refine callsR_of (mrg := true) (dyn := []) (CtrOK.cons ok_cfails (CtrOK.cons ok_cto (CtrOK.nil _))) mixed Try.func42 rfl (by simp [Try.ntmps42]) (by kernel_rfl) ?_
  rw [show Try.f42.results.toList = [.cell 8 38, .tmp 9] from by kernel_rfl]
  obtain ⟨p1, p2⟩ := p
  generalize hr : rightP ls (p1, p2) n b = r
  obtain ⟨⟨⟨r1, r2⟩, r3, r4, r5⟩, r6⟩ := r
  have h6 := fits_getD hf p1.toNat
  have h8 := hf.1
  cases b
  all_goals
    simp (maxSteps := 4000000) only [↓Qi,↓Ys,↓Yr,↓Yn,↓Ym,↓Zw,↓Yq,↓Yp,Xn,Zp,Yf,Z3,gw,Zq,Jl,Jv,Z7,Xe,↓chk,Qj,noW,↓Q4,↓Qk,↓Jq,Jp,↓Zm,↓Qu,↓Yu,Q5,Pg.look,Jr,Q3,strOp,Xf,Za,false_implies,implies_true,imp_self,true_and,and_true,Xg,Xh,unc,gof,mux,J8,J9,Q6,Ql,Qm,Js,Jt,strV,Yv,Zx,Zy,Nat.reduceAdd,Q1,Qa,ofV,Yw,Xi,Jm,Jn,Jo,Q7,Q8,Qn,Q9,Ja,Jb,Yx,Jc,Jd,frzL,Je,Jf,Pg.freeze,Zf,Qo,Qp,Z4,Jg,subL,Qs,Ju,↓Jy,Jz,J0,J6,Qb,J1,J2,resL,Qv,Y9,resM,Jh,Ji,AV.cells,TK.cells,AV.definite,AV.leaf,AV.leafy,Qh,lay,J5,foldInts,Op.operands,Z1,Zb,Zc,Yk,Zr,reduceCtorEq,Nat.reduceEqDiff,Nat.reduceAdd,Zg,Ze,Zs,Zt,Zh,Ya,Yg,Zn,Zo,Yc,ite_true,ite_false,Option.some.injEq,Z6,AV.int.injEq,AV.agg.injEq,Prod.mk.injEq,Xk,decide_eq_true_eq,decide_eq_false_iff_not,Int.not_le,Yd,Yj,Zk,and_self,Qt,exists_eq_left',Zz,Yo,Qc,Z8,Qw,Qd,Qe,Y1,Y2,Zd,Zv,Qf,Qx,Qg,Jj,Jk,Y3,Y4,Y5,Jx,Zi,cutL,Z2,Zl,Zj,Z9,Yz,Yh,Yl,Ye,Yb,Zu,Qy,Z5,Yy,Qq,Qr,Z0,↓msel,muC,↓J3,Qz,J4,tk3,tk9,dz9,tk22,tk28,dz28,tk38,tz38,dz38,kCFails,kCTo,aPos,aMove,aMv,toC,mTo]
    simp only [rightP,whenMay,orNone,may,place,mNone,toC,mTo,IntKind.wrap_i64,Xm,Jw,Bool.or_eq_false_iff,Q2,Xa,decide_eq_true_eq,decide_eq_false_iff_not,beq_iff_eq,beq_eq_false_iff_ne,ne_eq,← List.length_eq_zero_iff,Za,if_true,if_false] at *
    (repeat' split at hr) <;> cases hr <;> (repeat' (first | intro _ | apply And.intro)) <;> (first | rfl | omega | (exfalso; omega))
theorem ok_Right : C1OK Try.prog 42 (kMvNB rightP) := C1OK.by (by kernel_rfl) (fun d h => calls_Right d.1 d.2.1 d.2.2.1 d.2.2.2 h.1) (fun _ => rfl) (fun _ => rfl)

set_option maxHeartbeats 4000000 in
theorem calls_Zero (ls : Ls) (p : Int × Int) (hf : okText ls) : CallsR Try.prog 43 [.sl 1 (ls.map .str), aPos p] [] (aMove (zeroP ls p)) [] := by
  refine callsR_of (mrg := true) (dyn := []) (CtrOK.cons ok_cfails (CtrOK.cons ok_cto (CtrOK.nil _))) mixed Try.func43 rfl (by simp [Try.ntmps43]) (by kernel_rfl) ?_
  rw [show Try.f43.results.toList = [.cell 4 38, .tmp 5] from by kernel_rfl]
  obtain ⟨p1, p2⟩ := p
  generalize hr : zeroP ls (p1, p2) = r
  obtain ⟨⟨⟨r1, r2⟩, r3, r4, r5⟩, r6⟩ := r
  have h6 := fits_getD hf p1.toNat
  have h8 := hf.1
  all_goals
    simp (maxSteps := 4000000) only [↓Qi,↓Ys,↓Yr,↓Yn,↓Ym,↓Zw,Xn,Zp,Yf,Z3,gw,Zq,Z7,↓chk,Qj,noW,↓Q4,↓Qk,↓Jq,Jp,↓Zm,↓Qu,↓Yu,Q5,Pg.look,Za,false_implies,implies_true,true_and,and_true,Q6,Ql,Qm,Yv,Zx,Zy,Nat.reduceAdd,ofV,Yw,Jm,Jn,Jo,Q7,Q8,Qn,Q9,Ja,Jb,Yx,Jc,Jd,frzL,Je,Jf,Pg.freeze,Zf,Qo,Qp,Z4,Jg,subL,Qs,Ju,↓Jy,Jz,J0,J6,Qb,J1,J2,resL,Qv,Y9,resM,Jh,Ji,AV.cells,TK.cells,AV.definite,AV.leaf,AV.leafy,Qh,lay,J5,Zb,Zc,Zr,reduceCtorEq,Nat.reduceEqDiff,Nat.reduceAdd,Zg,Ze,Zs,Zt,Zh,Ya,Yg,Zn,Zo,Yc,ite_true,ite_false,Option.some.injEq,Z6,AV.agg.injEq,Prod.mk.injEq,Yd,Yj,Zk,and_self,Qt,exists_eq_left',Zz,Qc,Qw,Qd,Qe,Y1,Y2,Zd,Zv,Qf,Qx,Qg,Jj,Jk,Y3,Y4,Y5,Zi,cutL,Z2,Zl,Zj,Z9,Yh,Yl,Ye,Yb,Zu,Qy,Z5,Yy,Qq,Qr,Z0,↓msel,muC,↓J3,Qz,J4,tk28,dz28,tk38,tz38,dz38,kCFails,kCTo,aPos,aMove,aMv,toC,mTo]
    simp only [zeroP,whenMay,may,place,mNone,toC,mTo,Jw,Q2,Xa,decide_eq_true_eq,decide_eq_false_iff_not] at *
    (repeat' split at hr) <;> cases hr <;> (repeat' (first | intro _ | apply And.intro)) <;> (first | rfl | omega | (exfalso; omega))
theorem ok_Zero : C1OK Try.prog 43 (kMv0 zeroP) := C1OK.by (by kernel_rfl) (fun d h => calls_Zero d.1 d.2 h) (fun _ => rfl) (fun _ => rfl)

set_option maxHeartbeats 4000000 in
theorem calls_CFirst (ls : Ls) (p : Int × Int) (hf : okText ls) : CallsR Try.prog 44 [.sl 1 (ls.map .str), aPos p] [] (aMove (firstP ls p)) [] := by
  refine callsR_of (mrg := true) (dyn := []) (CtrOK.cons ok_cfails (CtrOK.cons ok_cto (CtrOK.cons ok_First (CtrOK.nil _)))) mixed Try.func44 rfl (by simp [Try.ntmps44]) (by kernel_rfl) ?_
  rw [show Try.f44.results.toList = [.cell 4 38, .tmp 5] from by kernel_rfl]
  obtain ⟨p1, p2⟩ := p
  generalize hr : firstP ls (p1, p2) = r
  obtain ⟨⟨⟨r1, r2⟩, r3, r4, r5⟩, r6⟩ := r
  have h6 := fits_getD hf p1.toNat
  have h8 := hf.1
  all_goals
    simp (maxSteps := 4000000) only [↓Qi,↓Ys,↓Yr,↓Yn,↓Ym,↓Zw,Xn,Zp,Yf,Z3,gw,Zq,Z7,↓chk,Qj,noW,↓Q4,↓Qk,↓Jq,Jp,↓Zm,↓Qu,↓Yu,Q5,Pg.look,Za,false_implies,implies_true,true_and,and_true,Q6,Ql,Qm,Yv,Zx,Zy,Nat.reduceAdd,ofV,Yw,Jm,Jn,Jo,Q7,Q8,Qn,Q9,Ja,Jb,Yx,Jc,Jd,frzL,Je,Jf,Pg.freeze,Zf,Qo,Qp,Z4,Jg,subL,Qs,Ju,↓Jy,Jz,J0,J6,Qb,J1,J2,resL,Qv,Y9,resM,Jh,Ji,AV.cells,TK.cells,AV.definite,AV.leaf,AV.leafy,Qh,lay,J5,Zb,Zc,Zr,reduceCtorEq,Nat.reduceEqDiff,Nat.reduceAdd,Zg,Ze,Zs,Zt,Zh,Ya,Yg,Zn,Zo,Yc,ite_true,ite_false,Option.some.injEq,Z6,Y0,AV.agg.injEq,Prod.mk.injEq,Yd,Yj,Zk,and_self,Qt,exists_eq_left',Zz,Yo,Qc,Xb,Qw,Qd,Qe,Y1,Y2,Zd,Zv,Qf,Qx,Qg,Jj,Jk,Y3,Y4,Y5,Jx,Zi,cutL,Z2,Zl,Zj,Z9,Yz,Yh,Yl,Ye,Yb,Zu,Qy,Z5,Yy,Qq,Qr,J7,Z0,pureC,↓msel,muC,↓J3,Qz,J4,tk3,tk9,dz9,tk22,tk28,dz28,tk38,tz38,dz38,kCFails,kCTo,kFirst,aPos,aMove,aMv,toC,mTo]
    simp only [firstP,whenMay,may,place,mNone,toC,mTo,Jw,Q2,Xa,decide_eq_true_eq,decide_eq_false_iff_not] at *
    (repeat' split at hr) <;> cases hr <;> (repeat' (first | intro _ | apply And.intro)) <;> (first | rfl | omega | (exfalso; omega))
theorem ok_CFirst : C1OK Try.prog 44 (kMv0 firstP) := C1OK.by (by kernel_rfl) (fun d h => calls_CFirst d.1 d.2 h) (fun _ => rfl) (fun _ => rfl)

set_option maxHeartbeats 4000000 in
theorem calls_Column (ls : Ls) (p : Int × Int) (n : Int) (hf : okText ls) : CallsR Try.prog 46 [.sl 1 (ls.map .str), aPos p, .int .i64 n] [] (aMove (colP ls p n)) [] := by
  refine callsR_of (mrg := true) (dyn := []) (CtrOK.cons ok_cfails (CtrOK.cons ok_cto (CtrOK.nil _))) mixed Try.func46 rfl (by simp [Try.ntmps46]) (by kernel_rfl) ?_
  rw [show Try.f46.results.toList = [.cell 6 38, .tmp 7] from by kernel_rfl]
  obtain ⟨p1, p2⟩ := p
  generalize hr : colP ls (p1, p2) n = r
  obtain ⟨⟨⟨r1, r2⟩, r3, r4, r5⟩, r6⟩ := r
  have h6 := fits_getD hf p1.toNat
  have h8 := hf.1
  all_goals
    simp (maxSteps := 4000000) only [↓Qi,↓Ys,↓Yr,↓Yn,↓Ym,↓Zw,Xn,Zp,Yf,Z3,gw,Zq,Z7,↓chk,Qj,noW,↓Q4,↓Qk,↓Jq,Jp,↓Zm,↓Qu,↓Yu,Q5,Pg.look,Jr,Q3,Za,false_implies,implies_true,true_and,and_true,Q6,Ql,Qm,Js,Jt,Yv,Zx,Zy,Nat.reduceAdd,ofV,Yw,Jm,Jn,Jo,Q7,Q8,Qn,Q9,Ja,Jb,Yx,Jc,Jd,frzL,Je,Jf,Pg.freeze,Zf,Qo,Qp,Z4,Jg,subL,Qs,Ju,↓Jy,Jz,J0,J6,Qb,J1,J2,resL,Qv,Y9,resM,Jh,Ji,AV.cells,TK.cells,AV.definite,AV.leaf,AV.leafy,Qh,lay,J5,foldInts,Zb,Zc,Zr,reduceCtorEq,Nat.reduceEqDiff,Nat.reduceAdd,Zg,Ze,Zs,Zt,Zh,Ya,Yg,Zn,Zo,Yc,ite_true,ite_false,Option.some.injEq,Z6,Y0,AV.int.injEq,AV.agg.injEq,Prod.mk.injEq,Yd,Yj,Zk,and_self,Qt,exists_eq_left',Zz,Yo,Qc,Qw,Qd,Qe,Y1,Y2,Zd,Zv,Qf,Qx,Qg,Jj,Jk,Y3,Y4,Y5,Jx,Zi,cutL,Z2,Zl,Zj,Z9,Yz,Yh,Yl,Ye,Yb,Zu,Qy,Z5,Yy,Qq,Qr,J7,Z0,pureC,↓msel,muC,↓J3,Qz,J4,tk3,tk9,dz9,tk22,tk28,dz28,tk38,tz38,dz38,kCFails,kCTo,aPos,aMove,aMv,toC,mTo]
    simp only [colP,whenMay,may,place,mNone,IntKind.wrap_i64,Jw,Q2,Xa,decide_eq_true_eq,decide_eq_false_iff_not] at *
    (repeat' split at hr) <;> cases hr <;> (repeat' (first | intro _ | apply And.intro)) <;> (first | rfl | omega | (exfalso; omega))
theorem ok_Column : C1OK Try.prog 46 (kMvN colP) := C1OK.by (by kernel_rfl) (fun d h => calls_Column d.1 d.2.1 d.2.2 h.1) (fun _ => rfl) (fun _ => rfl)

set_option maxHeartbeats 4000000 in
theorem calls_CLast (ls : Ls) (p : Int × Int) (n : Int) (hf : okText ls) : CallsR Try.prog 45 [.sl 1 (ls.map .str), aPos p, .int .i64 n] [] (aMove (lastP ls p n)) [] := by
  refine callsR_of (mrg := true) (dyn := []) (CtrOK.cons ok_cfails (CtrOK.nil _)) mixed Try.func45 rfl (by simp [Try.ntmps45]) (by kernel_rfl) ?_
  rw [show Try.f45.results.toList = [.cell 6 38, .tmp 7] from by kernel_rfl]
  obtain ⟨p1, p2⟩ := p
  generalize hr : lastP ls (p1, p2) n = r
  obtain ⟨⟨⟨r1, r2⟩, r3, r4, r5⟩, r6⟩ := r
  have h6 := fits_getD hf p1.toNat
  have h7 := fits_getD hf (p1 + n - 1).toNat
  have h8 := hf.1
  by_cases hg : may ls (p1, p2) n = true ∧ n ≤ ls.length - p1
  · obtain ⟨hm, hg⟩ := hg
    have hi := (may_iff _ _ _).1 hm
    simp only at hi
    have w1 : decide (n > IntKind.i64.wrap ((ls.length : Int) - p1)) = false := by rw [wrap64 (by omega) (by omega)]; exact decide_eq_false (by omega)
    have w2 : IntKind.i64.wrap (p1 + n) = p1 + n := wrap64 (by omega) (by omega)
    have w3 : IntKind.i64.wrap (p1 + n - 1) = p1 + n - 1 := wrap64 (by omega) (by omega)
    simp (maxSteps := 4000000) only [↓Qi,↓Ys,↓Yr,↓Yn,↓Ym,↓Zw,↓Yp,Zp,Yf,Z3,gw,Zq,Jl,Jv,Z7,Xe,↓chk,Qj,noW,↓Q4,↓Qk,↓Jq,Jp,↓Zm,↓Yu,Q5,Pg.look,Jr,Q3,Xf,Yt,Y6,Za,implies_true,true_and,and_true,Xg,Xh,unc,gof,mux,J8,J9,Q6,Ql,Qm,Js,Jt,Yv,Zx,Zy,Nat.reduceAdd,Q1,Qa,ofV,Yw,Xi,Jm,Jn,Jo,Q7,Q8,Qn,Q9,Ja,Jb,Yx,Jc,Jd,frzL,Je,Jf,Pg.freeze,Zf,Qo,Qp,Z4,Jg,subL,slen,Qs,Ju,↓Jy,Jz,J0,J6,Qb,J1,J2,resL,Qv,Y9,resM,Jh,Ji,AV.cells,TK.cells,AV.definite,AV.leaf,AV.leafy,Qh,lay,J5,foldInts,Op.operands,Call.operands,Yi,Z1,Zb,Zc,Yk,Zr,reduceCtorEq,Nat.reduceEqDiff,Nat.reduceAdd,Zg,Ze,Zs,Zt,Zh,Ya,Yg,Zn,Zo,Yc,ite_true,ite_false,Option.some.injEq,Z6,AV.int.injEq,AV.agg.injEq,Yd,Yj,Zk,and_self,exists_eq_left',Zz,Yo,Qc,Z8,Qw,Qd,Qe,Y1,Y2,Zd,Zv,Qf,Qx,Qg,Jj,Jk,Y3,Y4,Y5,Jx,Zi,cutL,Z2,Zl,Zj,Z9,Yz,Yh,Nat.reduceLeDiff,Yl,Ye,Yb,Zu,Qy,Z5,Yy,Qq,Qr,Z0,↓msel,muC,↓J3,Qz,J4,tk3,tk9,dz9,tk22,tk28,tz28,dz28,tk38,tz38,dz38,kCFails,aPos,aMove,aMv,hm,w1,w2,w3]
    simp only [lastP,hm,whenMay,orNone,mNone,IntKind.wrap_i64,decide_eq_false_iff_not,if_true] at *
    (repeat' split at hr) <;> cases hr <;> (repeat' (first | intro _ | apply And.intro)) <;> (first | rfl | omega | (exfalso; omega))
  · cases hm : may ls (p1, p2) n with
    | true =>
      have hi := (may_iff _ _ _).1 hm
      simp only at hi
      rw [hm] at hg
      have cz : decide (n > IntKind.i64.wrap ((ls.length : Int) - p1)) = true := by rw [wrap64 (by omega) (by omega)]; exact decide_eq_true (by simp only [true_and] at hg; omega)
      simp (maxSteps := 4000000) only [↓Qi,↓Yr,↓Yn,↓Ym,↓Zw,↓Yq,Zp,Yf,Z3,gw,Zq,Jl,Jv,Z7,Xe,↓chk,Qj,noW,↓Q4,↓Qk,↓Jq,Jp,↓Zm,↓Qu,↓Yu,Q5,Pg.look,Jr,Q3,Xf,Yt,Y6,Za,implies_true,true_and,and_true,Xg,Xh,unc,gof,mux,J8,J9,Q6,Ql,Qm,Js,Jt,Yv,Zx,Zy,Nat.reduceAdd,Q1,Qa,ofV,Yw,Xi,Jm,Jn,Jo,Q7,Q8,Qn,Q9,Ja,Jb,Yx,Jc,Jd,frzL,Je,Jf,Pg.freeze,Zf,Qo,Qp,Z4,Jg,subL,slen,Qs,Ju,↓Jy,Jz,J0,J6,Qb,J1,J2,resL,Qv,Y9,resM,Jh,Ji,AV.cells,TK.cells,AV.definite,AV.leaf,AV.leafy,Qh,lay,J5,Op.operands,Call.operands,Yi,Z1,Zb,Zc,Yk,Zr,reduceCtorEq,Nat.reduceEqDiff,Nat.reduceAdd,Zg,Ze,Zs,Zt,Zh,Ya,Yg,Zn,Zo,Yc,ite_true,ite_false,Option.some.injEq,Z6,AV.int.injEq,AV.agg.injEq,Yd,Yj,Zk,and_self,exists_eq_left',Zz,Yo,Qc,Z8,Qw,Qd,Qe,Y1,Y2,Zd,Zv,Qf,Qx,Qg,Jj,Jk,Y3,Y4,Y5,Zi,cutL,Z2,Zl,Zj,Z9,Yz,Yh,Yl,Ye,Yb,Zu,Qy,Z5,Yy,Qq,Qr,Z0,↓msel,muC,↓J3,Qz,J4,tk3,tk22,tk28,dz28,tk38,tz38,dz38,kCFails,aPos,aMove,aMv,hm,cz]
      simp only [lastP,hm,whenMay,orNone,mNone,IntKind.wrap_i64,decide_eq_true_eq,if_true] at *
      (repeat' split at hr) <;> cases hr <;> (repeat' (first | intro _ | apply And.intro)) <;> (first | rfl | omega | (exfalso; omega))
    | false =>
      simp (maxSteps := 4000000) only [↓Qi,↓Yr,↓Yn,↓Ym,↓Zw,↓Yq,Zp,Yf,Z3,gw,Zq,Jl,Jv,Z7,Xe,↓chk,Qj,noW,↓Q4,↓Qk,↓Jq,Jp,↓Zm,↓Qu,↓Yu,Q5,Pg.look,Jr,Q3,Xf,Yt,Y6,Za,Bool.true_eq_false,implies_true,imp_self,true_and,and_true,Xg,Xh,unc,gof,mux,J8,J9,Q6,Ql,Qm,Js,Jt,Yv,Zx,Zy,Nat.reduceAdd,Q1,Qa,ofV,Yw,Xi,Jm,Jn,Jo,Q7,Q8,Qn,Q9,Ja,Jb,Yx,Jc,Jd,frzL,Je,Jf,Pg.freeze,Zf,Qo,Qp,Z4,Jg,subL,slen,Qs,Ju,↓Jy,Jz,J0,J6,Qb,J1,J2,resL,Qv,Y9,resM,Jh,Ji,AV.cells,TK.cells,AV.definite,AV.leaf,AV.leafy,Qh,lay,J5,Op.operands,Call.operands,Yi,Z1,Zb,Zc,Yk,Zr,reduceCtorEq,Nat.reduceEqDiff,Nat.reduceAdd,Zg,Ze,Zs,Zt,Zh,Ya,Yg,Zn,Zo,Yc,ite_true,ite_false,Option.some.injEq,Z6,AV.int.injEq,AV.agg.injEq,Yd,Yj,Zk,and_self,exists_eq_left',Zz,Yo,Qc,Z8,Qw,Qd,Qe,Y1,Y2,Zd,Zv,Qf,Qx,Qg,Jj,Jk,Y3,Y4,Y5,Zi,cutL,Z2,Zl,Zj,Z9,Yz,Yh,Yl,Ye,Yb,Zu,Qy,Z5,Yy,Qq,Qr,Z0,↓msel,muC,↓J3,Qz,J4,tk3,tk22,tk28,dz28,tk38,tz38,dz38,kCFails,aPos,aMove,aMv,hm]
      simp only [lastP,hm,whenMay,orNone,mNone,Za,if_false] at *
      (repeat' split at hr) <;> cases hr <;> (repeat' (first | intro _ | apply And.intro)) <;> (first | rfl | omega | (exfalso; omega))
theorem ok_CLast : C1OK Try.prog 45 (kMvN lastP) := C1OK.by (by kernel_rfl) (fun d h => calls_CLast d.1 d.2.1 d.2.2 h.1) (fun _ => rfl) (fun _ => rfl)

/-! ### The n-th byte of a kind -/
def seekL (c : UInt8) (d : Int) : List UInt8 → Int → Int → Int
  | [], _, _ => -1
  | b :: r, i, n => if b = c then (if n = 1 then i else seekL c d r (i + d) (n - 1)) else seekL c d r (i + d) n
def seekIn (s : List UInt8) (col : Int) (back : Bool) (c : UInt8) (n : Int) : Int :=
  if back = true then seekL c (-1) (s.take col.toNat).reverse (col - 1) n else seekL c 1 (s.drop (col + 1).toNat) (col + 1) n
theorem drop_step (s : List UInt8) (k : Nat) (h : k < s.length) : s.drop k = s.getD k 0 :: s.drop (k + 1) := by
  rw [List.getD_eq_getElem?_getD, List.getElem?_eq_getElem h]
  exact List.drop_eq_getElem_cons h
theorem takeRev_step (s : List UInt8) (k : Nat) (h : k < s.length) : (s.take (k + 1)).reverse = s.getD k 0 :: (s.take k).reverse := by
  rw [List.take_succ_eq_append_getElem h, List.reverse_append, List.getD_eq_getElem?_getD, List.getElem?_eq_getElem h]
  rfl
theorem byte_ne (a b : UInt8) : ((a.toNat : Int) != (b.toNat : Int)) = !decide (a = b) := by
  rw [Bool.eq_iff_iff]
  simp only [bne_iff_ne,ne_eq,Qt,decide_eq_false_iff_not]
  constructor
  · intro h e; exact h (by rw [e])
  · intro h e; exact h (UInt8.toNat_inj.1 (by omega))
theorem byte_eq (a b : UInt8) : ((a.toNat : Int) == (b.toNat : Int)) = decide (a = b) := by
  rw [Bool.eq_iff_iff]
  simp only [beq_iff_eq,decide_eq_true_eq]
  constructor
  · intro e; exact UInt8.toNat_inj.1 (by omega)
  · intro h; rw [h]
/-- What is left to be sought behind i bytes. -/
def restF (s : List UInt8) (col : Int) (back : Bool) (i : Nat) : List UInt8 := if back = true then (s.take (col.toNat - i)).reverse else s.drop (col.toNat + 1 + i)
def atF (col : Int) (back : Bool) (i : Nat) : Int := if back = true then col - 1 - i else col + 1 + i
theorem restF_nil {s : List UInt8} {col : Int} {back : Bool} {i : Nat} (h0 : 0 ≤ col) (h1 : col ≤ s.length) (h : atF col back i < 0 ∨ atF col back i ≥ s.length ∨ s.length ≤ i) : restF s col back i = [] := by
  unfold atF at h
  unfold restF
  cases back with
  | true =>
    simp only [if_true] at h ⊢
    rw [show col.toNat - i = 0 by omega]; rfl
  | false =>
    simp only [Za,if_false] at h ⊢
    exact List.drop_eq_nil_of_le (by omega)
theorem restF_cons {s : List UInt8} {col : Int} {back : Bool} {i : Nat} (h0 : 0 ≤ col) (h1 : col ≤ s.length) (h2 : ¬ (atF col back i < 0)) (h3 : ¬ (atF col back i ≥ s.length)) : restF s col back i = s.getD (atF col back i).toNat 0 :: restF s col back (i + 1) := by
  unfold atF at h2 h3 ⊢
  unfold restF
  cases back with
  | true =>
    simp only [if_true] at h2 h3 ⊢
    rw [show col.toNat - i = (col - 1 - i).toNat + 1 by omega, takeRev_step _ _ (by omega), show col.toNat - (i + 1) = (col - 1 - i).toNat by omega]
  | false =>
    simp only [Za,if_false] at h2 h3 ⊢
    rw [drop_step _ _ (by omega), show (col + 1 + i).toNat = col.toNat + 1 + i by omega]
    rfl
abbrev stepF (back : Bool) : Int := if back = true then -1 else 1
theorem atF_succ (col : Int) (back : Bool) (i : Nat) : atF col back (i + 1) = atF col back i + stepF back := by
  unfold atF stepF; cases back <;> simp <;> omega

set_option maxRecDepth 20000 in
set_option maxHeartbeats 4000000 in
theorem calls_cnth (s : List UInt8) (col : Int) (back : Bool) (c : UInt8) (n : Int) (h0 : 0 ≤ col) (h1 : col ≤ s.length) (h2 : s.length ≤ 65536) (h3 : 1 ≤ n) (h4 : n ≤ 9223372036854775807) :
    CallsR Try.prog 57 [.str s, .int .i64 col, .bool back, byteA c, .int .i64 n] [] (.int .i64 (seekIn s col back c n)) [] := by
  refine callsR_of (mrg := true) (dyn := []) (CtrOK.nil _) mixed Try.func57 rfl (by simp [Try.ntmps57]) (by kernel_rfl) ?_
  rw [show Try.f57.results.toList = [.tmp 10] from by kernel_rfl]
  have e0 : seekIn s col back c n = seekL c (stepF back) (restF s col back 0) (atF col back 0) n := by
    unfold seekIn restF atF stepF
    cases back with
    | true => simp
    | false => simp only [Za,if_false]; rw [show (col + 1).toNat = col.toNat + 1 + 0 by omega]; simp
  generalize seekIn s col back c n = R at e0 ⊢
  simp (maxSteps := 4000000) only [↓Qi,↓Yn,↓Y7,↓wpH_loop,↓Zw,Zp,Yf,Z3,gw,Zq,↓chk,Qj,↓Q4,↓Qk,Jp,↓Zm,↓Yu,Q5,Pg.look,Za,implies_true,true_and,Q6,Ql,Qm,Nat.reduceAdd,ofV,Yw,reduceCtorEq,Nat.reduceEqDiff,Nat.reduceAdd,Zh,Yc,ite_true,ite_false,and_self,Zd,Z5,Yy,Qq,Qr,Z0,tk9]
  refine loopH_intro (α := Nat × Int) (fun x => ([(0, .str s), (1, .int .i64 col), (2, .bool back), (3, byteA c), (4, .int .i64 x.2), (10, .int .i64 0), (14, .int .i64 s.length), (15, .int .i64 x.1)], []))
    (fun x => 1 ≤ x.2 ∧ x.2 ≤ n ∧ x.1 ≤ s.length ∧ seekL c (stepF back) (restF s col back x.1) (atF col back x.1) x.2 = R) (fun x => s.length - x.1) (0, n) ⟨h3, by omega, by omega, e0.symm⟩ ?_ ?_
  · simp (maxSteps := 4000000) only [Pg.look,Yv,Zx,Zy,Q7,Q8,Qn,Q9,Ja,Jb,Yx,Jc,Jd,Je,Jf,Pg.freeze,Zf,Qo,Qp,Z4,Jg,reduceCtorEq,Nat.reduceEqDiff,Ze,ite_true,ite_false,and_self,Zz,Y8]
    all_goals rfl
  rintro ⟨i, m⟩ ⟨hm1, hm2, hi, hR⟩
  simp only at hm1 hm2 hi hR
  by_cases hlt : i < s.length
  · have c1 : decide ((i : Int) < (s.length : Int)) = true := decide_eq_true (by omega)
    have w1 : IntKind.i64.wrap (IntKind.i64.wrap (col + 1) + i) = col + 1 + i := by rw [wrap64 (n := col + 1) (by omega) (by omega), wrap64 (by omega) (by omega)]
    have w2 : IntKind.i64.wrap (IntKind.i64.wrap (col - 1) - i) = col - 1 - i := by rw [wrap64 (n := col - 1) (by omega) (by omega), wrap64 (by omega) (by omega)]
    have w3 : IntKind.i64.wrap ((i : Int) + 1) = ((i + 1 : Nat) : Int) := by rw [wrap64 (by omega) (by omega)]; rfl
    have hat : atF col back i = if back = true then col - 1 - i else col + 1 + i := rfl
    by_cases ho : atF col back i < 0 ∨ atF col back i ≥ s.length
    · have hnil := restF_nil h0 h1 (ho.elim .inl fun h => .inr (.inl h))
      rw [hnil] at hR
      simp only [seekL] at hR
      subst hR
      cases back with
      | true =>
        simp only [if_true] at hat
        rw [hat] at ho
        have c2 : decide (col - 1 - (i : Int) < 0) = true := decide_eq_true (by omega)
        simp (maxSteps := 4000000) only [↓Qi,↓Ys,↓Yr,↓Xo,↓Yn,↓Ym,↓Y7,↓Zw,↓Yq,Zp,Yf,Z3,gw,Zq,Jl,Jv,Z7,Xe,↓chk,Qj,↓Q4,↓Qk,↓Zm,↓Xl,↓Xj,↓Yu,Q5,Pg.look,Jr,Q3,Xf,Y6,Za,Bool.true_eq_false,implies_true,imp_self,true_and,and_true,Xg,Xh,unc,gof,mux,J8,J9,Q6,Ql,Qm,Js,Jt,Yv,Zx,Zy,Q1,Qa,ofV,Yw,Xi,Jm,Jn,Jo,Q7,Q8,Qn,Q9,Ja,Jb,Yx,Jc,Jd,Je,Jf,Pg.freeze,Zf,Qo,Qp,Z4,Jg,Op.operands,Call.operands,Yi,Z1,Zb,Zc,Yk,reduceCtorEq,Nat.reduceEqDiff,Zg,Ze,Zh,ite_true,ite_false,Zk,and_self,Zz,Z8,Zd,Z5,Yy,Qq,Qr,Z0,tk9,c1,w1,w2,w3,c2]
      | false =>
        simp only [Za,if_false] at hat
        rw [hat] at ho
        have c2 : decide (col + 1 + (i : Int) < 0) = false := decide_eq_false (by omega)
        have c3 : decide (col + 1 + (i : Int) ≥ (s.length : Int)) = true := decide_eq_true (by omega)
        simp (maxSteps := 4000000) only [↓Qi,↓Ys,↓Yr,↓Xo,↓Yn,↓Ym,↓Y7,↓Zw,↓Yq,↓Yp,Zp,Yf,Z3,gw,Zq,Jl,Jv,Z7,Xe,↓chk,Qj,↓Q4,↓Qk,↓Zm,↓Xl,↓Xj,↓Yu,Q5,Pg.look,Jr,Q3,Xf,Yt,Za,implies_true,true_and,and_true,Xg,Xh,unc,gof,mux,J8,J9,Q6,Ql,Qm,Js,Jt,Yv,Zx,Zy,Q1,Qa,ofV,Yw,Xi,Jm,Jn,Jo,Q7,Q8,Qn,Q9,Ja,Jb,Yx,Jc,Jd,Je,Jf,Pg.freeze,Zf,Qo,Qp,Z4,Jg,Op.operands,Call.operands,Yi,Z1,Zb,Zc,Yk,reduceCtorEq,Nat.reduceEqDiff,Zg,Ze,Zh,ite_true,ite_false,Zk,and_self,Zz,Z8,Zd,Z5,Yy,Qq,Qr,Z0,tk9,c1,w1,w3,c2,c3]
    · have ho1 : ¬ atF col back i < 0 := fun h => ho (.inl h)
      have ho2 : ¬ atF col back i ≥ s.length := fun h => ho (.inr h)
      rw [restF_cons h0 h1 ho1 ho2] at hR
      simp only [seekL,← atF_succ] at hR
      have w4 : IntKind.i64.wrap (m - 1) = m - 1 := wrap64 (by omega) (by omega)
      have fin : ∀ m', 1 ≤ m' → m' ≤ n → seekL c (stepF back) (restF s col back (i + 1)) (atF col back (i + 1)) m' = R → ∃ y : Nat × Int, (1 ≤ y.2 ∧ y.2 ≤ n ∧ y.1 ≤ s.length ∧ seekL c (stepF back) (restF s col back y.1) (atF col back y.1) y.2 = R) ∧ s.length - y.1 < s.length - i ∧ (m' = y.2 ∧ ((i + 1 : Nat) : Int) = y.1) := 
        fun m' g1 g2 g3 => ⟨(i + 1, m'), ⟨g1, g2, by show i + 1 ≤ s.length; omega, g3⟩, by show s.length - (i + 1) < s.length - i; omega, rfl, rfl⟩
      by_cases hb : s.getD (atF col back i).toNat 0 = c
      · rw [if_pos hb] at hR
        have hb' : ((((s.getD (atF col back i).toNat 0).toNat : Int)) != (c.toNat : Int)) = false := by rw [byte_ne, hb]; simp
        by_cases hm : m = 1
        · rw [if_pos hm] at hR
          have c5 : (m - 1 == 0) = true := by rw [hm]; rfl
          cases back with
          | true =>
            simp only [if_true] at hat
            rw [hat] at ho1 ho2 hb' hR
            have c2 : decide (col - 1 - (i : Int) < 0) = false := decide_eq_false ho1
            have c3 : decide (col - 1 - (i : Int) ≥ (s.length : Int)) = false := decide_eq_false ho2
            simp (maxSteps := 4000000) only [↓Qi,↓Ys,↓Yr,↓Yn,↓Ym,↓Y7,↓Zw,↓Yq,↓Yp,Zp,Yf,Z3,gw,Zq,Jl,Jv,Z7,Xe,↓chk,Qj,↓Q4,↓Qk,↓Zm,↓Qu,↓blockA_ret,↓Yu,Q5,Pg.look,Jr,Q3,Xf,Yt,Za,implies_true,true_and,and_true,Xg,Xh,unc,gof,mux,J8,J9,Q6,Ql,Qm,Js,Jt,Yv,Zx,Zy,Q1,Qa,ofV,Yw,Xi,Jm,Jn,Jo,Q7,Q8,Qn,Q9,Ja,Jb,Yx,Jc,Jd,Je,Jf,Pg.freeze,Zf,Qo,Qp,Z4,Jg,Op.operands,Call.operands,Yi,Z1,Zb,Zc,Yk,reduceCtorEq,Nat.reduceEqDiff,Zg,Ze,Zh,ite_true,ite_false,Zk,and_self,Zz,Z8,Zd,Z5,Yy,Qq,Qr,Z0,tk9,c1,w1,w2,c2,c3,hb',w4,c5]
            exact ⟨⟨by omega, by omega⟩, hR⟩
          | false =>
            simp only [Za,if_false] at hat
            rw [hat] at ho1 ho2 hb' hR
            have c2 : decide (col + 1 + (i : Int) < 0) = false := decide_eq_false ho1
            have c3 : decide (col + 1 + (i : Int) ≥ (s.length : Int)) = false := decide_eq_false ho2
            simp (maxSteps := 4000000) only [↓Qi,↓Ys,↓Yr,↓Yn,↓Ym,↓Y7,↓Zw,↓Yq,↓Yp,Zp,Yf,Z3,gw,Zq,Jl,Jv,Z7,Xe,↓chk,Qj,↓Q4,↓Qk,↓Zm,↓Qu,↓blockA_ret,↓Yu,Q5,Pg.look,Jr,Q3,Xf,Yt,Za,implies_true,true_and,and_true,Xg,Xh,unc,gof,mux,J8,J9,Q6,Ql,Qm,Js,Jt,Yv,Zx,Zy,Q1,Qa,ofV,Yw,Xi,Jm,Jn,Jo,Q7,Q8,Qn,Q9,Ja,Jb,Yx,Jc,Jd,Je,Jf,Pg.freeze,Zf,Qo,Qp,Z4,Jg,Op.operands,Call.operands,Yi,Z1,Zb,Zc,Yk,reduceCtorEq,Nat.reduceEqDiff,Zg,Ze,Zh,ite_true,ite_false,Zk,and_self,Zz,Z8,Zd,Z5,Yy,Qq,Qr,Z0,tk9,c1,w1,c2,c3,hb',w4,c5]
            exact ⟨⟨by omega, by omega⟩, hR⟩
        · rw [if_neg hm] at hR
          have c5 : (m - 1 == 0) = false := beq_eq_false_iff_ne.2 (by omega)
          have hfin := fin (m - 1) (by omega) (by omega) hR
          cases back with
          | true =>
            simp only [if_true] at hat
            rw [hat] at ho1 ho2 hb'
            have c2 : decide (col - 1 - (i : Int) < 0) = false := decide_eq_false ho1
            have c3 : decide (col - 1 - (i : Int) ≥ (s.length : Int)) = false := decide_eq_false ho2
            simp (maxSteps := 4000000) only [↓Qi,↓Ys,↓Yn,↓Ym,↓Y7,↓Zw,↓Yq,↓Yp,Zp,Yf,Z3,gw,Zq,Jl,Jv,Z7,Xe,↓chk,Qj,↓Q4,↓Qk,↓Zm,↓Q0,↓Yu,Q5,Pg.look,Jr,Q3,Xf,Yt,Za,implies_true,true_and,and_true,Xg,Xh,unc,gof,mux,J8,J9,Q6,Ql,Qm,Js,Jt,Yv,Zx,Zy,Q1,Qa,ofV,Yw,Xi,Q7,Q8,Qn,Q9,Ja,Jb,Yx,Jc,Jd,Je,Jf,Pg.freeze,Zf,Qo,Qp,Z4,Jg,Op.operands,Call.operands,Yi,Z1,Zb,Zc,Yk,reduceCtorEq,Nat.reduceEqDiff,Zg,Ze,ite_true,ite_false,Zk,and_self,Zz,Z8,Zd,Z5,Yy,Qq,Qr,Z0,tk9,c1,w1,w2,w3,c2,c3,hb',w4,c5]
            exact ⟨⟨by omega, by omega⟩, hfin⟩
          | false =>
            simp only [Za,if_false] at hat
            rw [hat] at ho1 ho2 hb'
            have c2 : decide (col + 1 + (i : Int) < 0) = false := decide_eq_false ho1
            have c3 : decide (col + 1 + (i : Int) ≥ (s.length : Int)) = false := decide_eq_false ho2
            simp (maxSteps := 4000000) only [↓Qi,↓Ys,↓Yn,↓Ym,↓Y7,↓Zw,↓Yq,↓Yp,Zp,Yf,Z3,gw,Zq,Jl,Jv,Z7,Xe,↓chk,Qj,↓Q4,↓Qk,↓Zm,↓Q0,↓Yu,Q5,Pg.look,Jr,Q3,Xf,Yt,Za,implies_true,true_and,and_true,Xg,Xh,unc,gof,mux,J8,J9,Q6,Ql,Qm,Js,Jt,Yv,Zx,Zy,Q1,Qa,ofV,Yw,Xi,Q7,Q8,Qn,Q9,Ja,Jb,Yx,Jc,Jd,Je,Jf,Pg.freeze,Zf,Qo,Qp,Z4,Jg,Op.operands,Call.operands,Yi,Z1,Zb,Zc,Yk,reduceCtorEq,Nat.reduceEqDiff,Zg,Ze,ite_true,ite_false,Zk,and_self,Zz,Z8,Zd,Z5,Yy,Qq,Qr,Z0,tk9,c1,w1,w3,c2,c3,hb',w4,c5]
            exact ⟨⟨by omega, by omega⟩, hfin⟩
      · rw [if_neg hb] at hR
        have hb' : ((((s.getD (atF col back i).toNat 0).toNat : Int)) != (c.toNat : Int)) = true := by rw [byte_ne, decide_eq_false hb]; rfl
        have hfin := fin m hm1 hm2 hR
        cases back with
        | true =>
          simp only [if_true] at hat
          rw [hat] at ho1 ho2 hb'
          have c2 : decide (col - 1 - (i : Int) < 0) = false := decide_eq_false ho1
          have c3 : decide (col - 1 - (i : Int) ≥ (s.length : Int)) = false := decide_eq_false ho2
          simp (maxSteps := 4000000) only [↓Qi,↓Ys,↓Yr,↓Xo,↓Yn,↓Ym,↓Y7,↓Zw,↓Yq,↓Yp,Zp,Yf,Z3,gw,Zq,Jl,Jv,Z7,Xe,↓chk,Qj,↓Q4,↓Qk,↓Zm,↓Xl,↓Xj,↓Yu,Q5,Pg.look,Jr,Q3,Xf,Yt,Za,implies_true,true_and,and_true,Xg,Xh,unc,gof,mux,J8,J9,Q6,Ql,Qm,Js,Jt,Yv,Zx,Zy,Q1,Qa,ofV,Yw,Xi,Jm,Jn,Jo,Q7,Q8,Qn,Q9,Ja,Jb,Yx,Jc,Jd,Je,Jf,Pg.freeze,Zf,Qo,Qp,Z4,Jg,Op.operands,Call.operands,Yi,Z1,Zb,Zc,Yk,reduceCtorEq,Nat.reduceEqDiff,Zg,Ze,Zh,ite_true,ite_false,Zk,and_self,Zz,Z8,Zd,Z5,Yy,Qq,Qr,Z0,tk9,c1,w1,w2,w3,c2,c3,hb']
          exact ⟨⟨by omega, by omega⟩, hfin⟩
        | false =>
          simp only [Za,if_false] at hat
          rw [hat] at ho1 ho2 hb'
          have c2 : decide (col + 1 + (i : Int) < 0) = false := decide_eq_false ho1
          have c3 : decide (col + 1 + (i : Int) ≥ (s.length : Int)) = false := decide_eq_false ho2
          simp (maxSteps := 4000000) only [↓Qi,↓Ys,↓Yr,↓Xo,↓Yn,↓Ym,↓Y7,↓Zw,↓Yq,↓Yp,Zp,Yf,Z3,gw,Zq,Jl,Jv,Z7,Xe,↓chk,Qj,↓Q4,↓Qk,↓Zm,↓Xl,↓Xj,↓Yu,Q5,Pg.look,Jr,Q3,Xf,Yt,Za,implies_true,true_and,and_true,Xg,Xh,unc,gof,mux,J8,J9,Q6,Ql,Qm,Js,Jt,Yv,Zx,Zy,Q1,Qa,ofV,Yw,Xi,Jm,Jn,Jo,Q7,Q8,Qn,Q9,Ja,Jb,Yx,Jc,Jd,Je,Jf,Pg.freeze,Zf,Qo,Qp,Z4,Jg,Op.operands,Call.operands,Yi,Z1,Zb,Zc,Yk,reduceCtorEq,Nat.reduceEqDiff,Zg,Ze,Zh,ite_true,ite_false,Zk,and_self,Zz,Z8,Zd,Z5,Yy,Qq,Qr,Z0,tk9,c1,w1,w3,c2,c3,hb']
          exact ⟨⟨by omega, by omega⟩, hfin⟩
  · have c1 : decide ((i : Int) < (s.length : Int)) = false := decide_eq_false (by omega)
    have hnil := restF_nil (s := s) (col := col) (back := back) (i := i) h0 h1 (.inr (.inr (by omega)))
    rw [hnil] at hR
    simp only [seekL] at hR
    subst hR
    simp (maxSteps := 4000000) only [↓Qi,↓Yr,↓Xo,↓Yn,↓Ym,↓Zw,↓Yp,Zp,Yf,Z3,gw,Zq,Z7,↓chk,Qj,↓Q4,↓Qk,↓Zm,↓Xl,↓Xj,↓Yu,Q5,Pg.look,Jr,Q3,Za,implies_true,Q6,Ql,Qm,Js,Jt,Yv,Zx,Zy,ofV,Yw,Jm,Jn,Jo,Q7,Q8,Qn,Q9,Ja,Jb,Yx,Jc,Jd,Je,Jf,Pg.freeze,Zf,Qo,Qp,Z4,Jg,reduceCtorEq,Nat.reduceEqDiff,Ze,Zh,ite_true,ite_false,and_self,Zz,Zd,Z5,Yy,Qq,Qr,Z0,c1]

theorem seekL_range (c : UInt8) (d : Int) (hd : d = 1 ∨ d = -1) (lo hi : Int) : ∀ (l : List UInt8) (i n : Int), (∀ k : Nat, k < l.length → lo ≤ i + d * k ∧ i + d * k ≤ hi) → seekL c d l i n = -1 ∨ (lo ≤ seekL c d l i n ∧ seekL c d l i n ≤ hi)
  | [], _, _, _ => .inl rfl
  | b :: r, i, n, h => by
    have h0 := h 0 (by simp)
    have ht : ∀ k : Nat, k < r.length → lo ≤ i + d + d * k ∧ i + d + d * k ≤ hi := fun k hk => by
      have := h (k + 1) (by simp; omega)
      rcases hd with rfl | rfl <;> omega
    unfold seekL
    split
    · split
      · right; rcases hd with rfl | rfl <;> omega
      · exact seekL_range c d hd lo hi r _ _ ht
    · exact seekL_range c d hd lo hi r _ _ ht
theorem seekIn_range (s : List UInt8) (col : Int) (back : Bool) (c : UInt8) (n : Int) (h0 : 0 ≤ col) (h1 : col ≤ s.length) : seekIn s col back c n = -1 ∨ (0 ≤ seekIn s col back c n ∧ seekIn s col back c n < s.length) := by
  unfold seekIn
  split
  · have := seekL_range c (-1) (.inr rfl) 0 (s.length - 1) (s.take col.toNat).reverse (col - 1) n (fun k hk => by simp at hk; omega)
    omega
  · have := seekL_range c 1 (.inl rfl) 0 (s.length - 1) (s.drop (col + 1).toNat) (col + 1) n (fun k hk => by simp at hk; omega)
    omega
def kCNth : C1 := C1.by [.id, .id, .id, .id, .id] (lCons cStr (lCons (cInt .i64) (lCons cBool (lCons cByte (lOne (cInt .i64)))))) (fun d => 0 ≤ d.2.1 ∧ d.2.1 ≤ d.1.length ∧ d.1.length ≤ 65536 ∧ 1 ≤ d.2.2.2.2 ∧ d.2.2.2.2 ≤ 9223372036854775807)
  (fun d => .int .i64 (seekIn d.1 d.2.1 d.2.2.1 d.2.2.2.1 d.2.2.2.2)) (fun _ => [])
theorem ok_cnth : C1OK Try.prog 57 kCNth := C1OK.by (by kernel_rfl) (fun d h => calls_cnth d.1 d.2.1 d.2.2.1 d.2.2.2.1 d.2.2.2.2 h.1 h.2.1 h.2.2.1 h.2.2.2.1 h.2.2.2.2) (fun _ => rfl) (fun _ => rfl)

/-- Where a seeking key leads. -/
def seekTo (p : Int × Int) (way b at_ : Int) : Mv × Bool := if at_ < 0 then mNone else (((p.1, at_ + b), way, false, -1), true)
def seekP (ls : Ls) (p : Int × Int) (key c : UInt8) (n : Int) : Mv × Bool :=
  whenMay ls p n (
    if key = 102 then seekTo p 1 0 (seekIn (ls.getD p.1.toNat []) p.2 false c n)
    else if key = 116 then seekTo p 1 (-1) (seekIn (ls.getD p.1.toNat []) p.2 false c n)
    else if key = 70 then seekTo p 0 0 (seekIn (ls.getD p.1.toNat []) p.2 true c n)
    else if key = 84 then seekTo p 0 1 (seekIn (ls.getD p.1.toNat []) p.2 true c n)
    else mNone)
theorem byte_lit (b : UInt8) (k : Int) (c : UInt8) (hc : (c.toNat : Int) = k) (h : ¬ b = c) : ((b.toNat : Int) == k) = false := by
  rw [← hc, byte_eq, decide_eq_false h]

set_option maxRecDepth 20000 in
set_option maxHeartbeats 8000000 in
theorem calls_Seek (ls : Ls) (p : Int × Int) (key c : UInt8) (n : Int) (hf : okText ls) (h4 : n ≤ 9223372036854775807) : CallsR Try.prog 47 [.sl 1 (ls.map .str), aPos p, byteA key, byteA c, .int .i64 n] [] (aMove (seekP ls p key c n)) [] := by
  refine callsR_of (mrg := true) (dyn := []) (CtrOK.cons ok_cfails (CtrOK.cons ok_cto (CtrOK.cons ok_cnth (CtrOK.nil _)))) mixed Try.func47 rfl (by simp [Try.ntmps47]) (by kernel_rfl) ?_
  rw [show Try.f47.results.toList = [.cell 10 38, .tmp 11] from by kernel_rfl]
  obtain ⟨p1, p2⟩ := p
  have h6 := fits_getD hf p1.toNat
  have h8 := hf.1
  unfold seekP whenMay
  cases hm : may ls (p1, p2) n with
  | false =>
    rw [if_neg (by simp)]
    simp (maxSteps := 4000000) only [↓Qi,↓Yr,↓Yn,↓Ym,↓Zw,↓Yq,Zp,Yf,Z3,gw,Zq,Z7,↓chk,Qj,noW,↓Q4,↓Qk,↓Jq,Jp,↓Zm,↓Qu,↓Yu,Q5,Pg.look,Yt,Za,false_implies,implies_true,true_and,and_true,Q6,Ql,Qm,Yv,Zx,Zy,Nat.reduceAdd,ofV,Yw,Jm,Jn,Jo,Q7,Q8,Qn,Q9,Ja,Jb,Yx,Jc,Jd,frzL,Je,Jf,Pg.freeze,Zf,Qo,Qp,Z4,Jg,subL,Qs,Ju,↓Jy,Jz,J0,J6,Qb,J1,J2,resL,Qv,Y9,resM,Jh,Ji,AV.cells,TK.cells,AV.definite,AV.leaf,AV.leafy,Qh,lay,J5,Zb,Zc,Zr,reduceCtorEq,Nat.reduceEqDiff,Nat.reduceAdd,Zg,Ze,Zs,Zt,Zh,Ya,Yg,Zn,Zo,Yc,ite_true,ite_false,Option.some.injEq,Z6,AV.agg.injEq,Prod.mk.injEq,Yd,Yj,Zk,and_self,exists_eq_left',Zz,Qc,Qw,Qd,Qe,Y1,Y2,Zd,Zv,Qf,Qx,Qg,Jj,Jk,Y3,Y4,Y5,Zi,cutL,Z2,Zl,Zj,Z9,Yh,Yl,Ye,Yb,Zu,Qy,Z5,Yy,Qq,Qr,Z0,↓msel,muC,↓J3,Qz,J4,tk28,dz28,tk38,tz38,dz38,kCFails,kCTo,kCNth,aPos,aMove,aMv,mNone,hm]
  | true =>
    rw [if_pos rfl]
    have hi := (may_iff _ _ _).1 hm
    simp only at hi
    have rF := seekIn_range (ls.getD p1.toNat []) p2 false c n hi.2.2.2.1 hi.2.2.2.2
    have rT := seekIn_range (ls.getD p1.toNat []) p2 true c n hi.2.2.2.1 hi.2.2.2.2
    obtain ⟨xF, hxF⟩ : ∃ x, x = seekIn (ls.getD p1.toNat []) p2 false c n := ⟨_, rfl⟩
    obtain ⟨xT, hxT⟩ : ∃ x, x = seekIn (ls.getD p1.toNat []) p2 true c n := ⟨_, rfl⟩
    rw [← hxF] at rF
    rw [← hxT] at rT
    simp only [← hxF,← hxT]
    by_cases hk102 : key = 102
    · subst hk102
      rw [if_pos rfl, seekTo]
      by_cases hx : xF < 0
      · have c1 : decide (xF < 0) = true := decide_eq_true hx
        rw [if_pos hx]
        simp (maxSteps := 4000000) only [↓Qi,↓Ys,↓Yr,↓Yn,↓Ym,↓Y7,↓Zw,↓Yq,↓Yp,Zp,Yf,Z3,gw,Zq,Z7,↓chk,Qj,noW,↓Q4,↓Qk,↓Jq,Jp,↓Zm,↓Qu,↓Q0,↓Yu,Q5,Pg.look,Jr,Q3,Y6,Za,false_implies,implies_true,true_and,and_true,Q6,Ql,Qm,Js,Jt,Yv,Zx,Zy,Nat.reduceAdd,ofV,Yw,Jm,Jn,Jo,Q7,Q8,Qn,Q9,Ja,Jb,Yx,Jc,Jd,frzL,Je,Jf,Pg.freeze,Zf,Qo,Qp,Z4,Jg,subL,Qs,Ju,↓Jy,Jz,J0,J6,Qb,J1,J2,resL,Qv,Y9,resM,Jh,Ji,AV.cells,TK.cells,AV.definite,AV.leaf,AV.leafy,Qh,lay,J5,Zb,Zc,Zr,reduceCtorEq,Nat.reduceEqDiff,Nat.reduceAdd,Zg,Ze,Zs,Zt,Zh,Ya,Yg,Zn,Zo,Yc,ite_true,ite_false,Option.some.injEq,Z6,Y0,AV.agg.injEq,Prod.mk.injEq,Yd,Yj,Zk,and_self,exists_eq_left',Zz,Yo,Qc,Xc,Xd,Xb,Qw,Qd,Qe,Y1,Y2,Zd,beq_self_eq_true,Y8,Zv,Qf,Qx,Qg,Jj,Jk,Y3,Y4,Y5,Jx,Zi,cutL,Z2,Zl,Zj,Z9,Yz,Yh,Yl,Ye,Yb,Zu,Qy,Z5,Yy,Qq,Qr,J7,Z0,pureC,↓msel,muC,↓J3,Qz,J4,tk3,tk9,dz9,tk22,tk28,dz28,tk38,tz38,dz38,kCFails,kCTo,kCNth,aPos,aMove,aMv,mNone,hm,← hxF,c1,byteA,UInt8.reduceToNat]
        omega
      · have c1 : decide (xF < 0) = false := decide_eq_false hx
        have w1 : IntKind.i64.wrap (xF + 0) = xF + 0 := wrap64 (by omega) (by omega)
        rw [if_neg hx]
        simp (maxSteps := 4000000) only [↓Qi,↓Ys,↓Yr,↓Yn,↓Ym,↓Y7,↓Zw,↓Yq,↓Yp,Zp,Yf,Z3,gw,Zq,Z7,↓chk,Qj,noW,↓Q4,↓Qk,↓Jq,Jp,↓Zm,↓Q0,↓Yu,Q5,Pg.look,Jr,Q3,Yt,Y6,Za,false_implies,implies_true,true_and,and_true,Q6,Ql,Qm,Js,Jt,Yv,Zx,Zy,Nat.reduceAdd,ofV,Yw,Jm,Jn,Jo,Q7,Q8,Qn,Q9,Ja,Jb,Yx,Jc,Jd,frzL,Je,Jf,Pg.freeze,Zf,Qo,Qp,Z4,Jg,subL,Qs,Ju,↓Jy,Jz,J0,J6,Qb,J1,J2,resL,Qv,Y9,resM,Jh,Ji,AV.cells,TK.cells,AV.definite,AV.leaf,AV.leafy,Qh,lay,Zb,Zc,Zr,reduceCtorEq,Nat.reduceEqDiff,Nat.reduceAdd,Zg,Ze,Zs,Zt,Zh,Ya,Yg,Zn,Zo,Yc,ite_true,ite_false,Option.some.injEq,Y0,Prod.mk.injEq,Yd,Yj,Zk,and_self,exists_eq_left',Zz,Yo,Qc,Xc,Xd,Xb,Qw,Qd,Qe,Y1,Y2,Zd,beq_self_eq_true,Y8,Zv,Qf,Qx,Qg,Jj,Jk,Y3,Y4,Y5,Jx,Zi,cutL,Z2,Zl,Zj,Z9,Yz,Yh,Nat.reduceLeDiff,Yl,Ye,Yb,Zu,Qy,Z5,Yy,Qq,Qr,J7,Z0,pureC,↓msel,muC,↓J3,Qz,J4,tk3,tk9,dz9,tk22,tk28,dz28,tk38,tz38,dz38,kCFails,kCTo,kCNth,aPos,aMove,aMv,toC,mTo,hm,← hxF,c1,w1,byteA,UInt8.reduceToNat]
        omega
    by_cases hk116 : key = 116
    · subst hk116
      rw [if_neg (by decide), if_pos rfl, seekTo]
      by_cases hx : xF < 0
      · have c1 : decide (xF < 0) = true := decide_eq_true hx
        rw [if_pos hx]
        simp (maxSteps := 4000000) only [↓Qi,↓Ys,↓Yr,↓Yn,↓Ym,↓Y7,↓Zw,↓Yq,↓Yp,Zp,Yf,Z3,gw,Zq,Z7,↓chk,Qj,noW,↓Q4,↓Qk,↓Jq,Jp,↓Zm,↓Qu,↓Q0,↓Yu,Q5,Pg.look,Jr,Q3,Y6,Za,false_implies,implies_true,true_and,and_true,Q6,Ql,Qm,Js,Jt,Yv,Zx,Zy,Nat.reduceAdd,ofV,Yw,Jm,Jn,Jo,Q7,Q8,Qn,Q9,Ja,Jb,Yx,Jc,Jd,frzL,Je,Jf,Pg.freeze,Zf,Qo,Qp,Z4,Jg,subL,Qs,Ju,↓Jy,Jz,J0,J6,Qb,J1,J2,resL,Qv,Y9,resM,Jh,Ji,AV.cells,TK.cells,AV.definite,AV.leaf,AV.leafy,Qh,lay,J5,Zb,Zc,Zr,reduceCtorEq,Nat.reduceEqDiff,Nat.reduceAdd,Zg,Ze,Zs,Zt,Zh,Ya,Yg,Zn,Zo,Yc,ite_true,ite_false,Option.some.injEq,Z6,Y0,AV.agg.injEq,Prod.mk.injEq,Yd,Yj,Zk,and_self,exists_eq_left',Zz,Yo,Qc,Xc,Xd,Xb,Qw,Qd,Qe,Y1,Y2,Zd,beq_self_eq_true,Y8,Int.reduceBEq,Zv,Qf,Qx,Qg,Jj,Jk,Y3,Y4,Y5,Jx,Zi,cutL,Z2,Zl,Zj,Z9,Yz,Yh,Yl,Ye,Yb,Zu,Qy,Z5,Yy,Qq,Qr,J7,Z0,pureC,↓msel,muC,↓J3,Qz,J4,tk3,tk9,dz9,tk22,tk28,dz28,tk38,tz38,dz38,kCFails,kCTo,kCNth,aPos,aMove,aMv,mNone,hm,← hxF,c1,byteA,UInt8.reduceToNat]
        omega
      · have c1 : decide (xF < 0) = false := decide_eq_false hx
        have w1 : IntKind.i64.wrap (xF + -1) = xF + -1 := wrap64 (by omega) (by omega)
        rw [if_neg hx]
        simp (maxSteps := 4000000) only [↓Qi,↓Ys,↓Yr,↓Yn,↓Ym,↓Y7,↓Zw,↓Yq,↓Yp,Zp,Yf,Z3,gw,Zq,Z7,↓chk,Qj,noW,↓Q4,↓Qk,↓Jq,Jp,↓Zm,↓Q0,↓Yu,Q5,Pg.look,Jr,Q3,Yt,Y6,Za,false_implies,implies_true,true_and,and_true,Q6,Ql,Qm,Js,Jt,Yv,Zx,Zy,Nat.reduceAdd,ofV,Yw,Jm,Jn,Jo,Q7,Q8,Qn,Q9,Ja,Jb,Yx,Jc,Jd,frzL,Je,Jf,Pg.freeze,Zf,Qo,Qp,Z4,Jg,subL,Qs,Ju,↓Jy,Jz,J0,J6,Qb,J1,J2,resL,Qv,Y9,resM,Jh,Ji,AV.cells,TK.cells,AV.definite,AV.leaf,AV.leafy,Qh,lay,Zb,Zc,Zr,reduceCtorEq,Nat.reduceEqDiff,Nat.reduceAdd,Zg,Ze,Zs,Zt,Zh,Ya,Yg,Zn,Zo,Yc,ite_true,ite_false,Option.some.injEq,Y0,Prod.mk.injEq,Yd,Yj,Zk,and_self,exists_eq_left',Zz,Yo,Qc,Xc,Xd,Xb,Qw,Qd,Qe,Y1,Y2,Zd,beq_self_eq_true,Y8,Int.reduceBEq,Zv,Qf,Qx,Qg,Jj,Jk,Y3,Y4,Y5,Jx,Zi,cutL,Z2,Zl,Zj,Z9,Yz,Yh,Nat.reduceLeDiff,Yl,Ye,Yb,Zu,Qy,Z5,Yy,Qq,Qr,J7,Z0,pureC,↓msel,muC,↓J3,Qz,J4,tk3,tk9,dz9,tk22,tk28,dz28,tk38,tz38,dz38,kCFails,kCTo,kCNth,aPos,aMove,aMv,toC,mTo,hm,← hxF,c1,w1,byteA,UInt8.reduceToNat]
        omega
    by_cases hk70 : key = 70
    · subst hk70
      rw [if_neg (by decide), if_neg (by decide), if_pos rfl, seekTo]
      by_cases hx : xT < 0
      · have c1 : decide (xT < 0) = true := decide_eq_true hx
        rw [if_pos hx]
        simp (maxSteps := 4000000) only [↓Qi,↓Ys,↓Yr,↓Yn,↓Ym,↓Y7,↓Zw,↓Yq,↓Yp,Zp,Yf,Z3,gw,Zq,Z7,↓chk,Qj,noW,↓Q4,↓Qk,↓Jq,Jp,↓Zm,↓Qu,↓Q0,↓Yu,Q5,Pg.look,Jr,Q3,Y6,Za,false_implies,implies_true,true_and,and_true,Q6,Ql,Qm,Js,Jt,Yv,Zx,Zy,Nat.reduceAdd,ofV,Yw,Jm,Jn,Jo,Q7,Q8,Qn,Q9,Ja,Jb,Yx,Jc,Jd,frzL,Je,Jf,Pg.freeze,Zf,Qo,Qp,Z4,Jg,subL,Qs,Ju,↓Jy,Jz,J0,J6,Qb,J1,J2,resL,Qv,Y9,resM,Jh,Ji,AV.cells,TK.cells,AV.definite,AV.leaf,AV.leafy,Qh,lay,J5,Zb,Zc,Zr,reduceCtorEq,Nat.reduceEqDiff,Nat.reduceAdd,Zg,Ze,Zs,Zt,Zh,Ya,Yg,Zn,Zo,Yc,ite_true,ite_false,Option.some.injEq,Z6,Y0,AV.agg.injEq,Prod.mk.injEq,Yd,Yj,Zk,and_self,exists_eq_left',Zz,Yo,Qc,Xc,Xd,Xb,Qw,Qd,Qe,Y1,Y2,Zd,beq_self_eq_true,Y8,Int.reduceBEq,Zv,Qf,Qx,Qg,Jj,Jk,Y3,Y4,Y5,Jx,Zi,cutL,Z2,Zl,Zj,Z9,Yz,Yh,Yl,Ye,Yb,Zu,Qy,Z5,Yy,Qq,Qr,J7,Z0,pureC,↓msel,muC,↓J3,Qz,J4,tk3,tk9,dz9,tk22,tk28,dz28,tk38,tz38,dz38,kCFails,kCTo,kCNth,aPos,aMove,aMv,mNone,hm,← hxT,c1,byteA,UInt8.reduceToNat]
        omega
      · have c1 : decide (xT < 0) = false := decide_eq_false hx
        have w1 : IntKind.i64.wrap (xT + 0) = xT + 0 := wrap64 (by omega) (by omega)
        rw [if_neg hx]
        simp (maxSteps := 4000000) only [↓Qi,↓Ys,↓Yr,↓Yn,↓Ym,↓Y7,↓Zw,↓Yq,↓Yp,Zp,Yf,Z3,gw,Zq,Z7,↓chk,Qj,noW,↓Q4,↓Qk,↓Jq,Jp,↓Zm,↓Q0,↓Yu,Q5,Pg.look,Jr,Q3,Y6,Za,false_implies,implies_true,true_and,and_true,Q6,Ql,Qm,Js,Jt,Yv,Zx,Zy,Nat.reduceAdd,ofV,Yw,Jm,Jn,Jo,Q7,Q8,Qn,Q9,Ja,Jb,Yx,Jc,Jd,frzL,Je,Jf,Pg.freeze,Zf,Qo,Qp,Z4,Jg,subL,Qs,Ju,↓Jy,Jz,J0,J6,Qb,J1,J2,resL,Qv,Y9,resM,Jh,Ji,AV.cells,TK.cells,AV.definite,AV.leaf,AV.leafy,Qh,lay,Zb,Zc,Zr,reduceCtorEq,Nat.reduceEqDiff,Nat.reduceAdd,Zg,Ze,Zs,Zt,Zh,Ya,Yg,Zn,Zo,Yc,ite_true,ite_false,Option.some.injEq,Y0,Prod.mk.injEq,Yd,Yj,Zk,and_self,exists_eq_left',Zz,Yo,Qc,Xc,Xd,Xb,Qw,Qd,Qe,Y1,Y2,Zd,beq_self_eq_true,Y8,Int.reduceBEq,Zv,Qf,Qx,Qg,Jj,Jk,Y3,Y4,Y5,Jx,Zi,cutL,Z2,Zl,Zj,Z9,Yz,Yh,Yl,Ye,Yb,Zu,Qy,Z5,Yy,Qq,Qr,J7,Z0,pureC,↓msel,muC,↓J3,Qz,J4,tk3,tk9,dz9,tk22,tk28,dz28,tk38,tz38,dz38,kCFails,kCTo,kCNth,aPos,aMove,aMv,toC,mTo,hm,← hxT,c1,w1,byteA,UInt8.reduceToNat]
        omega
    by_cases hk84 : key = 84
    · subst hk84
      rw [if_neg (by decide), if_neg (by decide), if_neg (by decide), if_pos rfl, seekTo]
      by_cases hx : xT < 0
      · have c1 : decide (xT < 0) = true := decide_eq_true hx
        rw [if_pos hx]
        simp (maxSteps := 4000000) only [↓Qi,↓Ys,↓Yr,↓Yn,↓Ym,↓Y7,↓Zw,↓Yq,↓Yp,Zp,Yf,Z3,gw,Zq,Z7,↓chk,Qj,noW,↓Q4,↓Qk,↓Jq,Jp,↓Zm,↓Qu,↓Q0,↓Yu,Q5,Pg.look,Jr,Q3,Y6,Za,false_implies,implies_true,true_and,and_true,Q6,Ql,Qm,Js,Jt,Yv,Zx,Zy,Nat.reduceAdd,ofV,Yw,Jm,Jn,Jo,Q7,Q8,Qn,Q9,Ja,Jb,Yx,Jc,Jd,frzL,Je,Jf,Pg.freeze,Zf,Qo,Qp,Z4,Jg,subL,Qs,Ju,↓Jy,Jz,J0,J6,Qb,J1,J2,resL,Qv,Y9,resM,Jh,Ji,AV.cells,TK.cells,AV.definite,AV.leaf,AV.leafy,Qh,lay,J5,Zb,Zc,Zr,reduceCtorEq,Nat.reduceEqDiff,Nat.reduceAdd,Zg,Ze,Zs,Zt,Zh,Ya,Yg,Zn,Zo,Yc,ite_true,ite_false,Option.some.injEq,Z6,Y0,AV.agg.injEq,Prod.mk.injEq,Yd,Yj,Zk,and_self,exists_eq_left',Zz,Yo,Qc,Xc,Xd,Xb,Qw,Qd,Qe,Y1,Y2,Zd,beq_self_eq_true,Y8,Int.reduceBEq,Zv,Qf,Qx,Qg,Jj,Jk,Y3,Y4,Y5,Jx,Zi,cutL,Z2,Zl,Zj,Z9,Yz,Yh,Yl,Ye,Yb,Zu,Qy,Z5,Yy,Qq,Qr,J7,Z0,pureC,↓msel,muC,↓J3,Qz,J4,tk3,tk9,dz9,tk22,tk28,dz28,tk38,tz38,dz38,kCFails,kCTo,kCNth,aPos,aMove,aMv,mNone,hm,← hxT,c1,byteA,UInt8.reduceToNat]
        omega
      · have c1 : decide (xT < 0) = false := decide_eq_false hx
        have w1 : IntKind.i64.wrap (xT + 1) = xT + 1 := wrap64 (by omega) (by omega)
        rw [if_neg hx]
        simp (maxSteps := 4000000) only [↓Qi,↓Ys,↓Yr,↓Yn,↓Ym,↓Y7,↓Zw,↓Yq,↓Yp,Zp,Yf,Z3,gw,Zq,Z7,↓chk,Qj,noW,↓Q4,↓Qk,↓Jq,Jp,↓Zm,↓Q0,↓Yu,Q5,Pg.look,Jr,Q3,Y6,Za,false_implies,implies_true,true_and,and_true,Q6,Ql,Qm,Js,Jt,Yv,Zx,Zy,Nat.reduceAdd,ofV,Yw,Jm,Jn,Jo,Q7,Q8,Qn,Q9,Ja,Jb,Yx,Jc,Jd,frzL,Je,Jf,Pg.freeze,Zf,Qo,Qp,Z4,Jg,subL,Qs,Ju,↓Jy,Jz,J0,J6,Qb,J1,J2,resL,Qv,Y9,resM,Jh,Ji,AV.cells,TK.cells,AV.definite,AV.leaf,AV.leafy,Qh,lay,Zb,Zc,Zr,reduceCtorEq,Nat.reduceEqDiff,Nat.reduceAdd,Zg,Ze,Zs,Zt,Zh,Ya,Yg,Zn,Zo,Yc,ite_true,ite_false,Option.some.injEq,Y0,Prod.mk.injEq,Yd,Yj,Zk,and_self,exists_eq_left',Zz,Yo,Qc,Xc,Xd,Xb,Qw,Qd,Qe,Y1,Y2,Zd,beq_self_eq_true,Y8,Int.reduceBEq,Zv,Qf,Qx,Qg,Jj,Jk,Y3,Y4,Y5,Jx,Zi,cutL,Z2,Zl,Zj,Z9,Yz,Yh,Yl,Ye,Yb,Zu,Qy,Z5,Yy,Qq,Qr,J7,Z0,pureC,↓msel,muC,↓J3,Qz,J4,tk3,tk9,dz9,tk22,tk28,dz28,tk38,tz38,dz38,kCFails,kCTo,kCNth,aPos,aMove,aMv,toC,mTo,hm,← hxT,c1,w1,byteA,UInt8.reduceToNat]
        omega
    have e1 := byte_lit key 102 102 rfl hk102
    have e2 := byte_lit key 116 116 rfl hk116
    have e3 := byte_lit key 70 70 rfl hk70
    have e4 := byte_lit key 84 84 rfl hk84
    rw [if_neg hk102, if_neg hk116, if_neg hk70, if_neg hk84]
    simp (maxSteps := 4000000) only [↓Qi,↓Ys,↓Yr,↓Yn,↓Ym,↓Y7,↓Zw,↓Yp,Zp,Yf,Z3,gw,Zq,Z7,↓chk,Qj,noW,↓Q4,↓Qk,↓Jq,Jp,↓Zm,↓Qu,↓blockA_ret,↓Yu,Q5,Pg.look,Jr,Q3,Y6,Za,false_implies,implies_true,true_and,and_true,Q6,Ql,Qm,Js,Jt,Yv,Zx,Zy,Nat.reduceAdd,ofV,Yw,Jm,Jn,Jo,Q7,Q8,Qn,Q9,Ja,Jb,Yx,Jc,Jd,frzL,Je,Jf,Pg.freeze,Zf,Qo,Qp,Z4,Jg,subL,Qs,Ju,↓Jy,Jz,J0,J6,Qb,J1,J2,resL,Qv,Y9,resM,Jh,Ji,AV.cells,TK.cells,AV.definite,AV.leaf,AV.leafy,Qh,lay,J5,Zb,Zc,Zr,reduceCtorEq,Nat.reduceEqDiff,Nat.reduceAdd,Zg,Ze,Zs,Zt,Zh,Ya,Yg,Zn,Zo,Yc,ite_true,ite_false,Option.some.injEq,Z6,AV.agg.injEq,Prod.mk.injEq,Yd,Yj,Zk,and_self,exists_eq_left',Zz,Qc,Qw,Qd,Qe,Y1,Y2,Zd,Zv,Qf,Qx,Qg,Jj,Jk,Y3,Y4,Y5,Zi,cutL,Z2,Zl,Zj,Z9,Yh,Yl,Ye,Yb,Zu,Qy,Z5,Yy,Qq,Qr,Z0,↓msel,muC,↓J3,Qz,J4,tk28,dz28,tk38,tz38,dz38,kCFails,kCTo,kCNth,aPos,aMove,aMv,mNone,hm,e1,e2,e3,e4]
def kSeek : C1 := C1.by [.sl 1 [], .id, .id, .id, .id] (lCons cStrs (lCons cPos2 (lCons cByte (lCons cByte (lOne (cInt .i64)))))) (fun d => okText d.1 ∧ d.2.2.2.2 ≤ 9223372036854775807) (fun d => aMove (seekP d.1 d.2.1 d.2.2.1 d.2.2.2.1 d.2.2.2.2)) (fun _ => [])
theorem ok_Seek : C1OK Try.prog 47 kSeek := C1OK.by (by kernel_rfl) (fun d h => calls_Seek d.1 d.2.1 d.2.2.1 d.2.2.2.1 d.2.2.2.2 h.1 h.2) (fun _ => rfl) (fun _ => rfl)
end Go.Pg
