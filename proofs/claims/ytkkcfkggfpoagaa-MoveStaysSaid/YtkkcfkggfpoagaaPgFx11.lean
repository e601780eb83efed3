/- A motion by its name: by words, within a line. -/
import Derived.Test.YtkkcfkggfpoagaaPgFx10
open List renaming getElem?_cons_succ → Za, getElem?_cons_zero → Zb, contains_nil → Zd, getD_cons_zero → Ze, drop_succ_cons → Zf, take_succ_cons → Zg, append_nil → Zh, length_nil → Zi, set_cons_zero → Zj, set_cons_succ → Zk, contains_cons → Zl, foldl_nil → Zm, cons_append → Zo, length_cons → Zp, range'_zero → Zr, nil_append → Zs, drop_zero → Zu, take_zero → Zv, all_cons → Zy, drop_nil → Z1, take_nil → Z2, map_cons → Z3, map_nil → Z9, all_nil → Yb
open Bool renaming false_eq_true → Zc, and_self → Zz, or_false → Z0, or_self → Yc, or_true → Xh
open Option renaming getD_some → Zn, isSome_some → Q2, isSome_none → Jx
open Nat renaming zero_lt_succ → Zq, zero_add → Ya, add_zero → Yd, sub_zero → Ye, le_refl → Yh
open Go.Pg renaming thenA_normal → Zt, bselH_false → Zw, gselH_plain → Zx, wpH_region → Z4, cselH_bool → Z5, closeQ_nil → Z6, diagQ_zero → Z7, selC_false → Z8, iselH_false → Yf, closeQ_succ → Yg, wpH_block → Yi, runH_cons → Yj, subV_succ → Yk, regH_none → Yl, iselH_true → Ym, blockA_ret → Yn, bselH_true → Yo, diagQ_succ → Yp, thenA_ret → Yq, wpH_cond → Yr, runH_nil → Ys, lCons_dec → Yt, dec2_some → Yu, wpH_ret → Yv, wpH_seq → Yw, res_succ → Yx, putCells → Yy, optP_some → Yz, optV_some → Y0, optH_some → Y1, cInt_dec → Y2, cAgg_dec → Y3, lOne_dec → Y4, decL_str → Y5, C1mby_mu → Y6, stepEv → Y7, alives → Y8, ofLeaf → Y9, pickOf → Qa, isNext → Qb, ldCells → Qc, normArgs → Qd, C1by_pre → Qe, res8_eq → Qf, cSl_dec → Qg, C1by_mu → Qh, wpA_H → Qi, justK → Qj, pureK → Qk, envOf → Ql, heapV → Qm, footV → Qn, ptrsE → Qo, subOs → Qp, subEv → Qq, C1by_ns → Qr, C1by_it → Qs, nextF → Qt, nextG → Qu, aliveO → Qv, pairsA → Qw, pairsO → Qx, pairsE → Qy, pairsC → Qz, pairsL → Q0, pairs0 → Q1, shiftR → Q3, shift1 → Q4, C1by_r → Q5, C1by_H → Q6, heapK → Q7, strOp → Q8, objAt → Q9, mapAt → Ja, oneK → Jb, opnd → Jc, binK → Jd, valV → Je, binV → Jf, retA → Jg, resK → Jh, tupA → Ji, subA → Jj, subQ → Jk, frzO → Jl, subF → Jm, subG → Jn, frzE → Jo, frzC → Jp, frz0 → Jq, frzH → Jr, subM → Js, callT → Jt, normA → Ju, normC → Jv, callC → Jy, callV → Jz, callH → J0, callP → J1, cBool_dec → J2, strV → J3, nxtQ → J4, frzA → J5, frzL → J6, subO → J7, subL → J8, resM → J9, cutL → Xa, wpH_skip → Xb, resL → Xc, msel → Xd, cByte_dec → Xe, selC_true → Xf, pickOK_nil → Xg, blockA_normal → Xi
open Int renaming cast_ofNat_Int → Jw
namespace Go.Pg
open Go Go.Proofs

abbrev lMot : CdL (Ls × (Int × Int) × Int × Bool × Bool) := lCons cStrs (lCons cPos2 (lCons (cInt .i64) (lCons cBool (lOne cBool))))
abbrev lMot4 : CdL (Ls × (Int × Int) × Int × Bool) := lCons cStrs (lCons cPos2 (lCons (cInt .i64) (lOne cBool)))
def kNext : C1 := C1.by [.sl 1 [], .id, .id, .id, .id] lMot (fun d => fits 65536 65536 d.1 ∧ d.2.2.1 ≤ 9223372036854775807) (fun d => aMove (wNext d.1 d.2.1 d.2.2.1 d.2.2.2.1 d.2.2.2.2)) (fun _ => [])
def kTail : C1 := C1.by [.sl 1 [], .id, .id, .id, .id] lMot (fun d => fits 65536 65536 d.1 ∧ d.2.2.1 ≤ 9223372036854775807) (fun d => aMove (rTail d.1 d.2.1 d.2.2.1 d.2.2.2.1 d.2.2.2.2)) (fun _ => [])
def kBackS : C1 := C1.by [.sl 1 [], .id, .id, .id] lMot4 (fun d => fits 65536 65536 d.1) (fun d => aMove (wBackM d.1 d.2.1 d.2.2.1 true true d.2.2.2 0)) (fun _ => [])
def kBackE : C1 := C1.by [.sl 1 [], .id, .id, .id] lMot4 (fun d => fits 65536 65536 d.1) (fun d => aMove (wBackM d.1 d.2.1 d.2.2.1 false false d.2.2.2 1)) (fun _ => [])
theorem ok_Next : C1OK Try.prog 58 kNext := C1OK.by (by kernel_rfl) (fun d h => calls_Next d.1 d.2.1 d.2.2.1 d.2.2.2.1 d.2.2.2.2 h.1 h.2) (fun _ => rfl) (fun _ => rfl)
theorem ok_Tail : C1OK Try.prog 60 kTail := C1OK.by (by kernel_rfl) (fun d h => calls_Tail d.1 d.2.1 d.2.2.1 d.2.2.2.1 d.2.2.2.2 h.1 h.2) (fun _ => rfl) (fun _ => rfl)
theorem ok_WBack : C1OK Try.prog 59 kBackS := C1OK.by (by kernel_rfl) (fun d h => calls_WBack d.1 d.2.1 d.2.2.1 d.2.2.2 h) (fun _ => rfl) (fun _ => rfl)
theorem ok_WBackTail : C1OK Try.prog 61 kBackE := C1OK.by (by kernel_rfl) (fun d h => calls_WBackTail d.1 d.2.1 d.2.2.1 d.2.2.2 h) (fun _ => rfl) (fun _ => rfl)
theorem lq119__87 : (([119] : List UInt8) == [87]) = false := rfl
theorem lq87__119 : (([87] : List UInt8) == [119]) = false := rfl
theorem lq98__119 : (([98] : List UInt8) == [119]) = false := rfl
theorem lq98__87 : (([98] : List UInt8) == [87]) = false := rfl
theorem lq98__66 : (([98] : List UInt8) == [66]) = false := rfl
theorem lq66__119 : (([66] : List UInt8) == [119]) = false := rfl
theorem lq66__87 : (([66] : List UInt8) == [87]) = false := rfl
theorem lq66__98 : (([66] : List UInt8) == [98]) = false := rfl
theorem lq101__119 : (([101] : List UInt8) == [119]) = false := rfl
theorem lq101__87 : (([101] : List UInt8) == [87]) = false := rfl
theorem lq101__98 : (([101] : List UInt8) == [98]) = false := rfl
theorem lq101__66 : (([101] : List UInt8) == [66]) = false := rfl
theorem lq101__69 : (([101] : List UInt8) == [69]) = false := rfl
theorem lq69__119 : (([69] : List UInt8) == [119]) = false := rfl
theorem lq69__87 : (([69] : List UInt8) == [87]) = false := rfl
theorem lq69__98 : (([69] : List UInt8) == [98]) = false := rfl
theorem lq69__66 : (([69] : List UInt8) == [66]) = false := rfl
theorem lq69__101 : (([69] : List UInt8) == [101]) = false := rfl
theorem lq103_101__119 : (([103, 101] : List UInt8) == [119]) = false := rfl
theorem lq103_101__87 : (([103, 101] : List UInt8) == [87]) = false := rfl
theorem lq103_101__98 : (([103, 101] : List UInt8) == [98]) = false := rfl
theorem lq103_101__66 : (([103, 101] : List UInt8) == [66]) = false := rfl
theorem lq103_101__101 : (([103, 101] : List UInt8) == [101]) = false := rfl
theorem lq103_101__69 : (([103, 101] : List UInt8) == [69]) = false := rfl
theorem lq103_101__103_69 : (([103, 101] : List UInt8) == [103, 69]) = false := rfl
theorem lq103_69__119 : (([103, 69] : List UInt8) == [119]) = false := rfl
theorem lq103_69__87 : (([103, 69] : List UInt8) == [87]) = false := rfl
theorem lq103_69__98 : (([103, 69] : List UInt8) == [98]) = false := rfl
theorem lq103_69__66 : (([103, 69] : List UInt8) == [66]) = false := rfl
theorem lq103_69__101 : (([103, 69] : List UInt8) == [101]) = false := rfl
theorem lq103_69__69 : (([103, 69] : List UInt8) == [69]) = false := rfl
theorem lq103_69__103_101 : (([103, 69] : List UInt8) == [103, 101]) = false := rfl
def wordA (ls : Ls) (x : Cx) (c : Cm) (n : Int) (op : Bool) : Res :=
  if c.2.2.2.1 = [119] then (wNext ls (curOf x) n false op, x)
  else   if c.2.2.2.1 = [87] then (wNext ls (curOf x) n true op, x)
  else   if c.2.2.2.1 = [98] then (wBackM ls (curOf x) n true true false 0, x)
  else   if c.2.2.2.1 = [66] then (wBackM ls (curOf x) n true true true 0, x)
  else   if c.2.2.2.1 = [101] then (rTail ls (curOf x) n false false, x)
  else   if c.2.2.2.1 = [69] then (rTail ls (curOf x) n true false, x)
  else   if c.2.2.2.1 = [103, 101] then (wBackM ls (curOf x) n false false false 1, x)
  else   if c.2.2.2.1 = [103, 69] then (wBackM ls (curOf x) n false false true 1, x)
  else vertA ls x c n op

set_option maxRecDepth 20000 in
set_option maxHeartbeats 8000000 in
theorem calls_wordA (ls : Ls) (x : Cx) (c : Cm) (n : Int) (op : Bool) (hf : okText ls) (hn : n ≤ 9223372036854775807) (hcn : c.2.1 ≤ 9223372036854775807) : CallsR Try.prog 49 [aAsk ls c n op] (cxH x) (aMove (wordA ls x c n op).1) (cxH (wordA ls x c n op).2) := by
  refine callsR_of (mrg := true) (dyn := [1]) (CtrOK.cons ok_Next (CtrOK.cons ok_WBack (CtrOK.cons ok_Tail (CtrOK.cons ok_WBackTail (CtrOK.cons ok_vertA (CtrOK.nil _)))))) mixed Try.func49 rfl (by simp [Try.ntmps49]) (by kernel_rfl) ?_
  rw [show Try.f49.results.toList = [.cell 2 38, .tmp 3] from by kernel_rfl]
  have hll := hf.1
  obtain ⟨x1, x2, w, t, ky, kc, fd, bk⟩ := x
  obtain ⟨rg, cn, opr, name, arg, text⟩ := c
  unfold wordA curOf
  dsimp only
  by_cases h119 : name = [119]
  · subst h119
    rw [if_pos (by decide)]
    simp (maxSteps := 4000000) only [↓Qi,↓Xb,↓Yv,↓Yw,↓Yr,↓Yi,↓Z4,Yo,↓Ym,Zw,Ys,Yj,gw,Zx,Z5,↓chk,Qj,noW,↓Jb,↓Qk,↓Q7,Ql,↓Zt,↓Yq,↓Yn,↓Y7,Jc,Pg.look,Jd,Q8,Zc,false_implies,implies_true,true_and,and_true,forall_const,Je,Qm,Qn,Jf,J3,Y8,Qv,J4,hdS,Qw,J5,Z6,Yg,Z7,Yp,Nat.reduceAdd,ofV,Y9,Jg,Jh,Ji,Jj,Jk,Qo,Qx,Jl,Jm,Jn,Qa,Qy,Qz,Q0,Q1,Jo,Jp,J6,Jq,Jr,Pg.freeze,Zm,Qp,J7,Qq,Yk,Js,J8,Qc,Q9,↓Jt,Jy,Jz,J0,Qd,Ju,Jv,Xc,Qf,Yx,J9,Q3,Q4,AV.cells,TK.cells,AV.definite,AV.leaf,AV.leafy,AV.pureLeaf,AV.pureB,Yy,lay,Za,Zb,Zn,reduceCtorEq,Nat.reduceEqDiff,Nat.reduceAdd,Zs,Zh,Zo,Zp,Zi,Z3,Z9,Zj,Zk,Ya,ite_true,ite_false,Option.some.injEq,Prod.mk.injEq,Zy,Yb,Zz,and_self,exists_eq_left',Y2,J2,Qg,Y3,Y4,Yt,Yu,Zl,Zd,Nat.reduceBEq,Yc,Z0,beq_self_eq_true,Zr,Y5,Qr,Qe,Q5,Q6,Yz,Y0,Y1,Ze,Xa,Zu,Zf,Zg,Zv,Yd,Ye,Nat.reduceLeDiff,Yh,Z1,Z2,Zq,Qs,Yl,Qb,Qt,Qu,Z8,↓Xd,muC,↓J1,Qh,Y6,Ja,tk3,tk4,tk9,tk22,tk28,tz28,dz28,tk31,dz31,tk33,tk38,tz38,dz38,tk41,tk57,dz57,kNext,kTail,kBackS,kBackE,aMove,aMv,kVertA,lq119__87]
    (repeat' first | exact hf | exact hn | exact ⟨hf, hn⟩ | (show dynOrd _ _ = true; kernel_rfl) | exact subX_eq rfl rfl | exact trivial | apply And.intro | rfl | omega)
  by_cases h87 : name = [87]
  · subst h87
    rw [if_neg (by decide), if_pos (by decide)]
    simp (maxSteps := 4000000) only [↓Qi,↓Yv,↓Yw,↓Yr,↓Yi,↓Z4,Yo,↓Ym,↓Yf,Zw,Ys,Yj,gw,Zx,Z5,↓chk,Qj,noW,↓Jb,↓Qk,↓Q7,Ql,↓Zt,↓Yq,↓Yn,↓Y7,Jc,Pg.look,Jd,Q8,Zc,false_implies,implies_true,true_and,and_true,forall_const,Je,Qm,Qn,Jf,J3,Y8,Qv,J4,hdS,Qw,J5,Z6,Yg,Z7,Yp,Nat.reduceAdd,ofV,Y9,Jg,Jh,Ji,Jj,Jk,Qo,Qx,Jl,Jm,Jn,Qa,Qy,Qz,Q0,Q1,Jo,Jp,J6,Jq,Jr,Pg.freeze,Zm,Qp,J7,Qq,Yk,Js,J8,Qc,Q9,↓Jt,Jy,Jz,J0,Qd,Ju,Jv,Xc,Qf,Yx,J9,Q3,Q4,AV.cells,TK.cells,AV.definite,AV.leaf,AV.leafy,AV.pureLeaf,AV.pureB,Yy,lay,Za,Zb,Zn,reduceCtorEq,Nat.reduceEqDiff,Nat.reduceAdd,Zs,Zh,Zo,Zp,Zi,Z3,Z9,Zj,Zk,Ya,ite_true,ite_false,Option.some.injEq,Prod.mk.injEq,Zy,Yb,Zz,and_self,exists_eq_left',Y2,J2,Qg,Y3,Y4,Yt,Yu,Zl,Zd,Nat.reduceBEq,Yc,Z0,beq_self_eq_true,Zr,Y5,Qr,Qe,Q5,Q6,Yz,Y0,Y1,Ze,Xa,Zu,Zf,Zg,Zv,Yd,Ye,Nat.reduceLeDiff,Yh,Z1,Z2,Zq,Qs,Yl,Qb,Qt,Qu,Z8,↓Xd,muC,↓J1,Qh,Y6,Ja,tk3,tk4,tk9,tk22,tk28,tz28,dz28,tk31,dz31,tk33,tk38,tz38,dz38,tk41,tk57,dz57,kNext,kTail,kBackS,kBackE,aMove,aMv,kVertA,lq87__119]
    (repeat' first | exact hf | exact hn | exact ⟨hf, hn⟩ | (show dynOrd _ _ = true; kernel_rfl) | exact subX_eq rfl rfl | exact trivial | apply And.intro | rfl | omega)
  by_cases h98 : name = [98]
  · subst h98
    rw [if_neg (by decide), if_neg (by decide), if_pos (by decide)]
    simp (maxSteps := 4000000) only [↓Qi,↓Xb,↓Yv,↓Yw,↓Yr,↓Yi,↓Z4,Yo,↓Ym,↓Yf,Zw,Ys,Yj,gw,Zx,Z5,↓chk,Qj,noW,↓Jb,↓Qk,↓Q7,Ql,↓Zt,↓Yq,↓Yn,↓Y7,Jc,Pg.look,Jd,Q8,Zc,false_implies,implies_true,true_and,and_true,forall_const,Je,Qm,Qn,Jf,J3,Y8,Qv,J4,hdS,Qw,J5,Z6,Yg,Z7,Yp,Nat.reduceAdd,ofV,Y9,Jg,Jh,Ji,Jj,Jk,Qo,Qx,Jl,Jm,Jn,Qa,Qy,Qz,Q0,Q1,Jo,Jp,J6,Jq,Jr,Pg.freeze,Zm,Qp,J7,Qq,Yk,Js,J8,Qc,Q9,↓Jt,Jy,Jz,J0,Qd,Ju,Jv,Xc,Qf,Yx,J9,Q3,Q4,AV.cells,TK.cells,AV.definite,AV.leaf,AV.leafy,AV.pureLeaf,AV.pureB,Yy,lay,Za,Zb,Zn,reduceCtorEq,Nat.reduceEqDiff,Nat.reduceAdd,Zs,Zh,Zo,Zp,Zi,Z3,Z9,Zj,Zk,Ya,ite_true,ite_false,Option.some.injEq,Prod.mk.injEq,Zy,Yb,Zz,and_self,exists_eq_left',Y2,J2,Qg,Y3,Y4,Yt,Yu,Zl,Zd,Nat.reduceBEq,Yc,Z0,beq_self_eq_true,Zr,Y5,Qr,Qe,Q5,Q6,Yz,Y0,Y1,Ze,Xa,Zu,Zf,Zg,Zv,Yd,Ye,Nat.reduceLeDiff,Yh,Z1,Z2,Zq,Qs,Yl,Qb,Qt,Qu,Z8,↓Xd,muC,↓J1,Qh,Y6,Ja,tk3,tk9,tk22,tk28,tz28,dz28,tk31,dz31,tk33,tk38,tz38,dz38,tk41,tk57,dz57,kNext,kTail,kBackS,kBackE,aMove,aMv,kVertA,lq98__119,lq98__87,lq98__66]
    (repeat' first | exact hf | exact hn | exact ⟨hf, hn⟩ | (show dynOrd _ _ = true; kernel_rfl) | exact subX_eq rfl rfl | exact trivial | apply And.intro | rfl | omega)
  by_cases h66 : name = [66]
  · subst h66
    rw [if_neg (by decide), if_neg (by decide), if_neg (by decide), if_pos (by decide)]
    simp (maxSteps := 4000000) only [↓Qi,↓Yv,↓Yw,↓Yr,↓Yi,↓Z4,Yo,↓Ym,↓Yf,Zw,Ys,Yj,gw,Zx,Z5,↓chk,Qj,noW,↓Jb,↓Qk,↓Q7,Ql,↓Zt,↓Yq,↓Yn,↓Y7,Jc,Pg.look,Jd,Q8,Zc,false_implies,implies_true,true_and,and_true,forall_const,Je,Qm,Qn,Jf,J3,Y8,Qv,J4,hdS,Qw,J5,Z6,Yg,Z7,Yp,Nat.reduceAdd,ofV,Y9,Jg,Jh,Ji,Jj,Jk,Qo,Qx,Jl,Jm,Jn,Qa,Qy,Qz,Q0,Q1,Jo,Jp,J6,Jq,Jr,Pg.freeze,Zm,Qp,J7,Qq,Yk,Js,J8,Qc,Q9,↓Jt,Jy,Jz,J0,Qd,Ju,Jv,Xc,Qf,Yx,J9,Q3,Q4,AV.cells,TK.cells,AV.definite,AV.leaf,AV.leafy,AV.pureLeaf,AV.pureB,Yy,lay,Za,Zb,Zn,reduceCtorEq,Nat.reduceEqDiff,Nat.reduceAdd,Zs,Zh,Zo,Zp,Zi,Z3,Z9,Zj,Zk,Ya,ite_true,ite_false,Option.some.injEq,Prod.mk.injEq,Zy,Yb,Zz,and_self,exists_eq_left',Y2,J2,Qg,Y3,Y4,Yt,Yu,Zl,Zd,Nat.reduceBEq,Yc,Z0,beq_self_eq_true,Zr,Y5,Qr,Qe,Q5,Q6,Yz,Y0,Y1,Ze,Xa,Zu,Zf,Zg,Zv,Yd,Ye,Nat.reduceLeDiff,Yh,Z1,Z2,Zq,Qs,Yl,Qb,Qt,Qu,Z8,↓Xd,muC,↓J1,Qh,Y6,Ja,tk3,tk9,tk22,tk28,tz28,dz28,tk31,dz31,tk33,tk38,tz38,dz38,tk41,tk57,dz57,kNext,kTail,kBackS,kBackE,aMove,aMv,kVertA,lq66__119,lq66__87,lq66__98]
    (repeat' first | exact hf | exact hn | exact ⟨hf, hn⟩ | (show dynOrd _ _ = true; kernel_rfl) | exact subX_eq rfl rfl | exact trivial | apply And.intro | rfl | omega)
  by_cases h101 : name = [101]
  · subst h101
    rw [if_neg (by decide), if_neg (by decide), if_neg (by decide), if_neg (by decide), if_pos (by decide)]
    simp (maxSteps := 4000000) only [↓Qi,↓Xb,↓Yv,↓Yw,↓Yr,↓Yi,↓Z4,Yo,↓Ym,↓Yf,Zw,Ys,Yj,gw,Zx,Z5,↓chk,Qj,noW,↓Jb,↓Qk,↓Q7,Ql,↓Zt,↓Yq,↓Yn,↓Y7,Jc,Pg.look,Jd,Q8,Zc,false_implies,implies_true,true_and,and_true,forall_const,Je,Qm,Qn,Jf,J3,Y8,Qv,J4,hdS,Qw,J5,Z6,Yg,Z7,Yp,Nat.reduceAdd,ofV,Y9,Jg,Jh,Ji,Jj,Jk,Qo,Qx,Jl,Jm,Jn,Qa,Qy,Qz,Q0,Q1,Jo,Jp,J6,Jq,Jr,Pg.freeze,Zm,Qp,J7,Qq,Yk,Js,J8,Qc,Q9,↓Jt,Jy,Jz,J0,Qd,Ju,Jv,Xc,Qf,Yx,J9,Q3,Q4,AV.cells,TK.cells,AV.definite,AV.leaf,AV.leafy,AV.pureLeaf,AV.pureB,Yy,lay,Za,Zb,Zn,reduceCtorEq,Nat.reduceEqDiff,Nat.reduceAdd,Zs,Zh,Zo,Zp,Zi,Z3,Z9,Zj,Zk,Ya,ite_true,ite_false,Option.some.injEq,Prod.mk.injEq,Zy,Yb,Zz,and_self,exists_eq_left',Y2,J2,Qg,Y3,Y4,Yt,Yu,Zl,Zd,Nat.reduceBEq,Yc,Z0,beq_self_eq_true,Zr,Y5,Qr,Qe,Q5,Q6,Yz,Y0,Y1,Ze,Xa,Zu,Zf,Zg,Zv,Yd,Ye,Nat.reduceLeDiff,Yh,Z1,Z2,Zq,Qs,Yl,Qb,Qt,Qu,Z8,↓Xd,muC,↓J1,Qh,Y6,Ja,tk3,tk9,tk22,tk28,tz28,dz28,tk31,dz31,tk33,tk38,tz38,dz38,tk41,tk57,dz57,kNext,kTail,kBackS,kBackE,aMove,aMv,kVertA,lq101__119,lq101__87,lq101__98,lq101__66,lq101__69]
    (repeat' first | exact hf | exact hn | exact ⟨hf, hn⟩ | (show dynOrd _ _ = true; kernel_rfl) | exact subX_eq rfl rfl | exact trivial | apply And.intro | rfl | omega)
  by_cases h69 : name = [69]
  · subst h69
    rw [if_neg (by decide), if_neg (by decide), if_neg (by decide), if_neg (by decide), if_neg (by decide), if_pos (by decide)]
    simp (maxSteps := 4000000) only [↓Qi,↓Yv,↓Yw,↓Yr,↓Yi,↓Z4,Yo,↓Ym,↓Yf,Zw,Ys,Yj,gw,Zx,Z5,↓chk,Qj,noW,↓Jb,↓Qk,↓Q7,Ql,↓Zt,↓Yq,↓Yn,↓Y7,Jc,Pg.look,Jd,Q8,Zc,false_implies,implies_true,true_and,and_true,forall_const,Je,Qm,Qn,Jf,J3,Y8,Qv,J4,hdS,Qw,J5,Z6,Yg,Z7,Yp,Nat.reduceAdd,ofV,Y9,Jg,Jh,Ji,Jj,Jk,Qo,Qx,Jl,Jm,Jn,Qa,Qy,Qz,Q0,Q1,Jo,Jp,J6,Jq,Jr,Pg.freeze,Zm,Qp,J7,Qq,Yk,Js,J8,Qc,Q9,↓Jt,Jy,Jz,J0,Qd,Ju,Jv,Xc,Qf,Yx,J9,Q3,Q4,AV.cells,TK.cells,AV.definite,AV.leaf,AV.leafy,AV.pureLeaf,AV.pureB,Yy,lay,Za,Zb,Zn,reduceCtorEq,Nat.reduceEqDiff,Nat.reduceAdd,Zs,Zh,Zo,Zp,Zi,Z3,Z9,Zj,Zk,Ya,ite_true,ite_false,Option.some.injEq,Prod.mk.injEq,Zy,Yb,Zz,and_self,exists_eq_left',Y2,J2,Qg,Y3,Y4,Yt,Yu,Zl,Zd,Nat.reduceBEq,Yc,Z0,beq_self_eq_true,Zr,Y5,Qr,Qe,Q5,Q6,Yz,Y0,Y1,Ze,Xa,Zu,Zf,Zg,Zv,Yd,Ye,Nat.reduceLeDiff,Yh,Z1,Z2,Zq,Qs,Yl,Qb,Qt,Qu,Z8,↓Xd,muC,↓J1,Qh,Y6,Ja,tk3,tk9,tk22,tk28,tz28,dz28,tk31,dz31,tk33,tk38,tz38,dz38,tk41,tk57,dz57,kNext,kTail,kBackS,kBackE,aMove,aMv,kVertA,lq69__119,lq69__87,lq69__98,lq69__66,lq69__101]
    (repeat' first | exact hf | exact hn | exact ⟨hf, hn⟩ | (show dynOrd _ _ = true; kernel_rfl) | exact subX_eq rfl rfl | exact trivial | apply And.intro | rfl | omega)
  by_cases h103_101 : name = [103, 101]
  · subst h103_101
    rw [if_neg (by decide), if_neg (by decide), if_neg (by decide), if_neg (by decide), if_neg (by decide), if_neg (by decide), if_pos (by decide)]
    simp (maxSteps := 4000000) only [↓Qi,↓Xb,↓Yv,↓Yw,↓Yr,↓Yi,↓Z4,Yo,↓Ym,↓Yf,Zw,Ys,Yj,gw,Zx,Z5,↓chk,Qj,noW,↓Jb,↓Qk,↓Q7,Ql,↓Zt,↓Yq,↓Yn,↓Y7,Jc,Pg.look,Jd,Q8,Zc,false_implies,implies_true,true_and,and_true,forall_const,Je,Qm,Qn,Jf,J3,Y8,Qv,J4,hdS,Qw,J5,Z6,Yg,Z7,Yp,Nat.reduceAdd,ofV,Y9,Jg,Jh,Ji,Jj,Jk,Qo,Qx,Jl,Jm,Jn,Qa,Qy,Qz,Q0,Q1,Jo,Jp,J6,Jq,Jr,Pg.freeze,Zm,Qp,J7,Qq,Yk,Js,J8,Qc,Q9,↓Jt,Jy,Jz,J0,Qd,Ju,Jv,Xc,Qf,Yx,J9,Q3,Q4,AV.cells,TK.cells,AV.definite,AV.leaf,AV.leafy,AV.pureLeaf,AV.pureB,Yy,lay,Za,Zb,Zn,reduceCtorEq,Nat.reduceEqDiff,Nat.reduceAdd,Zs,Zh,Zo,Zp,Zi,Z3,Z9,Zj,Zk,Ya,ite_true,ite_false,Option.some.injEq,Prod.mk.injEq,Zy,Yb,Zz,and_self,exists_eq_left',Y2,J2,Qg,Y3,Y4,Yt,Yu,Zl,Zd,Nat.reduceBEq,Yc,Z0,beq_self_eq_true,Zr,Y5,Qr,Qe,Q5,Q6,Yz,Y0,Y1,Ze,Xa,Zu,Zf,Zg,Zv,Yd,Ye,Nat.reduceLeDiff,Yh,Z1,Z2,Zq,Qs,Yl,Qb,Qt,Qu,Z8,↓Xd,muC,↓J1,Qh,Y6,Ja,tk3,tk9,tk22,tk28,tz28,dz28,tk31,dz31,tk33,tk38,tz38,dz38,tk41,tk57,dz57,kNext,kTail,kBackS,kBackE,aMove,aMv,kVertA,lq103_101__119,lq103_101__87,lq103_101__98,lq103_101__66,lq103_101__101,lq103_101__69,lq103_101__103_69]
    (repeat' first | exact hf | exact hn | exact ⟨hf, hn⟩ | (show dynOrd _ _ = true; kernel_rfl) | exact subX_eq rfl rfl | exact trivial | apply And.intro | rfl | omega)
  by_cases h103_69 : name = [103, 69]
  · subst h103_69
    rw [if_neg (by decide), if_neg (by decide), if_neg (by decide), if_neg (by decide), if_neg (by decide), if_neg (by decide), if_neg (by decide), if_pos (by decide)]
    simp (maxSteps := 4000000) only [↓Qi,↓Yv,↓Yw,↓Yr,↓Yi,↓Z4,Yo,↓Ym,↓Yf,Zw,Ys,Yj,gw,Zx,Z5,↓chk,Qj,noW,↓Jb,↓Qk,↓Q7,Ql,↓Zt,↓Yq,↓Yn,↓Y7,Jc,Pg.look,Jd,Q8,Zc,false_implies,implies_true,true_and,and_true,forall_const,Je,Qm,Qn,Jf,J3,Y8,Qv,J4,hdS,Qw,J5,Z6,Yg,Z7,Yp,Nat.reduceAdd,ofV,Y9,Jg,Jh,Ji,Jj,Jk,Qo,Qx,Jl,Jm,Jn,Qa,Qy,Qz,Q0,Q1,Jo,Jp,J6,Jq,Jr,Pg.freeze,Zm,Qp,J7,Qq,Yk,Js,J8,Qc,Q9,↓Jt,Jy,Jz,J0,Qd,Ju,Jv,Xc,Qf,Yx,J9,Q3,Q4,AV.cells,TK.cells,AV.definite,AV.leaf,AV.leafy,AV.pureLeaf,AV.pureB,Yy,lay,Za,Zb,Zn,reduceCtorEq,Nat.reduceEqDiff,Nat.reduceAdd,Zs,Zh,Zo,Zp,Zi,Z3,Z9,Zj,Zk,Ya,ite_true,ite_false,Option.some.injEq,Prod.mk.injEq,Zy,Yb,Zz,and_self,exists_eq_left',Y2,J2,Qg,Y3,Y4,Yt,Yu,Zl,Zd,Nat.reduceBEq,Yc,Z0,beq_self_eq_true,Zr,Y5,Qr,Qe,Q5,Q6,Yz,Y0,Y1,Ze,Xa,Zu,Zf,Zg,Zv,Yd,Ye,Nat.reduceLeDiff,Yh,Z1,Z2,Zq,Qs,Yl,Qb,Qt,Qu,Z8,↓Xd,muC,↓J1,Qh,Y6,Ja,tk3,tk9,tk22,tk28,tz28,dz28,tk31,dz31,tk33,tk38,tz38,dz38,tk41,tk57,dz57,kNext,kTail,kBackS,kBackE,aMove,aMv,kVertA,lq103_69__119,lq103_69__87,lq103_69__98,lq103_69__66,lq103_69__101,lq103_69__69,lq103_69__103_101]
    (repeat' first | exact hf | exact hn | exact ⟨hf, hn⟩ | (show dynOrd _ _ = true; kernel_rfl) | exact subX_eq rfl rfl | exact trivial | apply And.intro | rfl | omega)
  have e119 := str_ne h119
  have e87 := str_ne h87
  have e98 := str_ne h98
  have e66 := str_ne h66
  have e101 := str_ne h101
  have e69 := str_ne h69
  have e103_101 := str_ne h103_101
  have e103_69 := str_ne h103_69
  rw [if_neg (h119)]
  rw [if_neg (h87)]
  rw [if_neg (h98)]
  rw [if_neg (h66)]
  rw [if_neg (h101)]
  rw [if_neg (h69)]
  rw [if_neg (h103_101)]
  rw [if_neg (h103_69)]
  simp (maxSteps := 4000000) only [↓Qi,↓Xb,↓Yv,↓Yw,↓Yr,↓Yi,↓Z4,Yo,↓Yf,Zw,Ys,Yj,gw,Zx,Z5,↓chk,Qj,noW,↓Jb,↓Qk,↓Q7,Ql,↓Zt,↓Xi,↓Y7,Jc,Pg.look,Jd,Q8,Bool.not_false,Zc,implies_true,true_and,and_true,forall_const,Je,Qm,Qn,Jf,J3,Y8,Qv,J4,hdS,Qw,J5,Z6,Yg,Z7,Yp,Nat.reduceAdd,ofV,Y9,Jg,Jh,Ji,Jj,Jk,Qo,Qx,Jl,Jm,Jn,Qa,Qy,Qz,Q0,Q1,Jo,Jp,J6,Jq,Jr,Pg.freeze,Zm,Qp,J7,Qq,Yk,Js,J8,Qc,Q9,↓Jt,Ju,Jv,Xc,Qf,Yx,J9,AV.cells,TK.cells,AV.definite,AV.leaf,AV.leafy,AV.pureLeaf,AV.pureB,Yy,lay,Za,Zb,Zn,reduceCtorEq,Nat.reduceEqDiff,Nat.reduceAdd,Zs,Zh,Zo,Zp,Zi,Z3,Z9,Zj,Zk,Ya,ite_true,ite_false,Option.some.injEq,Zy,Yb,Zz,and_self,exists_eq_left',Y2,J2,Xe,cStr_dec,Qg,Y3,Y4,Yt,Yu,Zl,Zd,Nat.reduceBEq,Yc,Z0,beq_self_eq_true,Zr,Y5,Ze,Xa,Zu,Zf,Zg,Zv,Yd,Ye,Nat.sub_self,Nat.reduceLeDiff,Yh,Z1,Z2,Zq,Yl,Qb,Qt,Qu,Z8,↓Xd,muC,↓callU,↓callUV,↓callUH,↓callUF,Qh,Y6,runM_eq,mkM_some,hNil_dec,hCons_dec,app3_some,hP_dec,hP1_some,hP2_some,hB1_some,hB2_arr,hBox_dec,hAgg_dec,pickF,nodupB,somes,fresh,gids,putO,ren,renL,renO,Ja,tk3,tk9,tk22,tk28,tz28,dz28,tk31,dz31,tk33,tk38,tz38,dz38,tk41,tk57,dz57,kNext,kTail,kBackS,kBackE,aMove,aMv,kVertA,e119,e87,e98,e66,e101,e69,e103_101,e103_69]
  (repeat' first | exact hf | exact hn | exact ⟨hf, hn⟩ | (show dynOrd _ _ = true; kernel_rfl) | exact subX_eq rfl rfl | exact trivial | apply And.intro | rfl | omega)
def kWordA : C1 := C1.mby (hCons (hAgg lAskd) hNil) (fun d => okText d.1.1 ∧ d.1.2.2.2.2.2.2.2.2.1 ≤ 9223372036854775807 ∧ d.1.2.2.2.1 ≤ 9223372036854775807) (fun d => aMove (wordA d.1.1 d.1.2.1 (d.1.2.2.1, d.1.2.2.2.1, d.1.2.2.2.2.1, d.1.2.2.2.2.2.1, d.1.2.2.2.2.2.2.1, d.1.2.2.2.2.2.2.2.1) d.1.2.2.2.2.2.2.2.2.1 d.1.2.2.2.2.2.2.2.2.2.1).1) (fun d => cxH (wordA d.1.1 d.1.2.1 (d.1.2.2.1, d.1.2.2.2.1, d.1.2.2.2.2.1, d.1.2.2.2.2.2.1, d.1.2.2.2.2.2.2.1, d.1.2.2.2.2.2.2.2.1) d.1.2.2.2.2.2.2.2.2.1 d.1.2.2.2.2.2.2.2.2.2.1).2)
theorem ok_wordA : C1OK Try.prog 49 kWordA := C1OK.mby (by kernel_rfl) (fun d h => calls_wordA d.1.1 d.1.2.1 (d.1.2.2.1, d.1.2.2.2.1, d.1.2.2.2.2.1, d.1.2.2.2.2.2.1, d.1.2.2.2.2.2.2.1, d.1.2.2.2.2.2.2.2.1) d.1.2.2.2.2.2.2.2.2.1 d.1.2.2.2.2.2.2.2.2.2.1 h.1 h.2.1 h.2.2) (fun _ _ => Nat.le_refl _)

/-- The seeking key that goes the other way. -/
def otherK (k : UInt8) : UInt8 := if k = 102 then 70 else if k = 70 then 102 else if k = 116 then 84 else if k = 84 then 116 else 0
set_option maxHeartbeats 4000000 in
theorem calls_otherK (k : UInt8) : CallsR Try.prog 48 [byteA k] [] (byteA (otherK k)) [] := by
  refine callsR_of (mrg := true) (dyn := []) (CtrOK.nil _) mixed Try.func48 rfl (by simp [Try.ntmps48]) (by kernel_rfl) ?_
  rw [show Try.f48.results.toList = [.tmp 2] from by kernel_rfl]
  by_cases h102 : k = 102
  · subst h102
    rw [show otherK 102 = 70 by decide]
    simp (maxSteps := 4000000) only [↓Qi,↓Yv,↓Yw,↓Yr,↓Yi,↓Z4,↓Ym,Zw,Ys,Yj,gw,Zx,Z5,↓chk,Qj,↓Jb,↓Qk,Ql,↓Zt,↓Yq,↓Yn,↓Y7,Jc,Pg.look,Jd,intOp,Zc,implies_true,Je,Qm,Qn,Jf,intV,Y8,Z6,Z7,ofV,Y9,Jg,Jh,Ji,Jj,Jk,Qo,Jl,Jm,Jn,Qa,Jo,Jp,Jq,Jr,Pg.freeze,Zm,Qp,Qq,Yk,Js,reduceCtorEq,Nat.reduceEqDiff,Zh,Zi,ite_true,ite_false,and_self,Xg,Zd,beq_self_eq_true,Jw,Yl,Qb,Qt,Qu,Z8,byteA,UInt8.reduceToNat]
    all_goals first | rfl | decide
  by_cases h70 : k = 70
  · subst h70
    rw [show otherK 70 = 102 by decide]
    simp (maxSteps := 4000000) only [↓Qi,↓Yv,↓Yw,↓Yr,↓Yi,↓Z4,↓Ym,↓Yf,Zw,Ys,Yj,gw,Zx,Z5,↓chk,Qj,↓Jb,↓Qk,Ql,↓Zt,↓Yq,↓Yn,↓Y7,Jc,Pg.look,Jd,intOp,Zc,implies_true,Je,Qm,Qn,Jf,intV,Y8,Z6,Z7,ofV,Y9,Jg,Jh,Ji,Jj,Jk,Qo,Jl,Jm,Jn,Qa,Jo,Jp,Jq,Jr,Pg.freeze,Zm,Qp,Qq,Yk,Js,reduceCtorEq,Nat.reduceEqDiff,Zh,Zi,ite_true,ite_false,and_self,Xg,Zd,beq_self_eq_true,Jw,Int.reduceBEq,Yl,Qb,Qt,Qu,Z8,byteA,UInt8.reduceToNat]
    all_goals first | rfl | decide
  by_cases h116 : k = 116
  · subst h116
    rw [show otherK 116 = 84 by decide]
    simp (maxSteps := 4000000) only [↓Qi,↓Yv,↓Yw,↓Yr,↓Yi,↓Z4,↓Ym,↓Yf,Zw,Ys,Yj,gw,Zx,Z5,↓chk,Qj,↓Jb,↓Qk,Ql,↓Zt,↓Yq,↓Yn,↓Y7,Jc,Pg.look,Jd,intOp,Zc,implies_true,Je,Qm,Qn,Jf,intV,Y8,Z6,Z7,ofV,Y9,Jg,Jh,Ji,Jj,Jk,Qo,Jl,Jm,Jn,Qa,Jo,Jp,Jq,Jr,Pg.freeze,Zm,Qp,Qq,Yk,Js,reduceCtorEq,Nat.reduceEqDiff,Zh,Zi,ite_true,ite_false,and_self,Xg,Zd,beq_self_eq_true,Jw,Int.reduceBEq,Yl,Qb,Qt,Qu,Z8,byteA,UInt8.reduceToNat]
    all_goals first | rfl | decide
  by_cases h84 : k = 84
  · subst h84
    rw [show otherK 84 = 116 by decide]
    simp (maxSteps := 4000000) only [↓Qi,↓Yv,↓Yw,↓Yr,↓Yi,↓Z4,↓Ym,↓Yf,Zw,Ys,Yj,gw,Zx,Z5,↓chk,Qj,↓Jb,↓Qk,Ql,↓Zt,↓Yq,↓Yn,↓Y7,Jc,Pg.look,Jd,intOp,Zc,implies_true,Je,Qm,Qn,Jf,intV,Y8,Z6,Z7,ofV,Y9,Jg,Jh,Ji,Jj,Jk,Qo,Jl,Jm,Jn,Qa,Jo,Jp,Jq,Jr,Pg.freeze,Zm,Qp,Qq,Yk,Js,reduceCtorEq,Nat.reduceEqDiff,Zh,Zi,ite_true,ite_false,and_self,Xg,Zd,beq_self_eq_true,Jw,Int.reduceBEq,Yl,Qb,Qt,Qu,Z8,byteA,UInt8.reduceToNat]
    all_goals first | rfl | decide
  have e1 := byte_lit k 102 102 rfl h102
  have e2 := byte_lit k 70 70 rfl h70
  have e3 := byte_lit k 116 116 rfl h116
  have e4 := byte_lit k 84 84 rfl h84
  have e : otherK k = 0 := by unfold otherK; rw [if_neg h102, if_neg h70, if_neg h116, if_neg h84]
  rw [e]
  simp (maxSteps := 4000000) only [↓Qi,↓Xb,↓Yv,↓Yw,↓Yr,↓Yi,↓Z4,↓Yf,Zw,Ys,Yj,gw,Zx,Z5,↓chk,Qj,↓Jb,↓Qk,Ql,↓Zt,↓Xi,↓Y7,Jc,Pg.look,Jd,intOp,Zc,implies_true,Je,Qm,Qn,Jf,intV,Y8,Z6,Z7,ofV,Y9,Jg,Jh,Ji,Jj,Jk,Qo,Jl,Jm,Jn,Qa,Jo,Jp,Jq,Jr,Pg.freeze,Zm,Qp,Qq,Yk,Js,reduceCtorEq,Nat.reduceEqDiff,Zh,Zi,ite_true,ite_false,and_self,Xg,Zd,Jw,Yl,Qb,Qt,Qu,Z8,byteA,UInt8.reduceToNat,e1,e2,e3,e4]
  all_goals first | rfl | decide
def kOtherK : C1 := C1.by [.id] (lOne cByte) (fun _ => True) (fun d => byteA (otherK d)) (fun _ => [])
theorem ok_otherK : C1OK Try.prog 48 kOtherK := C1OK.by (by kernel_rfl) (fun d _ => calls_otherK d) (fun _ => rfl) (fun _ => rfl)
def setKC (x : Cx) (k c : UInt8) : Cx := (x.1, x.2.1, x.2.2.1, x.2.2.2.1, k, c, x.2.2.2.2.2.2)
theorem lq108__104 : (([108] : List UInt8) == [104]) = false := rfl
theorem lq48__104 : (([48] : List UInt8) == [104]) = false := rfl
theorem lq48__108 : (([48] : List UInt8) == [108]) = false := rfl
theorem lq94__104 : (([94] : List UInt8) == [104]) = false := rfl
theorem lq94__108 : (([94] : List UInt8) == [108]) = false := rfl
theorem lq94__48 : (([94] : List UInt8) == [48]) = false := rfl
theorem lq36__104 : (([36] : List UInt8) == [104]) = false := rfl
theorem lq36__108 : (([36] : List UInt8) == [108]) = false := rfl
theorem lq36__48 : (([36] : List UInt8) == [48]) = false := rfl
theorem lq36__94 : (([36] : List UInt8) == [94]) = false := rfl
theorem lq124__104 : (([124] : List UInt8) == [104]) = false := rfl
theorem lq124__108 : (([124] : List UInt8) == [108]) = false := rfl
theorem lq124__48 : (([124] : List UInt8) == [48]) = false := rfl
theorem lq124__94 : (([124] : List UInt8) == [94]) = false := rfl
theorem lq124__36 : (([124] : List UInt8) == [36]) = false := rfl
theorem lq102__104 : (([102] : List UInt8) == [104]) = false := rfl
theorem lq102__108 : (([102] : List UInt8) == [108]) = false := rfl
theorem lq102__48 : (([102] : List UInt8) == [48]) = false := rfl
theorem lq102__94 : (([102] : List UInt8) == [94]) = false := rfl
theorem lq102__36 : (([102] : List UInt8) == [36]) = false := rfl
theorem lq102__124 : (([102] : List UInt8) == [124]) = false := rfl
theorem lq70__104 : (([70] : List UInt8) == [104]) = false := rfl
theorem lq70__108 : (([70] : List UInt8) == [108]) = false := rfl
theorem lq70__48 : (([70] : List UInt8) == [48]) = false := rfl
theorem lq70__94 : (([70] : List UInt8) == [94]) = false := rfl
theorem lq70__36 : (([70] : List UInt8) == [36]) = false := rfl
theorem lq70__124 : (([70] : List UInt8) == [124]) = false := rfl
theorem lq70__102 : (([70] : List UInt8) == [102]) = false := rfl
theorem lq116__104 : (([116] : List UInt8) == [104]) = false := rfl
theorem lq116__108 : (([116] : List UInt8) == [108]) = false := rfl
theorem lq116__48 : (([116] : List UInt8) == [48]) = false := rfl
theorem lq116__94 : (([116] : List UInt8) == [94]) = false := rfl
theorem lq116__36 : (([116] : List UInt8) == [36]) = false := rfl
theorem lq116__124 : (([116] : List UInt8) == [124]) = false := rfl
theorem lq116__102 : (([116] : List UInt8) == [102]) = false := rfl
theorem lq116__70 : (([116] : List UInt8) == [70]) = false := rfl
theorem lq84__104 : (([84] : List UInt8) == [104]) = false := rfl
theorem lq84__108 : (([84] : List UInt8) == [108]) = false := rfl
theorem lq84__48 : (([84] : List UInt8) == [48]) = false := rfl
theorem lq84__94 : (([84] : List UInt8) == [94]) = false := rfl
theorem lq84__36 : (([84] : List UInt8) == [36]) = false := rfl
theorem lq84__124 : (([84] : List UInt8) == [124]) = false := rfl
theorem lq84__102 : (([84] : List UInt8) == [102]) = false := rfl
theorem lq84__70 : (([84] : List UInt8) == [70]) = false := rfl
theorem lq84__116 : (([84] : List UInt8) == [116]) = false := rfl
theorem lq59__104 : (([59] : List UInt8) == [104]) = false := rfl
theorem lq59__108 : (([59] : List UInt8) == [108]) = false := rfl
theorem lq59__48 : (([59] : List UInt8) == [48]) = false := rfl
theorem lq59__94 : (([59] : List UInt8) == [94]) = false := rfl
theorem lq59__36 : (([59] : List UInt8) == [36]) = false := rfl
theorem lq59__124 : (([59] : List UInt8) == [124]) = false := rfl
theorem lq59__102 : (([59] : List UInt8) == [102]) = false := rfl
theorem lq59__70 : (([59] : List UInt8) == [70]) = false := rfl
theorem lq59__116 : (([59] : List UInt8) == [116]) = false := rfl
theorem lq59__84 : (([59] : List UInt8) == [84]) = false := rfl
theorem lq44__104 : (([44] : List UInt8) == [104]) = false := rfl
theorem lq44__108 : (([44] : List UInt8) == [108]) = false := rfl
theorem lq44__48 : (([44] : List UInt8) == [48]) = false := rfl
theorem lq44__94 : (([44] : List UInt8) == [94]) = false := rfl
theorem lq44__36 : (([44] : List UInt8) == [36]) = false := rfl
theorem lq44__124 : (([44] : List UInt8) == [124]) = false := rfl
theorem lq44__102 : (([44] : List UInt8) == [102]) = false := rfl
theorem lq44__70 : (([44] : List UInt8) == [70]) = false := rfl
theorem lq44__116 : (([44] : List UInt8) == [116]) = false := rfl
theorem lq44__84 : (([44] : List UInt8) == [84]) = false := rfl
theorem lq44__59 : (([44] : List UInt8) == [59]) = false := rfl
def lineA (ls : Ls) (x : Cx) (c : Cm) (n : Int) (op : Bool) : Res :=
  if c.2.2.2.1 = [104] then (leftP ls (curOf x) n, x)
  else   if c.2.2.2.1 = [108] then (rightP ls (curOf x) n op, x)
  else   if c.2.2.2.1 = [48] then (zeroP ls (curOf x), x)
  else   if c.2.2.2.1 = [94] then (firstP ls (curOf x), x)
  else   if c.2.2.2.1 = [36] then (lastP ls (curOf x) n, x)
  else   if c.2.2.2.1 = [124] then (colP ls (curOf x) n, x)
  else   if c.2.2.2.1 = [102] then (seekP ls (curOf x) 102 c.2.2.2.2.1 n, setKC x 102 c.2.2.2.2.1)
  else   if c.2.2.2.1 = [70] then (seekP ls (curOf x) 70 c.2.2.2.2.1 n, setKC x 70 c.2.2.2.2.1)
  else   if c.2.2.2.1 = [116] then (seekP ls (curOf x) 116 c.2.2.2.2.1 n, setKC x 116 c.2.2.2.2.1)
  else   if c.2.2.2.1 = [84] then (seekP ls (curOf x) 84 c.2.2.2.2.1 n, setKC x 84 c.2.2.2.2.1)
  else   if c.2.2.2.1 = [59] then (seekP ls (curOf x) x.2.2.2.2.1 x.2.2.2.2.2.1 n, x)
  else   if c.2.2.2.1 = [44] then (if x.2.2.2.2.1 = 0 then mNone else seekP ls (curOf x) (otherK x.2.2.2.2.1) x.2.2.2.2.2.1 n, x)
  else wordA ls x c n op

set_option maxRecDepth 20000 in
set_option maxHeartbeats 8000000 in
theorem calls_lineA (ls : Ls) (x : Cx) (c : Cm) (n : Int) (op : Bool) (hf : okText ls) (hn : n ≤ 9223372036854775807) (hcn : c.2.1 ≤ 9223372036854775807) : CallsR Try.prog 23 [aAsk ls c n op] (cxH x) (aMove (lineA ls x c n op).1) (cxH (lineA ls x c n op).2) := by
  refine callsR_of (mrg := true) (dyn := [1, 19]) (CtrOK.cons ok_Left (CtrOK.cons ok_Right (CtrOK.cons ok_Zero (CtrOK.cons ok_CFirst (CtrOK.cons ok_CLast (CtrOK.cons ok_Column (CtrOK.cons ok_Seek (CtrOK.cons ok_otherK (CtrOK.cons ok_wordA (CtrOK.nil _)))))))))) mixed Try.func23 rfl (by simp [Try.ntmps23]) (by kernel_rfl) ?_
  rw [show Try.f23.results.toList = [.cell 2 38, .tmp 3] from by kernel_rfl]
  have hll := hf.1
  obtain ⟨x1, x2, w, t, ky, kc, fd, bk⟩ := x
  obtain ⟨rg, cn, opr, name, arg, text⟩ := c
  unfold lineA curOf
  dsimp only
  by_cases h104 : name = [104]
  · subst h104
    rw [if_pos (by decide)]
    simp (maxSteps := 4000000) only [↓Qi,↓Yv,↓Yw,↓Yr,↓Yi,↓Z4,Yo,↓Ym,Zw,Ys,Yj,gw,Zx,Z5,↓chk,Qj,noW,↓Jb,↓Qk,↓Q7,Ql,↓Zt,↓Yq,↓Yn,↓Y7,Jc,Pg.look,Jd,Q8,Zc,false_implies,implies_true,true_and,and_true,forall_const,Je,Qm,Qn,Jf,J3,Y8,Qv,J4,hdS,Qw,J5,Z6,Yg,Z7,Yp,Nat.reduceAdd,ofV,Y9,Jg,Jh,Ji,Jj,Jk,Qo,Qx,Jl,Jm,Jn,Qa,Qy,Qz,Q0,Q1,Jo,Jp,J6,Jq,Jr,Pg.freeze,Zm,Qp,J7,Qq,Yk,Js,J8,Qc,Q9,↓Jt,Jy,Jz,J0,Qd,Ju,Jv,Xc,Qf,Yx,J9,Q3,Q4,AV.cells,TK.cells,AV.definite,AV.leaf,AV.leafy,AV.pureLeaf,AV.pureB,Yy,lay,Za,Zb,Zn,reduceCtorEq,Nat.reduceEqDiff,Nat.reduceAdd,Zs,Zh,Zo,Zp,Zi,Z3,Z9,Zj,Zk,Ya,ite_true,ite_false,Option.some.injEq,Prod.mk.injEq,Zy,Yb,Zz,and_self,exists_eq_left',Y2,Qg,Y3,Y4,Yt,Yu,Zl,Zd,Nat.reduceBEq,Yc,Z0,beq_self_eq_true,Zr,Y5,Qr,Qe,Q5,Q6,Yz,Y0,Y1,Ze,Xa,Zu,Zf,Zg,Zv,Yd,Ye,Nat.reduceLeDiff,Yh,Z1,Z2,Zq,Qs,Yl,Qb,Qt,Qu,Z8,↓Xd,muC,↓J1,Qh,Y6,Ja,tk3,tk9,tk22,tk28,tz28,dz28,tk31,dz31,tk33,tk38,tz38,dz38,tk41,tk57,dz57,kMvN,kMv0,kMvNB,kSeek,kOtherK,aMove,aMv,kWordA]
    (repeat' first | exact hf | exact hn | exact ⟨hf, hn⟩ | (show dynOrd _ _ = true; kernel_rfl) | exact subX_eq rfl rfl | exact trivial | apply And.intro | rfl | omega)
  by_cases h108 : name = [108]
  · subst h108
    rw [if_neg (by decide), if_pos (by decide)]
    simp (maxSteps := 4000000) only [↓Qi,↓Yv,↓Yw,↓Yr,↓Yi,↓Z4,Yo,↓Ym,↓Yf,Zw,Ys,Yj,gw,Zx,Z5,↓chk,Qj,noW,↓Jb,↓Qk,↓Q7,Ql,↓Zt,↓Yq,↓Yn,↓Y7,Jc,Pg.look,Jd,Q8,Zc,false_implies,implies_true,true_and,and_true,forall_const,Je,Qm,Qn,Jf,J3,Y8,Qv,J4,hdS,Qw,J5,Z6,Yg,Z7,Yp,Nat.reduceAdd,ofV,Y9,Jg,Jh,Ji,Jj,Jk,Qo,Qx,Jl,Jm,Jn,Qa,Qy,Qz,Q0,Q1,Jo,Jp,J6,Jq,Jr,Pg.freeze,Zm,Qp,J7,Qq,Yk,Js,J8,Qc,Q9,↓Jt,Jy,Jz,J0,Qd,Ju,Jv,Xc,Qf,Yx,J9,Q3,Q4,AV.cells,TK.cells,AV.definite,AV.leaf,AV.leafy,AV.pureLeaf,AV.pureB,Yy,lay,Za,Zb,Zn,reduceCtorEq,Nat.reduceEqDiff,Nat.reduceAdd,Zs,Zh,Zo,Zp,Zi,Z3,Z9,Zj,Zk,Ya,ite_true,ite_false,Option.some.injEq,Prod.mk.injEq,Zy,Yb,Zz,and_self,exists_eq_left',Y2,J2,Qg,Y3,Y4,Yt,Yu,Zl,Zd,Nat.reduceBEq,Yc,Z0,beq_self_eq_true,Zr,Y5,Qr,Qe,Q5,Q6,Yz,Y0,Y1,Ze,Xa,Zu,Zf,Zg,Zv,Yd,Ye,Nat.reduceLeDiff,Yh,Z1,Z2,Zq,Qs,Yl,Qb,Qt,Qu,Z8,↓Xd,muC,↓J1,Qh,Y6,Ja,tk3,tk4,tk9,tk22,tk28,tz28,dz28,tk31,dz31,tk33,tk38,tz38,dz38,tk41,tk57,dz57,kMvN,kMv0,kMvNB,kSeek,kOtherK,aMove,aMv,kWordA,lq108__104]
    (repeat' first | exact hf | exact hn | exact ⟨hf, hn⟩ | (show dynOrd _ _ = true; kernel_rfl) | exact subX_eq rfl rfl | exact trivial | apply And.intro | rfl | omega)
  by_cases h48 : name = [48]
  · subst h48
    rw [if_neg (by decide), if_neg (by decide), if_pos (by decide)]
    simp (maxSteps := 4000000) only [↓Qi,↓Yv,↓Yw,↓Yr,↓Yi,↓Z4,Yo,↓Ym,↓Yf,Zw,Ys,Yj,gw,Zx,Z5,↓chk,Qj,noW,↓Jb,↓Qk,↓Q7,Ql,↓Zt,↓Yq,↓Yn,↓Y7,Jc,Pg.look,Jd,Q8,Zc,false_implies,implies_true,true_and,and_true,forall_const,Je,Qm,Qn,Jf,J3,Y8,Qv,J4,hdS,Qw,J5,Z6,Yg,Z7,Yp,Nat.reduceAdd,ofV,Y9,Jg,Jh,Ji,Jj,Jk,Qo,Qx,Jl,Jm,Jn,Qa,Qy,Qz,Q0,Q1,Jo,Jp,J6,Jq,Jr,Pg.freeze,Zm,Qp,J7,Qq,Yk,Js,J8,Qc,Q9,↓Jt,Jy,Jz,J0,Qd,Ju,Jv,Xc,Qf,Yx,J9,Q3,Q4,AV.cells,TK.cells,AV.definite,AV.leaf,AV.leafy,AV.pureLeaf,AV.pureB,Yy,lay,Za,Zb,Zn,reduceCtorEq,Nat.reduceEqDiff,Nat.reduceAdd,Zs,Zh,Zo,Zp,Zi,Z3,Z9,Zj,Zk,Ya,ite_true,ite_false,Option.some.injEq,Prod.mk.injEq,Zy,Yb,Zz,and_self,exists_eq_left',Y2,Qg,Y3,Y4,Yt,Yu,Zl,Zd,Nat.reduceBEq,Yc,Z0,beq_self_eq_true,Zr,Y5,Qr,Qe,Q5,Q6,Yz,Y0,Y1,Ze,Xa,Zu,Zf,Zg,Zv,Yd,Ye,Nat.reduceLeDiff,Yh,Z1,Z2,Zq,Qs,Yl,Qb,Qt,Qu,Z8,↓Xd,muC,↓J1,Qh,Y6,Ja,tk3,tk9,tk22,tk28,tz28,dz28,tk31,dz31,tk33,tk38,tz38,dz38,tk41,tk57,dz57,kMvN,kMv0,kMvNB,kSeek,kOtherK,aMove,aMv,kWordA,lq48__104,lq48__108]
    (repeat' first | exact hf | exact hn | exact ⟨hf, hn⟩ | (show dynOrd _ _ = true; kernel_rfl) | exact subX_eq rfl rfl | exact trivial | apply And.intro | rfl | omega)
  by_cases h94 : name = [94]
  · subst h94
    rw [if_neg (by decide), if_neg (by decide), if_neg (by decide), if_pos (by decide)]
    simp (maxSteps := 4000000) only [↓Qi,↓Yv,↓Yw,↓Yr,↓Yi,↓Z4,Yo,↓Ym,↓Yf,Zw,Ys,Yj,gw,Zx,Z5,↓chk,Qj,noW,↓Jb,↓Qk,↓Q7,Ql,↓Zt,↓Yq,↓Yn,↓Y7,Jc,Pg.look,Jd,Q8,Zc,false_implies,implies_true,true_and,and_true,forall_const,Je,Qm,Qn,Jf,J3,Y8,Qv,J4,hdS,Qw,J5,Z6,Yg,Z7,Yp,Nat.reduceAdd,ofV,Y9,Jg,Jh,Ji,Jj,Jk,Qo,Qx,Jl,Jm,Jn,Qa,Qy,Qz,Q0,Q1,Jo,Jp,J6,Jq,Jr,Pg.freeze,Zm,Qp,J7,Qq,Yk,Js,J8,Qc,Q9,↓Jt,Jy,Jz,J0,Qd,Ju,Jv,Xc,Qf,Yx,J9,Q3,Q4,AV.cells,TK.cells,AV.definite,AV.leaf,AV.leafy,AV.pureLeaf,AV.pureB,Yy,lay,Za,Zb,Zn,reduceCtorEq,Nat.reduceEqDiff,Nat.reduceAdd,Zs,Zh,Zo,Zp,Zi,Z3,Z9,Zj,Zk,Ya,ite_true,ite_false,Option.some.injEq,Prod.mk.injEq,Zy,Yb,Zz,and_self,exists_eq_left',Y2,Qg,Y3,Y4,Yt,Yu,Zl,Zd,Nat.reduceBEq,Yc,Z0,beq_self_eq_true,Zr,Y5,Qr,Qe,Q5,Q6,Yz,Y0,Y1,Ze,Xa,Zu,Zf,Zg,Zv,Yd,Ye,Nat.reduceLeDiff,Yh,Z1,Z2,Zq,Qs,Yl,Qb,Qt,Qu,Z8,↓Xd,muC,↓J1,Qh,Y6,Ja,tk3,tk9,tk22,tk28,tz28,dz28,tk31,dz31,tk33,tk38,tz38,dz38,tk41,tk57,dz57,kMvN,kMv0,kMvNB,kSeek,kOtherK,aMove,aMv,kWordA,lq94__104,lq94__108,lq94__48]
    (repeat' first | exact hf | exact hn | exact ⟨hf, hn⟩ | (show dynOrd _ _ = true; kernel_rfl) | exact subX_eq rfl rfl | exact trivial | apply And.intro | rfl | omega)
  by_cases h36 : name = [36]
  · subst h36
    rw [if_neg (by decide), if_neg (by decide), if_neg (by decide), if_neg (by decide), if_pos (by decide)]
    simp (maxSteps := 4000000) only [↓Qi,↓Yv,↓Yw,↓Yr,↓Yi,↓Z4,Yo,↓Ym,↓Yf,Zw,Ys,Yj,gw,Zx,Z5,↓chk,Qj,noW,↓Jb,↓Qk,↓Q7,Ql,↓Zt,↓Yq,↓Yn,↓Y7,Jc,Pg.look,Jd,Q8,Zc,false_implies,implies_true,true_and,and_true,forall_const,Je,Qm,Qn,Jf,J3,Y8,Qv,J4,hdS,Qw,J5,Z6,Yg,Z7,Yp,Nat.reduceAdd,ofV,Y9,Jg,Jh,Ji,Jj,Jk,Qo,Qx,Jl,Jm,Jn,Qa,Qy,Qz,Q0,Q1,Jo,Jp,J6,Jq,Jr,Pg.freeze,Zm,Qp,J7,Qq,Yk,Js,J8,Qc,Q9,↓Jt,Jy,Jz,J0,Qd,Ju,Jv,Xc,Qf,Yx,J9,Q3,Q4,AV.cells,TK.cells,AV.definite,AV.leaf,AV.leafy,AV.pureLeaf,AV.pureB,Yy,lay,Za,Zb,Zn,reduceCtorEq,Nat.reduceEqDiff,Nat.reduceAdd,Zs,Zh,Zo,Zp,Zi,Z3,Z9,Zj,Zk,Ya,ite_true,ite_false,Option.some.injEq,Prod.mk.injEq,Zy,Yb,Zz,and_self,exists_eq_left',Y2,Qg,Y3,Y4,Yt,Yu,Zl,Zd,Nat.reduceBEq,Yc,Z0,beq_self_eq_true,Zr,Y5,Qr,Qe,Q5,Q6,Yz,Y0,Y1,Ze,Xa,Zu,Zf,Zg,Zv,Yd,Ye,Nat.reduceLeDiff,Yh,Z1,Z2,Zq,Qs,Yl,Qb,Qt,Qu,Z8,↓Xd,muC,↓J1,Qh,Y6,Ja,tk3,tk9,tk22,tk28,tz28,dz28,tk31,dz31,tk33,tk38,tz38,dz38,tk41,tk57,dz57,kMvN,kMv0,kMvNB,kSeek,kOtherK,aMove,aMv,kWordA,lq36__104,lq36__108,lq36__48,lq36__94]
    (repeat' first | exact hf | exact hn | exact ⟨hf, hn⟩ | (show dynOrd _ _ = true; kernel_rfl) | exact subX_eq rfl rfl | exact trivial | apply And.intro | rfl | omega)
  by_cases h124 : name = [124]
  · subst h124
    rw [if_neg (by decide), if_neg (by decide), if_neg (by decide), if_neg (by decide), if_neg (by decide), if_pos (by decide)]
    simp (maxSteps := 4000000) only [↓Qi,↓Yv,↓Yw,↓Yr,↓Yi,↓Z4,Yo,↓Ym,↓Yf,Zw,Ys,Yj,gw,Zx,Z5,↓chk,Qj,noW,↓Jb,↓Qk,↓Q7,Ql,↓Zt,↓Yq,↓Yn,↓Y7,Jc,Pg.look,Jd,Q8,Zc,false_implies,implies_true,true_and,and_true,forall_const,Je,Qm,Qn,Jf,J3,Y8,Qv,J4,hdS,Qw,J5,Z6,Yg,Z7,Yp,Nat.reduceAdd,ofV,Y9,Jg,Jh,Ji,Jj,Jk,Qo,Qx,Jl,Jm,Jn,Qa,Qy,Qz,Q0,Q1,Jo,Jp,J6,Jq,Jr,Pg.freeze,Zm,Qp,J7,Qq,Yk,Js,J8,Qc,Q9,↓Jt,Jy,Jz,J0,Qd,Ju,Jv,Xc,Qf,Yx,J9,Q3,Q4,AV.cells,TK.cells,AV.definite,AV.leaf,AV.leafy,AV.pureLeaf,AV.pureB,Yy,lay,Za,Zb,Zn,reduceCtorEq,Nat.reduceEqDiff,Nat.reduceAdd,Zs,Zh,Zo,Zp,Zi,Z3,Z9,Zj,Zk,Ya,ite_true,ite_false,Option.some.injEq,Prod.mk.injEq,Zy,Yb,Zz,and_self,exists_eq_left',Y2,Qg,Y3,Y4,Yt,Yu,Zl,Zd,Nat.reduceBEq,Yc,Z0,beq_self_eq_true,Zr,Y5,Qr,Qe,Q5,Q6,Yz,Y0,Y1,Ze,Xa,Zu,Zf,Zg,Zv,Yd,Ye,Nat.reduceLeDiff,Yh,Z1,Z2,Zq,Qs,Yl,Qb,Qt,Qu,Z8,↓Xd,muC,↓J1,Qh,Y6,Ja,tk3,tk9,tk22,tk28,tz28,dz28,tk31,dz31,tk33,tk38,tz38,dz38,tk41,tk57,dz57,kMvN,kMv0,kMvNB,kSeek,kOtherK,aMove,aMv,kWordA,lq124__104,lq124__108,lq124__48,lq124__94,lq124__36]
    (repeat' first | exact hf | exact hn | exact ⟨hf, hn⟩ | (show dynOrd _ _ = true; kernel_rfl) | exact subX_eq rfl rfl | exact trivial | apply And.intro | rfl | omega)
  by_cases h102 : name = [102]
  · subst h102
    rw [if_neg (by decide), if_neg (by decide), if_neg (by decide), if_neg (by decide), if_neg (by decide), if_neg (by decide), if_pos (by decide)]
    simp (maxSteps := 4000000) only [↓Qi,↓Xb,↓Yv,↓Yw,↓Yr,↓Yi,↓Z4,Yo,↓Ym,↓Yf,Zw,Ys,Yj,gw,Zx,Z5,↓chk,Qj,noW,↓Jb,↓Qk,↓Q7,Ql,↓Zt,↓Yq,↓Yn,↓Y7,Jc,Pg.look,Jd,Q8,Zc,false_implies,implies_true,true_and,and_true,forall_const,Je,Qm,Qn,Jf,J3,Y8,Qv,J4,hdS,Qw,J5,Z6,Yg,Z7,Yp,Nat.reduceAdd,ofV,Y9,Jg,Jh,Ji,Jj,Jk,Qo,Qx,Jl,Jm,Jn,Qa,Qy,Qz,Q0,Q1,Jo,Jp,J6,Jq,Jr,Pg.freeze,Zm,Qp,J7,Qq,Yk,Js,J8,Qc,Q9,↓Jt,Jy,Jz,J0,Qd,Ju,Jv,Xc,Qf,Yx,J9,Q3,Q4,AV.cells,TK.cells,AV.definite,AV.leaf,AV.leafy,AV.pureLeaf,AV.pureB,Yy,lay,Za,Zb,Zn,reduceCtorEq,Nat.reduceEqDiff,Nat.reduceAdd,Zs,Zh,Zo,Zp,Zi,Z3,Z9,Zj,Zk,Ya,Int.reduceToNat,ite_true,ite_false,Option.some.injEq,Q2,Jx,Prod.mk.injEq,Zy,Yb,Zz,and_self,exists_eq_left',Y2,Xe,Int.reduceLE,Qg,Y3,Y4,Yt,Yu,Zl,Zd,Nat.reduceBEq,Yc,Z0,beq_self_eq_true,Xh,Zr,Y5,Qr,Qe,Q5,Q6,Yz,Y0,Y1,Ze,Xa,Zu,Zf,Zg,Zv,Yd,Ye,Nat.reduceLeDiff,Yh,Z1,Z2,Zq,Qs,Yl,Qb,Qt,Qu,Xf,Z8,pureC,↓Xd,muC,↓J1,Qh,Y6,Ja,tk3,tk5,tk9,tk22,tk28,tz28,dz28,tk31,dz31,tk33,tk38,tz38,dz38,tk41,tk57,dz57,kMvN,kMv0,kMvNB,kSeek,kOtherK,setKC,aMove,aMv,kWordA,lq102__104,lq102__108,lq102__48,lq102__94,lq102__36,lq102__124]
    (repeat' first | exact hf | exact hn | exact ⟨hf, hn⟩ | (show dynOrd _ _ = true; kernel_rfl) | exact subX_eq rfl rfl | exact trivial | apply And.intro | rfl | omega)
  by_cases h70 : name = [70]
  · subst h70
    rw [if_neg (by decide), if_neg (by decide), if_neg (by decide), if_neg (by decide), if_neg (by decide), if_neg (by decide), if_neg (by decide), if_pos (by decide)]
    simp (maxSteps := 4000000) only [↓Qi,↓Xb,↓Yv,↓Yw,↓Yr,↓Yi,↓Z4,Yo,↓Ym,↓Yf,Zw,Ys,Yj,gw,Zx,Z5,↓chk,Qj,noW,↓Jb,↓Qk,↓Q7,Ql,↓Zt,↓Yq,↓Yn,↓Y7,Jc,Pg.look,Jd,Q8,Zc,false_implies,implies_true,true_and,and_true,forall_const,Je,Qm,Qn,Jf,J3,Y8,Qv,J4,hdS,Qw,J5,Z6,Yg,Z7,Yp,Nat.reduceAdd,ofV,Y9,Jg,Jh,Ji,Jj,Jk,Qo,Qx,Jl,Jm,Jn,Qa,Qy,Qz,Q0,Q1,Jo,Jp,J6,Jq,Jr,Pg.freeze,Zm,Qp,J7,Qq,Yk,Js,J8,Qc,Q9,↓Jt,Jy,Jz,J0,Qd,Ju,Jv,Xc,Qf,Yx,J9,Q3,Q4,AV.cells,TK.cells,AV.definite,AV.leaf,AV.leafy,AV.pureLeaf,AV.pureB,Yy,lay,Za,Zb,Zn,reduceCtorEq,Nat.reduceEqDiff,Nat.reduceAdd,Zs,Zh,Zo,Zp,Zi,Z3,Z9,Zj,Zk,Ya,Int.reduceToNat,ite_true,ite_false,Option.some.injEq,Q2,Jx,Prod.mk.injEq,Zy,Yb,Zz,and_self,exists_eq_left',Y2,Xe,Int.reduceLE,Qg,Y3,Y4,Yt,Yu,Zl,Zd,Nat.reduceBEq,Yc,Z0,beq_self_eq_true,Xh,Zr,Y5,Qr,Qe,Q5,Q6,Yz,Y0,Y1,Ze,Xa,Zu,Zf,Zg,Zv,Yd,Ye,Nat.reduceLeDiff,Yh,Z1,Z2,Zq,Qs,Yl,Qb,Qt,Qu,Xf,Z8,pureC,↓Xd,muC,↓J1,Qh,Y6,Ja,tk3,tk5,tk9,tk22,tk28,tz28,dz28,tk31,dz31,tk33,tk38,tz38,dz38,tk41,tk57,dz57,kMvN,kMv0,kMvNB,kSeek,kOtherK,setKC,aMove,aMv,kWordA,lq70__104,lq70__108,lq70__48,lq70__94,lq70__36,lq70__124,lq70__102]
    (repeat' first | exact hf | exact hn | exact ⟨hf, hn⟩ | (show dynOrd _ _ = true; kernel_rfl) | exact subX_eq rfl rfl | exact trivial | apply And.intro | rfl | omega)
  by_cases h116 : name = [116]
  · subst h116
    rw [if_neg (by decide), if_neg (by decide), if_neg (by decide), if_neg (by decide), if_neg (by decide), if_neg (by decide), if_neg (by decide), if_neg (by decide), if_pos (by decide)]
    simp (maxSteps := 4000000) only [↓Qi,↓Xb,↓Yv,↓Yw,↓Yr,↓Yi,↓Z4,Yo,↓Ym,↓Yf,Zw,Ys,Yj,gw,Zx,Z5,↓chk,Qj,noW,↓Jb,↓Qk,↓Q7,Ql,↓Zt,↓Yq,↓Yn,↓Y7,Jc,Pg.look,Jd,Q8,Zc,false_implies,implies_true,true_and,and_true,forall_const,Je,Qm,Qn,Jf,J3,Y8,Qv,J4,hdS,Qw,J5,Z6,Yg,Z7,Yp,Nat.reduceAdd,ofV,Y9,Jg,Jh,Ji,Jj,Jk,Qo,Qx,Jl,Jm,Jn,Qa,Qy,Qz,Q0,Q1,Jo,Jp,J6,Jq,Jr,Pg.freeze,Zm,Qp,J7,Qq,Yk,Js,J8,Qc,Q9,↓Jt,Jy,Jz,J0,Qd,Ju,Jv,Xc,Qf,Yx,J9,Q3,Q4,AV.cells,TK.cells,AV.definite,AV.leaf,AV.leafy,AV.pureLeaf,AV.pureB,Yy,lay,Za,Zb,Zn,reduceCtorEq,Nat.reduceEqDiff,Nat.reduceAdd,Zs,Zh,Zo,Zp,Zi,Z3,Z9,Zj,Zk,Ya,Int.reduceToNat,ite_true,ite_false,Option.some.injEq,Q2,Jx,Prod.mk.injEq,Zy,Yb,Zz,and_self,exists_eq_left',Y2,Xe,Int.reduceLE,Qg,Y3,Y4,Yt,Yu,Zl,Zd,Nat.reduceBEq,Yc,Z0,beq_self_eq_true,Xh,Zr,Y5,Qr,Qe,Q5,Q6,Yz,Y0,Y1,Ze,Xa,Zu,Zf,Zg,Zv,Yd,Ye,Nat.reduceLeDiff,Yh,Z1,Z2,Zq,Qs,Yl,Qb,Qt,Qu,Xf,Z8,pureC,↓Xd,muC,↓J1,Qh,Y6,Ja,tk3,tk5,tk9,tk22,tk28,tz28,dz28,tk31,dz31,tk33,tk38,tz38,dz38,tk41,tk57,dz57,kMvN,kMv0,kMvNB,kSeek,kOtherK,setKC,aMove,aMv,kWordA,lq116__104,lq116__108,lq116__48,lq116__94,lq116__36,lq116__124,lq116__102,lq116__70]
    (repeat' first | exact hf | exact hn | exact ⟨hf, hn⟩ | (show dynOrd _ _ = true; kernel_rfl) | exact subX_eq rfl rfl | exact trivial | apply And.intro | rfl | omega)
  by_cases h84 : name = [84]
  · subst h84
    rw [if_neg (by decide), if_neg (by decide), if_neg (by decide), if_neg (by decide), if_neg (by decide), if_neg (by decide), if_neg (by decide), if_neg (by decide), if_neg (by decide), if_pos (by decide)]
    simp (maxSteps := 4000000) only [↓Qi,↓Yv,↓Yw,↓Yr,↓Yi,↓Z4,Yo,↓Ym,↓Yf,Zw,Ys,Yj,gw,Zx,Z5,↓chk,Qj,noW,↓Jb,↓Qk,↓Q7,Ql,↓Zt,↓Yq,↓Yn,↓Y7,Jc,Pg.look,Jd,Q8,Zc,false_implies,implies_true,true_and,and_true,forall_const,Je,Qm,Qn,Jf,J3,Y8,Qv,J4,hdS,Qw,J5,Z6,Yg,Z7,Yp,Nat.reduceAdd,ofV,Y9,Jg,Jh,Ji,Jj,Jk,Qo,Qx,Jl,Jm,Jn,Qa,Qy,Qz,Q0,Q1,Jo,Jp,J6,Jq,Jr,Pg.freeze,Zm,Qp,J7,Qq,Yk,Js,J8,Qc,Q9,↓Jt,Jy,Jz,J0,Qd,Ju,Jv,Xc,Qf,Yx,J9,Q3,Q4,AV.cells,TK.cells,AV.definite,AV.leaf,AV.leafy,AV.pureLeaf,AV.pureB,Yy,lay,Za,Zb,Zn,reduceCtorEq,Nat.reduceEqDiff,Nat.reduceAdd,Zs,Zh,Zo,Zp,Zi,Z3,Z9,Zj,Zk,Ya,Int.reduceToNat,ite_true,ite_false,Option.some.injEq,Q2,Jx,Prod.mk.injEq,Zy,Yb,Zz,and_self,exists_eq_left',Y2,Xe,Int.reduceLE,Qg,Y3,Y4,Yt,Yu,Zl,Zd,Nat.reduceBEq,Yc,Z0,beq_self_eq_true,Xh,Zr,Y5,Qr,Qe,Q5,Q6,Yz,Y0,Y1,Ze,Xa,Zu,Zf,Zg,Zv,Yd,Ye,Nat.reduceLeDiff,Yh,Z1,Z2,Zq,Qs,Yl,Qb,Qt,Qu,Xf,Z8,pureC,↓Xd,muC,↓J1,Qh,Y6,Ja,tk3,tk5,tk9,tk22,tk28,tz28,dz28,tk31,dz31,tk33,tk38,tz38,dz38,tk41,tk57,dz57,kMvN,kMv0,kMvNB,kSeek,kOtherK,setKC,aMove,aMv,kWordA,lq84__104,lq84__108,lq84__48,lq84__94,lq84__36,lq84__124,lq84__102,lq84__70,lq84__116]
    (repeat' first | exact hf | exact hn | exact ⟨hf, hn⟩ | (show dynOrd _ _ = true; kernel_rfl) | exact subX_eq rfl rfl | exact trivial | apply And.intro | rfl | omega)
  by_cases h59 : name = [59]
  · subst h59
    rw [if_neg (by decide), if_neg (by decide), if_neg (by decide), if_neg (by decide), if_neg (by decide), if_neg (by decide), if_neg (by decide), if_neg (by decide), if_neg (by decide), if_neg (by decide), if_pos (by decide)]
    simp (maxSteps := 4000000) only [↓Qi,↓Yv,↓Yw,↓Yr,↓Yi,↓Z4,Yo,↓Ym,↓Yf,Zw,Ys,Yj,gw,Zx,Z5,↓chk,Qj,noW,↓Jb,↓Qk,↓Q7,Ql,↓Zt,↓Yq,↓Yn,↓Y7,Jc,Pg.look,Jd,Q8,Zc,false_implies,implies_true,true_and,and_true,forall_const,Je,Qm,Qn,Jf,J3,Y8,Qv,J4,hdS,Qw,J5,Z6,Yg,Z7,Yp,Nat.reduceAdd,ofV,Y9,Jg,Jh,Ji,Jj,Jk,Qo,Qx,Jl,Jm,Jn,Qa,Qy,Qz,Q0,Q1,Jo,Jp,J6,Jq,Jr,Pg.freeze,Zm,Qp,J7,Qq,Yk,Js,J8,Qc,Q9,↓Jt,Jy,Jz,J0,Qd,Ju,Jv,Xc,Qf,Yx,J9,Q3,Q4,AV.cells,TK.cells,AV.definite,AV.leaf,AV.leafy,AV.pureLeaf,AV.pureB,Yy,lay,Za,Zb,Zn,reduceCtorEq,Nat.reduceEqDiff,Nat.reduceAdd,Zs,Zh,Zo,Zp,Zi,Z3,Z9,Zj,Zk,Ya,ite_true,ite_false,Option.some.injEq,Q2,Jx,Prod.mk.injEq,Zy,Yb,Zz,and_self,exists_eq_left',Y2,Xe,Qg,Y3,Y4,Yt,Yu,Zl,Zd,Nat.reduceBEq,Yc,Z0,beq_self_eq_true,Zr,Y5,Qr,Qe,Q5,Q6,Yz,Y0,Y1,Ze,Xa,Zu,Zf,Zg,Zv,Yd,Ye,Nat.reduceLeDiff,Yh,Z1,Z2,Zq,Qs,Yl,Qb,Qt,Qu,Xf,Z8,pureC,↓Xd,muC,↓J1,Qh,Y6,Ja,tk3,tk5,tk9,tk22,tk28,tz28,dz28,tk31,dz31,tk33,tk38,tz38,dz38,tk41,tk57,dz57,kMvN,kMv0,kMvNB,kSeek,kOtherK,aMove,aMv,kWordA,lq59__104,lq59__108,lq59__48,lq59__94,lq59__36,lq59__124,lq59__102,lq59__70,lq59__116,lq59__84]
    (repeat' first | exact hf | exact hn | exact ⟨hf, hn⟩ | (show dynOrd _ _ = true; kernel_rfl) | exact subX_eq rfl rfl | exact trivial | apply And.intro | rfl | omega)
  by_cases h44 : name = [44]
  · subst h44
    rw [if_neg (by decide), if_neg (by decide), if_neg (by decide), if_neg (by decide), if_neg (by decide), if_neg (by decide), if_neg (by decide), if_neg (by decide), if_neg (by decide), if_neg (by decide), if_neg (by decide), if_pos (by decide)]
    by_cases hk : ky = 0
    · subst hk
      rw [if_pos rfl]
      simp (maxSteps := 4000000) only [↓Qi,↓Yv,↓Yw,↓Yr,↓Yi,↓Z4,Yo,↓Ym,↓Yf,Zw,Ys,Yj,gw,Zx,Z5,↓chk,Qj,noW,↓Jb,↓Qk,↓Q7,Ql,↓Zt,↓Yq,↓Yn,↓Y7,Jc,Pg.look,Jd,intOp,Q8,Zc,implies_true,true_and,and_true,forall_const,Je,Qm,Qn,Jf,intV,J3,Y8,Qv,J4,hdS,Qw,J5,Z6,Yg,Z7,Yp,Nat.reduceAdd,ofV,Y9,Jg,Jh,Ji,Jj,Jk,Qo,Qx,Jl,Jm,Jn,Qa,Qy,Qz,Q0,Q1,Jo,Jp,J6,Jq,Jr,Pg.freeze,Zm,Qp,J7,Qq,Yk,Js,J8,Qc,Q9,Yx,J9,AV.cells,TK.cells,AV.definite,AV.leaf,AV.leafy,AV.pureLeaf,AV.pureB,Yy,lay,buildL,Za,Zb,Zn,reduceCtorEq,Nat.reduceEqDiff,Nat.reduceAdd,Zs,Zh,Zo,Zp,Zi,Z9,Zj,Zk,Ya,ite_true,ite_false,Option.some.injEq,Q2,AV.agg.injEq,Zy,Yb,Zz,and_self,exists_eq_left',Zl,Zd,Nat.reduceBEq,Yc,Z0,beq_self_eq_true,Jw,Ze,Xa,Zu,Zf,Zg,Zv,Yd,Ye,Nat.reduceLeDiff,Yh,Z1,Z2,Zq,Yl,Qb,Qt,Qu,Z8,Ja,tk3,tk5,tk9,tk22,tk28,tz28,dz28,tk31,dz31,tk33,tk38,tz38,dz38,tk41,tk57,dz57,kMvN,kMv0,kMvNB,kSeek,kOtherK,aMove,aMv,mNone,kWordA,lq44__104,lq44__108,lq44__48,lq44__94,lq44__36,lq44__124,lq44__102,lq44__70,lq44__116,lq44__84,lq44__59,byteA,UInt8.reduceToNat]
      (repeat' first | exact hf | exact hn | exact ⟨hf, hn⟩ | (show dynOrd _ _ = true; kernel_rfl) | exact subX_eq rfl rfl | exact trivial | apply And.intro | rfl | omega)
    · have ek : ((ky.toNat : Int) == 0) = false := byte_lit ky 0 0 rfl hk
      rw [if_neg hk]
      simp (maxSteps := 4000000) only [↓Qi,↓Xb,↓Yv,↓Yw,↓Yr,↓Yi,↓Z4,Yo,↓Ym,↓Yf,Zw,Ys,Yj,gw,Zx,Z5,↓chk,Qj,noW,↓Jb,↓Qk,↓Q7,Ql,↓Zt,↓Yq,↓Yn,↓Y7,Jc,Pg.look,Jd,intOp,Q8,Zc,false_implies,implies_true,true_and,and_true,forall_const,Je,Qm,Qn,Jf,intV,J3,Y8,Qv,J4,hdS,Qw,J5,Z6,Yg,Z7,Yp,Nat.reduceAdd,ofV,Y9,Jg,Jh,Ji,Jj,Jk,Qo,Qx,Jl,Jm,Jn,Qa,Qy,Qz,Q0,Q1,Jo,Jp,J6,Jq,Jr,Pg.freeze,Zm,Qp,J7,Qq,Yk,Js,J8,Qc,Q9,↓Jt,Jy,Jz,J0,Qd,Ju,Jv,Xc,Qf,Yx,J9,Q3,Q4,AV.cells,TK.cells,AV.definite,AV.leaf,AV.leafy,AV.pureLeaf,AV.pureB,Yy,lay,Za,Zb,Zn,reduceCtorEq,Nat.reduceEqDiff,Nat.reduceAdd,Zs,Zh,Zo,Zp,Zi,Z3,Z9,Zj,Zk,Ya,ite_true,ite_false,Option.some.injEq,Q2,Jx,Prod.mk.injEq,Zy,Yb,Zz,and_self,exists_eq_left',Y2,Xe,Qg,Y3,Y4,Yt,Yu,Zl,Zd,Nat.reduceBEq,Yc,Z0,beq_self_eq_true,Zr,Y5,Qr,Qe,Q5,Q6,Yz,Y0,Y1,Ze,Xa,Zu,Zf,Zg,Zv,Yd,Ye,Nat.reduceLeDiff,Yh,Z1,Z2,Zq,Qs,Yl,Qb,Qt,Qu,Xf,Z8,pureC,↓Xd,muC,↓J1,Qh,Y6,Ja,tk3,tk5,tk9,tk22,tk28,tz28,dz28,tk31,dz31,tk33,tk38,tz38,dz38,tk41,tk57,dz57,kMvN,kMv0,kMvNB,kSeek,kOtherK,aMove,aMv,kWordA,lq44__104,lq44__108,lq44__48,lq44__94,lq44__36,lq44__124,lq44__102,lq44__70,lq44__116,lq44__84,lq44__59,ek]
      (repeat' first | exact hf | exact hn | exact ⟨hf, hn⟩ | (show dynOrd _ _ = true; kernel_rfl) | exact subX_eq rfl rfl | exact trivial | apply And.intro | rfl | omega)
  have e104 := str_ne h104
  have e108 := str_ne h108
  have e48 := str_ne h48
  have e94 := str_ne h94
  have e36 := str_ne h36
  have e124 := str_ne h124
  have e102 := str_ne h102
  have e70 := str_ne h70
  have e116 := str_ne h116
  have e84 := str_ne h84
  have e59 := str_ne h59
  have e44 := str_ne h44
  rw [if_neg (h104)]
  rw [if_neg (h108)]
  rw [if_neg (h48)]
  rw [if_neg (h94)]
  rw [if_neg (h36)]
  rw [if_neg (h124)]
  rw [if_neg (h102)]
  rw [if_neg (h70)]
  rw [if_neg (h116)]
  rw [if_neg (h84)]
  rw [if_neg (h59)]
  rw [if_neg (h44)]
  simp (maxSteps := 4000000) only [↓Qi,↓Xb,↓Yv,↓Yw,↓Yr,↓Yi,↓Z4,Yo,↓Yf,Zw,Ys,Yj,gw,Zx,Z5,↓chk,Qj,noW,↓Jb,↓Qk,↓Q7,Ql,↓Zt,↓Xi,↓Y7,Jc,Pg.look,Jd,Q8,Bool.not_false,Zc,implies_true,true_and,and_true,forall_const,Je,Qm,Qn,Jf,J3,Y8,Qv,J4,hdS,Qw,J5,Z6,Yg,Z7,Yp,Nat.reduceAdd,ofV,Y9,Jg,Jh,Ji,Jj,Jk,Qo,Qx,Jl,Jm,Jn,Qa,Qy,Qz,Q0,Q1,Jo,Jp,J6,Jq,Jr,Pg.freeze,Zm,Qp,J7,Qq,Yk,Js,J8,Qc,Q9,↓Jt,Ju,Jv,Xc,Qf,Yx,J9,AV.cells,TK.cells,AV.definite,AV.leaf,AV.leafy,AV.pureLeaf,AV.pureB,Yy,lay,Za,Zb,Zn,reduceCtorEq,Nat.reduceEqDiff,Nat.reduceAdd,Zs,Zh,Zo,Zp,Zi,Z3,Z9,Zj,Zk,Ya,ite_true,ite_false,Option.some.injEq,Zy,Yb,Zz,and_self,exists_eq_left',Y2,J2,Xe,cStr_dec,Qg,Y3,Y4,Yt,Yu,Zl,Zd,Nat.reduceBEq,Yc,Z0,beq_self_eq_true,Zr,Y5,Ze,Xa,Zu,Zf,Zg,Zv,Yd,Ye,Nat.sub_self,Nat.reduceLeDiff,Yh,Z1,Z2,Zq,Yl,Qb,Qt,Qu,Z8,↓Xd,muC,↓callU,↓callUV,↓callUH,↓callUF,Qh,Y6,runM_eq,mkM_some,hNil_dec,hCons_dec,app3_some,hP_dec,hP1_some,hP2_some,hB1_some,hB2_arr,hBox_dec,hAgg_dec,pickF,nodupB,somes,fresh,gids,putO,ren,renL,renO,Ja,tk3,tk9,tk22,tk28,tz28,dz28,tk31,dz31,tk33,tk38,tz38,dz38,tk41,tk57,dz57,kMvN,kMv0,kMvNB,kSeek,kOtherK,aMove,aMv,kWordA,e104,e108,e48,e94,e36,e124,e102,e70,e116,e84,e59,e44]
  (repeat' first | exact hf | exact hn | exact ⟨hf, hn⟩ | (show dynOrd _ _ = true; kernel_rfl) | exact subX_eq rfl rfl | exact trivial | apply And.intro | rfl | omega)
def kLineA : C1 := C1.mby (hCons (hAgg lAskd) hNil) (fun d => okText d.1.1 ∧ d.1.2.2.2.2.2.2.2.2.1 ≤ 9223372036854775807 ∧ d.1.2.2.2.1 ≤ 9223372036854775807) (fun d => aMove (lineA d.1.1 d.1.2.1 (d.1.2.2.1, d.1.2.2.2.1, d.1.2.2.2.2.1, d.1.2.2.2.2.2.1, d.1.2.2.2.2.2.2.1, d.1.2.2.2.2.2.2.2.1) d.1.2.2.2.2.2.2.2.2.1 d.1.2.2.2.2.2.2.2.2.2.1).1) (fun d => cxH (lineA d.1.1 d.1.2.1 (d.1.2.2.1, d.1.2.2.2.1, d.1.2.2.2.2.1, d.1.2.2.2.2.2.1, d.1.2.2.2.2.2.2.1, d.1.2.2.2.2.2.2.2.1) d.1.2.2.2.2.2.2.2.2.1 d.1.2.2.2.2.2.2.2.2.2.1).2)
theorem ok_lineA : C1OK Try.prog 23 kLineA := C1OK.mby (by kernel_rfl) (fun d h => calls_lineA d.1.1 d.1.2.1 (d.1.2.2.1, d.1.2.2.2.1, d.1.2.2.2.2.1, d.1.2.2.2.2.2.1, d.1.2.2.2.2.2.2.1, d.1.2.2.2.2.2.2.2.1) d.1.2.2.2.2.2.2.2.2.1 d.1.2.2.2.2.2.2.2.2.2.1 h.1 h.2.1 h.2.2) (fun _ _ => Nat.le_refl _)
end Go.Pg
