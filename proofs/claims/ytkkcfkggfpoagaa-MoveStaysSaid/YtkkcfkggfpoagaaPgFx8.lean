/- A motion by its name: what searches. Keys of motions: what keys are, the document's: numbers, patterns. Searching: the document's. -/
import Derived.Test.YtkkcfkggfpoagaaPgFx7
import Derived.Test.YtkkcfkggfpoagaaPgFx4
import Derived.Test.YtkkcfkggfpoagaaPgHcd
import Derived.Test.YtkkcfkggfpoagaaPgFx1
open List renaming getElem?_cons_succ → Za, getElem?_cons_zero → Zb, contains_nil → Zd, append_nil → Ze, length_nil → Zf, length_cons → Zh, foldl_nil → Zi, cons_append → Zj, set_cons_zero → Zk, set_cons_succ → Zl, getD_cons_zero → Zm, drop_succ_cons → Zn, take_succ_cons → Zo, nil_append → Zp, contains_cons → Zu, all_cons → Zx, take_zero → Zy, all_nil → Z4, drop_zero → Z5, range'_zero → Ya, map_cons → Yb, map_nil → Yc, drop_nil → Yd, take_nil → Ye, getElem?_toArray → Qm, toList_toArray → Q1
open Bool renaming false_eq_true → Zc, and_self → Zq, or_false → Yk, or_self → Yl, not_false → Yt, not_true → Qu
open Option renaming getD_some → Zg, isSome_none → Z2, isSome_some → Q3, bind_some → Je
open Go.Pg renaming thenA_normal → Zr, bselH_false → Zs, gselH_plain → Zt, wpH_region → Zz, closeQ_nil → Z0, diagQ_zero → Z1, selC_false → Z3, runH_cons → Z6, subV_succ → Z7, regH_none → Z8, cselH_bool → Z9, wpH_block → Yf, runH_nil → Yg, iselH_false → Yi, closeQ_succ → Yj, iselH_true → Yo, blockA_normal → Yp, wpH_cond → Yq, wpH_seq → Yr, ldCells → Ys, bselH_true → Yu, diagQ_succ → Yv, stepEv → Yw, alives → Yx, ofLeaf → Yy, pickOf → Yz, isNext → Y0, selC_true → Y1, wpH_ret → Y2, res_succ → Y3, putCells → Y4, wpA_H → Y5, justK → Y6, pureK → Y7, heapV → Y8, footV → Y9, ptrsE → Qa, subOs → Qb, subEv → Qc, lCons_dec → Qd, dec2_some → Qe, optP_some → Qf, optV_some → Qg, optH_some → Qh, nextF → Qi, nextG → Qj, heapK → Qk, wpH_skip → Qn, normArgs → Qo, cInt_dec → Qp, cAgg_dec → Qq, lOne_dec → Qr, decL_str → Qs, C1by_pre → Qt, aliveO → Qv, pairsA → Qw, pairsO → Qx, pairsE → Qy, pairsC → Qz, pairs0 → Q0, cBool_dec → Q2, res8_eq → Q4, cSl_dec → Q5, C1by_ns → Q6, C1by_it → Q7, C1by_mu → Q8, length_ofBytes → Q9, pairsL → Ja, envOf → Jb, objAt → Jc, cStr_dec → Jd, shiftR → Jf, shift1 → Jg, C1by_r → Jh, C1by_H → Ji, mapAt → Jj, getD_ofBytes → Jk, strOp → Jl, pureC → Jm, pickOK_nil → Jn, look_stripE → Jo, blockA_ret → Jp
open Nat renaming zero_add → Zv, zero_lt_succ → Zw, sub_zero → Yh, add_zero → Ym, le_refl → Yn
open Int renaming toNat_natCast → Ql
namespace Go.Pg
open Go Go.Proofs

/-- What a motion knows: the cursor, the column wanted, the window's first line; the seeking key, its byte; the pattern, whether it was searched back. -/
abbrev Cx := Int × Int × Int × Int × UInt8 × UInt8 × List UInt8 × Bool
abbrev lCx : CdL Cx := lCons (cInt .i64) (lCons (cInt .i64) (lCons (cInt .i64) (lCons (cInt .i64) (lCons cByte (lCons cByte (lCons cStr (lOne cBool)))))))
abbrev aCx (x : Cx) : AV := .agg [.int .i64 x.1, .int .i64 x.2.1, .int .i64 x.2.2.1, .int .i64 x.2.2.2.1, byteA x.2.2.2.2.1, byteA x.2.2.2.2.2.1, .str x.2.2.2.2.2.2.1, .bool x.2.2.2.2.2.2.2]
abbrev hCx : HC Cx := hBox 31 8 (hP .id (cAgg lCx))
/-- A command: its register, count, operator, name, byte, text. -/
abbrev Cm := UInt8 × Int × List UInt8 × List UInt8 × UInt8 × List UInt8
abbrev aCm (c : Cm) : List AV := [byteA c.1, .int .i64 c.2.1, .str c.2.2.1, .str c.2.2.2.1, byteA c.2.2.2.2.1, .str c.2.2.2.2.2]
abbrev aAsk (ls : Ls) (c : Cm) (n : Int) (op : Bool) : AV := .agg ([.sl 1 (ls.map .str), .ptr 0 8 1 0 0] ++ aCm c ++ [.int .i64 n, .bool op])
abbrev lAskd : HL (Ls × Cx × UInt8 × Int × List UInt8 × List UInt8 × UInt8 × List UInt8 × Int × Bool × Unit) :=
  hCons (hP (.sl 1 []) cStrs) (hCons hCx (hCons (hP .id cByte) (hCons (hP .id (cInt .i64)) (hCons (hP .id cStr) (hCons (hP .id cStr) (hCons (hP .id cByte) (hCons (hP .id cStr) (hCons (hP .id (cInt .i64)) (hCons (hP .id cBool) hNil)))))))))
abbrev cxH (x : Cx) : AH := [.arr 31 8 [aCx x]]
abbrev Res := (Mv × Bool) × Cx
def curOf (x : Cx) : Int × Int := (x.1, x.2.1)
def setFB (x : Cx) (f : List UInt8) (b : Bool) : Cx := (x.1, x.2.1, x.2.2.1, x.2.2.2.1, x.2.2.2.2.1, x.2.2.2.2.2.1, f, b)
def searchA (ls : Ls) (x : Cx) (name text : List UInt8) (n : Int) : Res :=
  if name = [47] then (searchP ls (curOf x) (if text = [] then x.2.2.2.2.2.2.1 else text) false n, setFB x (if text = [] then x.2.2.2.2.2.2.1 else text) false)
  else if name = [63] then (searchP ls (curOf x) (if text = [] then x.2.2.2.2.2.2.1 else text) true n, setFB x (if text = [] then x.2.2.2.2.2.2.1 else text) true)
  else if name = [110] then (searchP ls (curOf x) x.2.2.2.2.2.2.1 x.2.2.2.2.2.2.2 n, x)
  else if name = [78] then (searchP ls (curOf x) x.2.2.2.2.2.2.1 (!x.2.2.2.2.2.2.2) n, x)
  else if name = [42] ∨ name = [35] then (if (wordP ls (curOf x)).2.2 = true then (searchP ls (wordP ls (curOf x)).1 (wordP ls (curOf x)).2.1 (name == [35]) n, setFB x (wordP ls (curOf x)).2.1 (name == [35])) else (mNone, x))
  else (mNone, x)
theorem lt47_63 : (([47] : List UInt8) == [63]) = false := rfl
theorem lt63_47 : (([63] : List UInt8) == [47]) = false := rfl
theorem lt110_47 : (([110] : List UInt8) == [47]) = false := rfl
theorem lt110_63 : (([110] : List UInt8) == [63]) = false := rfl
theorem lt78_47 : (([78] : List UInt8) == [47]) = false := rfl
theorem lt78_63 : (([78] : List UInt8) == [63]) = false := rfl
theorem lt78_110 : (([78] : List UInt8) == [110]) = false := rfl
theorem lt42_47 : (([42] : List UInt8) == [47]) = false := rfl
theorem lt42_63 : (([42] : List UInt8) == [63]) = false := rfl
theorem lt42_110 : (([42] : List UInt8) == [110]) = false := rfl
theorem lt42_78 : (([42] : List UInt8) == [78]) = false := rfl
theorem lt42_35 : (([42] : List UInt8) == [35]) = false := rfl
theorem lt35_47 : (([35] : List UInt8) == [47]) = false := rfl
theorem lt35_63 : (([35] : List UInt8) == [63]) = false := rfl
theorem lt35_110 : (([35] : List UInt8) == [110]) = false := rfl
theorem lt35_78 : (([35] : List UInt8) == [78]) = false := rfl
theorem lt35_42 : (([35] : List UInt8) == [42]) = false := rfl
theorem str_ne {s : List UInt8} {t : List UInt8} (h : ¬ s = t) : (s == t) = false := beq_eq_false_iff_ne.2 h

set_option maxRecDepth 20000 in
set_option maxHeartbeats 8000000 in
theorem calls_search (ls : Ls) (x : Cx) (c : Cm) (n : Int) (op : Bool) (hf : okText ls) : CallsR Try.prog 90 [aAsk ls c n op] (cxH x) (aMove (searchA ls x c.2.2.2.1 c.2.2.2.2.2 n).1) (cxH (searchA ls x c.2.2.2.1 c.2.2.2.2.2 n).2) := by
  refine callsR_of (mrg := true) (dyn := [1]) (CtrOK.cons ok_Word (CtrOK.cons ok_Search (CtrOK.nil _))) mixed Try.func90 rfl (by simp [Try.ntmps90]) (by kernel_rfl) ?_
  rw [show Try.f90.results.toList = [.cell 2 38, .tmp 3] from by kernel_rfl]
  obtain ⟨x1, x2, w, t, ky, kc, fd, bk⟩ := x
  obtain ⟨rg, cn, opr, name, arg, text⟩ := c
  unfold searchA curOf setFB
  dsimp only
  by_cases h47 : name = [47]
  · subst h47
    rw [if_pos rfl]
    by_cases ht : text = []
    · subst ht
      rw [if_pos rfl]
      simp (maxSteps := 4000000) only [↓Y5,↓Qn,↓Y2,↓Yr,↓Yq,↓Yf,↓Zz,Yu,↓Yo,↓Yi,Zs,Yg,Z6,gw,Zt,Z9,↓chk,Y6,noW,↓oneK,↓Y7,↓Qk,Jb,↓Zr,↓Yp,↓Yw,opnd,Pg.look,binK,Jl,Qu,Zc,false_implies,implies_true,true_and,and_true,forall_const,valV,Y8,Y9,binV,strV,Yx,Qv,nxtQ,hdS,Qw,frzA,Z0,Yj,Z1,Yv,Nat.reduceAdd,ofV,Yy,retA,resK,tupA,subA,subQ,Qa,Qx,frzO,subF,subG,Yz,Qy,Qz,Ja,Q0,frzE,frzC,frzL,frz0,frzH,Pg.freeze,Zi,Qb,subO,Qc,Z7,subM,subL,Ys,Jc,↓callT,callC,callV,callH,Qo,normA,normC,resL,Q4,Y3,resM,Jf,Jg,AV.cells,TK.cells,AV.definite,AV.leaf,AV.leafy,AV.pureLeaf,AV.pureB,Y4,lay,Za,Zb,Zg,reduceCtorEq,Nat.reduceEqDiff,Nat.reduceAdd,Zp,Ze,Zj,Zh,Zf,Yb,Yc,Zk,Zl,Zv,ite_true,ite_false,Option.some.injEq,Z2,Prod.mk.injEq,Zx,Z4,Zq,and_self,exists_eq_left',Qp,Q2,Jd,Q5,Qq,Qr,Qd,Qe,Zu,Zd,Nat.reduceBEq,Yl,Yk,beq_self_eq_true,Ya,Qs,Q6,Qt,Jh,Ji,Qf,Qg,Qh,Zm,cutL,Z5,Zn,Zo,Zy,Ym,Yh,Nat.reduceLeDiff,Yn,Yd,Ye,Zw,Q7,Z8,Y0,Qi,Qj,Y1,Z3,Jm,↓msel,muC,↓callP,Q8,Jj,tk3,tk4,tk9,tk22,tk28,tz28,dz28,tk31,dz31,tk33,tk38,tz38,dz38,tk41,tk57,dz57,kWord,kSearch,aWd,aPos,aMove,aMv,lt47_63]
      (repeat' first | exact hf | exact hn | exact ⟨hf, hn⟩ | (show dynOrd _ _ = true; kernel_rfl) | exact subX_eq rfl rfl | exact trivial | apply And.intro | rfl | omega)
    · have e0 := str_ne ht
      rw [if_neg ht]
      simp (maxSteps := 4000000) only [↓Y5,↓Qn,↓Y2,↓Yr,↓Yq,↓Yf,↓Zz,Yu,↓Yo,Zs,Yg,Z6,gw,Zt,Z9,↓chk,Y6,noW,↓oneK,↓Y7,↓Qk,Jb,↓Zr,↓Yp,↓Yw,opnd,Pg.look,binK,Jl,Yt,Zc,false_implies,implies_true,true_and,and_true,forall_const,valV,Y8,Y9,binV,strV,Yx,Qv,nxtQ,hdS,Qw,frzA,Z0,Yj,Z1,Yv,Nat.reduceAdd,ofV,Yy,retA,resK,tupA,subA,subQ,Qa,Qx,frzO,subF,subG,Yz,Qy,Qz,Ja,Q0,frzE,frzC,frzL,frz0,frzH,Pg.freeze,Zi,Qb,subO,Qc,Z7,subM,subL,Ys,Jc,↓callT,callC,callV,callH,Qo,normA,normC,resL,Q4,Y3,resM,Jf,Jg,AV.cells,TK.cells,AV.definite,AV.leaf,AV.leafy,AV.pureLeaf,AV.pureB,Y4,lay,Za,Zb,Zg,reduceCtorEq,Nat.reduceEqDiff,Nat.reduceAdd,Zp,Ze,Zj,Zh,Zf,Yb,Yc,Zk,Zl,Zv,ite_true,ite_false,Option.some.injEq,Z2,Prod.mk.injEq,Zx,Z4,Zq,and_self,exists_eq_left',Qp,Q2,Jd,Q5,Qq,Qr,Qd,Qe,Zu,Zd,Nat.reduceBEq,Yl,Yk,beq_self_eq_true,Ya,Qs,Q6,Qt,Jh,Ji,Qf,Qg,Qh,Zm,cutL,Z5,Zn,Zo,Zy,Ym,Yh,Nat.reduceLeDiff,Yn,Yd,Ye,Zw,Q7,Z8,Y0,Qi,Qj,Y1,Z3,Jm,↓msel,muC,↓callP,Q8,Jj,tk3,tk4,tk9,tk22,tk28,tz28,dz28,tk31,dz31,tk33,tk38,tz38,dz38,tk41,tk57,dz57,kWord,kSearch,aWd,aPos,aMove,aMv,e0,lt47_63]
      (repeat' first | exact hf | exact hn | exact ⟨hf, hn⟩ | (show dynOrd _ _ = true; kernel_rfl) | exact subX_eq rfl rfl | exact trivial | apply And.intro | rfl | omega)
  by_cases h63 : name = [63]
  · subst h63
    rw [if_neg (by decide), if_pos rfl]
    by_cases ht : text = []
    · subst ht
      rw [if_pos rfl]
      simp (maxSteps := 4000000) only [↓Y5,↓Qn,↓Y2,↓Yr,↓Yq,↓Yf,↓Zz,Yu,↓Yo,↓Yi,Zs,Yg,Z6,gw,Zt,Z9,↓chk,Y6,noW,↓oneK,↓Y7,↓Qk,Jb,↓Zr,↓Yp,↓Yw,opnd,Pg.look,binK,Jl,Qu,Zc,false_implies,implies_true,true_and,and_true,forall_const,valV,Y8,Y9,binV,strV,Yx,Qv,nxtQ,hdS,Qw,frzA,Z0,Yj,Z1,Yv,Nat.reduceAdd,ofV,Yy,retA,resK,tupA,subA,subQ,Qa,Qx,frzO,subF,subG,Yz,Qy,Qz,Ja,Q0,frzE,frzC,frzL,frz0,frzH,Pg.freeze,Zi,Qb,subO,Qc,Z7,subM,subL,Ys,Jc,↓callT,callC,callV,callH,Qo,normA,normC,resL,Q4,Y3,resM,Jf,Jg,AV.cells,TK.cells,AV.definite,AV.leaf,AV.leafy,AV.pureLeaf,AV.pureB,Y4,lay,Za,Zb,Zg,reduceCtorEq,Nat.reduceEqDiff,Nat.reduceAdd,Zp,Ze,Zj,Zh,Zf,Yb,Yc,Zk,Zl,Zv,ite_true,ite_false,Option.some.injEq,Z2,Prod.mk.injEq,Zx,Z4,Zq,and_self,exists_eq_left',Qp,Q2,Jd,Q5,Qq,Qr,Qd,Qe,Zu,Zd,Nat.reduceBEq,Yl,Yk,beq_self_eq_true,Ya,Qs,Q6,Qt,Jh,Ji,Qf,Qg,Qh,Zm,cutL,Z5,Zn,Zo,Zy,Ym,Yh,Nat.reduceLeDiff,Yn,Yd,Ye,Zw,Q7,Z8,Y0,Qi,Qj,Y1,Z3,Jm,↓msel,muC,↓callP,Q8,Jj,tk3,tk4,tk9,tk22,tk28,tz28,dz28,tk31,dz31,tk33,tk38,tz38,dz38,tk41,tk57,dz57,kWord,kSearch,aWd,aPos,aMove,aMv,lt63_47]
      (repeat' first | exact hf | exact hn | exact ⟨hf, hn⟩ | (show dynOrd _ _ = true; kernel_rfl) | exact subX_eq rfl rfl | exact trivial | apply And.intro | rfl | omega)
    · have e0 := str_ne ht
      rw [if_neg ht]
      simp (maxSteps := 4000000) only [↓Y5,↓Y2,↓Yr,↓Yq,↓Yf,↓Zz,Yu,↓Yo,↓Yi,Zs,Yg,Z6,gw,Zt,Z9,↓chk,Y6,noW,↓oneK,↓Y7,↓Qk,Jb,↓Zr,↓Yp,↓Yw,opnd,Pg.look,binK,Jl,Yt,Zc,false_implies,implies_true,true_and,and_true,forall_const,valV,Y8,Y9,binV,strV,Yx,Qv,nxtQ,hdS,Qw,frzA,Z0,Yj,Z1,Yv,Nat.reduceAdd,ofV,Yy,retA,resK,tupA,subA,subQ,Qa,Qx,frzO,subF,subG,Yz,Qy,Qz,Ja,Q0,frzE,frzC,frzL,frz0,frzH,Pg.freeze,Zi,Qb,subO,Qc,Z7,subM,subL,Ys,Jc,↓callT,callC,callV,callH,Qo,normA,normC,resL,Q4,Y3,resM,Jf,Jg,AV.cells,TK.cells,AV.definite,AV.leaf,AV.leafy,AV.pureLeaf,AV.pureB,Y4,lay,Za,Zb,Zg,reduceCtorEq,Nat.reduceEqDiff,Nat.reduceAdd,Zp,Ze,Zj,Zh,Zf,Yb,Yc,Zk,Zl,Zv,ite_true,ite_false,Option.some.injEq,Z2,Prod.mk.injEq,Zx,Z4,Zq,and_self,exists_eq_left',Qp,Q2,Jd,Q5,Qq,Qr,Qd,Qe,Zu,Zd,Nat.reduceBEq,Yl,Yk,beq_self_eq_true,Ya,Qs,Q6,Qt,Jh,Ji,Qf,Qg,Qh,Zm,cutL,Z5,Zn,Zo,Zy,Ym,Yh,Nat.reduceLeDiff,Yn,Yd,Ye,Zw,Q7,Z8,Y0,Qi,Qj,Y1,Z3,Jm,↓msel,muC,↓callP,Q8,Jj,tk3,tk4,tk9,tk22,tk28,tz28,dz28,tk31,dz31,tk33,tk38,tz38,dz38,tk41,tk57,dz57,kWord,kSearch,aWd,aPos,aMove,aMv,e0,lt63_47]
      (repeat' first | exact hf | exact hn | exact ⟨hf, hn⟩ | (show dynOrd _ _ = true; kernel_rfl) | exact subX_eq rfl rfl | exact trivial | apply And.intro | rfl | omega)
  by_cases h110 : name = [110]
  · subst h110
    rw [if_neg (by decide), if_neg (by decide), if_pos rfl]
    simp (maxSteps := 4000000) only [↓Y5,↓Qn,↓Y2,↓Yr,↓Yq,↓Yf,↓Zz,Yu,↓Yo,↓Yi,Zs,Yg,Z6,gw,Zt,Z9,↓chk,Y6,noW,↓oneK,↓Y7,↓Qk,Jb,↓Zr,↓Yp,↓Yw,opnd,Pg.look,binK,Jl,Zc,false_implies,implies_true,true_and,and_true,forall_const,valV,Y8,Y9,binV,strV,Yx,Qv,nxtQ,hdS,Qw,frzA,Z0,Yj,Z1,Yv,Nat.reduceAdd,ofV,Yy,retA,resK,tupA,subA,subQ,Qa,Qx,frzO,subF,subG,Yz,Qy,Qz,Ja,Q0,frzE,frzC,frzL,frz0,frzH,Pg.freeze,Zi,Qb,subO,Qc,Z7,subM,subL,Ys,Jc,↓callT,callC,callV,callH,Qo,normA,normC,resL,Q4,Y3,resM,Jf,Jg,AV.cells,TK.cells,AV.definite,AV.leaf,AV.leafy,AV.pureLeaf,AV.pureB,Y4,lay,Za,Zb,Zg,reduceCtorEq,Nat.reduceEqDiff,Nat.reduceAdd,Zp,Ze,Zj,Zh,Zf,Yb,Yc,Zk,Zl,Zv,ite_true,ite_false,Option.some.injEq,Z2,Prod.mk.injEq,Zx,Z4,Zq,and_self,exists_eq_left',Qp,Q2,Jd,Q5,Qq,Qr,Qd,Qe,Zu,Zd,Nat.reduceBEq,Yl,Yk,beq_self_eq_true,Ya,Qs,Q6,Qt,Jh,Ji,Qf,Qg,Qh,Zm,cutL,Z5,Zn,Zo,Zy,Ym,Yh,Nat.reduceLeDiff,Yn,Yd,Ye,Zw,Q7,Z8,Y0,Qi,Qj,Y1,Z3,Jm,↓msel,muC,↓callP,Q8,Jj,tk3,tk4,tk9,tk22,tk28,tz28,dz28,tk31,dz31,tk33,tk38,tz38,dz38,tk41,tk57,dz57,kWord,kSearch,aWd,aPos,aMove,aMv,lt110_47,lt110_63]
    (repeat' first | exact hf | exact hn | exact ⟨hf, hn⟩ | (show dynOrd _ _ = true; kernel_rfl) | exact subX_eq rfl rfl | exact trivial | apply And.intro | rfl | omega)
  by_cases h78 : name = [78]
  · subst h78
    rw [if_neg (by decide), if_neg (by decide), if_neg (by decide), if_pos rfl]
    simp (maxSteps := 4000000) only [↓Y5,↓Y2,↓Yr,↓Yq,↓Yf,↓Zz,Yu,↓Yo,↓Yi,Zs,Yg,Z6,gw,Zt,Z9,↓chk,Y6,noW,↓oneK,↓Y7,↓Qk,Jb,↓Zr,↓Yp,↓Yw,opnd,Pg.look,binK,Jl,Zc,false_implies,implies_true,true_and,and_true,forall_const,valV,Y8,Y9,binV,strV,Yx,Qv,nxtQ,hdS,Qw,frzA,Z0,Yj,Z1,Yv,Nat.reduceAdd,ofV,Yy,retA,resK,tupA,subA,subQ,Qa,Qx,frzO,subF,subG,Yz,Qy,Qz,Ja,Q0,frzE,frzC,frzL,frz0,frzH,Pg.freeze,Zi,Qb,subO,Qc,Z7,subM,subL,Ys,Jc,↓callT,callC,callV,callH,Qo,normA,normC,resL,Q4,Y3,resM,Jf,Jg,AV.cells,TK.cells,AV.definite,AV.leaf,AV.leafy,AV.pureLeaf,AV.pureB,Y4,lay,Za,Zb,Zg,reduceCtorEq,Nat.reduceEqDiff,Nat.reduceAdd,Zp,Ze,Zj,Zh,Zf,Yb,Yc,Zk,Zl,Zv,ite_true,ite_false,Option.some.injEq,Z2,Prod.mk.injEq,Zx,Z4,Zq,and_self,exists_eq_left',Qp,Q2,Jd,Q5,Qq,Qr,Qd,Qe,Zu,Zd,Nat.reduceBEq,Yl,Yk,beq_self_eq_true,Ya,Qs,Q6,Qt,Jh,Ji,Qf,Qg,Qh,Zm,cutL,Z5,Zn,Zo,Zy,Ym,Yh,Nat.reduceLeDiff,Yn,Yd,Ye,Zw,Q7,Z8,Y0,Qi,Qj,Y1,Z3,Jm,↓msel,muC,↓callP,Q8,Jj,tk3,tk4,tk9,tk22,tk28,tz28,dz28,tk31,dz31,tk33,tk38,tz38,dz38,tk41,tk57,dz57,kWord,kSearch,aWd,aPos,aMove,aMv,lt78_47,lt78_63,lt78_110]
    (repeat' first | exact hf | exact hn | exact ⟨hf, hn⟩ | (show dynOrd _ _ = true; kernel_rfl) | exact subX_eq rfl rfl | exact trivial | apply And.intro | rfl | omega)
  by_cases hw : name = [42] ∨ name = [35]
  · rw [if_neg h47, if_neg h63, if_neg h110, if_neg h78, if_pos hw]
    obtain ⟨wd, hwd⟩ : ∃ wd, wd = wordP ls (x1, x2) := ⟨_, rfl⟩
    rw [← hwd]
    obtain ⟨⟨q1, q2⟩, wt, ok⟩ := wd
    rcases hw with hw | hw
    · subst hw
      cases ok
      · rw [if_neg (by simp)]
        simp (maxSteps := 4000000) only [↓Y5,↓Qn,↓Y2,↓Yr,↓Yq,↓Yf,↓Zz,Yu,↓Yo,↓Yi,Zs,Yg,Z6,gw,Zt,Z9,↓chk,Y6,noW,↓oneK,↓Y7,↓Qk,Jb,↓Zr,↓thenA_ret,↓Jp,↓Yw,opnd,Pg.look,binK,Jl,Yt,Zc,false_implies,implies_true,true_and,and_true,forall_const,valV,Y8,Y9,binV,strV,Yx,Qv,nxtQ,hdS,Qw,frzA,Z0,Yj,Z1,Yv,Nat.reduceAdd,ofV,Yy,retA,resK,tupA,subA,subQ,Qa,Qx,frzO,subF,subG,Yz,Qy,Qz,Ja,Q0,frzE,frzC,frzL,frz0,frzH,Pg.freeze,Zi,Qb,subO,Qc,Z7,subM,subL,Ys,Jc,↓callT,callC,callV,callH,Qo,normA,normC,resL,Q4,Y3,resM,Jf,Jg,AV.cells,TK.cells,AV.definite,AV.leaf,AV.leafy,AV.pureLeaf,AV.pureB,Y4,lay,buildL,Za,Zb,Zg,reduceCtorEq,Nat.reduceEqDiff,Nat.reduceAdd,Zp,Ze,Zj,Zh,Zf,Yb,Yc,Zk,Zl,Zv,ite_true,ite_false,Option.some.injEq,Q3,Z2,AV.agg.injEq,Prod.mk.injEq,Zx,Z4,Zq,and_self,exists_eq_left',Qp,Q5,Qq,Qr,Qd,Qe,Zu,Zd,Nat.reduceBEq,Yl,Yk,beq_self_eq_true,Ya,Qs,Q6,Qt,Jh,Ji,Qf,Qg,Qh,Zm,cutL,Z5,Zn,Zo,Zy,Ym,Yh,Nat.reduceLeDiff,Yn,Yd,Ye,Zw,Q7,Z8,Y0,Qi,Qj,Y1,Z3,Jm,↓msel,muC,↓callP,Q8,Jj,tk4,tk9,tk22,tk28,tz28,dz28,tk31,dz31,tk33,tk38,tz38,dz38,tk41,tk57,dz57,kWord,kSearch,aWd,aPos,aMove,aMv,mNone,← hwd,lt42_47,lt42_63,lt42_110,lt42_78]
        (repeat' first | exact hf | exact hn | exact ⟨hf, hn⟩ | (show dynOrd _ _ = true; kernel_rfl) | exact subX_eq rfl rfl | exact trivial | apply And.intro | rfl | omega)
      · rw [if_pos rfl]
        simp (maxSteps := 4000000) only [↓Y5,↓Qn,↓Y2,↓Yr,↓Yq,↓Yf,↓Zz,Yu,↓Yo,↓Yi,Zs,Yg,Z6,gw,Zt,Z9,↓chk,Y6,noW,↓oneK,↓Y7,↓Qk,Jb,↓Zr,↓Yp,↓Yw,opnd,Pg.look,binK,Jl,Qu,Zc,false_implies,implies_true,true_and,and_true,forall_const,valV,Y8,Y9,binV,strV,Yx,Qv,nxtQ,hdS,Qw,frzA,Z0,Yj,Z1,Yv,Nat.reduceAdd,ofV,Yy,retA,resK,tupA,subA,subQ,Qa,Qx,frzO,subF,subG,Yz,Qy,Qz,Ja,Q0,frzE,frzC,frzL,frz0,frzH,Pg.freeze,Zi,Qb,subO,Qc,Z7,subM,subL,Ys,Jc,↓callT,callC,callV,callH,Qo,normA,normC,resL,Q4,Y3,resM,Jf,Jg,AV.cells,TK.cells,AV.definite,AV.leaf,AV.leafy,AV.pureLeaf,AV.pureB,Y4,lay,Za,Zb,Zg,reduceCtorEq,Nat.reduceEqDiff,Nat.reduceAdd,Zp,Ze,Zj,Zh,Zf,Yb,Yc,Zk,Zl,Zv,ite_true,ite_false,Option.some.injEq,Z2,Prod.mk.injEq,Zx,Z4,Zq,and_self,exists_eq_left',Qp,Q2,Jd,Q5,Qq,Qr,Qd,Qe,Zu,Zd,Nat.reduceBEq,Yl,Yk,beq_self_eq_true,Ya,Qs,Q6,Qt,Jh,Ji,Qf,Qg,Qh,Zm,cutL,Z5,Zn,Zo,Zy,Ym,Yh,Nat.reduceLeDiff,Yn,Yd,Ye,Zw,Q7,Z8,Y0,Qi,Qj,Y1,Z3,Jm,↓msel,muC,↓callP,Q8,Jj,tk3,tk4,tk9,tk22,tk28,tz28,dz28,tk31,dz31,tk33,tk38,tz38,dz38,tk41,tk57,dz57,kWord,kSearch,aWd,aPos,aMove,aMv,← hwd,lt42_47,lt42_63,lt42_110,lt42_78,lt42_35]
        (repeat' first | exact hf | exact hn | exact ⟨hf, hn⟩ | (show dynOrd _ _ = true; kernel_rfl) | exact subX_eq rfl rfl | exact trivial | apply And.intro | rfl | omega)
    · subst hw
      cases ok
      · rw [if_neg (by simp)]
        simp (maxSteps := 4000000) only [↓Y5,↓Y2,↓Yr,↓Yq,↓Yf,↓Zz,Yu,↓Yo,↓Yi,Zs,Yg,Z6,gw,Zt,Z9,↓chk,Y6,noW,↓oneK,↓Y7,↓Qk,Jb,↓Zr,↓thenA_ret,↓Jp,↓Yw,opnd,Pg.look,binK,Jl,Yt,Zc,false_implies,implies_true,true_and,and_true,forall_const,valV,Y8,Y9,binV,strV,Yx,Qv,nxtQ,hdS,Qw,frzA,Z0,Yj,Z1,Yv,Nat.reduceAdd,ofV,Yy,retA,resK,tupA,subA,subQ,Qa,Qx,frzO,subF,subG,Yz,Qy,Qz,Ja,Q0,frzE,frzC,frzL,frz0,frzH,Pg.freeze,Zi,Qb,subO,Qc,Z7,subM,subL,Ys,Jc,↓callT,callC,callV,callH,Qo,normA,normC,resL,Q4,Y3,resM,Jf,Jg,AV.cells,TK.cells,AV.definite,AV.leaf,AV.leafy,AV.pureLeaf,AV.pureB,Y4,lay,buildL,Za,Zb,Zg,reduceCtorEq,Nat.reduceEqDiff,Nat.reduceAdd,Zp,Ze,Zj,Zh,Zf,Yb,Yc,Zk,Zl,Zv,ite_true,ite_false,Option.some.injEq,Q3,Z2,AV.agg.injEq,Prod.mk.injEq,Zx,Z4,Zq,and_self,exists_eq_left',Qp,Q5,Qq,Qr,Qd,Qe,Zu,Zd,Nat.reduceBEq,Yl,Yk,beq_self_eq_true,Ya,Qs,Q6,Qt,Jh,Ji,Qf,Qg,Qh,Zm,cutL,Z5,Zn,Zo,Zy,Ym,Yh,Nat.reduceLeDiff,Yn,Yd,Ye,Zw,Q7,Z8,Y0,Qi,Qj,Y1,Z3,Jm,↓msel,muC,↓callP,Q8,Jj,tk4,tk9,tk22,tk28,tz28,dz28,tk31,dz31,tk33,tk38,tz38,dz38,tk41,tk57,dz57,kWord,kSearch,aWd,aPos,aMove,aMv,mNone,← hwd,lt35_47,lt35_63,lt35_110,lt35_78,lt35_42]
        (repeat' first | exact hf | exact hn | exact ⟨hf, hn⟩ | (show dynOrd _ _ = true; kernel_rfl) | exact subX_eq rfl rfl | exact trivial | apply And.intro | rfl | omega)
      · rw [if_pos rfl]
        simp (maxSteps := 4000000) only [↓Y5,↓Qn,↓Y2,↓Yr,↓Yq,↓Yf,↓Zz,Yu,↓Yo,↓Yi,Zs,Yg,Z6,gw,Zt,Z9,↓chk,Y6,noW,↓oneK,↓Y7,↓Qk,Jb,↓Zr,↓Yp,↓Yw,opnd,Pg.look,binK,Jl,Qu,Zc,false_implies,implies_true,true_and,and_true,forall_const,valV,Y8,Y9,binV,strV,Yx,Qv,nxtQ,hdS,Qw,frzA,Z0,Yj,Z1,Yv,Nat.reduceAdd,ofV,Yy,retA,resK,tupA,subA,subQ,Qa,Qx,frzO,subF,subG,Yz,Qy,Qz,Ja,Q0,frzE,frzC,frzL,frz0,frzH,Pg.freeze,Zi,Qb,subO,Qc,Z7,subM,subL,Ys,Jc,↓callT,callC,callV,callH,Qo,normA,normC,resL,Q4,Y3,resM,Jf,Jg,AV.cells,TK.cells,AV.definite,AV.leaf,AV.leafy,AV.pureLeaf,AV.pureB,Y4,lay,Za,Zb,Zg,reduceCtorEq,Nat.reduceEqDiff,Nat.reduceAdd,Zp,Ze,Zj,Zh,Zf,Yb,Yc,Zk,Zl,Zv,ite_true,ite_false,Option.some.injEq,Z2,Prod.mk.injEq,Zx,Z4,Zq,and_self,exists_eq_left',Qp,Q2,Jd,Q5,Qq,Qr,Qd,Qe,Zu,Zd,Nat.reduceBEq,Yl,Yk,beq_self_eq_true,Ya,Qs,Q6,Qt,Jh,Ji,Qf,Qg,Qh,Zm,cutL,Z5,Zn,Zo,Zy,Ym,Yh,Nat.reduceLeDiff,Yn,Yd,Ye,Zw,Q7,Z8,Y0,Qi,Qj,Y1,Z3,Jm,↓msel,muC,↓callP,Q8,Jj,tk3,tk4,tk9,tk22,tk28,tz28,dz28,tk31,dz31,tk33,tk38,tz38,dz38,tk41,tk57,dz57,kWord,kSearch,aWd,aPos,aMove,aMv,← hwd,lt35_47,lt35_63,lt35_110,lt35_78,lt35_42]
        (repeat' first | exact hf | exact hn | exact ⟨hf, hn⟩ | (show dynOrd _ _ = true; kernel_rfl) | exact subX_eq rfl rfl | exact trivial | apply And.intro | rfl | omega)
  · have e1 := str_ne h47
    have e2 := str_ne h63
    have e3 := str_ne h110
    have e4 := str_ne h78
    have e5 := str_ne (fun h => hw (.inl h))
    have e6 := str_ne (fun h => hw (.inr h))
    rw [if_neg h47, if_neg h63, if_neg h110, if_neg h78, if_neg hw]
    simp (maxSteps := 4000000) only [↓Y5,↓Y2,↓Yr,↓Yq,↓Yf,↓Zz,Yu,↓Yi,Zs,Yg,Z6,gw,Zt,Z9,↓chk,Y6,noW,↓oneK,↓Y7,↓Qk,Jb,↓Zr,↓thenA_ret,↓Jp,↓Yw,opnd,Pg.look,binK,Jl,Zc,implies_true,true_and,and_true,forall_const,valV,Y8,Y9,binV,strV,Yx,Qv,nxtQ,hdS,Qw,frzA,Z0,Yj,Z1,Yv,Nat.reduceAdd,ofV,Yy,retA,resK,tupA,subA,subQ,Qa,Qx,frzO,subF,subG,Yz,Qy,Qz,Ja,Q0,frzE,frzC,frzL,frz0,frzH,Pg.freeze,Zi,Qb,subO,Qc,Z7,subM,subL,Ys,Jc,Y3,resM,AV.cells,TK.cells,AV.definite,AV.leaf,AV.leafy,AV.pureLeaf,AV.pureB,Y4,lay,buildL,Za,Zb,Zg,reduceCtorEq,Nat.reduceEqDiff,Nat.reduceAdd,Zp,Ze,Zj,Zh,Zf,Yc,Zk,Zl,Zv,ite_true,ite_false,Option.some.injEq,Q3,AV.agg.injEq,Zx,Z4,Zq,and_self,exists_eq_left',Zu,Zd,Nat.reduceBEq,Yl,Yk,beq_self_eq_true,Zm,cutL,Z5,Zn,Zo,Zy,Ym,Yh,Nat.reduceLeDiff,Yn,Yd,Ye,Zw,Z8,Y0,Qi,Qj,Z3,Jj,tk4,tk9,tk28,tz28,dz28,tk31,dz31,tk33,tk38,tz38,dz38,tk41,tk57,dz57,kWord,kSearch,aWd,aPos,aMove,aMv,mNone,e1,e2,e3,e4,e5,e6]
    (repeat' first | exact hf | exact hn | exact ⟨hf, hn⟩ | (show dynOrd _ _ = true; kernel_rfl) | exact subX_eq rfl rfl | exact trivial | apply And.intro | rfl | omega)
def kSearchA : C1 := C1.mby (hCons (hAgg lAskd) hNil) (fun d => okText d.1.1 ∧ d.1.2.2.2.2.2.2.2.2.1 ≤ 9223372036854775807)
  (fun d => aMove (searchA d.1.1 d.1.2.1 d.1.2.2.2.2.2.1 d.1.2.2.2.2.2.2.2.1 d.1.2.2.2.2.2.2.2.2.1).1) (fun d => cxH (searchA d.1.1 d.1.2.1 d.1.2.2.2.2.2.1 d.1.2.2.2.2.2.2.2.1 d.1.2.2.2.2.2.2.2.2.1).2)
theorem ok_search : C1OK Try.prog 90 kSearchA := C1OK.mby (by kernel_rfl) (fun d h => calls_search d.1.1 d.1.2.1 (d.1.2.2.1, d.1.2.2.2.1, d.1.2.2.2.2.1, d.1.2.2.2.2.2.1, d.1.2.2.2.2.2.2.1, d.1.2.2.2.2.2.2.2.1) d.1.2.2.2.2.2.2.2.2.1 d.1.2.2.2.2.2.2.2.2.2.1 h.1) (fun _ _ => Nat.le_refl _)
end Go.Pg
namespace Go.Pg
open Go Go.Proofs

def isNum (b : UInt8) (n : Int) : Bool := (decide ((b.toNat : Int) ≥ 49) && decide ((b.toNat : Int) ≤ 57)) || ((b.toNat : Int) == 48 && decide (n > 0))
def numL : List UInt8 → Int → Nat → Int × Nat
  | [], n, i => (n, i)
  | b :: t, n, i => if isNum b n = true then numL t (min (10 * n + ((b.toNat : Int) - 48)) 9999) (i + 1) else (n, i)
def numR (k : List UInt8) (i : Nat) (n : Int) : Int × Nat := numL (k.drop i) n i
theorem isNum_range {b : UInt8} {n : Int} (h : isNum b n = true) : 48 ≤ (b.toNat : Int) ∧ (b.toNat : Int) ≤ 57 := by
  unfold isNum at h
  simp only [Bool.or_eq_true,Bool.and_eq_true,decide_eq_true_eq,beq_iff_eq] at h
  omega
theorem numL_in : ∀ (t : List UInt8) (n : Int) (i : Nat), 0 ≤ n → n ≤ 9999 → 0 ≤ (numL t n i).1 ∧ (numL t n i).1 ≤ 9999 ∧ i ≤ (numL t n i).2 ∧ (numL t n i).2 ≤ i + t.length
  | [], n, i, h0, h1 => ⟨h0, h1, Nat.le_refl _, by simp [numL]⟩
  | b :: t, n, i, h0, h1 => by
    unfold numL
    split
    · next hb =>
      have hr := isNum_range hb
      have := numL_in t (min (10 * n + ((b.toNat : Int) - 48)) 9999) (i + 1) (by omega) (by omega)
      simp only [Zh]
      omega
    · simp only [Zh]
      omega
theorem numL_stop : ∀ (t : List UInt8) (n : Int) (i : Nat), numL (t.drop ((numL t n i).2 - i)) (numL t n i).1 (numL t n i).2 = numL t n i
  | [], n, i => by simp [numL]
  | b :: t, n, i => by
    by_cases hb : isNum b n = true
    · have e : numL (b :: t) n i = numL t (min (10 * n + ((b.toNat : Int) - 48)) 9999) (i + 1) := by rw [numL, if_pos hb]
      rw [e]
      have hr := isNum_range hb
      have h2 : i + 1 ≤ (numL t (min (10 * n + ((b.toNat : Int) - 48)) 9999) (i + 1)).2 := by
        have : ∀ (t : List UInt8) (n : Int) (i : Nat), i ≤ (numL t n i).2 := by
          intro t
          induction t with
          | nil => intro n i; exact Nat.le_refl _
          | cons b t ih =>
            intro n i
            unfold numL
            split
            · exact Nat.le_trans (Nat.le_succ i) (ih _ _)
            · exact Nat.le_refl _
        exact this _ _ _
      have ih := numL_stop t (min (10 * n + ((b.toNat : Int) - 48)) 9999) (i + 1)
      generalize numL t (min (10 * n + ((b.toNat : Int) - 48)) 9999) (i + 1) = r at *
      rw [show r.2 - i = (r.2 - (i + 1)) + 1 by omega, List.drop_succ_cons]
      exact ih
    · have e : numL (b :: t) n i = (n, i) := by rw [numL, if_neg hb]
      rw [e]
      show numL ((b :: t).drop (i - i)) n i = (n, i)
      rw [Nat.sub_self]
      exact e
theorem numR_stop (k : List UInt8) (i : Nat) (n : Int) (h0 : 0 ≤ n) (h1 : n ≤ 9999) : numR k (numR k i n).2 (numR k i n).1 = numR k i n := by
  have h := numL_stop (k.drop i) n i
  have h2 := (numL_in (k.drop i) n i h0 h1).2.2.1
  unfold numR
  rw [List.drop_drop] at h
  rwa [show i + ((numL (k.drop i) n i).2 - i) = (numL (k.drop i) n i).2 by omega] at h

set_option maxRecDepth 20000 in
set_option maxHeartbeats 8000000 in
theorem calls_Rnumber (k : List UInt8) (i0 : Nat) (n0 : Int) (hk : k.length ≤ 65536) (hi0 : i0 ≤ k.length) (hn0 : 0 ≤ n0) (hn1 : n0 ≤ 9999) :
    CallsR Try.prog 17 [.sl 1 (ofBytes k), .int .i64 i0, .int .i64 n0] [] (.tuple [.int .i64 (numR k i0 n0).1, .int .i64 (numR k i0 n0).2]) [] := by
  refine callsR_of (mrg := true) (dyn := []) (CtrOK.nil _) mixed Try.func17 rfl (by simp [Try.ntmps17]) (by kernel_rfl) ?_
  rw [show Try.f17.results.toList = [.tmp 6, .tmp 7] from by kernel_rfl]
  obtain ⟨R, hR0⟩ : ∃ R, R = numR k i0 n0 := ⟨_, rfl⟩
  rw [← hR0]
  simp (maxSteps := 4000000) only [↓Y5,↓Yr,↓Yf,↓wpH_loop,↓Zz,Zs,Yg,Z6,gw,Zt,↓chk,Y6,↓oneK,↓Y7,Jb,↓Zr,↓Yw,opnd,Zc,implies_true,true_and,valV,Y8,Y9,Nat.reduceAdd,ofV,Yy,Nat.reduceAdd,Zf,Zv,ite_false,and_self,Zd,Z8,Y0,Qi,Qj,Z3]
  refine loopH_intro (α := Nat × Int) (fun x => ([(0, .sl 1 (ofBytes k)), (1, .int .i64 x.1), (2, .int .i64 x.2), (6, .int .i64 0), (7, .int .i64 0)], []))
    (fun x => x.1 ≤ k.length ∧ 0 ≤ x.2 ∧ x.2 ≤ 9999 ∧ numR k x.1 x.2 = R) (fun x => k.length - x.1) (i0, n0) ⟨hi0, hn0, hn1, hR0.symm⟩ ?_ ?_
  · simp (maxSteps := 4000000) only [Pg.look,Yx,Z0,Z1,subA,subQ,Qa,frzO,subF,subG,Yz,frzE,frzC,frz0,frzH,Pg.freeze,Zi,Qb,Qc,Z7,subM,reduceCtorEq,Nat.reduceEqDiff,Ze,ite_true,ite_false,and_self,Jn]
  rintro ⟨i, n⟩ ⟨hi, h0, h1, hR⟩
  dsimp only at hi h0 h1 hR
  by_cases hlt : i < k.length
  · have c1 : decide ((i : Int) < (k.length : Int)) = true := decide_eq_true (by omega)
    have hd := drop_step k i hlt
    unfold numR at hR
    rw [hd] at hR
    obtain ⟨b, hb⟩ : ∃ b, b = k.getD i 0 := ⟨_, rfl⟩
    have hb256 : b.toNat < 256 := b.toNat_lt
    rw [← hb] at hR
    have hN : numL (b :: k.drop (i + 1)) n i = if isNum b n = true then numL (k.drop (i + 1)) (min (10 * n + ((b.toNat : Int) - 48)) 9999) (i + 1) else (n, i) := rfl
    rw [hN] at hR
    cases hq : isNum b n with
    | true =>
      have hr := isNum_range hq
      rw [hq, if_pos rfl] at hR
      have w1 : IntKind.i64.wrap (10 * n) = 10 * n := wrap64 (by omega) (by omega)
      have w2 : IntKind.u8.wrap ((b.toNat : Int) - 48) = (b.toNat : Int) - 48 := by show ((b.toNat : Int) - 48) % 256 = _; omega
      have w3 : IntKind.i64.wrap ((b.toNat : Int) - 48) = (b.toNat : Int) - 48 := wrap64 (by omega) (by omega)
      have w4 : IntKind.i64.wrap (10 * n + ((b.toNat : Int) - 48)) = 10 * n + ((b.toNat : Int) - 48) := wrap64 (by omega) (by omega)
      have w5 : IntKind.i64.wrap ((i : Int) + 1) = ((i + 1 : Nat) : Int) := by rw [wrap64 (by omega) (by omega)]; rfl
      have D : (decide ((b.toNat : Int) ≥ 49) = true ∧ decide ((b.toNat : Int) ≤ 57) = true ∧ decide ((b.toNat : Int) ≥ 49) = true ∧ decide ((b.toNat : Int) ≥ 49) = true)
          ∨ (decide ((b.toNat : Int) ≥ 49) = false ∧ decide ((b.toNat : Int) ≥ 49) = false ∧ ((b.toNat : Int) == 48) = true ∧ decide (n > 0) = true) := by
        by_cases e : (b.toNat : Int) ≥ 49
        · exact .inl ⟨decide_eq_true e, decide_eq_true (by omega), decide_eq_true e, decide_eq_true e⟩
        · refine .inr ⟨decide_eq_false e, decide_eq_false e, by rw [beq_iff_eq]; omega, decide_eq_true ?_⟩
          unfold isNum at hq
          simp only [Bool.or_eq_true,Bool.and_eq_true,decide_eq_true_eq,beq_iff_eq] at hq
          omega
      rcases D with ⟨e1, e2, e3, e4⟩ | ⟨e1, e2, e3, e4⟩
      all_goals
        simp (maxSteps := 4000000) only [↓Y5,↓Qn,↓Yr,↓Yq,↓Yf,↓Zz,↓Yo,Zs,Yg,Z6,gw,Zt,gselH_if,kselH_0,kselH_1,Z9,gkind,↓chk,pickO,Y6,noW,↓oneK,↓Y7,↓Qk,↓Zr,↓Yp,↓Yw,opnd,Pg.look,binK,intOp,dstOf,Bool.and_false,Yt,Qu,Zc,Bool.true_eq_false,false_implies,implies_true,imp_self,true_and,and_true,forall_const,pickC,pickV,unc,gof,mux,mergeK,condsL,valV,Y8,Y9,binV,intV,Yx,Z0,Z1,mergeable,Jo,ofV,Yy,sameK,subA,subQ,Qa,frzO,subF,subG,Yz,frzE,frzC,frz0,frzH,Pg.freeze,Zi,Qb,Qc,Z7,subM,slen,Ys,AV.cells,TK.cells,foldInts,Op.operands,Qm,Za,Zb,Je,Zg,reduceCtorEq,Nat.reduceEqDiff,Ze,Yb,Yc,ite_true,ite_false,Option.some.injEq,AV.int.injEq,Bool.if_false_right,Bool.decide_eq_true,ne_eq,not_false_eq_true,Zq,and_self,exists_eq_left',Jn,Q1,Q9,Jk,Zd,Ql,Z8,Y0,Qi,Qj,Z3,tk3,tk5,dz5,tk24,c1,← hb,e1,e2,e3,e4,w1,w2,w3,w4,w5]
        (repeat' first | exact ⟨(i + 1, min (10 * n + ((b.toNat : Int) - 48)) 9999), ⟨by dsimp only; omega, by dsimp only; omega, by dsimp only; omega, by unfold numR; exact hR⟩, by dsimp only; omega, rfl, rfl⟩ | refine And.intro ?_ ?_ | omega)
    | false =>
      rw [hq, if_neg (by simp)] at hR
      have D : (decide ((b.toNat : Int) ≥ 49) = true ∧ decide ((b.toNat : Int) ≤ 57) = false ∧ ((b.toNat : Int) == 48) = false ∧ decide ((b.toNat : Int) ≥ 49) = true)
          ∨ (decide ((b.toNat : Int) ≥ 49) = false ∧ decide ((b.toNat : Int) ≥ 49) = false ∧ ((b.toNat : Int) == 48) = false ∧ decide ((b.toNat : Int) ≥ 49) = false)
          ∨ (decide ((b.toNat : Int) ≥ 49) = false ∧ decide ((b.toNat : Int) ≥ 49) = false ∧ ((b.toNat : Int) == 48) = true ∧ decide (n > 0) = false) := by
        unfold isNum at hq
        simp only [Bool.or_eq_false_iff,Bool.and_eq_false_iff,decide_eq_false_iff_not,beq_eq_false_iff_ne] at hq
        by_cases e : (b.toNat : Int) ≥ 49
        · exact .inl ⟨decide_eq_true e, decide_eq_false (by omega), by rw [beq_eq_false_iff_ne]; omega, decide_eq_true e⟩
        · by_cases e2 : (b.toNat : Int) = 48
          · exact .inr (.inr ⟨decide_eq_false e, decide_eq_false e, by rw [beq_iff_eq]; exact e2, decide_eq_false (by omega)⟩)
          · exact .inr (.inl ⟨decide_eq_false e, decide_eq_false e, by rw [beq_eq_false_iff_ne]; exact e2, decide_eq_false e⟩)
      subst hR
      rcases D with ⟨e1, e2, e3, e4⟩ | ⟨e1, e2, e3, e4⟩ | ⟨e1, e2, e3, e4⟩
      all_goals
        simp (maxSteps := 4000000) only [↓Y5,↓Y2,↓wpH_exit,↓Yr,↓Yq,↓Zz,↓Yi,Zs,Yg,Z6,gw,Zt,gselH_if,kselH_0,kselH_1,Z9,gkind,↓chk,pickO,Y6,noW,↓oneK,↓Y7,↓Qk,↓Zr,↓thenA_exit,↓blockA_exit,↓Yw,opnd,Pg.look,binK,intOp,dstOf,Bool.and_false,Yt,Qu,Zc,Bool.true_eq_false,false_implies,implies_true,imp_self,true_and,and_true,forall_const,pickC,pickV,unc,gof,mux,mergeK,condsL,valV,Y8,Y9,binV,intV,Yx,Z0,Z1,mergeable,Jo,ofV,Yy,sameK,retA,resK,tupA,subA,subQ,Qa,frzO,subF,subG,Yz,frzE,frzC,frzL,frz0,frzH,Pg.freeze,Zi,Qb,Qc,Z7,subM,subL,slen,Ys,AV.cells,TK.cells,Op.operands,Qm,Za,Zb,Je,Zg,reduceCtorEq,Nat.reduceEqDiff,Ze,Zf,ite_true,ite_false,Option.some.injEq,AV.int.injEq,Zq,and_self,exists_eq_left',Jn,Q1,Q9,Jk,Zd,Ql,Z8,Y0,Qi,Qj,Z3,tk5,dz5,tk24,c1,← hb,e1,e2,e3,e4]
        (repeat' first | refine And.intro ?_ ?_ | omega)
  · have c1 : decide ((i : Int) < (k.length : Int)) = false := decide_eq_false (by omega)
    unfold numR at hR
    rw [List.drop_eq_nil_of_le (by omega)] at hR
    rw [← hR, numL]
    simp (maxSteps := 4000000) only [↓Y5,↓Y2,↓wpH_exit,↓Yr,↓Yq,↓Zz,↓Yi,Zs,Yg,Z6,gw,Zt,gselH_if,kselH_0,kselH_1,Z9,gkind,↓chk,pickO,Y6,noW,↓oneK,↓Y7,↓Qk,↓Zr,↓thenA_exit,↓blockA_exit,↓Yw,opnd,Pg.look,binK,intOp,dstOf,Yt,Zc,false_implies,implies_true,imp_self,true_and,and_true,pickC,pickV,unc,gof,mux,mergeK,condsL,valV,Y8,Y9,binV,intV,Yx,Z0,Z1,mergeable,Jo,ofV,Yy,sameK,retA,resK,tupA,subA,subQ,Qa,frzO,subF,subG,Yz,frzE,frzC,frzL,frz0,frzH,Pg.freeze,Zi,Qb,Qc,Z7,subM,subL,slen,Ys,AV.cells,TK.cells,Op.operands,Qm,Za,Zb,Je,Zg,reduceCtorEq,Nat.reduceEqDiff,Ze,Zf,ite_true,ite_false,Option.some.injEq,AV.int.injEq,Bool.if_false_right,Bool.if_true_left,Bool.decide_eq_true,decide_eq_true_eq,decide_eq_false_iff_not,Int.not_le,Zq,and_self,exists_eq_left',Jn,Q1,Q9,Jk,Zd,Ql,Z8,Y0,Qi,Qj,Z3,tk5,dz5,tk24,c1]
    simp
def kRNumber : C1 := C1.by [.sl 1 [], .id, .id] (lCons (cSl 1 cByte) (lCons (cInt .i64) (lOne (cInt .i64)))) (fun d => d.1.length ≤ 65536 ∧ 0 ≤ d.2.1 ∧ d.2.1.toNat ≤ d.1.length ∧ 0 ≤ d.2.2 ∧ d.2.2 ≤ 9999) (fun d => .tuple [.int .i64 (numR d.1 d.2.1.toNat d.2.2).1, .int .i64 (numR d.1 d.2.1.toNat d.2.2).2]) (fun _ => [])
theorem ok_Rnumber : C1OK Try.prog 17 kRNumber := C1OK.by (by kernel_rfl) (fun d h => by
  obtain ⟨k, i, n⟩ := d
  obtain ⟨h1, h2, h3, h4, h5⟩ := h
  obtain ⟨j, rfl⟩ := Int.eq_ofNat_of_zero_le h2
  exact calls_Rnumber k j n h1 h3 h4 h5) (fun _ => rfl) (fun _ => rfl)

def plainK (b : UInt8) : Bool := !((b == 13 || b == 27) || ((b == 10 || b == 8) || b == 127))
def patPre (k : List UInt8) : Bool := k == k.dropLast ++ [13] && (k.dropLast.all plainK && decide (k.dropLast.length ≤ 64))
theorem plain_lits {b : UInt8} (h : plainK b = true) : ((b.toNat : Int) == 13) = false ∧ ((b.toNat : Int) == 27) = false ∧ ((b.toNat : Int) == 10) = false ∧ ((b.toNat : Int) == 8) = false ∧ ((b.toNat : Int) == 127) = false := by
  unfold plainK at h
  simp only [Bool.not_eq_true',Bool.or_eq_false_iff,beq_eq_false_iff_ne] at h
  exact ⟨byte_lit b 13 13 rfl h.1.1, byte_lit b 27 27 rfl h.1.2, byte_lit b 10 10 rfl h.2.1.1, byte_lit b 8 8 rfl h.2.1.2, byte_lit b 127 127 rfl h.2.2⟩
set_option maxRecDepth 20000 in
set_option maxHeartbeats 8000000 in
theorem calls_Rpattern (body : List UInt8) (c : Cm) (hb : body.all plainK = true) (hl : body.length ≤ 64) :
    CallsR Try.prog 35 [.sl 1 (ofBytes (body ++ [13])), .agg (aCm c)] [] (.tuple [.int .i64 1, .agg (aCm (c.1, c.2.1, c.2.2.1, c.2.2.2.1, c.2.2.2.2.1, body))]) [] := by
  obtain ⟨rg, cn, opr, name, arg, text⟩ := c
  refine callsR_of (mrg := true) (dyn := []) (CtrOK.nil _) mixed Try.func35 rfl (by simp [Try.ntmps35]) (by kernel_rfl) ?_
  rw [show Try.f35.results.toList = [.tmp 4, .cell 5 33] from by kernel_rfl]
  obtain ⟨k, hk⟩ : ∃ k, k = body ++ [13] := ⟨_, rfl⟩
  rw [← hk]
  have hkl : k.length = body.length + 1 := by rw [hk]; simp
  simp (maxSteps := 4000000) only [↓Y5,↓Yr,↓Yf,↓wpH_loop,↓Zz,Zs,Yg,Z6,gw,Zt,↓chk,Y6,noW,↓oneK,↓Y7,↓Qk,Jb,↓Zr,↓Yw,opnd,Pg.look,Zc,implies_true,true_and,valV,Y8,Y9,Nat.reduceAdd,ofV,Yy,AV.cells,AV.definite,reduceCtorEq,Nat.reduceAdd,Zp,Zj,Zh,Zf,Zv,ite_true,ite_false,and_self,Zd,Z8,Y0,Qi,Qj,Z3,tz33]
  refine loopH_intro (α := Nat) (fun i => ([(0, .sl 1 (ofBytes k)), (3, .ptr 0 6 1 0 0), (4, .int .i64 0), (5, .ptr 1 6 1 0 0), (6, .own 2 1 (body.take i).length), (7, .int .i64 i)], [.arr 33 6 [.agg [byteA rg, .int .i64 cn, .str opr, .str name, byteA arg, .str text]], .arr 33 6 [.agg [.int .u8 0, .int .i64 0, .str [], .str [], .int .u8 0, .str []]], .arr 5 1 (ofBytes (body.take i))]))
    (fun i => i ≤ body.length) (fun i => body.length + 1 - i) 0 (Nat.zero_le _) ?_ ?_
  · simp (maxSteps := 4000000) only [Pg.look,true_and,and_true,Yx,Qv,nxtQ,hdS,Qw,frzA,Z0,Yj,Z1,Nat.reduceAdd,subA,subQ,Qa,Qx,frzO,subF,subG,Yz,assocN,Qy,Qz,Q0,frzE,frzC,frz0,frzH,Pg.freeze,Zi,Qb,subO,Qc,Z7,subM,AV.cells,AV.pureLeaf,AV.pureB,Za,Zb,reduceCtorEq,Nat.reduceEqDiff,Nat.reduceAdd,Zp,Ze,Zj,Zf,Zv,ite_true,ite_false,Zx,Z4,Zq,and_self,Int.cast_ofNat_Int,Zy,Nat.lt_irrefl,Nat.not_lt_zero]
    (repeat' first | exact subX_eq rfl rfl | exact subX_eq rfl (pureB_bytes _) | exact subX_nls rfl | apply And.intro | rfl | omega)
  intro i hi
  have c1 : decide ((i : Int) < (k.length : Int)) = true := decide_eq_true (by omega)
  by_cases hlt : i < body.length
  · obtain ⟨b, hbb⟩ : ∃ b, b = k.getD i 0 := ⟨_, rfl⟩
    have hb2 : b = body.getD i 0 := by rw [hbb, hk, List.getD_eq_getElem?_getD, List.getElem?_append_left hlt, List.getD_eq_getElem?_getD]
    have hbp : plainK b = true := by
      rw [hb2, List.getD_eq_getElem?_getD, List.getElem?_eq_getElem hlt]
      exact List.all_eq_true.1 hb _ (List.getElem_mem hlt)
    obtain ⟨p1, p2, p3, p4, p5⟩ := plain_lits hbp
    have hts : body.take (i + 1) = body.take i ++ [b] := by rw [hb2]; exact take_succ_getD body i 0 hlt
    have hlen : (body.take i).length = i := by rw [List.length_take]; omega
    have w1 : IntKind.i64.wrap ((i : Int) + 1) = ((i + 1 : Nat) : Int) := by rw [wrap64 (by omega) (by omega)]; rfl
    obtain ⟨o, ho⟩ : ∃ o, o = body.take i := ⟨_, rfl⟩
    rw [← ho] at hts hlen ⊢
    have hap := app1_ofBytes o b
    have c2 : decide (((o.length + 1 : Nat) : Int) > 64) = false := decide_eq_false (by omega)
    simp (maxSteps := 4000000) only [↓Y5,↓Qn,↓Yr,↓Yq,↓Yf,↓Zz,↓Yo,↓Yi,Zs,Yg,Z6,gw,Zt,gselH_if,kselH_1,Z9,gkind,↓chk,Y6,noW,↓oneK,↓Y7,↓Qk,↓Zr,↓Yp,↓Yw,opnd,Pg.look,binK,intOp,dstOf,Yt,Zc,implies_true,true_and,and_true,pickC,pickV,unc,gof,mux,mergeK,condsL,valV,Y8,Y9,binV,intV,Yx,Qv,nxtQ,hdS,Qw,frzA,Z0,Yj,Z1,Nat.reduceAdd,mergeable,Jo,ofV,Yy,sameK,subA,subQ,Qa,Qx,frzO,subF,subG,Yz,assocN,Qy,Qz,Q0,frzE,frzC,frz0,frzH,Pg.freeze,Zi,Qb,subO,Qc,Z7,subM,slen,srcV,srcE,appK,Ys,Jc,AV.cells,TK.cells,AV.definite,AV.leaf,AV.leafy,AV.pureLeaf,AV.pureB,Op.operands,Qm,Za,Zb,Je,Zg,reduceCtorEq,Nat.reduceEqDiff,Nat.reduceAdd,Zp,Ze,Zj,Zh,Zf,Yb,Yc,Zk,Zl,Zv,ite_true,ite_false,Option.some.injEq,Q3,AV.int.injEq,Zx,Z4,Zq,and_self,exists_eq_left',Q1,rg1,Q9,Jk,Zd,beq_self_eq_true,Nat.reducePow,Ql,Nat.reduceLeDiff,Nat.lt_irrefl,Nat.mul_one,Nat.not_lt_zero,Z8,Y0,Qi,Qj,Z3,tk5,dz5,eb5,tk24,c1,← hbb,p1,p2,p3,p4,p5,hap,w1,c2]
    refine ⟨⟨by omega, by omega⟩, ⟨by decide, by omega⟩, i + 1, by omega, by omega, ?_⟩
    rw [hts]
    (repeat' first | exact subX_eq rfl rfl | exact subX_eq rfl (pureB_bytes _) | apply And.intro | rfl | (simp; done) | omega)
  · have hie : i = body.length := by omega
    subst hie
    have hbb : (k.getD body.length 0) = 13 := by rw [hk, List.getD_eq_getElem?_getD, List.getElem?_append_right (Nat.le_refl _)]; simp
    rw [List.take_of_length_le (Nat.le_refl _)]
    simp (maxSteps := 4000000) only [↓Y5,↓Qn,↓Y2,↓Yr,↓Yq,↓Yf,↓Zz,↓Yo,Zs,Yg,Z6,gw,Zt,Z9,↓chk,Y6,noW,↓oneK,↓Y7,↓Qk,↓Zr,↓thenA_ret,↓Jp,↓Yw,opnd,Pg.look,binK,intOp,Zc,implies_true,true_and,and_true,valV,Y8,Y9,binV,intV,Yx,Z0,Z1,Nat.reduceAdd,ofV,Yy,retA,resK,tupA,subA,subQ,Qa,frzO,subF,subG,Yz,frzE,frzC,frzL,frz0,frzH,Pg.freeze,Zi,Qb,Qc,Z7,subM,subL,slen,srcV,srcL,Ys,Jc,Y3,resM,AV.cells,TK.cells,AV.leaf,AV.leafy,Y4,lay,Za,Zb,Zg,reduceCtorEq,Nat.reduceEqDiff,Nat.reduceAdd,Zp,Ze,Zj,Zh,Zf,Zk,Zl,Zv,ite_true,ite_false,Option.some.injEq,AV.int.injEq,AV.str.injEq,Zx,Z4,Zq,and_self,exists_eq_left',Jn,Q9,Jk,bytesOf_ofBytes,Zd,beq_self_eq_true,Int.cast_ofNat_Int,Ql,Zm,cutL,Z5,Zn,Zo,Zy,Yh,Yn,Yd,Ye,Zw,Z8,Y0,Qi,Qj,Y1,Z3,Jm,Jj,tk5,dz5,tk9,tk24,tk33,dz33,c1,hbb,UInt8.reduceToNat]
    (repeat' first | exact subX_eq rfl rfl | exact subX_eq rfl (pureB_bytes _) | (show dynOrd _ _ = true; kernel_rfl) | apply And.intro | rfl | (simp; done) | omega)
abbrev lCmR : CdL Cm := lCons cByte (lCons (cInt .i64) (lCons cStr (lCons cStr (lCons cByte (lOne cStr)))))
def kRPattern : C1 := C1.by [.sl 1 [], .id] (lCons (cSl 1 cByte) (lOne (cAgg lCmR))) (fun d => patPre d.1 = true) (fun d => .tuple [.int .i64 1, .agg (aCm (d.2.1, d.2.2.1, d.2.2.2.1, d.2.2.2.2.1, d.2.2.2.2.2.1, d.1.dropLast))]) (fun _ => [])
theorem ok_Rpattern : C1OK Try.prog 35 kRPattern := C1OK.by (by kernel_rfl) (fun d h => by
  unfold patPre at h
  rw [Bool.and_eq_true, Bool.and_eq_true, decide_eq_true_eq, beq_iff_eq] at h
  have := calls_Rpattern d.1.dropLast d.2 h.2.1 h.2.2
  rw [← h.1] at this
  exact this) (fun _ => rfl) (fun _ => rfl)
end Go.Pg
namespace Go.Pg
open Go Go.Proofs

end Go.Pg
