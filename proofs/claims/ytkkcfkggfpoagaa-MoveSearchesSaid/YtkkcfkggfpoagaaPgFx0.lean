/- Facts of the program's types, by the kernel. Lists of strings are compared as they are. Letters, places, copies of lists. Lists of lines, places. Classes of bytes, places in order. Small parts of the document's motions. Sizes of lines, lines that may be asked, places, changes held against one another. Places behind a place, and ahead of it. Few lines; places by two numbers. Where words begin and end, by the document: plain. -/
import Derived.Test.YtkkcfkggfpoagaaPgLst
import Derived.Test.YtkkcfkggfpoagaaProg
import Derived.KernelRfl
import Derived.Test.YtkkcfkggfpoagaaPgHcd
open List renaming getElem?_cons_zero → Za, append_nil → Zc, contains_nil → Zd, foldl_nil → Ze, getElem?_cons_succ → Zf, length_nil → Zg, getElem?_toArray → Zi, toList_toArray → Zl, getD_cons_zero → Zu, nil_append → Zy, length_cons → Z1, length_map → Z4, cons_append → Yt, take_succ_cons → Yy, all_cons → Y1, map_nil → Y6, all_nil → Y7, drop_zero → Qa, take_zero → Qb, map_cons → Qj, take_nil → Qk
open Bool renaming false_eq_true → Zb, if_false_right → Zk, and_self → Zr, decide_eq_true → Zt, and_eq_true → Z6, if_true_left → Yj, not_eq_true' → Yk
open Option renaming getD_some → Zh, bind_some → Zx
open Go.Pg renaming thenA_normal → Zj, closeQ_nil → Zm, diagQ_zero → Zn, pickOK_nil → Zo, bselH_false → Zp, gselH_plain → Zq, subV_succ → Zs, wpH_region → Zv, selC_false → Zw, runH_cons → Zz, regH_none → Z0, runH_nil → Z5, wpH_ret → Z7, wpH_seq → Z8, alives → Z9, pickOf → Ya, look_stripE → Yb, stepEv → Yc, ofLeaf → Yd, isNext → Ye, ptrsE → Yf, subOs → Yg, subEv → Yh, mergeable → Yi, wpA_H → Yl, justK → Ym, pureK → Yn, heapV → Yo, footV → Yp, nextF → Yq, nextG → Yr, gselH_if → Ys, ldCells → Yu, intOp → Yv, kselH_1 → Yz, envOf → Y0, cselH_bool → Y2, mergeK → Y3, condsL → Y4, wpH_block → Y8, thenA_ret → Y9, getD_str → Qd, wpH_skip → Qe, wpH_cond → Qf, iselH_if → Qg, blockA_ret → Qh, blockA_normal → Qi
open Nat renaming zero_lt_succ → Z2, zero_add → Z3, add_zero → Y5
open Int renaming not_lt → Yw, not_le → Qc
open Array renaming toList_append → Yx
namespace Go.Pg
open Go Go.Proofs
theorem mixed : Try.prog.follows .mixedOrders = true := by kernel_rfl
theorem tk3 : tk Try.prog 3 = TK.int IntKind.i64 := by kernel_rfl
theorem dz3 : dz Try.prog 3 = AV.int IntKind.i64 0 := by kernel_rfl
theorem eb3 : eb Try.prog 3 = some 8 := by kernel_rfl
theorem tk4 : tk Try.prog 4 = TK.bool := by kernel_rfl
theorem tz4 : tz Try.prog 4 = AV.bool false := by kernel_rfl
theorem dz4 : dz Try.prog 4 = AV.bool false := by kernel_rfl
theorem tk5 : tk Try.prog 5 = TK.int IntKind.u8 := by kernel_rfl
theorem tk9 : tk Try.prog 9 = TK.str := by kernel_rfl
theorem tz9 : tz Try.prog 9 = AV.str [] := by kernel_rfl
theorem dz9 : dz Try.prog 9 = AV.str [] := by kernel_rfl
theorem eb9 : eb Try.prog 9 = some 16 := by kernel_rfl
theorem tk22 : tk Try.prog 22 = TK.slice 9 1 := by kernel_rfl
theorem dz22 : dz Try.prog 22 = AV.sl 1 [] := by kernel_rfl
theorem tk23 : tk Try.prog 23 = TK.int IntKind.u16 := by kernel_rfl
theorem tk28 : tk Try.prog 28 = TK.struct 2 [some (0, 1), some (1, 1)] := by kernel_rfl
theorem tz28 : tz Try.prog 28 = AV.agg [AV.int IntKind.i64 0, AV.int IntKind.i64 0] := by kernel_rfl
theorem dz28 : dz Try.prog 28 = AV.agg [AV.int IntKind.i64 0, AV.int IntKind.i64 0] := by kernel_rfl
theorem eb28 : eb Try.prog 28 = some 16 := by kernel_rfl
theorem eq28 : eqK Try.prog 28 = some [1, 1] := by kernel_rfl
theorem tk31 : tk Try.prog 31 = TK.struct 8 [some (0, 2), some (2, 1), some (3, 1), some (4, 1), some (5, 1), some (6, 1), some (7, 1)] := by kernel_rfl
theorem tz31 : tz Try.prog 31 = AV.agg [AV.int IntKind.i64 0, AV.int IntKind.i64 0, AV.int IntKind.i64 0, AV.int IntKind.i64 0, AV.int IntKind.u8 0, AV.int IntKind.u8 0, AV.str [], AV.bool false] := by kernel_rfl
theorem dz31 : dz Try.prog 31 = AV.agg [AV.int IntKind.i64 0, AV.int IntKind.i64 0, AV.int IntKind.i64 0, AV.int IntKind.i64 0, AV.int IntKind.u8 0, AV.int IntKind.u8 0, AV.str [], AV.bool false] := by kernel_rfl
theorem tk33 : tk Try.prog 33 = TK.struct 6 [some (0, 1), some (1, 1), some (2, 1), some (3, 1), some (4, 1), some (5, 1)] := by kernel_rfl
theorem tz33 : tz Try.prog 33 = AV.agg [AV.int IntKind.u8 0, AV.int IntKind.i64 0, AV.str [], AV.str [], AV.int IntKind.u8 0, AV.str []] := by kernel_rfl
theorem dz33 : dz Try.prog 33 = AV.agg [AV.int IntKind.u8 0, AV.int IntKind.i64 0, AV.str [], AV.str [], AV.int IntKind.u8 0, AV.str []] := by kernel_rfl
theorem tk38 : tk Try.prog 38 = TK.struct 5 [some (0, 2), some (2, 1), some (3, 1), some (4, 1)] := by kernel_rfl
theorem tz38 : tz Try.prog 38 = AV.agg [AV.int IntKind.i64 0, AV.int IntKind.i64 0, AV.int IntKind.i64 0, AV.bool false, AV.int IntKind.i64 0] := by kernel_rfl
theorem dz38 : dz Try.prog 38 = AV.agg [AV.int IntKind.i64 0, AV.int IntKind.i64 0, AV.int IntKind.i64 0, AV.bool false, AV.int IntKind.i64 0] := by kernel_rfl
theorem tk41 : tk Try.prog 41 = TK.leaf := by kernel_rfl
theorem pt55 : ptrT Try.prog 55 = true := by kernel_rfl
theorem tk57 : tk Try.prog 57 = TK.struct 10 [some (0, 1), some (1, 1), some (2, 6), some (8, 1), some (9, 1)] := by kernel_rfl
theorem tz57 : tz Try.prog 57 = AV.agg [AV.nls, AV.npt, AV.int IntKind.u8 0, AV.int IntKind.i64 0, AV.str [], AV.str [], AV.int IntKind.u8 0, AV.str [], AV.int IntKind.i64 0, AV.bool false] := by kernel_rfl
theorem dz57 : dz Try.prog 57 = AV.agg [AV.sl 1 [], AV.npt, AV.int IntKind.u8 0, AV.int IntKind.i64 0, AV.str [], AV.str [], AV.int IntKind.u8 0, AV.str [], AV.int IntKind.i64 0, AV.bool false] := by kernel_rfl
theorem tk61 : tk Try.prog 61 = TK.slice 28 2 := by kernel_rfl
theorem tz61 : tz Try.prog 61 = AV.nls := by kernel_rfl
theorem dz61 : dz Try.prog 61 = AV.sl 2 [] := by kernel_rfl
theorem eb61 : eb Try.prog 61 = some 24 := by kernel_rfl
theorem tk98 : tk Try.prog 98 = TK.leaf := by kernel_rfl
theorem tk110 : tk Try.prog 110 = TK.slice 3 1 := by kernel_rfl
theorem tk120 : tk Try.prog 120 = TK.slice 61 1 := by kernel_rfl
end Go.Pg
namespace Go.Pg
open Go Go.Proofs

end Go.Pg
namespace Go.Pg
open Go Go.Proofs

def place (ls : List (List UInt8)) (l c : Int) : Bool :=
  decide (l ≥ 0) && decide (l < ls.length) && decide (c ≥ 0) && decide (c ≤ (ls.getD l.toNat []).length)

theorem calls_Place (ls : List (List UInt8)) (l c : Int) : CallsR Try.prog 63 [.sl 1 (ls.map .str), .agg [.int .i64 l, .int .i64 c]] [] (.bool (place ls l c)) [] := by
  refine callsR_of (mrg := true) (dyn := []) (CtrOK.nil _) mixed Try.func63 rfl (by simp [Try.ntmps63]) (by kernel_rfl) ?_
  rw [show Try.f63.results.toList = [.tmp 4] from by kernel_rfl]
  simp (maxSteps := 4000000) only [↓Yl,↓Z7,↓Z8,↓Zv,Zp,Z5,Zz,gw,Zq,Ys,Yz,gkind,↓chk,Ym,noW,↓oneK,↓Yn,↓heapK,Y0,↓Zj,↓Yc,opnd,Pg.look,binK,Yv,dstOf,Zb,implies_true,imp_self,true_and,and_true,pickC,pickV,unc,gof,mux,Y3,Y4,valV,Yo,Yp,binV,intV,Z9,Zm,Zn,Nat.reduceAdd,Yi,Yb,ofV,Yd,sameK,retA,resK,tupA,subA,subQ,Yf,frzO,subF,subG,Ya,frzE,frzC,frz0,frzH,Pg.freeze,Ze,Yg,Yh,Zs,subM,slen,Yu,objAt,AV.cells,TK.cells,AV.definite,Op.operands,Call.operands,Yx,Zi,Zf,Za,Zx,Zh,reduceCtorEq,Nat.reduceEqDiff,Nat.reduceAdd,Zy,Zc,Z1,Zg,Z3,ite_true,ite_false,Option.some.injEq,AV.int.injEq,Zk,Zt,decide_eq_true_eq,decide_eq_false_iff_not,Qc,Zr,and_self,exists_eq_left',Zo,Z4,Zl,Zd,Qd,Zu,Y5,Z2,Z0,Ye,Yq,Yr,selC_true,Zw,pureC,tk3,tk9,dz9,tk22,tk28,dz28]
  refine ⟨fun h => ?_, rfl⟩
  have h' := h
  simp at h'
  exact ⟨h, by omega, by omega⟩

theorem calls_RPlace (ls : List (List UInt8)) (l c : Int) : CallsR Try.prog 50 [.sl 1 (ls.map .str), .agg [.int .i64 l, .int .i64 c]] [] (.bool (place ls l c)) [] := by
  refine callsR_of (mrg := true) (dyn := []) (CtrOK.nil _) mixed Try.func50 rfl (by simp [Try.ntmps50]) (by kernel_rfl) ?_
  rw [show Try.f50.results.toList = [.tmp 4] from by kernel_rfl]
  simp (maxSteps := 4000000) only [↓Yl,↓Z7,↓Z8,↓Zv,Zp,Z5,Zz,gw,Zq,Ys,Yz,gkind,↓chk,Ym,noW,↓oneK,↓Yn,↓heapK,Y0,↓Zj,↓Yc,opnd,Pg.look,binK,Yv,dstOf,Zb,implies_true,imp_self,true_and,and_true,pickC,pickV,unc,gof,mux,Y3,Y4,valV,Yo,Yp,binV,intV,Z9,Zm,Zn,Nat.reduceAdd,Yi,Yb,ofV,Yd,sameK,retA,resK,tupA,subA,subQ,Yf,frzO,subF,subG,Ya,frzE,frzC,frz0,frzH,Pg.freeze,Ze,Yg,Yh,Zs,subM,slen,Yu,objAt,AV.cells,TK.cells,AV.definite,Op.operands,Call.operands,Yx,Zi,Zf,Za,Zx,Zh,reduceCtorEq,Nat.reduceEqDiff,Nat.reduceAdd,Zy,Zc,Z1,Zg,Z3,ite_true,ite_false,Option.some.injEq,AV.int.injEq,Zk,Zt,decide_eq_true_eq,decide_eq_false_iff_not,Qc,Zr,and_self,exists_eq_left',Zo,Z4,Zl,Zd,Qd,Zu,Y5,Z2,Z0,Ye,Yq,Yr,selC_true,Zw,pureC,tk3,tk9,dz9,tk22,tk28,dz28]
  refine ⟨fun h => ?_, rfl⟩
  have h' := h
  simp at h'
  exact ⟨h, by omega, by omega⟩

end Go.Pg
namespace Go.Pg
open Go Go.Proofs

abbrev Ls := List (List UInt8)
def aPos (p : Int × Int) : AV := .agg [.int .i64 p.1, .int .i64 p.2]
theorem getD_pos (l : List (Int × Int)) (i : Nat) : (l.map aPos).getD i (.agg [.int .i64 0, .int .i64 0]) = aPos (l.getD i (0, 0)) := getD_map aPos l i (0, 0)

/-- Few lines, none of them long. -/
def small (ls : Ls) : Prop := ls.length ≤ 1099511627776 ∧ ∀ i, (ls.getD i []).length ≤ 1099511627776

theorem place_iff (ls : Ls) (l c : Int) : place ls l c = true ↔ 0 ≤ l ∧ l.toNat < ls.length ∧ 0 ≤ c ∧ c ≤ (ls.getD l.toNat []).length := by
  simp only [place,Z6,decide_eq_true_eq]
  omega

end Go.Pg
namespace Go.Pg
open Go Go.Proofs

theorem grd1 (x : Bool) (p : Prop) [Decidable p] : (x = false → x = false ∧ (p → (!x && decide p) = true)) = True := by
  cases x <;> simp
def wordB (c : Int) : Bool := (decide (c ≥ 97) && decide (c ≤ 122)) || (decide (c ≥ 65) && decide (c ≤ 90)) || (decide (c ≥ 48) && decide (c ≤ 57)) || c == 95 || decide (c ≥ 128)
def cls (c : Int) (big : Bool) : Int := if (c == 32 || c == 9) = true then 0 else if (big || wordB c) = true then 1 else 2

theorem calls_Of (c : Int) (big : Bool) : CallsR Try.prog 54 [.int .u8 c, .bool big] [] (.int .i64 (cls c big)) [] := by
  refine callsR_of (mrg := true) (dyn := []) (CtrOK.nil _) mixed Try.func54 rfl (by simp [Try.ntmps54]) (by kernel_rfl) ?_
  rw [show Try.f54.results.toList = [.tmp 4] from by kernel_rfl]
  simp (maxSteps := 4000000) only [↓Yl,↓Qe,↓Z7,↓Z8,↓Qf,↓Y8,↓Zv,Qg,Zp,Z5,Zz,gw,Zq,Ys,Yz,Y2,gkind,↓chk,Ym,↓oneK,↓Yn,Y0,↓Zj,↓Y9,↓Qi,↓Qh,↓Yc,opnd,Pg.look,binK,Yv,dstOf,Zb,implies_true,imp_self,true_and,and_true,pickC,pickV,unc,gof,mux,Y3,Y4,valV,Yo,Yp,binV,intV,Z9,Zm,Zn,Yi,Yb,ofV,Yd,sameK,retA,resK,tupA,subA,subQ,Yf,frzO,subF,subG,Ya,frzE,frzC,frz0,frzH,Pg.freeze,Ze,Yg,Yh,Zs,subM,Op.operands,Zi,Zf,Za,Zx,reduceCtorEq,Nat.reduceEqDiff,Zc,Zg,Z3,ite_true,ite_false,Zk,Yj,Zt,decide_eq_true_eq,decide_eq_false_iff_not,Qc,Zr,and_self,Yk,Zo,Zl,Zd,Z0,Ye,Yq,Yr,Zw]
  unfold cls wordB
  have h : (c ≥ 128 ∧ decide (c ≥ 128) = true ∧ ¬ c < 128) ∨ (¬ c ≥ 128 ∧ decide (c ≥ 128) = false ∧ c < 128) := by
    by_cases h : c ≥ 128
    · exact .inl ⟨h, decide_eq_true h, by omega⟩
    · exact .inr ⟨h, decide_eq_false h, by omega⟩
  generalize (c == 32 || c == 9) = x0
  generalize (decide (c ≥ 97) && decide (c ≤ 122)) = x1
  generalize (decide (c ≥ 65) && decide (c ≤ 90)) = x2
  generalize (decide (c ≥ 48) && decide (c ≤ 57)) = x3
  generalize (c == 95) = x4
  rcases h with ⟨h1, h2, h3⟩ | ⟨h1, h2, h3⟩
  all_goals rw [h2]
  all_goals cases x0 <;> cases big <;> cases x1 <;> cases x2 <;> cases x3 <;> cases x4 <;> simp [h1, h3]
theorem calls_ROf (c : Int) (big : Bool) : CallsR Try.prog 33 [.int .u8 c, .bool big] [] (.int .i64 (cls c big)) [] := by
  refine callsR_of (mrg := true) (dyn := []) (CtrOK.nil _) mixed Try.func33 rfl (by simp [Try.ntmps33]) (by kernel_rfl) ?_
  rw [show Try.f33.results.toList = [.tmp 4] from by kernel_rfl]
  simp (maxSteps := 4000000) only [↓Yl,↓Qe,↓Z7,↓Z8,↓Qf,↓Y8,↓Zv,Qg,Zp,Z5,Zz,gw,Zq,Ys,kselH_0,Yz,Y2,gkind,↓chk,pickO,Ym,↓oneK,↓Yn,Y0,↓Zj,↓Y9,↓Qi,↓Qh,↓Yc,opnd,Pg.look,binK,Yv,dstOf,Zb,implies_true,imp_self,true_and,and_true,pickC,pickV,unc,gof,mux,Y3,Y4,valV,Yo,Yp,binV,intV,Z9,Zm,Zn,Yi,Yb,ofV,Yd,sameK,retA,resK,tupA,subA,subQ,Yf,frzO,subF,subG,Ya,frzE,frzC,frz0,frzH,Pg.freeze,Ze,Yg,Yh,Zs,subM,Op.operands,Zi,Zf,Za,Zx,reduceCtorEq,Nat.reduceEqDiff,Zc,Zg,Z3,ite_true,ite_false,Zk,Yj,Zt,decide_eq_true_eq,decide_eq_false_iff_not,Qc,Zr,and_self,Yk,Zo,Zl,Zd,Z0,Ye,Yq,Yr,Zw,grd1]
  refine ⟨fun h => ?_, fun h => ⟨fun h1 => ?_, fun h1 => ?_⟩⟩
  · rw [cls, if_pos h]
  · have e : (big || wordB c) = true := by rw [← h1]; simp only [wordB,Bool.or_assoc]
    rw [cls, if_neg (by rw [h]; simp), if_pos e]
  · have e : (big || wordB c) = false := by rw [← h1]; simp only [wordB,Bool.or_assoc]
    rw [cls, if_neg (by rw [h]; simp), if_neg (by rw [e]; simp)]

def less (p q : Int × Int) : Bool := decide (p.1 < q.1) || (p.1 == q.1 && decide (p.2 < q.2))
theorem calls_Less (p q : Int × Int) : CallsR Try.prog 66 [aPos p, aPos q] [] (.bool (less p q)) [] := by
  refine callsR_of (mrg := true) (dyn := []) (CtrOK.nil _) mixed Try.func66 rfl (by simp [Try.ntmps66]) (by kernel_rfl) ?_
  rw [show Try.f66.results.toList = [.tmp 4] from by kernel_rfl]
  simp (maxSteps := 4000000) only [↓Yl,↓Z7,↓Z8,↓Zv,Zp,Z5,Zz,gw,Zq,Ys,kselH_0,Yz,gkind,↓chk,pickO,Ym,noW,↓oneK,↓Yn,↓heapK,Y0,↓Zj,↓Yc,opnd,Pg.look,binK,Yv,dstOf,Zb,implies_true,imp_self,true_and,and_true,pickC,pickV,unc,gof,mux,Y3,Y4,valV,Yo,Yp,binV,intV,Z9,Zm,Zn,Nat.reduceAdd,Yi,Yb,ofV,Yd,sameK,retA,resK,tupA,subA,subQ,Yf,frzO,subF,subG,Ya,frzE,frzC,frz0,frzH,Pg.freeze,Ze,Yg,Yh,Zs,subM,Yu,objAt,AV.cells,TK.cells,AV.definite,Op.operands,Zi,Zf,Za,Zx,Zh,reduceCtorEq,Nat.reduceEqDiff,Nat.reduceAdd,Zy,Zc,Yt,Z1,Zg,Z3,ite_true,ite_false,Option.some.injEq,Zk,Yj,Zt,decide_eq_true_eq,decide_eq_false_iff_not,Yw,Zr,and_self,Yk,exists_eq_left',Zo,Zl,Zd,Zu,Y5,Z2,Z0,Ye,Yq,Yr,Zw,tk3,tk28,dz28,aPos]
  exact ⟨fun h => ⟨h, fun h2 => by rw [h2, decide_eq_false (by omega)]; rfl⟩, rfl⟩
theorem calls_RLess (p q : Int × Int) : CallsR Try.prog 30 [aPos p, aPos q] [] (.bool (less p q)) [] := by
  refine callsR_of (mrg := true) (dyn := []) (CtrOK.nil _) mixed Try.func30 rfl (by simp [Try.ntmps30]) (by kernel_rfl) ?_
  rw [show Try.f30.results.toList = [.tmp 4] from by kernel_rfl]
  simp (maxSteps := 4000000) only [↓Yl,↓Z7,↓Z8,↓Zv,Zp,Z5,Zz,gw,Zq,Ys,kselH_0,Yz,gkind,↓chk,pickO,Ym,noW,↓oneK,↓Yn,↓heapK,Y0,↓Zj,↓Yc,opnd,Pg.look,binK,Yv,dstOf,Zb,implies_true,imp_self,true_and,and_true,pickC,pickV,unc,gof,mux,Y3,Y4,valV,Yo,Yp,binV,intV,Z9,Zm,Zn,Nat.reduceAdd,Yi,Yb,ofV,Yd,sameK,retA,resK,tupA,subA,subQ,Yf,frzO,subF,subG,Ya,frzE,frzC,frz0,frzH,Pg.freeze,Ze,Yg,Yh,Zs,subM,Yu,objAt,AV.cells,TK.cells,AV.definite,Op.operands,Zi,Zf,Za,Zx,Zh,reduceCtorEq,Nat.reduceEqDiff,Nat.reduceAdd,Zy,Zc,Yt,Z1,Zg,Z3,ite_true,ite_false,Option.some.injEq,Zk,Yj,Zt,decide_eq_true_eq,decide_eq_false_iff_not,Yw,Zr,and_self,Yk,exists_eq_left',Zo,Zl,Zd,Zu,Y5,Z2,Z0,Ye,Yq,Yr,Zw,tk3,tk28,dz28,aPos]
  exact ⟨fun h => ⟨h, fun h2 => by rw [h2, decide_eq_false (by omega)]; rfl⟩, rfl⟩
end Go.Pg
namespace Go.Pg
open Go Go.Proofs

abbrev Mv := (Int × Int) × Int × Bool × Int
def aMv (m : Mv) : AV := .agg [.int .i64 m.1.1, .int .i64 m.1.2, .int .i64 m.2.1, .bool m.2.2.1, .int .i64 m.2.2.2]
def aMove (r : Mv × Bool) : AV := .tuple [aMv r.1, .bool r.2]
def mNone : Mv × Bool := (((0, 0), 0, false, 0), false)
def mTo (p : Int × Int) (way : Int) : Mv × Bool := ((p, way, false, -1), true)

abbrev lPos2 : CdL (Int × Int) := lCons (cInt .i64) (lOne (cInt .i64))
abbrev cPos2 : Cd (Int × Int) := cAgg lPos2
def kOf : C1 := C1.by [.id, .id] (lCons (cInt .u8) (lOne cBool)) (fun _ => True) (fun d => .int .i64 (cls d.1 d.2)) (fun _ => [])
theorem ok_Of : C1OK Try.prog 54 kOf := C1OK.by (by kernel_rfl) (fun d _ => calls_Of d.1 d.2) (fun _ => rfl) (fun _ => rfl)
theorem ok_ROf : C1OK Try.prog 33 kOf := C1OK.by (by kernel_rfl) (fun d _ => calls_ROf d.1 d.2) (fun _ => rfl) (fun _ => rfl)
def kLess : C1 := C1.by [.id, .id] (lCons cPos2 (lOne cPos2)) (fun _ => True) (fun d => .bool (less d.1 d.2)) (fun _ => [])
theorem ok_Less : C1OK Try.prog 66 kLess := C1OK.by (by kernel_rfl) (fun d _ => calls_Less d.1 d.2) (fun _ => rfl) (fun _ => rfl)
theorem ok_RLess : C1OK Try.prog 30 kLess := C1OK.by (by kernel_rfl) (fun d _ => calls_RLess d.1 d.2) (fun _ => rfl) (fun _ => rfl)
def kRPlace : C1 := C1.by [.sl 1 [], .id] (lCons cStrs (lOne cPos2)) (fun _ => True) (fun d => .bool (place d.1 d.2.1 d.2.2)) (fun _ => [])
theorem ok_R5Place : C1OK Try.prog 50 kRPlace := C1OK.by (by kernel_rfl) (fun d _ => calls_RPlace d.1 d.2.1 d.2.2) (fun _ => rfl) (fun _ => rfl)
theorem ok_CPlace : C1OK Try.prog 63 kRPlace := C1OK.by (by kernel_rfl) (fun d _ => calls_Place d.1 d.2.1 d.2.2) (fun _ => rfl) (fun _ => rfl)

def may (ls : Ls) (p : Int × Int) (n : Int) : Bool := place ls p.1 p.2 && decide (n ≥ 1)
theorem calls_may (ls : Ls) (p : Int × Int) (n : Int) : CallsR Try.prog 26 [.sl 1 (ls.map .str), aPos p, .int .i64 n] [] (.bool (may ls p n)) [] := by
  refine callsR_of (mrg := true) (dyn := []) (CtrOK.cons ok_R5Place (CtrOK.nil _)) mixed Try.func26 rfl (by simp [Try.ntmps26]) (by kernel_rfl) ?_
  rw [show Try.f26.results.toList = [.tmp 6] from by kernel_rfl]
  simp (maxSteps := 4000000) only [↓Yl,↓Z7,↓Z8,↓Zv,Zp,Z5,Zz,gw,Zq,Ys,Yz,gkind,↓chk,Ym,noW,↓oneK,↓Yn,↓heapK,Y0,↓Zj,↓Yc,opnd,Pg.look,binK,Yv,dstOf,Zb,implies_true,imp_self,true_and,and_true,pickC,pickV,unc,gof,mux,Y3,Y4,valV,Yo,Yp,binV,intV,Z9,Zm,Zn,Nat.reduceAdd,Yi,Yb,ofV,Yd,sameK,retA,resK,tupA,subA,subQ,Yf,frzO,subF,subG,Ya,frzE,frzC,frz0,frzH,Pg.freeze,Ze,Yg,Yh,Zs,subM,Yu,objAt,↓callT,callC,callV,callH,normArgs,normA,normC,resL,res8_eq,res_succ,resM,shiftR,shift1,AV.cells,TK.cells,AV.definite,Op.operands,Zi,Zf,Za,Zx,Zh,reduceCtorEq,Nat.reduceEqDiff,Nat.reduceAdd,Zy,Zc,Z1,Zg,Qj,Y6,Z3,ite_true,ite_false,Option.some.injEq,Zk,Zt,Zr,and_self,exists_eq_left',Zo,cInt_dec,Zl,cSl_dec,cAgg_dec,lOne_dec,lCons_dec,dec2_some,Zd,List.range'_zero,decL_str,C1by_ns,C1by_pre,C1by_r,C1by_H,optP_some,optV_some,optH_some,Zu,cutL,Qa,Yy,Nat.sub_zero,Nat.le_refl,Qk,Z2,C1by_it,Z0,Ye,Yq,Yr,Zw,↓msel,muC,↓callP,C1by_mu,tk28,dz28,kRPlace,aPos]
  all_goals rfl

theorem calls_none : CallsR Try.prog 27 [] [] (aMove mNone) [] := by
  refine callsR_of (mrg := true) (dyn := []) (CtrOK.nil _) mixed Try.func27 rfl (by simp [Try.ntmps27]) (by kernel_rfl) ?_
  rw [show Try.f27.results.toList = [.cell 0 38, .tmp 1] from by kernel_rfl]
  simp (maxSteps := 4000000) only [↓Yl,↓Z7,↓Z8,↓Zv,Zp,Z5,Zz,gw,Zq,↓chk,Ym,noW,↓oneK,↓Yn,↓heapK,Y0,↓Zj,↓Yc,opnd,Pg.look,Zb,implies_true,true_and,and_true,valV,Yo,Yp,Z9,Zm,Zn,Nat.reduceAdd,ofV,Yd,retA,resK,tupA,subA,subQ,Yf,frzO,subF,subG,Ya,frzE,frzC,frzL,frz0,frzH,Pg.freeze,Ze,Yg,Yh,Zs,subM,subL,Yu,objAt,res_succ,resM,AV.cells,TK.cells,AV.definite,AV.leaf,AV.leafy,putCells,lay,buildL,Za,Zh,reduceCtorEq,Nat.reduceEqDiff,Nat.reduceAdd,Zy,Zc,Z1,Zg,Y6,List.set_cons_zero,Z3,ite_true,ite_false,Option.some.injEq,Option.isSome_some,AV.agg.injEq,Y1,Y7,Zr,and_self,exists_eq_left',Zo,Zd,Zu,cutL,Qa,List.drop_succ_cons,Yy,Qb,Nat.sub_zero,Nat.le_refl,List.drop_nil,Qk,Z2,Z0,Ye,Yq,Yr,Zw,mapAt,tk38,tz38,dz38,aMove,aMv,mNone]

def kNone : C1 := C1.by [] lNil (fun _ => True) (fun _ => aMove mNone) (fun _ => [])
theorem ok_none : C1OK Try.prog 27 kNone := C1OK.by (by kernel_rfl) (fun _ _ => calls_none) (fun _ => rfl) (fun _ => rfl)

def nth (l : List (Int × Int)) (n way : Int) : Mv × Bool := if n > l.length then mNone else mTo (l.getD (n - 1).toNat (0, 0)) way
def kMay : C1 := C1.by [.sl 1 [], .id, .id] (lCons cStrs (lCons cPos2 (lOne (cInt .i64)))) (fun _ => True) (fun d => .bool (may d.1 d.2.1 d.2.2)) (fun _ => [])
theorem ok_may : C1OK Try.prog 26 kMay := C1OK.by (by kernel_rfl) (fun d _ => calls_may d.1 d.2.1 d.2.2) (fun _ => rfl) (fun _ => rfl)
end Go.Pg
namespace Go.Pg
open Go Go.Proofs
theorem calls_SPlace (ls : Ls) (a b : Int) (h0 : 0 < ls.length) (hs : small ls) (ha : 0 ≤ a ∧ a < 65536) (hb : 0 ≤ b ∧ b < 65536) :
    CallsR Try.prog 7 [.sl 1 (ls.map .str), .int .u16 a, .int .u16 b] [] (aPos (a % ls.length, b % ((ls.getD (a % ls.length).toNat []).length + 1))) [] := by
  refine callsR_of (mrg := true) (dyn := []) (CtrOK.nil _) mixed Try.func7 rfl (by simp [Try.ntmps7]) (by kernel_rfl) ?_
  rw [show Try.f7.results.toList = [.cell 6 28] from by kernel_rfl]
  simp (maxSteps := 4000000) only [↓Yl,↓Z7,↓Z8,↓Zv,Zp,Z5,Zz,gw,Zq,↓chk,Ym,noW,↓oneK,↓Yn,↓heapK,Y0,↓Zj,↓Yc,opnd,Pg.look,binK,Yv,Zb,implies_true,true_and,and_true,valV,Yo,Yp,binV,intV,Z9,Zm,Zn,Nat.reduceAdd,ofV,Yd,retA,resK,tupA,subA,subQ,Yf,frzO,subF,subG,Ya,frzE,frzC,frzL,frz0,frzH,Pg.freeze,Ze,Yg,Yh,Zs,subM,subL,slen,Yu,objAt,res_succ,resM,AV.cells,TK.cells,AV.definite,AV.leaf,AV.leafy,putCells,lay,buildL,Zf,Za,Zh,reduceCtorEq,Nat.reduceEqDiff,Nat.reduceAdd,Zy,Zc,Yt,Z1,Zg,Qj,Y6,List.set_cons_zero,Z3,ite_true,ite_false,Option.some.injEq,Option.isSome_some,AV.int.injEq,AV.agg.injEq,ne_eq,not_false_eq_true,Y1,Y7,Zr,and_self,exists_eq_left',Zo,Z4,Zd,Qd,Zu,cutL,Qa,List.drop_succ_cons,Yy,Qb,Nat.sub_zero,Nat.reduceLeDiff,Nat.le_refl,List.drop_nil,Qk,Z2,Z0,Ye,Yq,Yr,Zw,mapAt,tk3,tk9,dz9,tk22,tk23,tk28,tz28,dz28,aPos]
  have h1 := hs.1
  have h2 := hs.2 (a % ls.length).toNat
  rw [wrap64 (n := a) (by omega) (by omega), wrap64 (n := b) (by omega) (by omega), Int.tmod_eq_emod_of_nonneg ha.1, wrap64 (by omega) (by omega), Int.tmod_eq_emod_of_nonneg hb.1]
  have h3 := Int.emod_nonneg a (b := ls.length) (by omega)
  have h4 := Int.emod_lt_of_pos a (b := ls.length) (by omega)
  exact ⟨by omega, by omega, by omega, rfl, rfl⟩
def size (ls : Ls) : Int := (ls.map fun s => (s.length : Int) + 1).sum
def total (ls : Ls) : Nat := (ls.map List.length).sum
def light (ls : Ls) : Bool := decide (ls.length ≤ 40) && decide (total ls ≤ 1200) && ls.all fun s => s.all fun b => b != 10
def text (ls : Ls) : Bool := decide (0 < ls.length) && light ls
theorem take_succ_getD {α : Type} (l : List α) (i : Nat) (d : α) (h : i < l.length) : l.take (i + 1) = l.take i ++ [l.getD i d] := by
  rw [List.take_succ_eq_append_getElem h, List.getD_eq_getElem?_getD, List.getElem?_eq_getElem h]; rfl
theorem total_take (ls : Ls) (i : Nat) (h : i < ls.length) : total (ls.take (i + 1)) = total (ls.take i) + (ls.getD i []).length := by
  rw [take_succ_getD ls i [] h]; simp [total]
theorem total_take_le (ls : Ls) (i : Nat) : total (ls.take i) ≤ total ls := by
  have h := List.take_append_drop i ls
  have : total ls = total (ls.take i) + total (ls.drop i) := by
    conv => lhs; rw [← h]
    simp only [total,List.map_append,List.sum_append]
  omega
theorem not_light (ls : Ls) (i : Nat) (h : 1200 < total (ls.take i)) : light ls = false := by
  have := total_take_le ls i
  simp only [light,Bool.and_eq_false_imp,Z6,decide_eq_true_eq]
  omega
theorem not_light_at (ls : Ls) (i k : Nat) (hi : i < ls.length) (hk : k < (ls.getD i []).length) (h : (ls.getD i []).getD k 0 = 10) : light ls = false := by
  rw [Bool.eq_false_iff]
  intro hl
  simp only [light,Z6,List.all_eq_true] at hl
  have h1 := hl.2 (ls.getD i []) (by rw [List.getD_eq_getElem?_getD, List.getElem?_eq_getElem hi]; simp) ((ls.getD i []).getD k 0) (by
    generalize ls.getD i [] = s at hk
    rw [List.getD_eq_getElem?_getD, List.getElem?_eq_getElem hk]; simp)
  rw [h] at h1
  cases h1
theorem calls_Light (ls : Ls) (hs : ∀ i, (ls.getD i []).length ≤ 140737488355328) : CallsR Try.prog 13 [.sl 1 (ls.map .str)] [] (.bool (light ls)) [] := by
  refine callsR_of (mrg := true) (dyn := []) (CtrOK.nil _) mixed Try.func13 rfl (by simp [Try.ntmps13]) (by kernel_rfl) ?_
  rw [show Try.f13.results.toList = [.tmp 2] from by kernel_rfl]
  simp (maxSteps := 4000000) only [↓Yl,↓Qe,↓Z7,↓Z8,↓Qf,↓Y8,↓wpH_loop,↓Zv,Qg,Zp,Z5,Zz,gw,Zq,Y2,↓chk,Ym,↓oneK,↓Yn,Y0,↓Zj,↓Y9,↓Yc,opnd,Pg.look,binK,Yv,Zb,implies_true,true_and,and_true,valV,Yo,Yp,binV,intV,Z9,Zm,Zn,ofV,Yd,retA,resK,tupA,subA,subQ,Yf,frzO,subF,subG,Ya,frzE,frzC,frz0,frzH,Pg.freeze,Ze,Yg,Yh,Zs,subM,slen,Zh,reduceCtorEq,Nat.reduceEqDiff,Zc,Zg,ite_true,ite_false,Option.some.injEq,AV.int.injEq,decide_eq_true_eq,decide_eq_false_iff_not,Yw,and_self,exists_eq_left',Zo,Z4,Zd,Z0,Ye,Yq,Yr,Zw,tk22]
  refine ⟨fun h => ?_, fun h0 => ?_⟩
  · symm
    simp only [light,Bool.and_eq_false_imp,Z6,decide_eq_true_eq]
    omega
  refine loopH_intro (α := Nat) (fun i => ([(0, .sl 1 (ls.map .str)), (2, .bool false), (3, .int .i64 (total (ls.take i))), (4, .int .i64 i)], [])) (fun i => i ≤ ls.length ∧ total (ls.take i) ≤ 1200 ∧ (ls.take i).all (fun s => s.all fun b => b != 10)) (fun i => ls.length - i) 0 ?_ ?_ ?_
  · simp [total]
  · simp (maxSteps := 4000000) only [Pg.look,true_and,and_true,Z9,Zm,Zn,subA,subQ,Yf,frzO,subF,subG,Ya,frzE,frzC,frz0,frzH,Pg.freeze,Ze,Yg,Yh,Zs,subM,reduceCtorEq,Nat.reduceEqDiff,Zc,ite_true,ite_false,and_self,Zo,Int.cast_ofNat_Int,Qb]
    all_goals simp [total]
  · intro i hi
    simp (maxSteps := 4000000) only [↓Yl,↓Qe,↓Z7,↓wpH_exit,↓Z8,↓Qf,↓Y8,↓wpH_loop,↓Zv,Qg,Zp,Z5,Zz,gw,Zq,Y2,↓chk,Ym,noW,↓oneK,↓Yn,↓heapK,↓Zj,↓Y9,↓thenA_exit,↓Qh,↓blockA_exit,↓Yc,opnd,Pg.look,binK,Yv,Zb,implies_true,true_and,and_true,valV,Yo,Yp,binV,intV,Z9,Zm,Zn,ofV,Yd,retA,resK,tupA,subA,subQ,Yf,frzO,subF,subG,Ya,frzE,frzC,frz0,frzH,Pg.freeze,Ze,Yg,Yh,Zs,subM,slen,Yu,AV.cells,TK.cells,Za,Zh,reduceCtorEq,Nat.reduceEqDiff,Zc,Zg,ite_true,ite_false,Option.some.injEq,AV.int.injEq,decide_eq_true_eq,decide_eq_false_iff_not,Yw,and_self,exists_eq_left',Zo,Z4,Zd,Qd,Int.toNat_natCast,Z0,Ye,Yq,Yr,Zw,tk9,dz9,tk22]
    have h3 := hs i
    have h4 := total_take ls i
    refine ⟨fun h => ⟨by omega, fun h2 => ?_, fun h2 => ?_⟩, fun h => ?_⟩
    · rw [wrap64 (by omega) (by omega)] at h2
      symm
      exact not_light ls (i + 1) (by omega)
    · rw [wrap64 (by omega) (by omega)] at h2
      refine loopH_intro (α := Nat) (fun k => ([(0, .sl 1 (ls.map .str)), (2, .bool false), (3, .int .i64 (total (ls.take (i + 1)))), (4, .int .i64 i), (5, .int .i64 k)], [])) (fun k => k ≤ (ls.getD i []).length ∧ ((ls.getD i []).take k).all (fun b => b != 10)) (fun k => (ls.getD i []).length - k) 0 ?_ ?_ ?_
      · simp
      · simp (maxSteps := 4000000) only [Pg.look,true_and,and_true,Z9,Zm,Zn,subA,subQ,Yf,frzO,subF,subG,Ya,frzE,frzC,frz0,frzH,Pg.freeze,Ze,Yg,Yh,Zs,subM,reduceCtorEq,Nat.reduceEqDiff,Zc,ite_true,ite_false,and_self,Zo,Int.cast_ofNat_Int]
        rw [wrap64 (by omega) (by omega)]
        omega
      · intro k hk
        simp (maxSteps := 4000000) only [↓Yl,↓Qe,↓Z7,↓wpH_exit,↓Z8,↓Qf,↓Y8,↓Zv,Qg,Zp,Z5,Zz,gw,Zq,Y2,↓chk,Ym,noW,↓oneK,↓Yn,↓heapK,↓Zj,↓Y9,↓thenA_exit,↓Qi,↓Qh,↓blockA_exit,↓Yc,opnd,Pg.look,binK,Yv,Zb,implies_true,true_and,and_true,valV,Yo,Yp,binV,intV,Z9,Zm,Zn,ofV,Yd,retA,resK,tupA,subA,subQ,Yf,frzO,subF,subG,Ya,frzE,frzC,frz0,frzH,Pg.freeze,Ze,Yg,Yh,Zs,subM,Yu,AV.cells,TK.cells,Za,Zh,reduceCtorEq,Nat.reduceEqDiff,Zc,Zg,ite_true,ite_false,Option.some.injEq,decide_eq_true_eq,decide_eq_false_iff_not,Yw,and_self,exists_eq_left',Zo,Z4,Zd,Qd,Int.toNat_natCast,Z0,Ye,Yq,Yr,Zw,tk9,dz9,tk22]
        refine ⟨by omega, fun h5 => ⟨by omega, by omega, fun h6 => ?_, fun h6 => ⟨k + 1, ⟨by omega, ?_⟩, by omega, by rw [wrap64 (by omega) (by omega)]; omega⟩⟩, fun h5 => ⟨i + 1, ⟨by omega, by omega, ?_⟩, by omega, rfl, by rw [wrap64 (by omega) (by omega)]; omega⟩⟩
        · symm
          refine not_light_at ls i k (by omega) (by omega) ?_
          have h7 : ((ls.getD i []).getD k 0).toNat = 10 := by have := eq_of_beq h6; omega
          exact UInt8.toNat_inj.1 h7
        · rw [take_succ_getD _ k 0 (by omega), List.all_append, hk.2]
          simp only [Y1,Y7,Bool.and_true,Bool.true_and,bne_iff_ne,ne_eq]
          intro h7
          rw [h7] at h6
          exact absurd h6 (by decide)
        · have h8 : k = (ls.getD i []).length := by omega
          have h9 := hk.2
          rw [h8, List.take_length] at h9
          rw [take_succ_getD _ i [] (by omega), List.all_append, hi.2.2]
          simp only [Y1,Y7,h9,Zr]
    · have : i = ls.length := by omega
      subst this
      rw [List.take_length] at hi
      symm
      have h1 : ls.length ≤ 40 := by omega
      simp [light, hi, h1]
def kLight : C1 := C1.by [.sl 1 []] (lOne cStrs) (fun d => ∀ i, (d.getD i []).length ≤ 140737488355328) (fun d => .bool (light d)) (fun _ => [])
theorem ok_Light : C1OK Try.prog 13 kLight := C1OK.by (by kernel_rfl) (fun d h => calls_Light d h) (fun _ => rfl) (fun _ => rfl)
theorem calls_Text (ls : Ls) (hs : ∀ i, (ls.getD i []).length ≤ 140737488355328) : CallsR Try.prog 6 [.sl 1 (ls.map .str)] [] (.bool (text ls)) [] := by
  refine callsR_of (mrg := true) (dyn := []) (CtrOK.cons ok_Light (CtrOK.nil _)) mixed Try.func6 rfl (by simp [Try.ntmps6]) (by kernel_rfl) ?_
  rw [show Try.f6.results.toList = [.tmp 2] from by kernel_rfl]
  simp (maxSteps := 4000000) only [↓Yl,↓Z7,↓Z8,↓Zv,Zp,Z5,Zz,gw,Zq,Ys,Yz,gkind,↓chk,Ym,↓oneK,↓Yn,Y0,↓Zj,↓Yc,opnd,Pg.look,binK,Yv,dstOf,Zb,implies_true,imp_self,true_and,and_true,pickC,pickV,unc,gof,mux,Y3,Y4,valV,Yo,Yp,binV,intV,Z9,Zm,Zn,Yi,Yb,ofV,Yd,sameK,retA,resK,tupA,subA,subQ,Yf,frzO,subF,subG,Ya,frzE,frzC,frz0,frzH,Pg.freeze,Ze,Yg,Yh,Zs,subM,slen,↓callT,callC,callV,normArgs,normA,normC,resL,res8_eq,res_succ,resM,shiftR,shift1,Op.operands,Call.operands,Yx,Zi,Zf,Za,Zx,Zh,reduceCtorEq,Nat.reduceEqDiff,Zy,Zc,Yt,Zg,Qj,Y6,ite_true,ite_false,Option.some.injEq,AV.int.injEq,Zk,decide_eq_true_eq,decide_eq_false_iff_not,Yw,Zr,and_self,exists_eq_left',Zo,Z4,Zl,cSl_dec,lOne_dec,Zd,List.range'_zero,decL_str,C1by_ns,C1by_pre,C1by_r,C1by_H,optP_some,optV_some,optH_some,C1by_it,Z0,Ye,Yq,Yr,Zw,↓msel,muC,↓callP,C1by_mu,tk22,kLight]
  refine ⟨fun h => ⟨h, hs⟩, ?_⟩
  rw [text]
  congr 1
  by_cases h : 0 < ls.length <;> simp [h]
def kText : C1 := C1.by [.sl 1 []] (lOne cStrs) (fun d => ∀ i, (d.getD i []).length ≤ 140737488355328) (fun d => .bool (text d)) (fun _ => [])
theorem ok_Text : C1OK Try.prog 6 kText := C1OK.by (by kernel_rfl) (fun d h => calls_Text d h) (fun _ => rfl) (fun _ => rfl)
/-- What lines that may be asked are. -/
theorem few_of_text {ls : Ls} (h : text ls = true) : 0 < ls.length ∧ ls.length ≤ 40 ∧ (∀ i, (ls.getD i []).length ≤ 1200) := by
  simp only [text,light,Z6,decide_eq_true_eq] at h
  refine ⟨h.1, h.2.1.1, fun i => ?_⟩
  by_cases hi : i < ls.length
  · have h1 := total_take ls i hi
    have h2 := total_take_le ls (i + 1)
    omega
  · simp [List.getD_eq_getElem?_getD, List.getElem?_eq_none (Nat.le_of_not_lt hi)]
end Go.Pg
namespace Go.Pg
open Go Go.Proofs

def isBehind (p : Int × Int) (same : Bool) (q : Int × Int) : Bool := less p q || (same && (q.1 == p.1 && q.2 == p.2))
def behind (l : List (Int × Int)) (p : Int × Int) (same : Bool) : List (Int × Int) := l.filter (isBehind p same)
def ahead (l : List (Int × Int)) (p : Int × Int) : List (Int × Int) := l.reverse.filter (fun q => less q p)

theorem filter_take {α : Type} (g : α → Bool) (l : List α) (i : Nat) (d : α) (h : i < l.length) : (l.take (i + 1)).filter g = if g (l.getD i d) = true then (l.take i).filter g ++ [l.getD i d] else (l.take i).filter g := by
  rw [take_succ_getD l i d h, List.filter_append]
  generalize l.getD i d = y
  split
  · next h => simp [h]
  · next h => simp [h]

theorem pureB_posL (l : List (Int × Int)) : (l.map aPos).all AV.pureB = true := by simp [aPos, AV.pureB, AV.cells, AV.pureLeaf]
theorem leafy_posL (l : List (Int × Int)) : (l.map aPos).all AV.leafy = true := by simp [aPos, AV.leafy, AV.cells, AV.leaf]
theorem app1_pos (l : List (Int × Int)) (q : Int × Int) : l.map aPos ++ [.agg [.int .i64 q.1, .int .i64 q.2]] = (l ++ [q]).map aPos := by simp [aPos]

theorem getD_rev (l : List (Int × Int)) (k : Nat) (d : Int × Int) (h : k < l.length) : l.reverse.getD k d = l.getD (l.length - 1 - k) d := by
  rw [List.getD_eq_getElem?_getD, List.getElem?_reverse h, ← List.getD_eq_getElem?_getD]

end Go.Pg
namespace Go.Pg
open Go Go.Proofs

/-- So many lines, so long. -/
def fits (n b : Nat) (ls : Ls) : Prop := ls.length ≤ n ∧ ∀ s ∈ ls, s.length ≤ b
theorem fits_getD {n b : Nat} {ls : Ls} (h : fits n b ls) (i : Nat) : (ls.getD i []).length ≤ b := by
  rw [List.getD_eq_getElem?_getD]
  cases e : ls[i]? with
  | none => simp
  | some s => exact h.2 s (List.mem_of_getElem? e)
theorem fits_small {n b : Nat} {ls : Ls} (h : fits n b ls) (hn : n ≤ 1099511627776) (hb : b ≤ 1099511627776) : small ls :=
  ⟨Nat.le_trans h.1 hn, fun i => Nat.le_trans (fits_getD h i) hb⟩
theorem fits_mono {n b n' b' : Nat} {ls : Ls} (h : fits n b ls) (hn : n ≤ n') (hb : b ≤ b') : fits n' b' ls :=
  ⟨Nat.le_trans h.1 hn, fun s hs => Nat.le_trans (h.2 s hs) hb⟩
/-- A place by two numbers. -/
def splace (ls : Ls) (a b : Int) : Int × Int := (a % ls.length, b % ((ls.getD (a % ls.length).toNat []).length + 1))
def kSPlace : C1 := C1.by [.sl 1 [], .id, .id] (lCons cStrs (lCons (cInt .u16) (lOne (cInt .u16)))) (fun d => 0 < d.1.length ∧ small d.1 ∧ (0 ≤ d.2.1 ∧ d.2.1 < 65536) ∧ 0 ≤ d.2.2 ∧ d.2.2 < 65536)
  (fun d => aPos (splace d.1 d.2.1 d.2.2)) (fun _ => [])
theorem ok_SPlace : C1OK Try.prog 7 kSPlace := C1OK.by (by kernel_rfl) (fun d h => calls_SPlace d.1 d.2.1 d.2.2 h.1 h.2.1 h.2.2.1 h.2.2.2) (fun _ => rfl) (fun _ => rfl)
theorem splace_place (ls : Ls) (a b : Int) (h : 0 < ls.length) (hb : 0 ≤ b) : place ls (splace ls a b).1 (splace ls a b).2 = true := by
  rw [place_iff]
  have h3 := Int.emod_nonneg a (b := ls.length) (by omega)
  have h4 := Int.emod_lt_of_pos a (b := ls.length) (by omega)
  refine ⟨h3, ?_, Int.emod_nonneg _ (by omega), ?_⟩
  · show (a % ls.length).toNat < _; omega
  · have h5 := Int.emod_lt_of_pos b (b := (ls.getD (a % ls.length).toNat []).length + 1) (by omega)
    show b % ((ls.getD (a % ls.length).toNat []).length + 1) ≤ ((ls.getD (a % ls.length).toNat []).length : Int)
    omega
theorem fits_text {ls : Ls} (h : text ls = true) : fits 40 1200 ls := by
  obtain ⟨h1, h2, h3⟩ := few_of_text h
  refine ⟨h2, fun s hs => ?_⟩
  obtain ⟨i, hi, rfl⟩ := List.getElem_of_mem hs
  have := h3 i
  rw [List.getD_eq_getElem?_getD, List.getElem?_eq_getElem hi] at this
  exact this
end Go.Pg
namespace Go.Pg
open Go Go.Proofs

/-- The bytes of a line that are asked. -/
def marksIn (g : List UInt8 → Nat → Bool) (l : Nat) (s : List UInt8) (k : Nat) : List (Int × Int) := ((List.range k).filter (g s)).map fun i : Nat => ((l : Int), (i : Int))
def lineMarks (e : Bool) (g : List UInt8 → Nat → Bool) (l : Nat) (s : List UInt8) : List (Int × Int) := (if (e && s == []) = true then [((l : Int), 0)] else []) ++ marksIn g l s s.length
def marksTo (e : Bool) (g : List UInt8 → Nat → Bool) (ls : Ls) (n : Nat) : List (Int × Int) := (List.range n).flatMap fun l => lineMarks e g l (ls.getD l [])

def startB (big : Bool) (s : List UInt8) (i : Nat) : Bool := (cls (s.getD i 0).toNat big != 0) && (((i : Int) == 0) || cls (s.getD (i - 1) 0).toNat big != cls (s.getD i 0).toNat big)
def endB (big : Bool) (s : List UInt8) (i : Nat) : Bool := (cls (s.getD i 0).toNat big != 0) && (((i : Int) == (s.length : Int) - 1) || cls (s.getD (i + 1) 0).toNat big != cls (s.getD i 0).toNat big)

theorem marksIn_len (g : List UInt8 → Nat → Bool) (l : Nat) (s : List UInt8) (k : Nat) : (marksIn g l s k).length ≤ k := by
  unfold marksIn
  rw [List.length_map]
  exact Nat.le_trans (List.length_filter_le _ _) (by simp)
theorem marksIn_succ (g : List UInt8 → Nat → Bool) (l : Nat) (s : List UInt8) (k : Nat) : marksIn g l s (k + 1) = if g s k = true then marksIn g l s k ++ [((l : Int), (k : Int))] else marksIn g l s k := by
  unfold marksIn
  rw [List.range_succ, List.filter_append]
  split
  · next h => simp [h]
  · next h => simp [h]
theorem marksTo_succ (e : Bool) (g : List UInt8 → Nat → Bool) (ls : Ls) (n : Nat) : marksTo e g ls (n + 1) = marksTo e g ls n ++ lineMarks e g n (ls.getD n []) := by
  unfold marksTo
  rw [List.range_succ, List.flatMap_append]
  simp
theorem marksTo_len (e : Bool) (g : List UInt8 → Nat → Bool) (ls : Ls) (B : Nat) (h : ∀ i, (ls.getD i []).length ≤ B) (n : Nat) : (marksTo e g ls n).length ≤ n * (B + 1) := by
  induction n with
  | zero => simp [marksTo]
  | succ n ih =>
    rw [marksTo_succ, List.length_append, Nat.add_mul, Nat.one_mul]
    have h1 := marksIn_len g n (ls.getD n []) (ls.getD n []).length
    have h2 := h n
    have h3 : (lineMarks e g n (ls.getD n [])).length ≤ B + 1 := by
      unfold lineMarks
      split
      · next h => 
        have : ls.getD n [] = [] := by simp only [Z6,beq_iff_eq] at h; exact h.2
        rw [this]; simp [marksIn]
      · rw [List.nil_append]; omega
    omega
theorem app1_pos2 (l : List (Int × Int)) (a b : Int) : l.map aPos ++ [.agg [.int .i64 a, .int .i64 b]] = (l ++ [(a, b)]).map aPos := by simp [aPos]
end Go.Pg
