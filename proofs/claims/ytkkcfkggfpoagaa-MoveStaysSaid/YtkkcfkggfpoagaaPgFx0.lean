/- Facts of the program's types, by the kernel. Lists of strings are compared as they are. Letters, places, copies of lists. Lists of lines, places. Classes of bytes, places in order. Small parts of the document's motions. Sizes of lines, lines that may be asked, places, changes held against one another. Few lines; places by two numbers. A line's first byte that is no blank, places brought to lines. -/
import Derived.Test.YtkkcfkggfpoagaaPgLst
import Derived.Test.YtkkcfkggfpoagaaProg
import Derived.KernelRfl
import Derived.Test.YtkkcfkggfpoagaaPgHcd
open Bool renaming false_eq_true → Za, and_self → Zv, and_eq_true → Z0, if_false_right → Z2, not_eq_true' → Yd, decide_eq_true → Ys
open List renaming append_nil → Zb, contains_nil → Zc, foldl_nil → Zd, getElem?_cons_zero → Ze, length_nil → Zf, getElem?_cons_succ → Zl, length_map → Zt, getElem?_toArray → Zz, toList_toArray → Z3, getD_cons_zero → Z4, nil_append → Z5, map_cons → Ye, length_cons → Yg, cons_append → Yi, map_nil → Yr, all_cons → Yy, all_nil → Y3, take_zero → Y6
open Go.Pg renaming thenA_normal → Zg, closeQ_nil → Zi, diagQ_zero → Zj, pickOK_nil → Zk, bselH_false → Zm, gselH_plain → Zn, subV_succ → Zo, wpH_region → Zp, selC_false → Zq, runH_cons → Zr, regH_none → Zs, runH_nil → Zu, wpH_seq → Zw, alives → Zx, pickOf → Zy, wpH_ret → Z1, stepEv → Z6, ofLeaf → Z7, isNext → Z8, ptrsE → Z9, subOs → Ya, subEv → Yb, cselH_bool → Yc, wpA_H → Yj, justK → Yk, pureK → Yl, heapV → Ym, footV → Yn, nextF → Yp, nextG → Yq, wpH_cond → Yt, intOp → Yu, wpH_block → Yv, thenA_ret → Yw, wpH_skip → Y1, iselH_if → Y2, look_stripE → Y4, ldCells → Y5, getD_str → Y7, blockA_ret → Y8, blockA_normal → Y9
open Option renaming getD_some → Zh, bind_some → Yf
open Nat renaming zero_lt_succ → Yh, zero_add → Yo
open Int renaming cast_ofNat_Int → Yx, toNat_natCast → Yz, not_lt → Y0
namespace Go.Pg
open Go Go.Proofs
theorem mixed : Try.prog.follows .mixedOrders = true := by kernel_rfl
theorem tk3 : tk Try.prog 3 = TK.int IntKind.i64 := by kernel_rfl
theorem dz3 : dz Try.prog 3 = AV.int IntKind.i64 0 := by kernel_rfl
theorem eb3 : eb Try.prog 3 = some 8 := by kernel_rfl
theorem tk4 : tk Try.prog 4 = TK.bool := by kernel_rfl
theorem tz4 : tz Try.prog 4 = AV.bool false := by kernel_rfl
theorem dz4 : dz Try.prog 4 = AV.bool false := by kernel_rfl
theorem tk5 : tk Try.prog 5 = TK.int IntKind.u8 := by kernel_rfl
theorem dz5 : dz Try.prog 5 = AV.int IntKind.u8 0 := by kernel_rfl
theorem eb5 : eb Try.prog 5 = some 1 := by kernel_rfl
theorem tk9 : tk Try.prog 9 = TK.str := by kernel_rfl
theorem tz9 : tz Try.prog 9 = AV.str [] := by kernel_rfl
theorem dz9 : dz Try.prog 9 = AV.str [] := by kernel_rfl
theorem eb9 : eb Try.prog 9 = some 16 := by kernel_rfl
theorem tk22 : tk Try.prog 22 = TK.slice 9 1 := by kernel_rfl
theorem dz22 : dz Try.prog 22 = AV.sl 1 [] := by kernel_rfl
theorem tk23 : tk Try.prog 23 = TK.int IntKind.u16 := by kernel_rfl
theorem tk24 : tk Try.prog 24 = TK.slice 5 1 := by kernel_rfl
theorem tk28 : tk Try.prog 28 = TK.struct 2 [some (0, 1), some (1, 1)] := by kernel_rfl
theorem tz28 : tz Try.prog 28 = AV.agg [AV.int IntKind.i64 0, AV.int IntKind.i64 0] := by kernel_rfl
theorem dz28 : dz Try.prog 28 = AV.agg [AV.int IntKind.i64 0, AV.int IntKind.i64 0] := by kernel_rfl
theorem eb28 : eb Try.prog 28 = some 16 := by kernel_rfl
theorem eq28 : eqK Try.prog 28 = some [1, 1] := by kernel_rfl
theorem tk31 : tk Try.prog 31 = TK.struct 8 [some (0, 2), some (2, 1), some (3, 1), some (4, 1), some (5, 1), some (6, 1), some (7, 1)] := by kernel_rfl
theorem tz31 : tz Try.prog 31 = AV.agg [AV.int IntKind.i64 0, AV.int IntKind.i64 0, AV.int IntKind.i64 0, AV.int IntKind.i64 0, AV.int IntKind.u8 0, AV.int IntKind.u8 0, AV.str [], AV.bool false] := by kernel_rfl
theorem dz31 : dz Try.prog 31 = AV.agg [AV.int IntKind.i64 0, AV.int IntKind.i64 0, AV.int IntKind.i64 0, AV.int IntKind.i64 0, AV.int IntKind.u8 0, AV.int IntKind.u8 0, AV.str [], AV.bool false] := by kernel_rfl
theorem tk33 : tk Try.prog 33 = TK.struct 6 [some (0, 1), some (1, 1), some (2, 1), some (3, 1), some (4, 1), some (5, 1)] := by kernel_rfl
theorem tz33 : tz Try.prog 33 = AV.agg [AV.int IntKind.u8 0, AV.int IntKind.i64 0, AV.str [], AV.str [], AV.int IntKind.u8 0, AV.str []] := by kernel_rfl
theorem dz33 : dz Try.prog 33 = AV.agg [AV.int IntKind.u8 0, AV.int IntKind.i64 0, AV.str [], AV.str [], AV.int IntKind.u8 0, AV.str []] := by kernel_rfl
theorem tk38 : tk Try.prog 38 = TK.struct 5 [some (0, 2), some (2, 1), some (3, 1), some (4, 1)] := by kernel_rfl
theorem tz38 : tz Try.prog 38 = AV.agg [AV.int IntKind.i64 0, AV.int IntKind.i64 0, AV.int IntKind.i64 0, AV.bool false, AV.int IntKind.i64 0] := by kernel_rfl
theorem dz38 : dz Try.prog 38 = AV.agg [AV.int IntKind.i64 0, AV.int IntKind.i64 0, AV.int IntKind.i64 0, AV.bool false, AV.int IntKind.i64 0] := by kernel_rfl
theorem eq38 : eqK Try.prog 38 = some [1, 1, 1, 0, 1] := by kernel_rfl
theorem tk41 : tk Try.prog 41 = TK.leaf := by kernel_rfl
theorem pt55 : ptrT Try.prog 55 = true := by kernel_rfl
theorem tk57 : tk Try.prog 57 = TK.struct 10 [some (0, 1), some (1, 1), some (2, 6), some (8, 1), some (9, 1)] := by kernel_rfl
theorem tz57 : tz Try.prog 57 = AV.agg [AV.nls, AV.npt, AV.int IntKind.u8 0, AV.int IntKind.i64 0, AV.str [], AV.str [], AV.int IntKind.u8 0, AV.str [], AV.int IntKind.i64 0, AV.bool false] := by kernel_rfl
theorem dz57 : dz Try.prog 57 = AV.agg [AV.sl 1 [], AV.npt, AV.int IntKind.u8 0, AV.int IntKind.i64 0, AV.str [], AV.str [], AV.int IntKind.u8 0, AV.str [], AV.int IntKind.i64 0, AV.bool false] := by kernel_rfl
theorem tk61 : tk Try.prog 61 = TK.slice 28 2 := by kernel_rfl
theorem tz61 : tz Try.prog 61 = AV.nls := by kernel_rfl
theorem dz61 : dz Try.prog 61 = AV.sl 2 [] := by kernel_rfl
theorem eb61 : eb Try.prog 61 = some 24 := by kernel_rfl
theorem tk98 : tk Try.prog 98 = TK.leaf := by kernel_rfl
theorem tk110 : tk Try.prog 110 = TK.slice 3 1 := by kernel_rfl
theorem tk120 : tk Try.prog 120 = TK.slice 61 1 := by kernel_rfl
end Go.Pg
namespace Go.Pg
open Go Go.Proofs

end Go.Pg
namespace Go.Pg
open Go Go.Proofs

def place (ls : List (List UInt8)) (l c : Int) : Bool :=
  decide (l ≥ 0) && decide (l < ls.length) && decide (c ≥ 0) && decide (c ≤ (ls.getD l.toNat []).length)

theorem calls_Place (ls : List (List UInt8)) (l c : Int) : CallsR Try.prog 63 [.sl 1 (ls.map .str), .agg [.int .i64 l, .int .i64 c]] [] (.bool (place ls l c)) [] := by
  refine callsR_of (mrg := true) (dyn := []) (CtrOK.nil _) mixed Try.func63 rfl (by simp [Try.ntmps63]) (by kernel_rfl) ?_
  rw [show Try.f63.results.toList = [.tmp 4] from by kernel_rfl]
  simp (maxSteps := 4000000) only [↓Yj,↓Z1,↓Zw,↓Zp,Zm,Zu,Zr,gw,Zn,gselH_if,kselH_1,gkind,↓chk,Yk,noW,↓oneK,↓Yl,↓heapK,envOf,↓Zg,↓Z6,opnd,Pg.look,binK,Yu,dstOf,Za,implies_true,imp_self,true_and,and_true,pickC,pickV,unc,gof,mux,mergeK,condsL,valV,Ym,Yn,binV,intV,Zx,Zi,Zj,Nat.reduceAdd,mergeable,Y4,ofV,Z7,sameK,retA,resK,tupA,subA,subQ,Z9,frzO,subF,subG,Zy,frzE,frzC,frz0,frzH,Pg.freeze,Zd,Ya,Yb,Zo,subM,slen,Y5,objAt,AV.cells,TK.cells,AV.definite,Op.operands,Call.operands,Array.toList_append,Zz,Zl,Ze,Yf,Zh,reduceCtorEq,Nat.reduceEqDiff,Nat.reduceAdd,Z5,Zb,Yg,Zf,Yo,ite_true,ite_false,Option.some.injEq,AV.int.injEq,Z2,Ys,decide_eq_true_eq,decide_eq_false_iff_not,Int.not_le,Zv,and_self,exists_eq_left',Zk,Zt,Z3,Zc,Y7,Z4,Nat.add_zero,Yh,Zs,Z8,Yp,Yq,selC_true,Zq,pureC,tk3,tk9,dz9,tk22,tk28,dz28]
  refine ⟨fun h => ?_, rfl⟩
  have h' := h
  simp at h'
  exact ⟨h, by omega, by omega⟩

end Go.Pg
namespace Go.Pg
open Go Go.Proofs

abbrev Ls := List (List UInt8)
def aPos (p : Int × Int) : AV := .agg [.int .i64 p.1, .int .i64 p.2]
theorem getD_pos (l : List (Int × Int)) (i : Nat) : (l.map aPos).getD i (.agg [.int .i64 0, .int .i64 0]) = aPos (l.getD i (0, 0)) := getD_map aPos l i (0, 0)

/-- Few lines, none of them long. -/
def small (ls : Ls) : Prop := ls.length ≤ 1099511627776 ∧ ∀ i, (ls.getD i []).length ≤ 1099511627776

theorem place_iff (ls : Ls) (l c : Int) : place ls l c = true ↔ 0 ≤ l ∧ l.toNat < ls.length ∧ 0 ≤ c ∧ c ≤ (ls.getD l.toNat []).length := by
  simp only [place,Z0,decide_eq_true_eq]
  omega

end Go.Pg
namespace Go.Pg
open Go Go.Proofs

def wordB (c : Int) : Bool := (decide (c ≥ 97) && decide (c ≤ 122)) || (decide (c ≥ 65) && decide (c ≤ 90)) || (decide (c ≥ 48) && decide (c ≤ 57)) || c == 95 || decide (c ≥ 128)
def cls (c : Int) (big : Bool) : Int := if (c == 32 || c == 9) = true then 0 else if (big || wordB c) = true then 1 else 2

theorem calls_Of (c : Int) (big : Bool) : CallsR Try.prog 54 [.int .u8 c, .bool big] [] (.int .i64 (cls c big)) [] := by
  refine callsR_of (mrg := true) (dyn := []) (CtrOK.nil _) mixed Try.func54 rfl (by simp [Try.ntmps54]) (by kernel_rfl) ?_
  rw [show Try.f54.results.toList = [.tmp 4] from by kernel_rfl]
  simp (maxSteps := 4000000) only [↓Yj,↓Y1,↓Z1,↓Zw,↓Yt,↓Yv,↓Zp,Y2,Zm,Zu,Zr,gw,Zn,gselH_if,kselH_1,Yc,gkind,↓chk,Yk,↓oneK,↓Yl,envOf,↓Zg,↓Yw,↓Y9,↓Y8,↓Z6,opnd,Pg.look,binK,Yu,dstOf,Za,implies_true,imp_self,true_and,and_true,pickC,pickV,unc,gof,mux,mergeK,condsL,valV,Ym,Yn,binV,intV,Zx,Zi,Zj,mergeable,Y4,ofV,Z7,sameK,retA,resK,tupA,subA,subQ,Z9,frzO,subF,subG,Zy,frzE,frzC,frz0,frzH,Pg.freeze,Zd,Ya,Yb,Zo,subM,Op.operands,Zz,Zl,Ze,Yf,reduceCtorEq,Nat.reduceEqDiff,Zb,Zf,Yo,ite_true,ite_false,Z2,Bool.if_true_left,Ys,decide_eq_true_eq,decide_eq_false_iff_not,Int.not_le,Zv,and_self,Yd,Zk,Z3,Zc,Zs,Z8,Yp,Yq,Zq]
  unfold cls wordB
  have h : (c ≥ 128 ∧ decide (c ≥ 128) = true ∧ ¬ c < 128) ∨ (¬ c ≥ 128 ∧ decide (c ≥ 128) = false ∧ c < 128) := by
    by_cases h : c ≥ 128
    · exact .inl ⟨h, decide_eq_true h, by omega⟩
    · exact .inr ⟨h, decide_eq_false h, by omega⟩
  generalize (c == 32 || c == 9) = x0
  generalize (decide (c ≥ 97) && decide (c ≤ 122)) = x1
  generalize (decide (c ≥ 65) && decide (c ≤ 90)) = x2
  generalize (decide (c ≥ 48) && decide (c ≤ 57)) = x3
  generalize (c == 95) = x4
  rcases h with ⟨h1, h2, h3⟩ | ⟨h1, h2, h3⟩
  all_goals rw [h2]
  all_goals cases x0 <;> cases big <;> cases x1 <;> cases x2 <;> cases x3 <;> cases x4 <;> simp [h1, h3]
def less (p q : Int × Int) : Bool := decide (p.1 < q.1) || (p.1 == q.1 && decide (p.2 < q.2))
theorem calls_Less (p q : Int × Int) : CallsR Try.prog 66 [aPos p, aPos q] [] (.bool (less p q)) [] := by
  refine callsR_of (mrg := true) (dyn := []) (CtrOK.nil _) mixed Try.func66 rfl (by simp [Try.ntmps66]) (by kernel_rfl) ?_
  rw [show Try.f66.results.toList = [.tmp 4] from by kernel_rfl]
  simp (maxSteps := 4000000) only [↓Yj,↓Z1,↓Zw,↓Zp,Zm,Zu,Zr,gw,Zn,gselH_if,kselH_0,kselH_1,gkind,↓chk,pickO,Yk,noW,↓oneK,↓Yl,↓heapK,envOf,↓Zg,↓Z6,opnd,Pg.look,binK,Yu,dstOf,Za,implies_true,imp_self,true_and,and_true,pickC,pickV,unc,gof,mux,mergeK,condsL,valV,Ym,Yn,binV,intV,Zx,Zi,Zj,Nat.reduceAdd,mergeable,Y4,ofV,Z7,sameK,retA,resK,tupA,subA,subQ,Z9,frzO,subF,subG,Zy,frzE,frzC,frz0,frzH,Pg.freeze,Zd,Ya,Yb,Zo,subM,Y5,objAt,AV.cells,TK.cells,AV.definite,Op.operands,Zz,Zl,Ze,Yf,Zh,reduceCtorEq,Nat.reduceEqDiff,Nat.reduceAdd,Z5,Zb,Yi,Yg,Zf,Yo,ite_true,ite_false,Option.some.injEq,Z2,Bool.if_true_left,Ys,decide_eq_true_eq,decide_eq_false_iff_not,Y0,Zv,and_self,Yd,exists_eq_left',Zk,Z3,Zc,Z4,Nat.add_zero,Yh,Zs,Z8,Yp,Yq,Zq,tk3,tk28,dz28,aPos]
  exact ⟨fun h => ⟨h, fun h2 => by rw [h2, decide_eq_false (by omega)]; rfl⟩, rfl⟩
end Go.Pg
namespace Go.Pg
open Go Go.Proofs

abbrev Mv := (Int × Int) × Int × Bool × Int
def aMv (m : Mv) : AV := .agg [.int .i64 m.1.1, .int .i64 m.1.2, .int .i64 m.2.1, .bool m.2.2.1, .int .i64 m.2.2.2]
def aMove (r : Mv × Bool) : AV := .tuple [aMv r.1, .bool r.2]
def mNone : Mv × Bool := (((0, 0), 0, false, 0), false)
def mTo (p : Int × Int) (way : Int) : Mv × Bool := ((p, way, false, -1), true)

abbrev lPos2 : CdL (Int × Int) := lCons (cInt .i64) (lOne (cInt .i64))
abbrev cPos2 : Cd (Int × Int) := cAgg lPos2
def kOf : C1 := C1.by [.id, .id] (lCons (cInt .u8) (lOne cBool)) (fun _ => True) (fun d => .int .i64 (cls d.1 d.2)) (fun _ => [])
theorem ok_Of : C1OK Try.prog 54 kOf := C1OK.by (by kernel_rfl) (fun d _ => calls_Of d.1 d.2) (fun _ => rfl) (fun _ => rfl)
def kLess : C1 := C1.by [.id, .id] (lCons cPos2 (lOne cPos2)) (fun _ => True) (fun d => .bool (less d.1 d.2)) (fun _ => [])
theorem ok_Less : C1OK Try.prog 66 kLess := C1OK.by (by kernel_rfl) (fun d _ => calls_Less d.1 d.2) (fun _ => rfl) (fun _ => rfl)
def kRPlace : C1 := C1.by [.sl 1 [], .id] (lCons cStrs (lOne cPos2)) (fun _ => True) (fun d => .bool (place d.1 d.2.1 d.2.2)) (fun _ => [])
theorem ok_CPlace : C1OK Try.prog 63 kRPlace := C1OK.by (by kernel_rfl) (fun d _ => calls_Place d.1 d.2.1 d.2.2) (fun _ => rfl) (fun _ => rfl)

def may (ls : Ls) (p : Int × Int) (n : Int) : Bool := place ls p.1 p.2 && decide (n ≥ 1)
def nth (l : List (Int × Int)) (n way : Int) : Mv × Bool := if n > l.length then mNone else mTo (l.getD (n - 1).toNat (0, 0)) way
end Go.Pg
namespace Go.Pg
open Go Go.Proofs
theorem calls_SPlace (ls : Ls) (a b : Int) (h0 : 0 < ls.length) (hs : small ls) (ha : 0 ≤ a ∧ a < 65536) (hb : 0 ≤ b ∧ b < 65536) :
    CallsR Try.prog 7 [.sl 1 (ls.map .str), .int .u16 a, .int .u16 b] [] (aPos (a % ls.length, b % ((ls.getD (a % ls.length).toNat []).length + 1))) [] := by
  refine callsR_of (mrg := true) (dyn := []) (CtrOK.nil _) mixed Try.func7 rfl (by simp [Try.ntmps7]) (by kernel_rfl) ?_
  rw [show Try.f7.results.toList = [.cell 6 28] from by kernel_rfl]
  simp (maxSteps := 4000000) only [↓Yj,↓Z1,↓Zw,↓Zp,Zm,Zu,Zr,gw,Zn,↓chk,Yk,noW,↓oneK,↓Yl,↓heapK,envOf,↓Zg,↓Z6,opnd,Pg.look,binK,Yu,Za,implies_true,true_and,and_true,valV,Ym,Yn,binV,intV,Zx,Zi,Zj,Nat.reduceAdd,ofV,Z7,retA,resK,tupA,subA,subQ,Z9,frzO,subF,subG,Zy,frzE,frzC,frzL,frz0,frzH,Pg.freeze,Zd,Ya,Yb,Zo,subM,subL,slen,Y5,objAt,res_succ,resM,AV.cells,TK.cells,AV.definite,AV.leaf,AV.leafy,putCells,lay,buildL,Zl,Ze,Zh,reduceCtorEq,Nat.reduceEqDiff,Nat.reduceAdd,Z5,Zb,Yi,Yg,Zf,Ye,Yr,List.set_cons_zero,Yo,ite_true,ite_false,Option.some.injEq,Option.isSome_some,AV.int.injEq,AV.agg.injEq,ne_eq,not_false_eq_true,Yy,Y3,Zv,and_self,exists_eq_left',Zk,Zt,Zc,Y7,Z4,cutL,List.drop_zero,List.drop_succ_cons,List.take_succ_cons,Y6,Nat.sub_zero,Nat.reduceLeDiff,Nat.le_refl,List.drop_nil,List.take_nil,Yh,Zs,Z8,Yp,Yq,Zq,mapAt,tk3,tk9,dz9,tk22,tk23,tk28,tz28,dz28,aPos]
  have h1 := hs.1
  have h2 := hs.2 (a % ls.length).toNat
  rw [wrap64 (n := a) (by omega) (by omega), wrap64 (n := b) (by omega) (by omega), Int.tmod_eq_emod_of_nonneg ha.1, wrap64 (by omega) (by omega), Int.tmod_eq_emod_of_nonneg hb.1]
  have h3 := Int.emod_nonneg a (b := ls.length) (by omega)
  have h4 := Int.emod_lt_of_pos a (b := ls.length) (by omega)
  exact ⟨by omega, by omega, by omega, rfl, rfl⟩
def size (ls : Ls) : Int := (ls.map fun s => (s.length : Int) + 1).sum
def total (ls : Ls) : Nat := (ls.map List.length).sum
def light (ls : Ls) : Bool := decide (ls.length ≤ 40) && decide (total ls ≤ 1200) && ls.all fun s => s.all fun b => b != 10
def text (ls : Ls) : Bool := decide (0 < ls.length) && light ls
theorem take_succ_getD {α : Type} (l : List α) (i : Nat) (d : α) (h : i < l.length) : l.take (i + 1) = l.take i ++ [l.getD i d] := by
  rw [List.take_succ_eq_append_getElem h, List.getD_eq_getElem?_getD, List.getElem?_eq_getElem h]; rfl
theorem total_take (ls : Ls) (i : Nat) (h : i < ls.length) : total (ls.take (i + 1)) = total (ls.take i) + (ls.getD i []).length := by
  rw [take_succ_getD ls i [] h]; simp [total]
theorem total_take_le (ls : Ls) (i : Nat) : total (ls.take i) ≤ total ls := by
  have h := List.take_append_drop i ls
  have : total ls = total (ls.take i) + total (ls.drop i) := by
    conv => lhs; rw [← h]
    simp only [total,List.map_append,List.sum_append]
  omega
theorem not_light (ls : Ls) (i : Nat) (h : 1200 < total (ls.take i)) : light ls = false := by
  have := total_take_le ls i
  simp only [light,Bool.and_eq_false_imp,Z0,decide_eq_true_eq]
  omega
theorem not_light_at (ls : Ls) (i k : Nat) (hi : i < ls.length) (hk : k < (ls.getD i []).length) (h : (ls.getD i []).getD k 0 = 10) : light ls = false := by
  rw [Bool.eq_false_iff]
  intro hl
  simp only [light,Z0,List.all_eq_true] at hl
  have h1 := hl.2 (ls.getD i []) (by rw [List.getD_eq_getElem?_getD, List.getElem?_eq_getElem hi]; simp) ((ls.getD i []).getD k 0) (by
    generalize ls.getD i [] = s at hk
    rw [List.getD_eq_getElem?_getD, List.getElem?_eq_getElem hk]; simp)
  rw [h] at h1
  cases h1
theorem calls_Light (ls : Ls) (hs : ∀ i, (ls.getD i []).length ≤ 140737488355328) : CallsR Try.prog 13 [.sl 1 (ls.map .str)] [] (.bool (light ls)) [] := by
  refine callsR_of (mrg := true) (dyn := []) (CtrOK.nil _) mixed Try.func13 rfl (by simp [Try.ntmps13]) (by kernel_rfl) ?_
  rw [show Try.f13.results.toList = [.tmp 2] from by kernel_rfl]
  simp (maxSteps := 4000000) only [↓Yj,↓Y1,↓Z1,↓Zw,↓Yt,↓Yv,↓wpH_loop,↓Zp,Y2,Zm,Zu,Zr,gw,Zn,Yc,↓chk,Yk,↓oneK,↓Yl,envOf,↓Zg,↓Yw,↓Z6,opnd,Pg.look,binK,Yu,Za,implies_true,true_and,and_true,valV,Ym,Yn,binV,intV,Zx,Zi,Zj,ofV,Z7,retA,resK,tupA,subA,subQ,Z9,frzO,subF,subG,Zy,frzE,frzC,frz0,frzH,Pg.freeze,Zd,Ya,Yb,Zo,subM,slen,Zh,reduceCtorEq,Nat.reduceEqDiff,Zb,Zf,ite_true,ite_false,Option.some.injEq,AV.int.injEq,decide_eq_true_eq,decide_eq_false_iff_not,Y0,and_self,exists_eq_left',Zk,Zt,Zc,Zs,Z8,Yp,Yq,Zq,tk22]
  refine ⟨fun h => ?_, fun h0 => ?_⟩
  · symm
    simp only [light,Bool.and_eq_false_imp,Z0,decide_eq_true_eq]
    omega
  refine loopH_intro (α := Nat) (fun i => ([(0, .sl 1 (ls.map .str)), (2, .bool false), (3, .int .i64 (total (ls.take i))), (4, .int .i64 i)], [])) (fun i => i ≤ ls.length ∧ total (ls.take i) ≤ 1200 ∧ (ls.take i).all (fun s => s.all fun b => b != 10)) (fun i => ls.length - i) 0 ?_ ?_ ?_
  · simp [total]
  · simp (maxSteps := 4000000) only [Pg.look,true_and,and_true,Zx,Zi,Zj,subA,subQ,Z9,frzO,subF,subG,Zy,frzE,frzC,frz0,frzH,Pg.freeze,Zd,Ya,Yb,Zo,subM,reduceCtorEq,Nat.reduceEqDiff,Zb,ite_true,ite_false,and_self,Zk,Yx,Y6]
    all_goals simp [total]
  · intro i hi
    simp (maxSteps := 4000000) only [↓Yj,↓Y1,↓Z1,↓wpH_exit,↓Zw,↓Yt,↓Yv,↓wpH_loop,↓Zp,Y2,Zm,Zu,Zr,gw,Zn,Yc,↓chk,Yk,noW,↓oneK,↓Yl,↓heapK,↓Zg,↓Yw,↓thenA_exit,↓Y8,↓blockA_exit,↓Z6,opnd,Pg.look,binK,Yu,Za,implies_true,true_and,and_true,valV,Ym,Yn,binV,intV,Zx,Zi,Zj,ofV,Z7,retA,resK,tupA,subA,subQ,Z9,frzO,subF,subG,Zy,frzE,frzC,frz0,frzH,Pg.freeze,Zd,Ya,Yb,Zo,subM,slen,Y5,AV.cells,TK.cells,Ze,Zh,reduceCtorEq,Nat.reduceEqDiff,Zb,Zf,ite_true,ite_false,Option.some.injEq,AV.int.injEq,decide_eq_true_eq,decide_eq_false_iff_not,Y0,and_self,exists_eq_left',Zk,Zt,Zc,Y7,Yz,Zs,Z8,Yp,Yq,Zq,tk9,dz9,tk22]
    have h3 := hs i
    have h4 := total_take ls i
    refine ⟨fun h => ⟨by omega, fun h2 => ?_, fun h2 => ?_⟩, fun h => ?_⟩
    · rw [wrap64 (by omega) (by omega)] at h2
      symm
      exact not_light ls (i + 1) (by omega)
    · rw [wrap64 (by omega) (by omega)] at h2
      refine loopH_intro (α := Nat) (fun k => ([(0, .sl 1 (ls.map .str)), (2, .bool false), (3, .int .i64 (total (ls.take (i + 1)))), (4, .int .i64 i), (5, .int .i64 k)], [])) (fun k => k ≤ (ls.getD i []).length ∧ ((ls.getD i []).take k).all (fun b => b != 10)) (fun k => (ls.getD i []).length - k) 0 ?_ ?_ ?_
      · simp
      · simp (maxSteps := 4000000) only [Pg.look,true_and,and_true,Zx,Zi,Zj,subA,subQ,Z9,frzO,subF,subG,Zy,frzE,frzC,frz0,frzH,Pg.freeze,Zd,Ya,Yb,Zo,subM,reduceCtorEq,Nat.reduceEqDiff,Zb,ite_true,ite_false,and_self,Zk,Yx]
        rw [wrap64 (by omega) (by omega)]
        omega
      · intro k hk
        simp (maxSteps := 4000000) only [↓Yj,↓Y1,↓Z1,↓wpH_exit,↓Zw,↓Yt,↓Yv,↓Zp,Y2,Zm,Zu,Zr,gw,Zn,Yc,↓chk,Yk,noW,↓oneK,↓Yl,↓heapK,↓Zg,↓Yw,↓thenA_exit,↓Y9,↓Y8,↓blockA_exit,↓Z6,opnd,Pg.look,binK,Yu,Za,implies_true,true_and,and_true,valV,Ym,Yn,binV,intV,Zx,Zi,Zj,ofV,Z7,retA,resK,tupA,subA,subQ,Z9,frzO,subF,subG,Zy,frzE,frzC,frz0,frzH,Pg.freeze,Zd,Ya,Yb,Zo,subM,Y5,AV.cells,TK.cells,Ze,Zh,reduceCtorEq,Nat.reduceEqDiff,Zb,Zf,ite_true,ite_false,Option.some.injEq,decide_eq_true_eq,decide_eq_false_iff_not,Y0,and_self,exists_eq_left',Zk,Zt,Zc,Y7,Yz,Zs,Z8,Yp,Yq,Zq,tk9,dz9,tk22]
        refine ⟨by omega, fun h5 => ⟨by omega, by omega, fun h6 => ?_, fun h6 => ⟨k + 1, ⟨by omega, ?_⟩, by omega, by rw [wrap64 (by omega) (by omega)]; omega⟩⟩, fun h5 => ⟨i + 1, ⟨by omega, by omega, ?_⟩, by omega, rfl, by rw [wrap64 (by omega) (by omega)]; omega⟩⟩
        · symm
          refine not_light_at ls i k (by omega) (by omega) ?_
          have h7 : ((ls.getD i []).getD k 0).toNat = 10 := by have := eq_of_beq h6; omega
          exact UInt8.toNat_inj.1 h7
        · rw [take_succ_getD _ k 0 (by omega), List.all_append, hk.2]
          simp only [Yy,Y3,Bool.and_true,Bool.true_and,bne_iff_ne,ne_eq]
          intro h7
          rw [h7] at h6
          exact absurd h6 (by decide)
        · have h8 : k = (ls.getD i []).length := by omega
          have h9 := hk.2
          rw [h8, List.take_length] at h9
          rw [take_succ_getD _ i [] (by omega), List.all_append, hi.2.2]
          simp only [Yy,Y3,h9,Zv]
    · have : i = ls.length := by omega
      subst this
      rw [List.take_length] at hi
      symm
      have h1 : ls.length ≤ 40 := by omega
      simp [light, hi, h1]
def kLight : C1 := C1.by [.sl 1 []] (lOne cStrs) (fun d => ∀ i, (d.getD i []).length ≤ 140737488355328) (fun d => .bool (light d)) (fun _ => [])
theorem ok_Light : C1OK Try.prog 13 kLight := C1OK.by (by kernel_rfl) (fun d h => calls_Light d h) (fun _ => rfl) (fun _ => rfl)
theorem calls_Text (ls : Ls) (hs : ∀ i, (ls.getD i []).length ≤ 140737488355328) : CallsR Try.prog 6 [.sl 1 (ls.map .str)] [] (.bool (text ls)) [] := by
  refine callsR_of (mrg := true) (dyn := []) (CtrOK.cons ok_Light (CtrOK.nil _)) mixed Try.func6 rfl (by simp [Try.ntmps6]) (by kernel_rfl) ?_
  rw [show Try.f6.results.toList = [.tmp 2] from by kernel_rfl]
  simp (maxSteps := 4000000) only [↓Yj,↓Z1,↓Zw,↓Zp,Zm,Zu,Zr,gw,Zn,gselH_if,kselH_1,gkind,↓chk,Yk,↓oneK,↓Yl,envOf,↓Zg,↓Z6,opnd,Pg.look,binK,Yu,dstOf,Za,implies_true,imp_self,true_and,and_true,pickC,pickV,unc,gof,mux,mergeK,condsL,valV,Ym,Yn,binV,intV,Zx,Zi,Zj,mergeable,Y4,ofV,Z7,sameK,retA,resK,tupA,subA,subQ,Z9,frzO,subF,subG,Zy,frzE,frzC,frz0,frzH,Pg.freeze,Zd,Ya,Yb,Zo,subM,slen,↓callT,callC,callV,normArgs,normA,normC,resL,res8_eq,res_succ,resM,shiftR,shift1,Op.operands,Call.operands,Array.toList_append,Zz,Zl,Ze,Yf,Zh,reduceCtorEq,Nat.reduceEqDiff,Z5,Zb,Yi,Zf,Ye,Yr,ite_true,ite_false,Option.some.injEq,AV.int.injEq,Z2,decide_eq_true_eq,decide_eq_false_iff_not,Y0,Zv,and_self,exists_eq_left',Zk,Zt,Z3,cSl_dec,lOne_dec,Zc,List.range'_zero,decL_str,C1by_ns,C1by_pre,C1by_r,C1by_H,optP_some,optV_some,optH_some,C1by_it,Zs,Z8,Yp,Yq,Zq,↓msel,muC,↓callP,C1by_mu,tk22,kLight]
  refine ⟨fun h => ⟨h, hs⟩, ?_⟩
  rw [text]
  congr 1
  by_cases h : 0 < ls.length <;> simp [h]
def kText : C1 := C1.by [.sl 1 []] (lOne cStrs) (fun d => ∀ i, (d.getD i []).length ≤ 140737488355328) (fun d => .bool (text d)) (fun _ => [])
theorem ok_Text : C1OK Try.prog 6 kText := C1OK.by (by kernel_rfl) (fun d h => calls_Text d h) (fun _ => rfl) (fun _ => rfl)
/-- What lines that may be asked are. -/
theorem few_of_text {ls : Ls} (h : text ls = true) : 0 < ls.length ∧ ls.length ≤ 40 ∧ (∀ i, (ls.getD i []).length ≤ 1200) := by
  simp only [text,light,Z0,decide_eq_true_eq] at h
  refine ⟨h.1, h.2.1.1, fun i => ?_⟩
  by_cases hi : i < ls.length
  · have h1 := total_take ls i hi
    have h2 := total_take_le ls (i + 1)
    omega
  · simp [List.getD_eq_getElem?_getD, List.getElem?_eq_none (Nat.le_of_not_lt hi)]
end Go.Pg
namespace Go.Pg
open Go Go.Proofs

/-- So many lines, so long. -/
def fits (n b : Nat) (ls : Ls) : Prop := ls.length ≤ n ∧ ∀ s ∈ ls, s.length ≤ b
theorem fits_getD {n b : Nat} {ls : Ls} (h : fits n b ls) (i : Nat) : (ls.getD i []).length ≤ b := by
  rw [List.getD_eq_getElem?_getD]
  cases e : ls[i]? with
  | none => simp
  | some s => exact h.2 s (List.mem_of_getElem? e)
theorem fits_small {n b : Nat} {ls : Ls} (h : fits n b ls) (hn : n ≤ 1099511627776) (hb : b ≤ 1099511627776) : small ls :=
  ⟨Nat.le_trans h.1 hn, fun i => Nat.le_trans (fits_getD h i) hb⟩
theorem fits_mono {n b n' b' : Nat} {ls : Ls} (h : fits n b ls) (hn : n ≤ n') (hb : b ≤ b') : fits n' b' ls :=
  ⟨Nat.le_trans h.1 hn, fun s hs => Nat.le_trans (h.2 s hs) hb⟩
/-- A place by two numbers. -/
def splace (ls : Ls) (a b : Int) : Int × Int := (a % ls.length, b % ((ls.getD (a % ls.length).toNat []).length + 1))
def kSPlace : C1 := C1.by [.sl 1 [], .id, .id] (lCons cStrs (lCons (cInt .u16) (lOne (cInt .u16)))) (fun d => 0 < d.1.length ∧ small d.1 ∧ (0 ≤ d.2.1 ∧ d.2.1 < 65536) ∧ 0 ≤ d.2.2 ∧ d.2.2 < 65536)
  (fun d => aPos (splace d.1 d.2.1 d.2.2)) (fun _ => [])
theorem ok_SPlace : C1OK Try.prog 7 kSPlace := C1OK.by (by kernel_rfl) (fun d h => calls_SPlace d.1 d.2.1 d.2.2 h.1 h.2.1 h.2.2.1 h.2.2.2) (fun _ => rfl) (fun _ => rfl)
theorem fits_text {ls : Ls} (h : text ls = true) : fits 40 1200 ls := by
  obtain ⟨h1, h2, h3⟩ := few_of_text h
  refine ⟨h2, fun s hs => ?_⟩
  obtain ⟨i, hi, rfl⟩ := List.getElem_of_mem hs
  have := h3 i
  rw [List.getD_eq_getElem?_getD, List.getElem?_eq_getElem hi] at this
  exact this
end Go.Pg
namespace Go.Pg
open Go Go.Proofs

def blank (b : UInt8) : Bool := b == 32 || b == 9
/-- A line's first byte that is no blank, or its last one. -/
def firstC (s : List UInt8) : Int := if (s.takeWhile blank).length < s.length then (s.takeWhile blank).length else max ((s.length : Int) - 1) 0
theorem tw_step {p : UInt8 → Bool} : ∀ (s : List UInt8) (i : Nat), i ≤ (s.takeWhile p).length → i < s.length → (p (s.getD i 0) = true → i + 1 ≤ (s.takeWhile p).length) ∧ (p (s.getD i 0) = false → (s.takeWhile p).length = i)
  | [], i, _, h => by simp at h
  | b :: s, i, h1, h2 => by
    cases hb : p b with
    | false =>
      rw [List.takeWhile_cons_of_neg (by simp [hb])] at h1 ⊢
      have : i = 0 := by simpa using h1
      subst this
      simp [hb]
    | true =>
      rw [List.takeWhile_cons_of_pos hb] at h1 ⊢
      cases i with
      | zero => simp [hb]
      | succ i =>
        have := tw_step s i (by simpa using h1) (by simpa using h2)
        simpa using this
theorem tw_le (s : List UInt8) : (s.takeWhile blank).length ≤ s.length := (List.takeWhile_sublist _).length_le
theorem cls_blank (b : UInt8) : (cls (b.toNat : Int) true != 0) = !blank b := by
  unfold cls blank
  have h1 : ((b.toNat : Int) == 32) = (b == 32) := by
    rw [Bool.eq_iff_iff, beq_iff_eq, beq_iff_eq]
    exact ⟨fun h => UInt8.toNat_inj.1 (by show _ = 32; omega), fun h => by subst h; rfl⟩
  have h2 : ((b.toNat : Int) == 9) = (b == 9) := by
    rw [Bool.eq_iff_iff, beq_iff_eq, beq_iff_eq]
    exact ⟨fun h => UInt8.toNat_inj.1 (by show _ = 9; omega), fun h => by subst h; rfl⟩
  rw [h1, h2]
  cases (b == 32 || b == 9) <;> simp
set_option maxHeartbeats 4000000 in
theorem calls_First (s : List UInt8) (hs : s.length ≤ 140737488355328) : CallsR Try.prog 40 [.str s] [] (.int .i64 (firstC s)) [] := by
  refine callsR_of (mrg := true) (dyn := []) (CtrOK.cons ok_Of (CtrOK.nil _)) mixed Try.func40 rfl (by simp [Try.ntmps40]) (by kernel_rfl) ?_
  rw [show Try.f40.results.toList = [.tmp 2] from by kernel_rfl]
  simp (maxSteps := 4000000) only [↓Yj,↓Zw,↓Yv,↓wpH_loop,↓Zp,Zm,Zu,Zr,gw,Zn,↓chk,Yk,↓oneK,↓Yl,envOf,↓Zg,↓Z6,opnd,Pg.look,Za,implies_true,true_and,valV,Ym,Yn,ofV,Z7,reduceCtorEq,Nat.reduceEqDiff,Zf,ite_true,ite_false,and_self,Zc,Zs,Z8,Yp,Yq,Zq,tk9,kOf]
  refine loopH_intro (α := Nat) (fun i => ([(0, .str s), (2, .int .i64 0), (5, .int .i64 s.length), (6, .int .i64 i)], [])) (fun i => i ≤ (s.takeWhile blank).length) (fun i => s.length - i) 0 (by omega) ?_ ?_
  · simp (maxSteps := 4000000) only [Pg.look,Zx,Zi,Zj,subA,subQ,Z9,frzO,subF,subG,Zy,frzE,frzC,frz0,frzH,Pg.freeze,Zd,Ya,Yb,Zo,subM,reduceCtorEq,Nat.reduceEqDiff,Zb,ite_true,ite_false,and_self,Zk,Yx]
  intro i hi
  have hle := tw_le s
  by_cases hlt : i < s.length
  · have hct : decide ((i : Int) < s.length) = true := decide_eq_true (by omega)
    obtain ⟨g1, g2⟩ := tw_step s i hi hlt
    simp (maxSteps := 4000000) only [↓Yj,↓Y1,↓Z1,↓Zw,↓Yt,↓Yv,↓Zp,↓iselH_true,Y2,Zm,Zu,Zr,gw,Zn,Yc,↓chk,Yk,↓oneK,↓Yl,↓Zg,↓Yw,↓Y9,↓Y8,↓Z6,opnd,Pg.look,binK,Yu,Za,implies_true,true_and,and_true,valV,Ym,Yn,binV,intV,Zx,Zi,Zj,ofV,Z7,retA,resK,tupA,subA,subQ,Z9,frzO,subF,subG,Zy,frzE,frzC,frz0,frzH,Pg.freeze,Zd,Ya,Yb,Zo,subM,↓callT,callC,callV,callH,normArgs,normA,resL,res8_eq,res_succ,resM,shiftR,shift1,reduceCtorEq,Nat.reduceEqDiff,Zb,Zf,Ye,Yr,ite_true,ite_false,and_self,Yd,Zk,cInt_dec,cBool_dec,lOne_dec,lCons_dec,dec2_some,Zc,List.range'_zero,C1by_ns,C1by_pre,C1by_r,C1by_H,optP_some,optV_some,optH_some,Yz,C1by_it,Zs,Z8,Yp,Yq,Zq,↓msel,muC,↓callP,C1by_mu,tk9,kOf,hct,cls_blank]
    refine ⟨⟨by omega, hlt⟩, fun hb => ?_, fun hb => ?_⟩
    · unfold firstC
      rw [g2 hb, if_pos hlt]
    · have hb2 : blank (s.getD i 0) = true := by simpa using hb
      exact ⟨i + 1, g1 hb2, by omega, by rw [wrap64 (by omega) (by omega)]; rfl⟩
  · have hcf : decide ((i : Int) < s.length) = false := decide_eq_false (by omega)
    simp (maxSteps := 4000000) only [↓Yj,↓Z1,↓wpH_exit,↓Zw,↓Yt,↓Zp,↓iselH_false,Zm,Zu,Zr,gw,Zn,Yc,↓chk,Yk,↓oneK,↓Yl,↓Zg,↓thenA_exit,↓blockA_exit,↓Z6,opnd,Pg.look,binK,Yu,Za,implies_true,true_and,and_true,valV,Ym,Yn,binV,intV,Zx,Zi,Zj,ofV,Z7,retA,resK,tupA,subA,subQ,Z9,frzO,subF,subG,Zy,frzE,frzC,frz0,frzH,Pg.freeze,Zd,Ya,Yb,Zo,subM,foldInts,Zh,reduceCtorEq,Nat.reduceEqDiff,Zb,Zf,Ye,Yr,ite_true,ite_false,Option.some.injEq,AV.int.injEq,and_self,exists_eq_left',Zk,Zc,Zs,Z8,Yp,Yq,Zq,tk9,kOf,hcf]
    unfold firstC
    rw [if_neg (by omega), wrap64 (by omega) (by omega)]
def clampP (ls : Ls) (p : Int × Int) (past : Bool) : Int × Int :=
  if ls.length = 0 then (0, 0) else
  let l := min (max p.1 0) ((ls.length : Int) - 1)
  let m : Int := (ls.getD l.toNat []).length
  (l, min (max p.2 0) (if past = true then m else max (m - 1) 0))
set_option maxHeartbeats 4000000 in
theorem calls_Clamp (ls : Ls) (p : Int × Int) (past : Bool) (hs : small ls) : CallsR Try.prog 24 [.sl 1 (ls.map .str), aPos p, .bool past] [] (aPos (clampP ls p past)) [] := by
  obtain ⟨p1, p2⟩ := p
  refine callsR_of (mrg := true) (dyn := []) (CtrOK.nil _) mixed Try.func24 rfl (by simp [Try.ntmps24]) (by kernel_rfl) ?_
  rw [show Try.f24.results.toList = [.cell 6 28] from by kernel_rfl]
  simp (maxSteps := 4000000) only [↓Yj,↓Y1,↓Z1,↓Zw,↓Yt,↓Zp,Y2,Zm,Zu,Zr,gw,Zn,Yc,↓chk,Yk,noW,↓oneK,↓Yl,↓heapK,envOf,↓Zg,↓Yw,↓Z6,opnd,Pg.look,binK,Yu,Za,implies_true,true_and,and_true,valV,Ym,Yn,binV,intV,Zx,Zi,Zj,Nat.reduceAdd,ofV,Z7,retA,resK,tupA,subA,subQ,Z9,frzO,subF,subG,Zy,frzE,frzC,frzL,frz0,frzH,Pg.freeze,Zd,Ya,Yb,Zo,subM,subL,slen,Y5,objAt,res_succ,resM,AV.cells,TK.cells,AV.definite,AV.leaf,AV.leafy,putCells,lay,buildL,foldInts,Zl,Ze,Zh,reduceCtorEq,Nat.reduceEqDiff,Nat.reduceAdd,Z5,Zb,Yi,Yg,Zf,Ye,Yr,List.set_cons_zero,List.set_cons_succ,Yo,ite_true,ite_false,Option.some.injEq,Option.isSome_some,AV.int.injEq,AV.agg.injEq,Yy,Y3,Zv,and_self,Yd,exists_eq_left',Zk,Zt,Zc,Y7,Z4,cutL,List.drop_zero,List.drop_succ_cons,List.take_succ_cons,Y6,Nat.add_zero,Nat.sub_zero,Nat.reduceLeDiff,Nat.le_refl,List.drop_nil,List.take_nil,Yh,Zs,Z8,Yp,Yq,Zq,mapAt,tk3,tk9,dz9,tk22,tk28,tz28,dz28,aPos]
  have hl := hs.1
  have hw : IntKind.i64.wrap ((ls.length : Int) - 1) = (ls.length : Int) - 1 := wrap64 (by omega) (by omega)
  rw [hw]
  refine ⟨fun h => ?_, fun h => ?_⟩
  · have h0 : ls.length = 0 := by simpa using h
    simp [clampP, h0]
  · have h0 : ls.length ≠ 0 := by simpa using h
    have h2 := hs.2 (min (max p1 0) ((ls.length : Int) - 1)).toNat
    refine ⟨⟨by omega, by omega⟩, fun hp => ?_, fun hp => ?_⟩
    · subst hp
      rw [wrap64 (by omega) (by omega)]
      simp [clampP, h0]
    · have : past = true := by simpa using hp
      subst this
      simp [clampP, h0]
def kFirst : C1 := C1.by [.id] (lOne cStr) (fun s => s.length ≤ 140737488355328) (fun s => .int .i64 (firstC s)) (fun _ => [])
theorem ok_First : C1OK Try.prog 40 kFirst := C1OK.by (by kernel_rfl) (fun d h => calls_First d h) (fun _ => rfl) (fun _ => rfl)
end Go.Pg
