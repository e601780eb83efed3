/- Brackets: the other one; the motion. Keys of motions: names of keys, keys of a text. Places behind a place, and ahead of it. Where words begin and end, by the document: plain. Where words begin and end: the program's iterator. Where words begin and end: the iterators that the program hands out. What is heard of an iterator of places. -/
import Derived.Test.YtkkcfkggfpoagaaPgFx3
import Derived.Test.YtkkcfkggfpoagaaPgFx0
import Derived.Test.YtkkcfkggfpoagaaPgYld4
open Bool renaming false_eq_true → Za, and_self → Z2, not_false → Yj, not_true → Yv, true_eq_false → Jk, and_true → J7, and_eq_true → Xl
open List renaming getElem?_cons_zero → Zb, append_nil → Zc, foldl_nil → Zd, getElem?_cons_succ → Ze, length_nil → Zf, contains_nil → Zg, nil_append → Zm, cons_append → Zr, length_cons → Zu, map_nil → Zw, map_cons → Zx, range'_zero → Zy, getElem?_toArray → Z1, getD_cons_zero → Yc, drop_succ_cons → Yd, take_succ_cons → Ye, drop_zero → Yf, all_cons → Yg, length_map → Yi, all_nil → Yq, set_cons_zero → Yu, take_zero → Yz, set_cons_succ → Y6, drop_nil → Qr, take_nil → Ja, getElem?_map → J6, toList_toArray → Xg, foldl_cons → Xn
open Go.Pg renaming gselH_plain → Zh, closeQ_nil → Zj, diagQ_zero → Zk, pickOK_nil → Zl, subV_succ → Zo, cselH_bool → Zp, thenA_normal → Zq, iselH_false → Zs, bselH_false → Zt, wpH_region → Zz, selC_false → Z0, stepEv → Z3, isNext → Z4, runH_cons → Z5, regH_none → Z6, ofLeaf → Z7, alives → Z8, pickOf → Z9, iselH_true → Ya, runH_nil → Yh, justK → Yk, pureK → Yl, heapV → Ym, footV → Yn, nextF → Yo, nextG → Yp, ptrsE → Yr, subOs → Ys, subEv → Yt, wpH_seq → Yy, wpYH_region0 → Y0, thenY_normal → Y1, oneK → Y2, opnd → Y3, valV → Y4, wpH_block → Y5, wpH_ret → Y7, res_succ → Y8, subA → Y9, subQ → Qa, frzO → Qb, subF → Qc, subG → Qd, frzE → Qe, frzC → Qf, frz0 → Qg, frzH → Qh, subM → Qi, wpH_cond → Qj, intOp → Qk, lCons_dec → Ql, optP_some → Qm, optV_some → Qn, optH_some → Qo, ldCells → Qp, dec2_some → Qq, regYH_none → Qs, runYH_cons → Qt, yselH_none → Qu, normArgs → Qv, lOne_dec → Qw, C1by_pre → Qx, wpA_H → Qy, heapK → Q0, binK → Q1, binV → Q2, intV → Q3, runYH_nil → Q4, blockA_ret → Q5, res8_eq → Q6, C1by_ns → Q7, C1by_it → Q8, C1by_mu → Q9, thenA_ret → Jb, wpYH_cond → Jc, blockY_normal → Jd, cInt_dec → Je, wpYH_seq → Jf, oneYH_eq → Jg, cBool_dec → Ji, shiftR → Jl, shift1 → Jm, C1by_r → Jn, C1by_H → Jo, wpYH_block → Jp, gselH_if → Jq, envOf → Jr, retA → Js, resK → Jt, tupA → Ju, callT → Jx, callC → Jy, callV → Jz, callH → J0, normA → J1, callP → J2, wpYH_skip → J3, objAt → J4, wpY_H → J5, putCells → J8, decL_str → J9, wpH_skip → Xa, buildL → Xc, dstOf → Xd, pickC → Xe, pickV → Xf, cSl_dec → Xh, cAgg_dec → Xj, getD_str → Xk, cStr_dec → Xm, closeQ_succ → Xo, blockA_exit → Xp, yieldH_some → Xq, blockY_exit → Xr, endY_normal → Xs, cRp_dec → Xt, thenA_exit → Xu, yselH_some → Xv, blockY_ret → Xw, thenY_exit → Xx, blockA_normal → Xy
open Int renaming toNat_natCast → Zi, cast_ofNat_Int → Jv
open Option renaming getD_some → Zn, isSome_some → Yb, bind_some → Yx, isSome_none → Jh, map_some → Jw
open Nat renaming zero_add → Zv, zero_lt_succ → Yw, le_refl → Qz, sub_zero → Jj, not_lt_zero → Xb, lt_irrefl → Xi
namespace Go.Pg
open Go Go.Proofs

def inByte (ls : Ls) (q : Int × Int) : Prop := 0 ≤ q.1 ∧ q.1 < ls.length ∧ 0 ≤ q.2 ∧ q.2 < (ls.getD q.1.toNat []).length
def byteOf (ls : Ls) (q : Int × Int) : UInt8 := (ls.getD q.1.toNat []).getD q.2.toNat 0
def rankB (ls : Ls) (back : Bool) (q : Int × Int) : Nat := if back = true then q.1.toNat * 65537 + q.2.toNat else (ls.length - q.1.toNat) * 65537 + (65536 - q.2.toNat)
theorem nextB_in {ls : Ls} (hf : okText ls) {q q' : Int × Int} {back : Bool} (hq : inByte ls q) (h : nextB ls q back = some q') : inByte ls q' ∧ rankB ls back q' < rankB ls back q := by
  obtain ⟨q1, q2⟩ := q
  obtain ⟨h1, h2, h3, h4⟩ := hq
  dsimp only at h1 h2 h3 h4
  obtain ⟨l, rfl⟩ := Int.eq_ofNat_of_zero_le h1
  obtain ⟨c, rfl⟩ := Int.eq_ofNat_of_zero_le h3
  rw [Int.toNat_natCast] at h4
  have h5 := fits_getD hf l
  unfold nextB at h
  unfold rankB
  cases back with
  | true =>
    simp only [if_true,Zi] at h ⊢
    split at h
    · cases h
      refine ⟨⟨h1, h2, by dsimp only; omega, by dsimp only; rw [Int.toNat_natCast]; omega⟩, ?_⟩
      dsimp only; rw [Int.toNat_natCast]; omega
    · cases hd : findDn (full ls) l with
      | none => rw [hd] at h; cases h
      | some j =>
        rw [hd] at h
        cases h
        obtain ⟨g1, g2⟩ := findDn_some hd
        have g3 := fits_getD hf j
        simp only [full,bne_iff_ne,ne_eq] at g2
        unfold lineEndB
        refine ⟨⟨by dsimp only; omega, by dsimp only; omega, by dsimp only; omega, by dsimp only; rw [Int.toNat_natCast]; omega⟩, ?_⟩
        dsimp only; rw [Int.toNat_natCast]; omega
  | false =>
    simp only [Za,if_false,Zi] at h ⊢
    split at h
    · cases h
      refine ⟨⟨h1, h2, by dsimp only; omega, by dsimp only; rw [Int.toNat_natCast]; omega⟩, ?_⟩
      dsimp only; rw [Int.toNat_natCast]; omega
    · cases hd : findUp (full ls) (ls.length - (l + 1)) (l + 1) with
      | none => rw [hd] at h; cases h
      | some j =>
        rw [hd] at h
        cases h
        obtain ⟨g1, g2, g3⟩ := findUp_some hd
        simp only [full,bne_iff_ne,ne_eq] at g3
        unfold lineBegB
        refine ⟨⟨by dsimp only; omega, by dsimp only; omega, by dsimp only; omega, by dsimp only; rw [Int.toNat_natCast]; omega⟩, ?_⟩
        dsimp only; rw [Int.toNat_natCast]; omega

def deepS (op sh : UInt8) (opens : Bool) (c : UInt8) (d : Int) : Int :=
  if ((c == op) && opens || (c == sh) && !opens) = true then d + 1 else if (c == op || c == sh) = true then d - 1 else d
def otherL (ls : Ls) (op sh : UInt8) (opens : Bool) : Nat → Option (Int × Int) → Int → Option (Int × Int)
  | 0, _, _ => none
  | _ + 1, none, _ => none
  | k + 1, some q, d => if deepS op sh opens (byteOf ls q) d = 0 then some q else otherL ls op sh opens k (nextB ls q (!opens)) (deepS op sh opens (byteOf ls q) d)
theorem otherL_none (ls : Ls) (op sh : UInt8) (opens : Bool) (k : Nat) (d : Int) : otherL ls op sh opens k none d = none := by cases k <;> rfl
def fuelB (ls : Ls) : Nat := (ls.length + 1) * 65537 + 1
def otherP (ls : Ls) (p : Int × Int) : Option (Int × Int) :=
  otherL ls (kindF (byteOf ls p)).1 (kindF (byteOf ls p)).2.1 (kindF (byteOf ls p)).2.2.1 (fuelB ls) (nextB ls p (!(kindF (byteOf ls p)).2.2.1)) 1
theorem rankB_lt {ls : Ls} {q : Int × Int} (hf : okText ls) (hq : inByte ls q) (back : Bool) : rankB ls back q + 1 < fuelB ls := by
  obtain ⟨q1, q2⟩ := q
  obtain ⟨h1, h2, h3, h4⟩ := hq
  dsimp only at h1 h2 h3 h4
  have h5 := fits_getD hf q1.toNat
  unfold rankB fuelB
  cases back with
  | true => simp only [if_true]; omega
  | false => simp only [Za,if_false]; omega
theorem beq_byte (a b : UInt8) : ((a.toNat : Int) == (b.toNat : Int)) = (a == b) := by
  rw [byte_eq, Bool.eq_iff_iff]; simp

set_option maxRecDepth 20000 in
set_option maxHeartbeats 8000000 in
theorem calls_other (ls : Ls) (p : Int × Int) (hf : okText ls) (hp : inByte ls p) :
    CallsR Try.prog 99 [.sl 1 (ls.map .str), aPos p] [] (aOpt (otherP ls p)) [] := by
  refine callsR_of (mrg := true) (dyn := []) (CtrOK.cons ok_Kind (CtrOK.cons ok_bnext (CtrOK.nil _))) mixed Try.func99 rfl (by simp [Try.ntmps99]) (by kernel_rfl) ?_
  rw [show Try.f99.results.toList = [.cell 4 28, .tmp 5] from by kernel_rfl]
  have hll := hf.1
  have hp0 := hp
  have hfu : fuelB ls ≤ 4295098370 := by unfold fuelB; omega
  unfold otherP
  have hb : byteOf ls p = (ls.getD p.1.toNat []).getD p.2.toNat 0 := rfl
  obtain ⟨kk, hk⟩ : ∃ kk, kk = kindF (byteOf ls p) := ⟨_, rfl⟩
  rw [← hk]
  obtain ⟨op, sh, opens, br⟩ := kk
  dsimp only
  rw [hb] at hk
  obtain ⟨nx, hnx⟩ : ∃ nx, nx = nextB ls p (!opens) := ⟨_, rfl⟩
  rw [← hnx]
  have hin0 : ∀ q, nx = some q → inByte ls q := fun q h => (nextB_in hf hp (hnx.symm.trans h)).1
  obtain ⟨p1, p2⟩ := p
  obtain ⟨g1, g2, g3, g4⟩ := hp
  dsimp only at g1 g2 g3 g4 hk
  have h5 := fits_getD hf p1.toNat
  obtain ⟨R, hR⟩ : ∃ R, R = otherL ls op sh opens (fuelB ls) nx 1 := ⟨_, rfl⟩
  rw [← hR]
  simp (maxSteps := 4000000) only [↓Qy,↓Yy,↓Y5,↓wpH_loop,↓Zz,Zt,Yh,Z5,gw,Zh,↓chk,Yk,noW,↓Y2,↓Yl,↓Q0,Jr,↓Zq,↓Z3,Y3,Pg.look,Za,false_implies,implies_true,true_and,and_true,Y4,Ym,Yn,Nat.reduceAdd,ofV,Z7,Pg.freeze,Zd,Qp,J4,↓Jx,Jy,Jz,J0,Qv,J1,normC,resL,Q6,Y8,resM,Jl,Jm,AV.cells,TK.cells,AV.definite,AV.leaf,AV.leafy,J8,lay,Ze,Zb,Zn,reduceCtorEq,Nat.reduceEqDiff,Nat.reduceAdd,Zm,Zc,Zr,Zu,Zf,Zx,Zw,Yu,Y6,Zv,ite_true,ite_false,Option.some.injEq,Jh,Prod.mk.injEq,Yg,Yq,Z2,and_self,exists_eq_left',Yi,Je,Ji,cByte_dec,Xh,Xj,Qw,Ql,Qq,Zg,Zy,J9,Q7,Qx,Jn,Jo,Qm,Qn,Qo,Xk,Yc,cutL,Yf,Yd,Ye,Yz,Nat.add_zero,Jj,Qz,Qr,Ja,Yw,Q8,Z6,Z4,Yo,Yp,selC_true,Z0,pureC,↓msel,muC,↓J2,Q9,tk3,tk9,dz9,tk22,tk28,tz28,dz28,kKind,kBNext,aKind,aOpt,aPos,byteA,← hk,← hnx]
  refine ⟨⟨by omega, by omega⟩, ⟨by omega, by omega⟩, ⟨hf, by omega, by omega, by omega, by omega⟩, ?_⟩
  refine loopH_intro (α := Nat × Option (Int × Int) × Int) (fun x => ([(0, .sl 1 (ls.map .str)), (3, .ptr 0 2 1 0 0), (4, .ptr 1 2 1 0 0), (5, .bool false), (6, .int .u8 op.toNat), (7, .int .u8 sh.toNat), (8, .bool opens), (10, .int .i64 x.2.2), (11, .ptr 2 2 1 0 0), (12, .bool x.2.1.isSome)], [.arr 28 2 [.agg [.int .i64 p1, .int .i64 p2]], .arr 28 2 [.agg [.int .i64 0, .int .i64 0]], .arr 28 2 [.agg [.int .i64 (x.2.1.getD (0, 0)).1, .int .i64 (x.2.1.getD (0, 0)).2]]]))
    (fun x => (∀ q, x.2.1 = some q → inByte ls q ∧ rankB ls (!opens) q < x.1) ∧ x.1 ≤ fuelB ls ∧ -((fuelB ls - x.1 : Nat) : Int) - 1 ≤ x.2.2 ∧ x.2.2 ≤ (fuelB ls - x.1 : Nat) + 1 ∧ R = otherL ls op sh opens x.1 x.2.1 x.2.2) (fun x => x.1) (fuelB ls, nx, 1) ⟨fun q h => ⟨hin0 q h, by have := rankB_lt hf (hin0 q h) (!opens); dsimp only; omega⟩, by dsimp only; omega, by dsimp only; omega, by dsimp only; omega, hR⟩ ?_ ?_
  · simp (maxSteps := 4000000) only [Pg.look,true_and,and_true,Z8,aliveO,nxtQ,hdS,pairsA,frzA,Zj,Xo,Zk,Nat.reduceAdd,Y9,Qa,Yr,pairsO,Qb,Qc,Qd,Z9,assocN,pairsE,pairsC,pairs0,Qe,Qf,Qg,Qh,Pg.freeze,Zd,Ys,subO,Yt,Zo,Qi,AV.cells,AV.pureLeaf,AV.pureB,Ze,Zb,reduceCtorEq,Nat.reduceEqDiff,Nat.reduceAdd,Zm,Zc,Zr,Zv,ite_true,ite_false,Yg,Yq,Z2,and_self,Xi,Xb]
    exact ⟨by decide, subX_eq rfl rfl, subX_eq rfl rfl, subX_eq rfl rfl⟩
  rintro ⟨k, qo, d⟩ ⟨hq, hk2, hd1, hd2, hR⟩
  dsimp only at hq hk2 hd1 hd2 hR
  cases qo with
  | none =>
    rw [otherL_none] at hR
    subst hR
    simp (maxSteps := 4000000) only [↓Qy,↓Y7,↓wpH_exit,↓Yy,↓Qj,↓Zz,↓Zs,Zt,Yh,Z5,gw,Zh,Zp,↓chk,Yk,↓Y2,↓Yl,↓Q0,↓Zq,↓Xu,↓Xp,↓Z3,Y3,Pg.look,Za,implies_true,true_and,and_true,Y4,Ym,Yn,Z8,Zj,Zk,Nat.reduceAdd,ofV,Z7,Js,Jt,Ju,Y9,Qa,Yr,Qb,Qc,Qd,Z9,Qe,Qf,frzL,Qg,Qh,Pg.freeze,Zd,Ys,Yt,Zo,Qi,subL,Qp,J4,Y8,resM,AV.cells,TK.cells,AV.leaf,AV.leafy,J8,lay,Xc,Ze,Zb,Zn,Option.getD_none,reduceCtorEq,Nat.reduceEqDiff,Nat.reduceAdd,Zm,Zc,Zu,Zf,Zw,Yu,Y6,Zv,ite_true,ite_false,Option.some.injEq,Yb,Jh,AV.agg.injEq,Yg,Yq,Z2,and_self,exists_eq_left',Zl,Zg,Yc,cutL,Yf,Yd,Ye,Yz,Jj,Qz,Qr,Ja,Yw,Z6,Z4,Yo,Yp,Z0,mapAt,tk28,tz28,dz28,kKind,kBNext,aKind,aOpt,aPos,byteA]
  | some q =>
    obtain ⟨hqi, hqr⟩ := hq q rfl
    obtain ⟨k, rfl⟩ : ∃ j, k = j + 1 := ⟨k - 1, by omega⟩
    rw [otherL] at hR
    have hbq : byteOf ls q = (ls.getD q.1.toNat []).getD q.2.toNat 0 := rfl
    have hnq := fun q' h => nextB_in (q' := q') (back := !opens) hf hqi h
    obtain ⟨ny, hny⟩ : ∃ ny, ny = nextB ls q (!opens) := ⟨_, rfl⟩
    rw [← hny] at hnq hR
    obtain ⟨q1, q2⟩ := q
    obtain ⟨e1, e2, e3, e4⟩ := hqi
    dsimp only at e1 e2 e3 e4 hbq
    have h6 := fits_getD hf q1.toNat
    rw [hbq] at hR
    generalize hbv : (ls.getD q1.toNat []).getD q2.toNat 0 = bv at hR
    have b1 := beq_byte bv op
    have b2 := beq_byte bv sh
    unfold deepS at hR
    have w1 : IntKind.i64.wrap (d + 1) = d + 1 := wrap64 (by omega) (by omega)
    have w2 : IntKind.i64.wrap (d - 1) = d - 1 := wrap64 (by omega) (by omega)
    cases hx1 : (bv == op) <;> cases hx2 : (bv == sh) <;> cases opens
    all_goals
      rw [hx1] at b1
      rw [hx2] at b2
      simp only [hx1,hx2,J7,Bool.and_false,Bool.or_self,Bool.or_true,Bool.or_false,Yv,Yj,Za,if_true,if_false] at hR
      simp only [Yv,Yj] at hny hnq hqr
      simp (maxSteps := 4000000) only [↓Qy,↓Xa,↓Y7,↓Yy,↓Qj,↓Y5,↓Zz,↓Ya,↓Zs,iselH_if,Zt,Yh,Z5,gw,Zh,Jq,kselH_1,Zp,gkind,↓chk,Yk,noW,↓Y2,↓Yl,↓Q0,↓Zq,↓Jb,↓Xy,↓Q5,↓Z3,Y3,Pg.look,Q1,Qk,Xd,Yj,Yv,Za,Jk,false_implies,implies_true,imp_self,true_and,and_true,Xe,Xf,unc,gof,mux,mergeK,condsL,Y4,Ym,Yn,Q2,Q3,Z8,aliveO,nxtQ,hdS,pairsA,frzA,Zj,Xo,Zk,Nat.reduceAdd,mergeable,look_stripE,ofV,Z7,sameK,Js,Jt,Ju,Y9,Qa,Yr,pairsO,Qb,Qc,Qd,Z9,assocN,pairsE,pairsC,pairs0,Qe,Qf,frzL,Qg,Qh,Pg.freeze,Zd,Ys,subO,Yt,Zo,Qi,subL,Qp,J4,↓Jx,Jy,Jz,J0,Qv,J1,normC,resL,Q6,Y8,resM,Jl,Jm,AV.cells,TK.cells,AV.definite,AV.leaf,AV.leafy,AV.pureLeaf,AV.pureB,J8,lay,Op.operands,Z1,Ze,Zb,Yx,Zn,reduceCtorEq,Nat.reduceEqDiff,Nat.reduceAdd,Zm,Zc,Zr,Zu,Zf,Zx,Zw,Yu,Y6,Zv,ite_true,ite_false,Option.some.injEq,Yb,Jh,Prod.mk.injEq,Yg,Yq,Z2,and_self,exists_eq_left',Zl,Yi,Je,Ji,Xg,Xh,Xj,Qw,Ql,Qq,Zg,Zy,J9,Q7,Qx,Jn,Jo,Qm,Qn,Qo,Xk,Yc,cutL,Yf,Yd,Ye,Yz,Nat.add_zero,Jj,Qz,Xi,Qr,Ja,Xb,Yw,Q8,Z6,Z4,Yo,Yp,selC_true,Z0,pureC,↓msel,muC,↓J2,Q9,mapAt,tk3,tk9,dz9,tk22,tk28,tz28,dz28,kKind,kBNext,aKind,aOpt,aPos,byteA,hbv,b1,b2,← hny,w1,w2]
      refine ⟨⟨e1, by omega⟩, ⟨e3, by omega⟩, fun hz => ?_, fun hz => ⟨⟨hf, e1, e2, e3, by omega⟩, (k, ny, _), ⟨fun q h => ⟨(hnq q h).1, by have := (hnq q h).2; dsimp only; omega⟩, by dsimp only; omega, ?_, ?_, ?_⟩, by dsimp only; omega, by decide, ⟨subX_eq rfl rfl, subX_eq rfl rfl, subX_eq rfl rfl⟩, rfl, rfl⟩⟩
      · rw [beq_iff_eq] at hz
        rw [if_pos hz] at hR
        rw [hR]
        exact ⟨⟨rfl, rfl⟩, rfl⟩
      · dsimp only; omega
      · dsimp only; omega
      · rw [beq_eq_false_iff_ne] at hz
        rw [if_neg hz] at hR
        exact hR
def kOther : C1 := C1.by [.sl 1 [], .id] (lCons cStrs (lOne cPos2)) (fun d => okText d.1 ∧ inByte d.1 d.2) (fun d => aOpt (otherP d.1 d.2)) (fun _ => [])
theorem ok_other : C1OK Try.prog 99 kOther := C1OK.by (by kernel_rfl) (fun d h => calls_other d.1 d.2 h.1 h.2) (fun _ => rfl) (fun _ => rfl)

def matchM (r : Option (Int × Int)) : Mv × Bool := match r with
  | some q => ((q, 1, true, -1), true)
  | none => mNone
def matchL (ls : Ls) (p : Int × Int) : Mv × Bool := match findUp (fun i => (kindF ((ls.getD p.1.toNat []).getD i 0)).2.2.2) ((ls.getD p.1.toNat []).length - p.2.toNat) p.2.toNat with
  | some i => matchM (otherP ls (p.1, i))
  | none => mNone
def matchP (ls : Ls) (p : Int × Int) : Mv × Bool := whenMay ls p 1 (matchL ls p)
set_option maxRecDepth 20000 in
set_option maxHeartbeats 8000000 in
theorem calls_Match (ls : Ls) (p : Int × Int) (hf : okText ls) :
    CallsR Try.prog 89 [.sl 1 (ls.map .str), aPos p] [] (aMove (matchP ls p)) [] := by
  refine callsR_of (mrg := true) (dyn := []) (CtrOK.cons ok_CPlace (CtrOK.cons ok_Kind (CtrOK.cons ok_other (CtrOK.nil _)))) mixed Try.func89 rfl (by simp [Try.ntmps89]) (by kernel_rfl) ?_
  rw [show Try.f89.results.toList = [.cell 4 38, .tmp 5] from by kernel_rfl]
  obtain ⟨p1, p2⟩ := p
  unfold matchP whenMay
  have hpl : may ls (p1, p2) 1 = place ls p1 p2 := by unfold may; simp
  rw [hpl]
  cases hm : place ls p1 p2 with
  | false =>
    rw [if_neg (by simp)]
    simp (maxSteps := 4000000) only [↓Qy,↓Y7,↓Yy,↓Qj,↓Zz,↓Ya,Zt,Yh,Z5,gw,Zh,Zp,↓chk,Yk,noW,↓Y2,↓Yl,↓Q0,Jr,↓Zq,↓Jb,↓Z3,Y3,Pg.look,Yj,Za,false_implies,implies_true,true_and,and_true,Y4,Ym,Yn,Z8,Zj,Zk,Nat.reduceAdd,ofV,Z7,Js,Jt,Ju,Y9,Qa,Yr,Qb,Qc,Qd,Z9,Qe,Qf,frzL,Qg,Qh,Pg.freeze,Zd,Ys,Yt,Zo,Qi,subL,Qp,J4,↓Jx,Jy,Jz,J0,Qv,J1,normC,resL,Q6,Y8,resM,Jl,Jm,AV.cells,TK.cells,AV.definite,AV.leaf,AV.leafy,J8,lay,Xc,Ze,Zb,Zn,reduceCtorEq,Nat.reduceEqDiff,Nat.reduceAdd,Zm,Zc,Zr,Zu,Zf,Zx,Zw,Yu,Y6,Zv,ite_true,ite_false,Option.some.injEq,Yb,AV.agg.injEq,Prod.mk.injEq,Yg,Yq,Z2,and_self,exists_eq_left',Zl,Je,Xh,Xj,Qw,Ql,Qq,Zg,Zy,J9,Q7,Qx,Jn,Jo,Qm,Qn,Qo,Yc,cutL,Yf,Yd,Ye,Yz,Jj,Qz,Qr,Ja,Yw,Q8,Z6,Z4,Yo,Yp,Z0,↓msel,muC,↓J2,Q9,mapAt,tk28,dz28,tk38,tz38,dz38,kRPlace,aPos,aMove,aMv,mNone,hm]
  | true =>
    rw [if_pos rfl]
    obtain ⟨g1, g2, g3, g4⟩ := (place_iff _ _ _).1 hm
    obtain ⟨l, rfl⟩ := Int.eq_ofNat_of_zero_le g1
    obtain ⟨c, rfl⟩ := Int.eq_ofNat_of_zero_le g3
    rw [Int.toNat_natCast] at g2 g4
    have h5 := fits_getD hf l
    have hR : matchL ls ((l : Int), (c : Int)) = match findUp (fun i => (kindF ((ls.getD l []).getD i 0)).2.2.2) ((ls.getD l []).length - c) c with
      | some i => matchM (otherP ls (l, i))
      | none => mNone := rfl
    generalize matchL ls ((l : Int), (c : Int)) = R at hR ⊢
    obtain ⟨s, hs⟩ : ∃ s, s = ls.getD l [] := ⟨_, rfl⟩
    rw [← hs] at hR g4 h5
    simp (maxSteps := 4000000) only [↓Qy,↓Xa,↓Yy,↓Qj,↓Y5,↓wpH_loop,↓Zz,↓Zs,Zt,Yh,Z5,gw,Zh,Zp,↓chk,Yk,noW,↓Y2,↓Yl,↓Q0,Jr,↓Zq,↓Z3,Y3,Pg.look,Yv,Za,false_implies,implies_true,true_and,and_true,Y4,Ym,Yn,Nat.reduceAdd,ofV,Z7,Pg.freeze,Zd,Qp,J4,↓Jx,Jy,Jz,J0,Qv,J1,normC,resL,Q6,Y8,resM,Jl,Jm,AV.cells,TK.cells,AV.definite,Zb,Zn,reduceCtorEq,Nat.reduceEqDiff,Nat.reduceAdd,Zm,Zc,Zr,Zu,Zf,Zx,Zw,Zv,ite_true,ite_false,Option.some.injEq,Prod.mk.injEq,and_self,exists_eq_left',Yi,Je,Xh,Xj,Qw,Ql,Qq,Zg,Zy,J9,Q7,Qx,Jn,Jo,Qm,Qn,Qo,Xk,Zi,Yc,cutL,Yf,Ye,Nat.add_zero,Jj,Qz,Ja,Yw,Q8,Z6,Z4,Yo,Yp,Z0,↓msel,muC,↓J2,Q9,tk3,tk9,dz9,tk22,tk28,dz28,tz38,kRPlace,aPos,hm,← hs]
    refine ⟨by omega, ?_⟩
    refine loopH_intro (α := Nat) (fun i => ([(0, .sl 1 (ls.map .str)), (3, .ptr 0 2 1 0 0), (4, .ptr 1 5 1 0 0), (5, .bool false), (6, .str s)], [.arr 28 2 [.agg [.int .i64 l, .int .i64 i]], .arr 38 5 [.agg [.int .i64 0, .int .i64 0, .int .i64 0, .bool false, .int .i64 0]]]))
      (fun i => i ≤ s.length ∧ R = match findUp (fun i => (kindF (s.getD i 0)).2.2.2) (s.length - i) i with
        | some i => matchM (otherP ls (l, i))
        | none => mNone) (fun i => s.length - i) c ⟨by omega, hR⟩ ?_ ?_
    · simp (maxSteps := 4000000) only [Pg.look,true_and,and_true,Z8,aliveO,nxtQ,hdS,pairsA,frzA,Zj,Xo,Zk,Y9,Qa,Yr,pairsO,Qb,Qc,Qd,Z9,assocN,pairsE,pairsC,pairs0,Qe,Qf,Qg,Qh,Pg.freeze,Zd,Ys,subO,Yt,Zo,Qi,AV.cells,AV.pureLeaf,AV.pureB,Ze,Zb,reduceCtorEq,Nat.reduceEqDiff,Zm,Zc,Zr,Zv,ite_true,ite_false,Yg,Yq,Z2,and_self,Xi,Xb]
      exact ⟨by decide, subX_eq rfl rfl, subX_eq rfl rfl⟩
    rintro i ⟨hi, hR⟩
    by_cases hlt : i < s.length
    · have c1 : decide ((i : Int) < (s.length : Int)) = true := decide_eq_true (by omega)
      have w1 : IntKind.i64.wrap ((i : Int) + 1) = ((i + 1 : Nat) : Int) := by rw [wrap64 (by omega) (by omega)]; rfl
      rw [show s.length - i = (s.length - (i + 1)) + 1 by omega, findUp] at hR
      obtain ⟨kk, hk⟩ : ∃ kk, kk = kindF (s.getD i 0) := ⟨_, rfl⟩
      rw [← hk] at hR
      obtain ⟨op, sh, opens, br⟩ := kk
      cases br with
      | true =>
        simp only [if_true] at hR
        have hin : inByte ls ((l : Int), (i : Int)) := ⟨g1, by dsimp only; omega, by dsimp only; omega, by dsimp only; rw [Int.toNat_natCast, ← hs]; omega⟩
        obtain ⟨o, ho⟩ : ∃ o, o = otherP ls ((l : Int), (i : Int)) := ⟨_, rfl⟩
        rw [← ho] at hR
        cases o with
        | none =>
          subst hR
          simp (maxSteps := 4000000) only [↓Qy,↓Xa,↓Y7,↓Yy,↓Qj,↓Y5,↓Zz,↓Ya,↓Zs,Zt,Yh,Z5,gw,Zh,Zp,↓chk,Yk,noW,↓Y2,↓Yl,↓Q0,↓Zq,↓Jb,↓Q5,↓Z3,Y3,Pg.look,Q1,Qk,Yj,Yv,Za,false_implies,implies_true,true_and,and_true,Y4,Ym,Yn,Q2,Q3,Z8,Zj,Zk,Nat.reduceAdd,ofV,Z7,Js,Jt,Ju,Y9,Qa,Yr,Qb,Qc,Qd,Z9,Qe,Qf,frzL,Qg,Qh,Pg.freeze,Zd,Ys,Yt,Zo,Qi,subL,Qp,J4,↓Jx,Jy,Jz,J0,Qv,J1,normC,resL,Q6,Y8,resM,Jl,Jm,AV.cells,TK.cells,AV.definite,AV.leaf,AV.leafy,J8,lay,Xc,Ze,Zb,Zn,Option.getD_none,reduceCtorEq,Nat.reduceEqDiff,Nat.reduceAdd,Zm,Zc,Zr,Zu,Zf,Zx,Zw,Yu,Y6,Zv,ite_true,ite_false,Option.some.injEq,Yb,Jh,AV.agg.injEq,Prod.mk.injEq,Yg,Yq,Z2,and_self,exists_eq_left',Zl,Je,cByte_dec,Xh,Xj,Qw,Ql,Qq,Zg,Zy,J9,Q7,Qx,Jn,Jo,Qm,Qn,Qo,Zi,Yc,cutL,Yf,Yd,Ye,Yz,Jj,Qz,Qr,Ja,Yw,Q8,Z6,Z4,Yo,Yp,Z0,↓msel,muC,↓J2,Q9,mapAt,tk3,tk9,tk28,tz28,dz28,tk38,tz38,dz38,kKind,kOther,aKind,aOpt,aPos,aMove,aMv,mNone,matchM,byteA,c1,← hk,← ho]
          exact ⟨by omega, hf, hin⟩
        | some q =>
          subst hR
          simp (maxSteps := 4000000) only [↓Qy,↓Xa,↓Y7,↓Yy,↓Qj,↓Y5,↓Zz,↓Ya,↓Zs,Zt,Yh,Z5,gw,Zh,Zp,↓chk,Yk,noW,↓Y2,↓Yl,↓Q0,↓Zq,↓Jb,↓Q5,↓Z3,Y3,Pg.look,Q1,Qk,Yv,Za,false_implies,implies_true,true_and,and_true,Y4,Ym,Yn,Q2,Q3,Z8,Zj,Zk,Nat.reduceAdd,ofV,Z7,Js,Jt,Ju,Y9,Qa,Yr,Qb,Qc,Qd,Z9,Qe,Qf,frzL,Qg,Qh,Pg.freeze,Zd,Ys,Yt,Zo,Qi,subL,Qp,J4,↓Jx,Jy,Jz,J0,Qv,J1,normC,resL,Q6,Y8,resM,Jl,Jm,AV.cells,TK.cells,AV.definite,AV.leaf,AV.leafy,J8,lay,Xc,Ze,Zb,Zn,reduceCtorEq,Nat.reduceEqDiff,Nat.reduceAdd,Zm,Zc,Zr,Zu,Zf,Zx,Zw,Yu,Y6,Zv,ite_true,ite_false,Option.some.injEq,Yb,AV.agg.injEq,Prod.mk.injEq,Yg,Yq,Z2,and_self,exists_eq_left',Zl,Je,cByte_dec,Xh,Xj,Qw,Ql,Qq,Zg,Zy,J9,Q7,Qx,Jn,Jo,Qm,Qn,Qo,Zi,Yc,cutL,Yf,Yd,Ye,Yz,Jj,Nat.reduceLeDiff,Qz,Qr,Ja,Yw,Q8,Z6,Z4,Yo,Yp,Z0,↓msel,muC,↓J2,Q9,mapAt,tk3,tk9,tk28,tz28,dz28,tk38,tz38,dz38,kKind,kOther,aKind,aOpt,aPos,aMove,aMv,matchM,byteA,c1,← hk,← ho]
          exact ⟨by omega, hf, hin⟩
      | false =>
        simp only [Za,if_false] at hR
        simp (maxSteps := 4000000) only [↓Qy,↓Xa,↓Y7,↓wpH_exit,↓Yy,↓Qj,↓Y5,↓Zz,↓Ya,Zt,Yh,Z5,gw,Zh,Zp,↓chk,Yk,noW,↓Y2,↓Yl,↓Q0,↓Zq,↓Xu,↓Xp,↓Z3,Y3,Pg.look,Q1,Qk,Yj,Za,false_implies,implies_true,imp_self,true_and,and_true,Y4,Ym,Yn,Q2,Q3,Z8,aliveO,nxtQ,hdS,pairsA,frzA,Zj,Xo,Zk,Nat.reduceAdd,ofV,Z7,Js,Jt,Ju,Y9,Qa,Yr,pairsO,Qb,Qc,Qd,Z9,assocN,pairsE,pairsC,pairs0,Qe,Qf,Qg,Qh,Pg.freeze,Zd,Ys,subO,Yt,Zo,Qi,Qp,J4,↓Jx,Jy,Jz,J0,Qv,J1,normC,resL,Q6,Y8,resM,Jl,Jm,AV.cells,TK.cells,AV.leaf,AV.leafy,AV.pureLeaf,AV.pureB,J8,lay,Xc,Ze,Zb,Zn,reduceCtorEq,Nat.reduceEqDiff,Nat.reduceAdd,Zm,Zc,Zr,Zu,Zf,Zx,Zw,Yu,Y6,Zv,ite_true,ite_false,Option.some.injEq,Yb,AV.agg.injEq,Prod.mk.injEq,Yg,Yq,Z2,and_self,exists_eq_left',Zl,cByte_dec,Qw,Ql,Zg,Zy,Q7,Qx,Jn,Jo,Qm,Qn,Qo,Zi,Yc,cutL,Yf,Yd,Ye,Yz,Jj,Qz,Xi,Qr,Ja,Xb,Yw,Q8,Z6,Z4,Yo,Yp,Z0,↓msel,muC,↓J2,Q9,mapAt,tk3,tk9,tk28,dz28,tk38,tz38,dz38,kKind,kOther,aKind,aOpt,aPos,byteA,c1,w1,← hk]
        exact ⟨by omega, i + 1, ⟨by omega, hR⟩, by omega, by decide, subX_eq rfl rfl, subX_eq rfl rfl⟩
    · have c1 : decide ((i : Int) < (s.length : Int)) = false := decide_eq_false (by omega)
      rw [show s.length - i = 0 by omega, findUp] at hR
      subst hR
      simp (maxSteps := 4000000) only [↓Qy,↓Y7,↓wpH_exit,↓Yy,↓Qj,↓Zz,↓Zs,Zt,Yh,Z5,gw,Zh,Zp,↓chk,Yk,noW,↓Y2,↓Yl,↓Q0,↓Zq,↓Xu,↓Xp,↓Z3,Y3,Pg.look,Q1,Qk,Za,implies_true,true_and,and_true,Y4,Ym,Yn,Q2,Q3,Z8,Zj,Zk,Nat.reduceAdd,ofV,Z7,Js,Jt,Ju,Y9,Qa,Yr,Qb,Qc,Qd,Z9,Qe,Qf,frzL,Qg,Qh,Pg.freeze,Zd,Ys,Yt,Zo,Qi,subL,Qp,J4,Y8,resM,AV.cells,TK.cells,AV.leaf,AV.leafy,J8,lay,Xc,Ze,Zb,Zn,reduceCtorEq,Nat.reduceEqDiff,Nat.reduceAdd,Zm,Zc,Zu,Zf,Zw,Yu,Y6,Zv,ite_true,ite_false,Option.some.injEq,Yb,AV.agg.injEq,Yg,Yq,Z2,and_self,exists_eq_left',Zl,Zg,Yc,cutL,Yf,Yd,Ye,Yz,Jj,Qz,Qr,Ja,Yw,Z6,Z4,Yo,Yp,Z0,mapAt,tk3,tk9,tk28,dz28,tk38,tz38,dz38,aMove,aMv,mNone,c1]
theorem ok_Match : C1OK Try.prog 89 (kMv0 matchP) := C1OK.by (by kernel_rfl) (fun d h => calls_Match d.1 d.2 h) (fun _ => rfl) (fun _ => rfl)
end Go.Pg
namespace Go.Pg
open Go Go.Proofs

theorem calls_has (s : List UInt8) (c : UInt8) (hs : s.length ≤ 65536) : CallsR Try.prog 18 [.str s, byteA c] [] (.bool (s.contains c)) [] := by
  refine callsR_of (mrg := true) (dyn := []) (CtrOK.nil _) mixed Try.func18 rfl (by simp [Try.ntmps18]) (by kernel_rfl) ?_
  rw [show Try.f18.results.toList = [.tmp 4] from by kernel_rfl]
  simp (maxSteps := 4000000) only [↓Qy,↓Yy,↓Y5,↓wpH_loop,↓Zz,Zt,Yh,Z5,gw,Zh,↓chk,Yk,↓Y2,↓Yl,Jr,↓Zq,↓Z3,Y3,Za,implies_true,true_and,Y4,Ym,Yn,ofV,Z7,Zf,Zv,ite_false,and_self,Zg,Z6,Z4,Yo,Yp,Z0]
  refine loopH_intro (α := Nat) (fun i => ([(0, .str s), (1, .int .u8 c.toNat), (4, .bool false), (5, .int .i64 i)], []))
    (fun i => i ≤ s.length ∧ s.contains c = (s.drop i).contains c) (fun i => s.length - i) 0 ⟨by omega, rfl⟩ ?_ ?_
  · simp (maxSteps := 4000000) only [Pg.look,Z8,Zj,Zk,Y9,Qa,Yr,Qb,Qc,Qd,Z9,Qe,Qf,Qg,Qh,Pg.freeze,Zd,Ys,Yt,Zo,Qi,reduceCtorEq,Nat.reduceEqDiff,Zc,ite_true,ite_false,and_self,Zl,Jv]
  rintro i ⟨hi, hR⟩
  by_cases hlt : i < s.length
  · have c1 : decide ((i : Int) < (s.length : Int)) = true := decide_eq_true (by omega)
    have w1 : IntKind.i64.wrap ((i : Int) + 1) = ((i + 1 : Nat) : Int) := by rw [wrap64 (by omega) (by omega)]; rfl
    have hd := drop_step s i hlt
    rw [hd, List.contains_cons] at hR
    have hb := beq_byte (s.getD i 0) c
    cases hc : (s.getD i 0 == c) with
    | true =>
      rw [hc] at hb
      have hcc : (c == s.getD i 0) = true := by rw [beq_iff_eq] at hc ⊢; exact hc.symm
      rw [hcc, Bool.true_or] at hR
      simp (maxSteps := 4000000) only [↓Qy,↓Xa,↓Y7,↓Yy,↓Qj,↓Y5,↓Zz,↓Ya,Zt,Yh,Z5,gw,Zh,Zp,↓chk,Yk,↓Y2,↓Yl,↓Zq,↓Jb,↓Q5,↓Z3,Y3,Pg.look,Q1,Qk,Za,implies_true,true_and,and_true,Y4,Ym,Yn,Q2,Q3,Z8,Zj,Zk,ofV,Z7,Js,Jt,Ju,Y9,Qa,Yr,Qb,Qc,Qd,Z9,Qe,Qf,Qg,Qh,Pg.freeze,Zd,Ys,Yt,Zo,Qi,reduceCtorEq,Nat.reduceEqDiff,Zc,Zf,ite_true,ite_false,and_self,Zl,Zg,Zi,Z6,Z4,Yo,Yp,Z0,tk9,c1,hb,hR]
      exact ⟨by omega, hlt⟩
    | false =>
      rw [hc] at hb
      have hcc : (c == s.getD i 0) = false := by rw [beq_eq_false_iff_ne] at hc ⊢; exact hc.symm
      rw [hcc, Bool.false_or] at hR
      simp (maxSteps := 4000000) only [↓Qy,↓Xa,↓Yy,↓Qj,↓Y5,↓Zz,↓Ya,↓Zs,Zt,Yh,Z5,gw,Zh,Zp,↓chk,Yk,↓Y2,↓Yl,↓Zq,↓Xy,↓Z3,Y3,Pg.look,Q1,Qk,Za,implies_true,true_and,and_true,Y4,Ym,Yn,Q2,Q3,Z8,Zj,Zk,ofV,Z7,Y9,Qa,Yr,Qb,Qc,Qd,Z9,Qe,Qf,Qg,Qh,Pg.freeze,Zd,Ys,Yt,Zo,Qi,reduceCtorEq,Nat.reduceEqDiff,Zc,ite_true,ite_false,and_self,Zl,Zg,Zi,Z6,Z4,Yo,Yp,Z0,tk9,c1,hb,w1]
      exact ⟨⟨by omega, hlt⟩, i + 1, ⟨by omega, hR⟩, by omega, rfl⟩
  · have c1 : decide ((i : Int) < (s.length : Int)) = false := decide_eq_false (by omega)
    rw [List.drop_eq_nil_of_le (by omega)] at hR
    rw [hR]
    simp (maxSteps := 4000000) only [↓Qy,↓Y7,↓wpH_exit,↓Yy,↓Qj,↓Zz,↓Zs,Zt,Yh,Z5,gw,Zh,Zp,↓chk,Yk,↓Y2,↓Yl,↓Zq,↓Xu,↓Xp,↓Z3,Y3,Pg.look,Q1,Qk,Za,implies_true,Y4,Ym,Yn,Q2,Q3,Z8,Zj,Zk,ofV,Z7,Js,Jt,Ju,Y9,Qa,Yr,Qb,Qc,Qd,Z9,Qe,Qf,Qg,Qh,Pg.freeze,Zd,Ys,Yt,Zo,Qi,reduceCtorEq,Nat.reduceEqDiff,Zc,Zf,ite_true,ite_false,and_self,Zl,Zg,Z6,Z4,Yo,Yp,Z0,tk9,c1]
def kHas : C1 := C1.by [.id, .id] (lCons cStr (lOne cByte)) (fun d => d.1.length ≤ 65536) (fun d => .bool (d.1.contains d.2)) (fun _ => [])
theorem ok_has : C1OK Try.prog 18 kHas := C1OK.by (by kernel_rfl) (fun d h => calls_has d.1 d.2 h) (fun _ => rfl) (fun _ => rfl)

/-- A key's name, below 128. -/
def nameF (c : UInt8) : List UInt8 :=
  if c = 27 then [60, 69, 115, 99, 62]
  else if c = 13 then [60, 67, 82, 62]
  else if c = 10 then [60, 78, 76, 62]
  else if c = 9 then [60, 84, 97, 98, 62]
  else if c = 8 then [60, 66, 83, 62]
  else if c = 127 then [60, 68, 101, 108, 62]
  else if c = 60 then [60, 108, 116, 62]
  else if c.toNat < 32 then [60, 67, 45, c + 64, 62]
  else [c]
theorem lit_eq (b : UInt8) (k : Int) (c : UInt8) (hc : (c.toNat : Int) = k) (h : b = c) : ((b.toNat : Int) == k) = true := by
  rw [beq_iff_eq, h, hc]
set_option maxHeartbeats 4000000 in
theorem calls_RName (c : UInt8) (hc : c.toNat < 128) : CallsR Try.prog 53 [byteA c] [] (.str (nameF c)) [] := by
  refine callsR_of (mrg := true) (dyn := []) (CtrOK.nil _) mixed Try.func53 rfl (by simp [Try.ntmps53]) (by kernel_rfl) ?_
  rw [show Try.f53.results.toList = [.tmp 2] from by kernel_rfl]
  unfold nameF
  by_cases h1 : c = 27
  · have b1 := lit_eq c 27 27 rfl h1
    rw [if_pos h1]
    simp (maxSteps := 4000000) only [↓Qy,↓Y7,↓Yy,↓Qj,↓Y5,↓Zz,↓Ya,Zt,Yh,Z5,gw,Zh,Zp,↓chk,Yk,↓Y2,↓Yl,Jr,↓Zq,↓Jb,↓Q5,↓Z3,Y3,Pg.look,Q1,Qk,Za,implies_true,Y4,Ym,Yn,Q2,Q3,Z8,Zj,Zk,ofV,Z7,Js,Jt,Ju,Y9,Qa,Yr,Qb,Qc,Qd,Z9,Qe,Qf,Qg,Qh,Pg.freeze,Zd,Ys,Yt,Zo,Qi,reduceCtorEq,Nat.reduceEqDiff,Zc,Zf,ite_true,ite_false,and_self,Zl,Zg,Z6,Z4,Yo,Yp,Z0,b1]
  rw [if_neg h1]
  have b1 := byte_lit c 27 27 rfl h1
  by_cases h2 : c = 13
  · have b2 := lit_eq c 13 13 rfl h2
    rw [if_pos h2]
    simp (maxSteps := 4000000) only [↓Qy,↓Y7,↓Yy,↓Qj,↓Y5,↓Zz,↓Ya,↓Zs,Zt,Yh,Z5,gw,Zh,Zp,↓chk,Yk,↓Y2,↓Yl,Jr,↓Zq,↓Jb,↓Q5,↓Z3,Y3,Pg.look,Q1,Qk,Za,implies_true,Y4,Ym,Yn,Q2,Q3,Z8,Zj,Zk,ofV,Z7,Js,Jt,Ju,Y9,Qa,Yr,Qb,Qc,Qd,Z9,Qe,Qf,Qg,Qh,Pg.freeze,Zd,Ys,Yt,Zo,Qi,reduceCtorEq,Nat.reduceEqDiff,Zc,Zf,ite_true,ite_false,and_self,Zl,Zg,Z6,Z4,Yo,Yp,Z0,b1,b2]
  rw [if_neg h2]
  have b2 := byte_lit c 13 13 rfl h2
  by_cases h3 : c = 10
  · have b3 := lit_eq c 10 10 rfl h3
    rw [if_pos h3]
    simp (maxSteps := 4000000) only [↓Qy,↓Y7,↓Yy,↓Qj,↓Y5,↓Zz,↓Ya,↓Zs,Zt,Yh,Z5,gw,Zh,Zp,↓chk,Yk,↓Y2,↓Yl,Jr,↓Zq,↓Jb,↓Q5,↓Z3,Y3,Pg.look,Q1,Qk,Za,implies_true,Y4,Ym,Yn,Q2,Q3,Z8,Zj,Zk,ofV,Z7,Js,Jt,Ju,Y9,Qa,Yr,Qb,Qc,Qd,Z9,Qe,Qf,Qg,Qh,Pg.freeze,Zd,Ys,Yt,Zo,Qi,reduceCtorEq,Nat.reduceEqDiff,Zc,Zf,ite_true,ite_false,and_self,Zl,Zg,Z6,Z4,Yo,Yp,Z0,b1,b2,b3]
  rw [if_neg h3]
  have b3 := byte_lit c 10 10 rfl h3
  by_cases h4 : c = 9
  · have b4 := lit_eq c 9 9 rfl h4
    rw [if_pos h4]
    simp (maxSteps := 4000000) only [↓Qy,↓Y7,↓Yy,↓Qj,↓Y5,↓Zz,↓Ya,↓Zs,Zt,Yh,Z5,gw,Zh,Zp,↓chk,Yk,↓Y2,↓Yl,Jr,↓Zq,↓Jb,↓Q5,↓Z3,Y3,Pg.look,Q1,Qk,Za,implies_true,Y4,Ym,Yn,Q2,Q3,Z8,Zj,Zk,ofV,Z7,Js,Jt,Ju,Y9,Qa,Yr,Qb,Qc,Qd,Z9,Qe,Qf,Qg,Qh,Pg.freeze,Zd,Ys,Yt,Zo,Qi,reduceCtorEq,Nat.reduceEqDiff,Zc,Zf,ite_true,ite_false,and_self,Zl,Zg,Z6,Z4,Yo,Yp,Z0,b1,b2,b3,b4]
  rw [if_neg h4]
  have b4 := byte_lit c 9 9 rfl h4
  by_cases h5 : c = 8
  · have b5 := lit_eq c 8 8 rfl h5
    rw [if_pos h5]
    simp (maxSteps := 4000000) only [↓Qy,↓Y7,↓Yy,↓Qj,↓Y5,↓Zz,↓Ya,↓Zs,Zt,Yh,Z5,gw,Zh,Zp,↓chk,Yk,↓Y2,↓Yl,Jr,↓Zq,↓Jb,↓Q5,↓Z3,Y3,Pg.look,Q1,Qk,Za,implies_true,Y4,Ym,Yn,Q2,Q3,Z8,Zj,Zk,ofV,Z7,Js,Jt,Ju,Y9,Qa,Yr,Qb,Qc,Qd,Z9,Qe,Qf,Qg,Qh,Pg.freeze,Zd,Ys,Yt,Zo,Qi,reduceCtorEq,Nat.reduceEqDiff,Zc,Zf,ite_true,ite_false,and_self,Zl,Zg,Z6,Z4,Yo,Yp,Z0,b1,b2,b3,b4,b5]
  rw [if_neg h5]
  have b5 := byte_lit c 8 8 rfl h5
  by_cases h6 : c = 127
  · have b6 := lit_eq c 127 127 rfl h6
    rw [if_pos h6]
    simp (maxSteps := 4000000) only [↓Qy,↓Y7,↓Yy,↓Qj,↓Y5,↓Zz,↓Ya,↓Zs,Zt,Yh,Z5,gw,Zh,Zp,↓chk,Yk,↓Y2,↓Yl,Jr,↓Zq,↓Jb,↓Q5,↓Z3,Y3,Pg.look,Q1,Qk,Za,implies_true,Y4,Ym,Yn,Q2,Q3,Z8,Zj,Zk,ofV,Z7,Js,Jt,Ju,Y9,Qa,Yr,Qb,Qc,Qd,Z9,Qe,Qf,Qg,Qh,Pg.freeze,Zd,Ys,Yt,Zo,Qi,reduceCtorEq,Nat.reduceEqDiff,Zc,Zf,ite_true,ite_false,and_self,Zl,Zg,Z6,Z4,Yo,Yp,Z0,b1,b2,b3,b4,b5,b6]
  rw [if_neg h6]
  have b6 := byte_lit c 127 127 rfl h6
  by_cases h7 : c = 60
  · have b7 := lit_eq c 60 60 rfl h7
    rw [if_pos h7]
    simp (maxSteps := 4000000) only [↓Qy,↓Y7,↓Yy,↓Qj,↓Y5,↓Zz,↓Ya,↓Zs,Zt,Yh,Z5,gw,Zh,Zp,↓chk,Yk,↓Y2,↓Yl,Jr,↓Zq,↓Jb,↓Q5,↓Z3,Y3,Pg.look,Q1,Qk,Za,implies_true,Y4,Ym,Yn,Q2,Q3,Z8,Zj,Zk,ofV,Z7,Js,Jt,Ju,Y9,Qa,Yr,Qb,Qc,Qd,Z9,Qe,Qf,Qg,Qh,Pg.freeze,Zd,Ys,Yt,Zo,Qi,reduceCtorEq,Nat.reduceEqDiff,Zc,Zf,ite_true,ite_false,and_self,Zl,Zg,Z6,Z4,Yo,Yp,Z0,b1,b2,b3,b4,b5,b6,b7]
  rw [if_neg h7]
  have b7 := byte_lit c 60 60 rfl h7
  by_cases h8 : c.toNat < 32
  · have b8 : decide ((c.toNat : Int) < 32) = true := decide_eq_true (by omega)
    have w1 : IntKind.u8.wrap ((c.toNat : Int) + 64) = ((c + 64).toNat : Int) := by
      have e : (c + 64).toNat = (c.toNat + 64) % 256 := UInt8.toNat_add c 64
      show ((c.toNat : Int) + 64) % 256 = _
      rw [e]; omega
    rw [if_pos h8]
    simp (maxSteps := 4000000) only [↓Qy,↓Y7,↓Yy,↓Qj,↓Y5,↓Zz,↓Ya,↓Zs,Zt,Yh,Z5,gw,Zh,Zp,↓chk,Yk,noW,↓Y2,↓Yl,↓Q0,Jr,↓Zq,↓Jb,↓Q5,↓Z3,Y3,Pg.look,Q1,Qk,strOp,Za,implies_true,true_and,and_true,Y4,Ym,Yn,Q2,Q3,strV,Z8,Zj,Zk,Nat.reduceAdd,ofV,Z7,Js,Jt,Ju,Y9,Qa,Yr,Qb,Qc,Qd,Z9,Qe,Qf,Qg,Qh,Pg.freeze,Zd,Ys,Yt,Zo,Qi,srcV,srcL,J4,AV.cells,AV.definite,Zb,Jw,Zn,reduceCtorEq,Nat.reduceEqDiff,Nat.reduceAdd,Zm,Zc,Zr,Zu,Zf,Zx,Zw,Zv,ite_true,ite_false,Option.some.injEq,Yb,AV.str.injEq,Yg,Yq,Z2,and_self,exists_eq_left',Zl,rg1,bytesOf_nil,bytesOf_byte,Zg,beq_self_eq_true,Nat.reducePow,Nat.reduceLeDiff,Nat.mul_one,Z6,Z4,Yo,Yp,Z0,tk5,eb5,tk9,tk24,b1,b2,b3,b4,b5,b6,b7,b8,w1]
  · have b8 : decide ((c.toNat : Int) < 32) = false := decide_eq_false (by omega)
    have b9 : decide ((c.toNat : Int) ≥ 128) = false := decide_eq_false (by omega)
    rw [if_neg h8]
    simp (maxSteps := 4000000) only [↓Qy,↓Xa,↓Y7,↓Yy,↓Qj,↓Y5,↓Zz,↓Zs,Zt,Yh,Z5,gw,Zh,Zp,↓chk,Yk,noW,↓Y2,↓Yl,↓Q0,Jr,↓Zq,↓Xy,↓Z3,Y3,Pg.look,Q1,Qk,Za,implies_true,true_and,and_true,Y4,Ym,Yn,Q2,Q3,Z8,Zj,Zk,ofV,Z7,Js,Jt,Ju,Y9,Qa,Yr,Qb,Qc,Qd,Z9,Qe,Qf,Qg,Qh,Pg.freeze,Zd,Ys,Yt,Zo,Qi,srcV,srcL,J4,AV.cells,AV.definite,Zb,Jw,Zn,reduceCtorEq,Nat.reduceEqDiff,Zm,Zc,Zu,Zf,Zx,Zw,Zv,ite_true,ite_false,Option.some.injEq,Yb,AV.str.injEq,Yg,Yq,Z2,and_self,exists_eq_left',Zl,rg1,bytesOf_nil,bytesOf_byte,Zg,beq_self_eq_true,Nat.reducePow,Nat.reduceLeDiff,Nat.mul_one,Z6,Z4,Yo,Yp,Z0,tk5,eb5,tk9,tk24,b1,b2,b3,b4,b5,b6,b7,b8,b9]
def kRName : C1 := C1.by [.id] (lOne cByte) (fun d => d.toNat < 128) (fun d => .str (nameF d)) (fun _ => [])
theorem ok_RName : C1OK Try.prog 53 kRName := C1OK.by (by kernel_rfl) (fun d h => calls_RName d h) (fun _ => rfl) (fun _ => rfl)
end Go.Pg
namespace Go.Pg
open Go Go.Proofs

def isBehind (p : Int × Int) (same : Bool) (q : Int × Int) : Bool := less p q || (same && (q.1 == p.1 && q.2 == p.2))
def behind (l : List (Int × Int)) (p : Int × Int) (same : Bool) : List (Int × Int) := l.filter (isBehind p same)
def ahead (l : List (Int × Int)) (p : Int × Int) : List (Int × Int) := l.reverse.filter (fun q => less q p)

theorem filter_take {α : Type} (g : α → Bool) (l : List α) (i : Nat) (d : α) (h : i < l.length) : (l.take (i + 1)).filter g = if g (l.getD i d) = true then (l.take i).filter g ++ [l.getD i d] else (l.take i).filter g := by
  rw [take_succ_getD l i d h, List.filter_append]
  generalize l.getD i d = y
  split
  · next h => simp [h]
  · next h => simp [h]

theorem pureB_posL (l : List (Int × Int)) : (l.map aPos).all AV.pureB = true := by simp [aPos, AV.pureB, AV.cells, AV.pureLeaf]
theorem leafy_posL (l : List (Int × Int)) : (l.map aPos).all AV.leafy = true := by simp [aPos, AV.leafy, AV.cells, AV.leaf]
theorem app1_pos (l : List (Int × Int)) (q : Int × Int) : l.map aPos ++ [.agg [.int .i64 q.1, .int .i64 q.2]] = (l ++ [q]).map aPos := by simp [aPos]

theorem getD_rev (l : List (Int × Int)) (k : Nat) (d : Int × Int) (h : k < l.length) : l.reverse.getD k d = l.getD (l.length - 1 - k) d := by
  rw [List.getD_eq_getElem?_getD, List.getElem?_reverse h, ← List.getD_eq_getElem?_getD]

end Go.Pg
namespace Go.Pg
open Go Go.Proofs

/-- The bytes of a line that are asked. -/
def marksIn (g : List UInt8 → Nat → Bool) (l : Nat) (s : List UInt8) (k : Nat) : List (Int × Int) := ((List.range k).filter (g s)).map fun i : Nat => ((l : Int), (i : Int))
def lineMarks (e : Bool) (g : List UInt8 → Nat → Bool) (l : Nat) (s : List UInt8) : List (Int × Int) := (if (e && s == []) = true then [((l : Int), 0)] else []) ++ marksIn g l s s.length
def marksTo (e : Bool) (g : List UInt8 → Nat → Bool) (ls : Ls) (n : Nat) : List (Int × Int) := (List.range n).flatMap fun l => lineMarks e g l (ls.getD l [])

def startB (big : Bool) (s : List UInt8) (i : Nat) : Bool := (cls (s.getD i 0).toNat big != 0) && (((i : Int) == 0) || cls (s.getD (i - 1) 0).toNat big != cls (s.getD i 0).toNat big)
def endB (big : Bool) (s : List UInt8) (i : Nat) : Bool := (cls (s.getD i 0).toNat big != 0) && (((i : Int) == (s.length : Int) - 1) || cls (s.getD (i + 1) 0).toNat big != cls (s.getD i 0).toNat big)

theorem marksIn_len (g : List UInt8 → Nat → Bool) (l : Nat) (s : List UInt8) (k : Nat) : (marksIn g l s k).length ≤ k := by
  unfold marksIn
  rw [List.length_map]
  exact Nat.le_trans (List.length_filter_le _ _) (by simp)
theorem marksIn_succ (g : List UInt8 → Nat → Bool) (l : Nat) (s : List UInt8) (k : Nat) : marksIn g l s (k + 1) = if g s k = true then marksIn g l s k ++ [((l : Int), (k : Int))] else marksIn g l s k := by
  unfold marksIn
  rw [List.range_succ, List.filter_append]
  split
  · next h => simp [h]
  · next h => simp [h]
theorem marksTo_succ (e : Bool) (g : List UInt8 → Nat → Bool) (ls : Ls) (n : Nat) : marksTo e g ls (n + 1) = marksTo e g ls n ++ lineMarks e g n (ls.getD n []) := by
  unfold marksTo
  rw [List.range_succ, List.flatMap_append]
  simp
theorem marksTo_len (e : Bool) (g : List UInt8 → Nat → Bool) (ls : Ls) (B : Nat) (h : ∀ i, (ls.getD i []).length ≤ B) (n : Nat) : (marksTo e g ls n).length ≤ n * (B + 1) := by
  induction n with
  | zero => simp [marksTo]
  | succ n ih =>
    rw [marksTo_succ, List.length_append, Nat.add_mul, Nat.one_mul]
    have h1 := marksIn_len g n (ls.getD n []) (ls.getD n []).length
    have h2 := h n
    have h3 : (lineMarks e g n (ls.getD n [])).length ≤ B + 1 := by
      unfold lineMarks
      split
      · next h => 
        have : ls.getD n [] = [] := by simp only [Xl,beq_iff_eq] at h; exact h.2
        rw [this]; simp [marksIn]
      · rw [List.nil_append]; omega
    omega
end Go.Pg
namespace Go.Pg
open Go Go.Proofs

/-! ### Plain: which mark is the next one -/
def lineLead (e : Bool) (s : List UInt8) : Nat := if (e && s == []) = true then 1 else 0
theorem lineMarks_len (e : Bool) (g : List UInt8 → Nat → Bool) (l : Nat) (s : List UInt8) : (lineMarks e g l s).length = lineLead e s + (marksIn g l s s.length).length := by
  unfold lineMarks lineLead
  split <;> simp [Nat.add_comm]

theorem marksTo_get (e : Bool) (g : List UInt8 → Nat → Bool) (ls : Ls) (i : Nat) : ∀ (n : Nat), i < n → ∀ (j : Nat) (p : Int × Int), (lineMarks e g i (ls.getD i []))[j]? = some p → (marksTo e g ls n)[(marksTo e g ls i).length + j]? = some p := by
  intro n
  induction n with
  | zero => intro h; omega
  | succ n ih =>
    intro h j p hp
    rw [marksTo_succ]
    by_cases he : i = n
    · subst he
      rw [List.getElem?_append_right (by omega), show (marksTo e g ls i).length + j - (marksTo e g ls i).length = j by omega]
      exact hp
    · have h1 := ih (by omega) j p hp
      rw [List.getElem?_append_left (List.getElem?_eq_some_iff.1 h1).1]
      exact h1

theorem marksIn_get (g : List UInt8 → Nat → Bool) (l : Nat) (s : List UInt8) (k : Nat) (hg : g s k = true) : ∀ (n : Nat), k < n → (marksIn g l s n)[(marksIn g l s k).length]? = some ((l : Int), (k : Int)) := by
  intro n
  induction n with
  | zero => intro h; omega
  | succ n ih =>
    intro h
    rw [marksIn_succ]
    by_cases he : k = n
    · subst he
      rw [if_pos hg, List.getElem?_append_right (by omega), Nat.sub_self]
      rfl
    · have h1 := ih (by omega)
      split
      · rw [List.getElem?_append_left (List.getElem?_eq_some_iff.1 h1).1]; exact h1
      · exact h1

theorem mark_lead (e : Bool) (g : List UInt8 → Nat → Bool) (ls : Ls) (i : Nat) (hi : i < ls.length) (h : (e && ls.getD i [] == []) = true) : (marksTo e g ls ls.length)[(marksTo e g ls i).length]? = some ((i : Int), 0) := by
  refine marksTo_get e g ls i ls.length hi 0 _ ?_
  unfold lineMarks
  rw [if_pos h]
  rfl

theorem mark_in (e : Bool) (g : List UInt8 → Nat → Bool) (ls : Ls) (i k : Nat) (hi : i < ls.length) (hk : k < (ls.getD i []).length) (h : g (ls.getD i []) k = true) :
    (marksTo e g ls ls.length)[(marksTo e g ls i).length + lineLead e (ls.getD i []) + (marksIn g i (ls.getD i []) k).length]? = some ((i : Int), (k : Int)) := by
  rw [Nat.add_assoc]
  refine marksTo_get e g ls i ls.length hi _ _ ?_
  have h1 := marksIn_get g i (ls.getD i []) k h (ls.getD i []).length hk
  unfold lineMarks lineLead
  split
  · rw [List.getElem?_append_right (by simp), show 1 + (marksIn g i (ls.getD i []) k).length - [((i : Int), (0 : Int))].length = (marksIn g i (ls.getD i []) k).length by simp]
    exact h1
  · rw [List.nil_append, Nat.zero_add]
    exact h1

/-! ### What is asked of a byte -/
abbrev lAsk : CdL (List UInt8 × Int × Bool) := lCons cStr (lCons (cInt .i64) (lOne (cRp (lOne cBool))))
def kAsk (g : Bool → List UInt8 → Nat → Bool) : C1 := C1.by [.id, .id, .id] lAsk (fun d => 0 ≤ d.2.1 ∧ d.2.1 < d.1.length ∧ d.1.length ≤ 140737488355328) (fun d => .bool (g d.2.2 d.1 d.2.1.toNat)) (fun _ => [])

set_option maxHeartbeats 4000000 in
theorem calls_askS (s : List UInt8) (i : Int) (big : Bool) (h0 : 0 ≤ i) (h1 : i < s.length) (h2 : s.length ≤ 140737488355328) : CallsR Try.prog 80 [.str s, .int .i64 i, .rp [.bool big]] [] (.bool (startB big s i.toNat)) [] := by
  refine callsR_of (mrg := true) (dyn := []) (CtrOK.cons ok_Of (CtrOK.nil _)) mixed Try.func80 rfl (by simp [Try.ntmps80]) (by kernel_rfl) ?_
  rw [show Try.f80.results.toList = [.tmp 5] from by kernel_rfl]
  obtain ⟨k, rfl⟩ := Int.eq_ofNat_of_zero_le h0
  have hk1 : (IntKind.i64.wrap ((k : Int) - 1)) = (k : Int) - 1 := wrap64 (by omega) (by omega)
  have hk2 : ((k : Int) - 1).toNat = k - 1 := by omega
  simp (maxSteps := 4000000) only [↓Qy,↓Y7,↓Yy,↓Zz,Zt,Yh,Z5,gw,Zh,Jq,kselH_0,kselH_1,gkind,↓chk,pickO,Yk,noW,↓Y2,↓Yl,↓Q0,Jr,↓Zq,↓Z3,Y3,Pg.look,Q1,Qk,Xd,Za,implies_true,imp_self,true_and,and_true,Xe,Xf,unc,gof,mux,mergeK,condsL,Y4,Ym,Yn,Q2,Q3,Z8,Zj,Zk,Nat.reduceAdd,mergeable,look_stripE,ofV,Z7,sameK,Js,Jt,Ju,Y9,Qa,Yr,Qb,Qc,Qd,Z9,Qe,Qf,Qg,Qh,Pg.freeze,Zd,Ys,Yt,Zo,Qi,Qp,↓Jx,Jy,Jz,J0,Qv,J1,resL,Q6,Y8,resM,Jl,Jm,TK.cells,Op.operands,Call.operands,Array.toList_append,Z1,Ze,Zb,Yx,Zn,reduceCtorEq,Nat.reduceEqDiff,Nat.reduceAdd,Zm,Zc,Zr,Zf,Zx,Zw,Zv,ite_true,ite_false,Option.some.injEq,Jh,Bool.if_false_right,Bool.if_true_left,Bool.decide_eq_true,Z2,and_self,exists_eq_left',Zl,Je,Ji,Xg,Qw,Ql,Qq,Zg,Zy,Q7,Qx,Jn,Jo,Qm,Qn,Qo,Zi,Q8,Z6,Z4,Yo,Yp,selC_true,Z0,pureC,↓msel,muC,↓J2,Q9,tk4,tk9,kOf,hk1,hk2]
  refine ⟨⟨by omega, by omega⟩, fun h => ⟨h, ?_⟩, fun h => ⟨h, fun h2 => by rw [h, h2]; rfl⟩, rfl⟩
  have h' := h
  simp only [Xl,Bool.not_eq_true',beq_eq_false_iff_ne,ne_eq] at h'
  exact ⟨by omega, by omega⟩

set_option maxHeartbeats 4000000 in
theorem calls_askE (s : List UInt8) (i : Int) (big : Bool) (h0 : 0 ≤ i) (h1 : i < s.length) (h2 : s.length ≤ 140737488355328) : CallsR Try.prog 81 [.str s, .int .i64 i, .rp [.bool big]] [] (.bool (endB big s i.toNat)) [] := by
  refine callsR_of (mrg := true) (dyn := []) (CtrOK.cons ok_Of (CtrOK.nil _)) mixed Try.func81 rfl (by simp [Try.ntmps81]) (by kernel_rfl) ?_
  rw [show Try.f81.results.toList = [.tmp 5] from by kernel_rfl]
  obtain ⟨k, rfl⟩ := Int.eq_ofNat_of_zero_le h0
  have hk3 : (IntKind.i64.wrap ((k : Int) + 1)) = ((k + 1 : Nat) : Int) := by rw [wrap64 (by omega) (by omega)]; omega
  have hk4 : IntKind.i64.wrap ((s.length : Int) - 1) = (s.length : Int) - 1 := wrap64 (by omega) (by omega)
  simp (maxSteps := 4000000) only [↓Qy,↓Y7,↓Yy,↓Zz,Zt,Yh,Z5,gw,Zh,Jq,kselH_0,kselH_1,gkind,↓chk,pickO,Yk,noW,↓Y2,↓Yl,↓Q0,Jr,↓Zq,↓Z3,Y3,Pg.look,Q1,Qk,Xd,Za,implies_true,imp_self,true_and,and_true,Xe,Xf,unc,gof,mux,mergeK,condsL,Y4,Ym,Yn,Q2,Q3,Z8,Zj,Zk,Nat.reduceAdd,mergeable,look_stripE,ofV,Z7,sameK,Js,Jt,Ju,Y9,Qa,Yr,Qb,Qc,Qd,Z9,Qe,Qf,Qg,Qh,Pg.freeze,Zd,Ys,Yt,Zo,Qi,Qp,↓Jx,Jy,Jz,J0,Qv,J1,resL,Q6,Y8,resM,Jl,Jm,TK.cells,Op.operands,Call.operands,Array.toList_append,Z1,Ze,Zb,Yx,Zn,reduceCtorEq,Nat.reduceEqDiff,Nat.reduceAdd,Zm,Zc,Zr,Zf,Zx,Zw,Zv,ite_true,ite_false,Option.some.injEq,Jh,Bool.if_false_right,Bool.if_true_left,Bool.decide_eq_true,Z2,and_self,exists_eq_left',Zl,Je,Ji,Xg,Qw,Ql,Qq,Zg,Zy,Q7,Qx,Jn,Jo,Qm,Qn,Qo,Zi,Q8,Z6,Z4,Yo,Yp,selC_true,Z0,pureC,↓msel,muC,↓J2,Q9,tk4,tk9,kOf,hk3,hk4]
  refine ⟨⟨by omega, by omega⟩, fun h => ⟨h, ?_⟩, fun h => ⟨h, fun h2 => by rw [h, h2]; rfl⟩, rfl⟩
  have h' := h
  simp only [Xl,Bool.not_eq_true',beq_eq_false_iff_ne,ne_eq] at h'
  exact ⟨by omega, by omega⟩

set_option maxRecDepth 20000 in
set_option maxHeartbeats 4000000 in
theorem it_at (ls : Ls) (e : Bool) (fid : Nat) (big : Bool) (g : Bool → List UInt8 → Nat → Bool) (hf : fits 65536 65536 ls) (hk : C1OK Try.prog fid (kAsk g)) :
    ItR Try.prog 91 [.rp [.sl 1 (ls.map .str)], .rp [.bool e], .rp [.fn fid [.rp [.bool big]]]] (Tell.seq ((marksTo e (g big) ls ls.length).map fun p => [aPos p])) := by
  refine itR_of (mrg := true) (dyn := []) (CtrOK.cons hk (CtrOK.nil _)) mixed Try.func91 rfl (by simp [Try.ntmps91]) (by kernel_rfl) (by kernel_rfl) ?_ ?_
  · intro x hx
    obtain ⟨p, _, rfl⟩ := List.mem_map.1 hx
    rfl
  intro l
  have hll := hf.1
  have hls := fits_getD hf
  simp (maxSteps := 4000000) only [↓J5,↓Jf,↓Jp,↓wpYH_loop,↓Y0,Qs,Q4,Qt,↓Jg,yarg,Qu,↓Y1,gw,Zh,↓chk,Yk,noW,↓Y2,↓Yl,↓Q0,Jr,↓Z3,Y3,Pg.look,Za,implies_true,true_and,and_true,Y4,Ym,Yn,Nat.reduceAdd,ofV,Z7,slen,Qp,TK.cells,Zb,Zn,reduceCtorEq,Nat.reduceEqDiff,Nat.reduceAdd,Zv,ite_true,ite_false,Option.some.injEq,AV.int.injEq,and_self,exists_eq_left',Yi,Z4,Yo,Yp,tk22,kAsk]
  refine loopYH_intro (α := Nat) (fun i => (some (marksTo e (g big) ls i).length, [(0, .yld l), (1, .rp [.sl 1 (ls.map .str)]), (2, .rp [.bool e]), (3, .rp [.fn fid [.rp [.bool big]]]), (8, .sl 1 (ls.map .str)), (9, .int .i64 ls.length), (10, .int .i64 i)], []))
    (fun i => i ≤ ls.length) (fun i => ls.length - i) 0 (by omega) (by simp [marksTo]) ?_ ?_
  · simp (maxSteps := 4000000) only [Pg.look,Z8,Zj,Zk,Y9,Qa,Yr,Qb,Qc,Qd,Z9,Qe,Qf,Qg,Qh,Pg.freeze,Zd,Ys,Yt,Zo,Qi,reduceCtorEq,Nat.reduceEqDiff,Zc,ite_true,ite_false,and_self,Zl,Jv]
    all_goals rfl
  intro i hi
  by_cases hlt : i < ls.length
  · have hct : decide ((i : Int) < (ls.length : Int)) = true := decide_eq_true (by omega)
    have hsl := hls i
    have hts := marksTo_succ e (g big) ls i
    have hln := lineMarks_len e (g big) i (ls.getD i [])
    cases e with
    | false =>
      have hl : lineLead false (ls.getD i []) = 0 := rfl
      simp (maxSteps := 4000000) only [↓J5,↓J3,↓Jf,↓Jc,↓Jp,↓wpYH_loop,↓Y0,Qs,Q4,Qt,↓Jg,yarg,Qu,↓Y1,↓Ya,↓Zs,↓fixG,setG,gw,Zh,Jq,Zp,↓chk,Yk,noW,↓Y2,↓Yl,↓Q0,↓Z3,Y3,Pg.look,Q1,Qk,Xd,Yj,Yv,Za,implies_true,true_and,and_true,Xe,Xf,unc,gof,mux,Y4,Ym,Yn,Q2,Q3,ofV,Z7,Qp,AV.cells,TK.cells,Z1,Ze,Zb,Yx,Zn,reduceCtorEq,Nat.reduceEqDiff,ite_true,ite_false,Option.some.injEq,and_self,exists_eq_left',Yi,Xk,Zi,Z4,Yo,Yp,tk4,tk9,dz9,tk22,kAsk,hct]
      refine ⟨by omega, ?_⟩
      refine loopYH_intro (α := Nat) (fun k => (some ((marksTo false (g big) ls i).length + lineLead false (ls.getD i []) + (marksIn (g big) i (ls.getD i []) k).length), [(0, .yld l), (1, .rp [.sl 1 (ls.map .str)]), (2, .rp [.bool false]), (3, .rp [.fn fid [.rp [.bool big]]]), (5, .int .i64 i), (6, .str (ls.getD i [])), (8, .sl 1 (ls.map .str)), (9, .int .i64 ls.length), (10, .int .i64 i), (28, .int .i64 (ls.getD i []).length), (29, .int .i64 k)], []))
        (fun k => k ≤ (ls.getD i []).length) (fun k => (ls.getD i []).length - k) 0 (by omega) (by rw [hl]; simp [marksIn]) ?_ ?_
      · simp (maxSteps := 4000000) only [Pg.look,Z8,Zj,Zk,Y9,Qa,Yr,Qb,Qc,Qd,Z9,Qe,Qf,Qg,Qh,Pg.freeze,Zd,Ys,Yt,Zo,Qi,reduceCtorEq,Nat.reduceEqDiff,Zc,ite_true,ite_false,and_self,Zl,Jv]
        all_goals rfl
      intro k hk1
      have hm1 := marksIn_succ (g big) i (ls.getD i []) k
      by_cases hk2 : k < (ls.getD i []).length
      · have hct2 : decide ((k : Int) < ((ls.getD i []).length : Int)) = true := decide_eq_true (by omega)
        cases hg : g big (ls.getD i []) k with
        | true =>
          rw [if_pos hg] at hm1
          have hy := mark_in false (g big) ls i k hlt hk2 hg
          simp (maxSteps := 4000000) only [↓J5,↓J3,↓wpYH_ret,↓Jf,↓Jc,↓Jp,↓Y0,Qs,Q4,Qt,↓Jg,yarg,Qu,Xv,Xq,↓Y1,↓thenY_ret,↓Jd,↓Xw,↓endY_ret,endT_none,↓Ya,↓Zs,↓fixG,setG,gw,Zh,Jq,Zp,↓chk,Yk,noW,↓Y2,↓Yl,↓Q0,↓Z3,Y3,Pg.look,Q1,Qk,Xd,J7,Yj,Yv,Za,Jk,implies_true,true_and,and_true,Xe,Xf,unc,gof,mux,Y4,Ym,Yn,Q2,Q3,Z8,Zj,Zk,Nat.reduceAdd,ofV,Z7,Y9,Qa,Yr,Qb,Qc,Qd,Z9,Qe,Qf,Qg,Qh,Pg.freeze,Zd,Ys,Yt,Zo,Qi,Qp,↓Jx,Jy,Jz,J0,Qv,J1,resL,Q6,Y8,resM,Jl,Jm,AV.cells,TK.cells,AV.definite,lay,Xc,Z1,Ze,Zb,Yx,Jw,Zn,reduceCtorEq,Nat.reduceEqDiff,Nat.reduceAdd,Zm,Zc,Zr,Zu,Zf,Zx,Zw,Zv,ite_true,ite_false,Option.some.injEq,Yb,AV.agg.injEq,Yg,Yq,Z2,and_self,exists_eq_left',Zl,Yi,Je,Ji,Xm,Xt,Qw,Ql,Qq,Zy,Q7,Qx,Jn,Jo,Qm,Qn,Qo,Zi,Yf,Yd,Ye,Yz,Nat.reduceLeDiff,Qz,Qr,Q8,Z4,Yo,Yp,↓msel,muC,↓J2,Q9,tk28,tz28,tk98,kAsk,eq_self,hct2,hg,Zi,J6,hy]
          exact ⟨⟨by omega, by omega, by omega⟩, rfl, rfl, k + 1, by omega, by omega, by rw [hm1, List.length_append]; rfl, by rw [wrap64 (by omega) (by omega)]; rfl⟩
        | false =>
          rw [if_neg (by rw [hg]; simp)] at hm1
          simp (maxSteps := 4000000) only [↓J5,↓J3,↓Jf,↓Jc,↓Jp,↓Y0,Qs,Q4,Qt,↓Jg,yarg,Qu,↓Y1,↓Jd,↓Ya,↓Zs,↓fixG,setG,gw,Zh,Jq,Zp,↓chk,Yk,noW,↓Y2,↓Yl,↓Q0,↓Z3,Y3,Pg.look,Q1,Qk,Xd,Yj,Yv,Za,implies_true,true_and,and_true,Xe,Xf,unc,gof,mux,Y4,Ym,Yn,Q2,Q3,Z8,Zj,Zk,ofV,Z7,Y9,Qa,Yr,Qb,Qc,Qd,Z9,Qe,Qf,Qg,Qh,Pg.freeze,Zd,Ys,Yt,Zo,Qi,Qp,↓Jx,Jy,Jz,J0,Qv,J1,resL,Q6,Y8,resM,Jl,Jm,TK.cells,Z1,Ze,Zb,Yx,Zn,reduceCtorEq,Nat.reduceEqDiff,Zm,Zc,Zr,Zf,Zx,Zw,ite_true,ite_false,Option.some.injEq,and_self,exists_eq_left',Zl,Je,Ji,Xm,Xt,Qw,Ql,Qq,Zy,Q7,Qx,Jn,Jo,Qm,Qn,Qo,Zi,Q8,Z4,Yo,Yp,↓msel,muC,↓J2,Q9,tk98,kAsk,eq_self,hct2,hg,Zi]
          exact ⟨⟨by omega, by omega, by omega⟩, k + 1, by omega, by omega, by rw [hm1], by rw [wrap64 (by omega) (by omega)]; rfl⟩
      · have hcf2 : decide ((k : Int) < ((ls.getD i []).length : Int)) = false := decide_eq_false (by omega)
        have hke : k = (ls.getD i []).length := by omega
        subst hke
        simp (maxSteps := 4000000) only [↓J5,↓wpYH_exit,↓Jf,↓Jc,↓Y0,Qs,Q4,Qt,↓Jg,yarg,Qu,↓Y1,↓Xx,↓Jd,↓Xr,↓Xs,endT_some,↓Zs,gw,Zh,Zp,↓chk,Yk,↓Y2,↓Yl,↓Z3,Y3,Pg.look,Q1,Qk,Za,implies_true,true_and,and_true,Y4,Ym,Yn,Q2,Q3,Z8,Zj,Zk,ofV,Z7,Y9,Qa,Yr,Qb,Qc,Qd,Z9,Qe,Qf,Qg,Qh,Pg.freeze,Zd,Ys,Yt,Zo,Qi,reduceCtorEq,Nat.reduceEqDiff,Zc,ite_true,ite_false,Option.some.injEq,and_self,Zl,Yi,Z4,Yo,Yp,kAsk,hcf2]
        exact ⟨i + 1, by omega, by omega, by rw [hts, List.length_append, hln]; omega, by rw [wrap64 (by omega) (by omega)]; rfl⟩
    | true =>
      cases hse : (ls.getD i [] == []) with
      | true =>
        have hl : lineLead true (ls.getD i []) = 1 := by unfold lineLead; rw [if_pos (by rw [hse]; rfl)]
        have hy0 := mark_lead true (g big) ls i hlt (by rw [hse]; rfl)
        simp (maxSteps := 4000000) only [↓J5,↓J3,↓wpYH_ret,↓Jf,↓Jc,↓Jp,↓wpYH_loop,↓Y0,Qs,Q4,Qt,↓Jg,yarg,Qu,Xv,Xq,↓Y1,↓thenY_ret,↓Xw,↓endY_ret,endT_none,↓Ya,↓Zs,↓fixG,setG,gw,Zh,Jq,Zp,↓chk,Yk,noW,↓Y2,↓Yl,↓Q0,↓Z3,Y3,Pg.look,Q1,Qk,strOp,Xd,J7,Yj,Yv,Za,Jk,implies_true,true_and,and_true,Xe,Xf,unc,gof,mux,Y4,Ym,Yn,Q2,Q3,strV,Nat.reduceAdd,ofV,Z7,Qp,AV.cells,TK.cells,AV.definite,lay,Xc,Z1,Ze,Zb,Yx,Jw,Zn,reduceCtorEq,Nat.reduceEqDiff,Nat.reduceAdd,Zm,Zr,Zu,Zf,Zx,Zw,Zv,ite_true,ite_false,Option.some.injEq,Yb,AV.agg.injEq,Yg,Yq,Z2,and_self,exists_eq_left',Yi,Xk,Zi,Yf,Yd,Yz,Nat.reduceLeDiff,Z4,Yo,Yp,tk4,tk9,dz9,tk22,tk28,tz28,kAsk,hct,hse,J6,hy0]
        refine ⟨by omega, rfl, rfl, ?_⟩
        refine loopYH_intro (α := Nat) (fun k => (some ((marksTo true (g big) ls i).length + lineLead true (ls.getD i []) + (marksIn (g big) i (ls.getD i []) k).length), [(0, .yld l), (1, .rp [.sl 1 (ls.map .str)]), (2, .rp [.bool true]), (3, .rp [.fn fid [.rp [.bool big]]]), (5, .int .i64 i), (6, .str (ls.getD i [])), (8, .sl 1 (ls.map .str)), (9, .int .i64 ls.length), (10, .int .i64 i), (28, .int .i64 (ls.getD i []).length), (29, .int .i64 k)], []))
          (fun k => k ≤ (ls.getD i []).length) (fun k => (ls.getD i []).length - k) 0 (by omega) (by rw [hl]; simp [marksIn]) ?_ ?_
        · simp (maxSteps := 4000000) only [Pg.look,Z8,Zj,Zk,Y9,Qa,Yr,Qb,Qc,Qd,Z9,Qe,Qf,Qg,Qh,Pg.freeze,Zd,Ys,Yt,Zo,Qi,reduceCtorEq,Nat.reduceEqDiff,Zc,ite_true,ite_false,and_self,Zl,Jv]
          all_goals rfl
        intro k hk1
        have hm1 := marksIn_succ (g big) i (ls.getD i []) k
        by_cases hk2 : k < (ls.getD i []).length
        · have hct2 : decide ((k : Int) < ((ls.getD i []).length : Int)) = true := decide_eq_true (by omega)
          cases hg : g big (ls.getD i []) k with
          | true =>
            rw [if_pos hg] at hm1
            have hy := mark_in true (g big) ls i k hlt hk2 hg
            simp (maxSteps := 4000000) only [↓J5,↓J3,↓wpYH_ret,↓Jf,↓Jc,↓Jp,↓Y0,Qs,Q4,Qt,↓Jg,yarg,Qu,Xv,Xq,↓Y1,↓thenY_ret,↓Jd,↓Xw,↓endY_ret,endT_none,↓Ya,↓Zs,↓fixG,setG,gw,Zh,Jq,Zp,↓chk,Yk,noW,↓Y2,↓Yl,↓Q0,↓Z3,Y3,Pg.look,Q1,Qk,Xd,J7,Yj,Yv,Za,Jk,implies_true,true_and,and_true,Xe,Xf,unc,gof,mux,Y4,Ym,Yn,Q2,Q3,Z8,Zj,Zk,Nat.reduceAdd,ofV,Z7,Y9,Qa,Yr,Qb,Qc,Qd,Z9,Qe,Qf,Qg,Qh,Pg.freeze,Zd,Ys,Yt,Zo,Qi,Qp,↓Jx,Jy,Jz,J0,Qv,J1,resL,Q6,Y8,resM,Jl,Jm,AV.cells,TK.cells,AV.definite,lay,Xc,Z1,Ze,Zb,Yx,Jw,Zn,reduceCtorEq,Nat.reduceEqDiff,Nat.reduceAdd,Zm,Zc,Zr,Zu,Zf,Zx,Zw,Zv,ite_true,ite_false,Option.some.injEq,Yb,AV.agg.injEq,Yg,Yq,Z2,and_self,exists_eq_left',Zl,Yi,Je,Ji,Xm,Xt,Qw,Ql,Qq,Zy,Q7,Qx,Jn,Jo,Qm,Qn,Qo,Zi,Yf,Yd,Ye,Yz,Nat.reduceLeDiff,Qz,Qr,Q8,Z4,Yo,Yp,↓msel,muC,↓J2,Q9,tk28,tz28,tk98,kAsk,eq_self,hct2,hg,Zi,J6,hy]
            exact ⟨⟨by omega, by omega, by omega⟩, rfl, rfl, k + 1, by omega, by omega, by rw [hm1, List.length_append]; rfl, by rw [wrap64 (by omega) (by omega)]; rfl⟩
          | false =>
            rw [if_neg (by rw [hg]; simp)] at hm1
            simp (maxSteps := 4000000) only [↓J5,↓J3,↓Jf,↓Jc,↓Jp,↓Y0,Qs,Q4,Qt,↓Jg,yarg,Qu,↓Y1,↓Jd,↓Ya,↓Zs,↓fixG,setG,gw,Zh,Jq,Zp,↓chk,Yk,noW,↓Y2,↓Yl,↓Q0,↓Z3,Y3,Pg.look,Q1,Qk,Xd,Yj,Yv,Za,implies_true,true_and,and_true,Xe,Xf,unc,gof,mux,Y4,Ym,Yn,Q2,Q3,Z8,Zj,Zk,ofV,Z7,Y9,Qa,Yr,Qb,Qc,Qd,Z9,Qe,Qf,Qg,Qh,Pg.freeze,Zd,Ys,Yt,Zo,Qi,Qp,↓Jx,Jy,Jz,J0,Qv,J1,resL,Q6,Y8,resM,Jl,Jm,TK.cells,Z1,Ze,Zb,Yx,Zn,reduceCtorEq,Nat.reduceEqDiff,Zm,Zc,Zr,Zf,Zx,Zw,ite_true,ite_false,Option.some.injEq,and_self,exists_eq_left',Zl,Je,Ji,Xm,Xt,Qw,Ql,Qq,Zy,Q7,Qx,Jn,Jo,Qm,Qn,Qo,Zi,Q8,Z4,Yo,Yp,↓msel,muC,↓J2,Q9,tk98,kAsk,eq_self,hct2,hg,Zi]
            exact ⟨⟨by omega, by omega, by omega⟩, k + 1, by omega, by omega, by rw [hm1], by rw [wrap64 (by omega) (by omega)]; rfl⟩
        · have hcf2 : decide ((k : Int) < ((ls.getD i []).length : Int)) = false := decide_eq_false (by omega)
          have hke : k = (ls.getD i []).length := by omega
          subst hke
          simp (maxSteps := 4000000) only [↓J5,↓wpYH_exit,↓Jf,↓Jc,↓Y0,Qs,Q4,Qt,↓Jg,yarg,Qu,↓Y1,↓Xx,↓Jd,↓Xr,↓Xs,endT_some,↓Zs,gw,Zh,Zp,↓chk,Yk,↓Y2,↓Yl,↓Z3,Y3,Pg.look,Q1,Qk,Za,implies_true,true_and,and_true,Y4,Ym,Yn,Q2,Q3,Z8,Zj,Zk,ofV,Z7,Y9,Qa,Yr,Qb,Qc,Qd,Z9,Qe,Qf,Qg,Qh,Pg.freeze,Zd,Ys,Yt,Zo,Qi,reduceCtorEq,Nat.reduceEqDiff,Zc,ite_true,ite_false,Option.some.injEq,and_self,Zl,Yi,Z4,Yo,Yp,kAsk,hcf2]
          exact ⟨i + 1, by omega, by omega, by rw [hts, List.length_append, hln]; omega, by rw [wrap64 (by omega) (by omega)]; rfl⟩
      | false =>
        have hl : lineLead true (ls.getD i []) = 0 := by unfold lineLead; rw [if_neg (by rw [hse]; decide)]
        simp (maxSteps := 4000000) only [↓J5,↓J3,↓Jf,↓Jc,↓Jp,↓wpYH_loop,↓Y0,Qs,Q4,Qt,↓Jg,yarg,Qu,↓Y1,↓Ya,↓Zs,↓fixG,setG,gw,Zh,Jq,Zp,↓chk,Yk,noW,↓Y2,↓Yl,↓Q0,↓Z3,Y3,Pg.look,Q1,Qk,strOp,Xd,Yj,Yv,Za,Jk,implies_true,true_and,and_true,Xe,Xf,unc,gof,mux,Y4,Ym,Yn,Q2,Q3,strV,ofV,Z7,Qp,AV.cells,TK.cells,Z1,Ze,Zb,Yx,Zn,reduceCtorEq,Nat.reduceEqDiff,ite_true,ite_false,Option.some.injEq,and_self,exists_eq_left',Yi,Xk,Zi,Z4,Yo,Yp,tk4,tk9,dz9,tk22,kAsk,hct,hse]
        refine ⟨by omega, ?_⟩
        refine loopYH_intro (α := Nat) (fun k => (some ((marksTo true (g big) ls i).length + lineLead true (ls.getD i []) + (marksIn (g big) i (ls.getD i []) k).length), [(0, .yld l), (1, .rp [.sl 1 (ls.map .str)]), (2, .rp [.bool true]), (3, .rp [.fn fid [.rp [.bool big]]]), (5, .int .i64 i), (6, .str (ls.getD i [])), (8, .sl 1 (ls.map .str)), (9, .int .i64 ls.length), (10, .int .i64 i), (28, .int .i64 (ls.getD i []).length), (29, .int .i64 k)], []))
          (fun k => k ≤ (ls.getD i []).length) (fun k => (ls.getD i []).length - k) 0 (by omega) (by rw [hl]; simp [marksIn]) ?_ ?_
        · simp (maxSteps := 4000000) only [Pg.look,Z8,Zj,Zk,Y9,Qa,Yr,Qb,Qc,Qd,Z9,Qe,Qf,Qg,Qh,Pg.freeze,Zd,Ys,Yt,Zo,Qi,reduceCtorEq,Nat.reduceEqDiff,Zc,ite_true,ite_false,and_self,Zl,Jv]
          all_goals rfl
        intro k hk1
        have hm1 := marksIn_succ (g big) i (ls.getD i []) k
        by_cases hk2 : k < (ls.getD i []).length
        · have hct2 : decide ((k : Int) < ((ls.getD i []).length : Int)) = true := decide_eq_true (by omega)
          cases hg : g big (ls.getD i []) k with
          | true =>
            rw [if_pos hg] at hm1
            have hy := mark_in true (g big) ls i k hlt hk2 hg
            simp (maxSteps := 4000000) only [↓J5,↓J3,↓wpYH_ret,↓Jf,↓Jc,↓Jp,↓Y0,Qs,Q4,Qt,↓Jg,yarg,Qu,Xv,Xq,↓Y1,↓thenY_ret,↓Jd,↓Xw,↓endY_ret,endT_none,↓Ya,↓Zs,↓fixG,setG,gw,Zh,Jq,Zp,↓chk,Yk,noW,↓Y2,↓Yl,↓Q0,↓Z3,Y3,Pg.look,Q1,Qk,Xd,J7,Yj,Yv,Za,Jk,implies_true,true_and,and_true,Xe,Xf,unc,gof,mux,Y4,Ym,Yn,Q2,Q3,Z8,Zj,Zk,Nat.reduceAdd,ofV,Z7,Y9,Qa,Yr,Qb,Qc,Qd,Z9,Qe,Qf,Qg,Qh,Pg.freeze,Zd,Ys,Yt,Zo,Qi,Qp,↓Jx,Jy,Jz,J0,Qv,J1,resL,Q6,Y8,resM,Jl,Jm,AV.cells,TK.cells,AV.definite,lay,Xc,Z1,Ze,Zb,Yx,Jw,Zn,reduceCtorEq,Nat.reduceEqDiff,Nat.reduceAdd,Zm,Zc,Zr,Zu,Zf,Zx,Zw,Zv,ite_true,ite_false,Option.some.injEq,Yb,AV.agg.injEq,Yg,Yq,Z2,and_self,exists_eq_left',Zl,Yi,Je,Ji,Xm,Xt,Qw,Ql,Qq,Zy,Q7,Qx,Jn,Jo,Qm,Qn,Qo,Zi,Yf,Yd,Ye,Yz,Nat.reduceLeDiff,Qz,Qr,Q8,Z4,Yo,Yp,↓msel,muC,↓J2,Q9,tk28,tz28,tk98,kAsk,eq_self,hct2,hg,Zi,J6,hy]
            exact ⟨⟨by omega, by omega, by omega⟩, rfl, rfl, k + 1, by omega, by omega, by rw [hm1, List.length_append]; rfl, by rw [wrap64 (by omega) (by omega)]; rfl⟩
          | false =>
            rw [if_neg (by rw [hg]; simp)] at hm1
            simp (maxSteps := 4000000) only [↓J5,↓J3,↓Jf,↓Jc,↓Jp,↓Y0,Qs,Q4,Qt,↓Jg,yarg,Qu,↓Y1,↓Jd,↓Ya,↓Zs,↓fixG,setG,gw,Zh,Jq,Zp,↓chk,Yk,noW,↓Y2,↓Yl,↓Q0,↓Z3,Y3,Pg.look,Q1,Qk,Xd,Yj,Yv,Za,implies_true,true_and,and_true,Xe,Xf,unc,gof,mux,Y4,Ym,Yn,Q2,Q3,Z8,Zj,Zk,ofV,Z7,Y9,Qa,Yr,Qb,Qc,Qd,Z9,Qe,Qf,Qg,Qh,Pg.freeze,Zd,Ys,Yt,Zo,Qi,Qp,↓Jx,Jy,Jz,J0,Qv,J1,resL,Q6,Y8,resM,Jl,Jm,TK.cells,Z1,Ze,Zb,Yx,Zn,reduceCtorEq,Nat.reduceEqDiff,Zm,Zc,Zr,Zf,Zx,Zw,ite_true,ite_false,Option.some.injEq,and_self,exists_eq_left',Zl,Je,Ji,Xm,Xt,Qw,Ql,Qq,Zy,Q7,Qx,Jn,Jo,Qm,Qn,Qo,Zi,Q8,Z4,Yo,Yp,↓msel,muC,↓J2,Q9,tk98,kAsk,eq_self,hct2,hg,Zi]
            exact ⟨⟨by omega, by omega, by omega⟩, k + 1, by omega, by omega, by rw [hm1], by rw [wrap64 (by omega) (by omega)]; rfl⟩
        · have hcf2 : decide ((k : Int) < ((ls.getD i []).length : Int)) = false := decide_eq_false (by omega)
          have hke : k = (ls.getD i []).length := by omega
          subst hke
          simp (maxSteps := 4000000) only [↓J5,↓wpYH_exit,↓Jf,↓Jc,↓Y0,Qs,Q4,Qt,↓Jg,yarg,Qu,↓Y1,↓Xx,↓Jd,↓Xr,↓Xs,endT_some,↓Zs,gw,Zh,Zp,↓chk,Yk,↓Y2,↓Yl,↓Z3,Y3,Pg.look,Q1,Qk,Za,implies_true,true_and,and_true,Y4,Ym,Yn,Q2,Q3,Z8,Zj,Zk,ofV,Z7,Y9,Qa,Yr,Qb,Qc,Qd,Z9,Qe,Qf,Qg,Qh,Pg.freeze,Zd,Ys,Yt,Zo,Qi,reduceCtorEq,Nat.reduceEqDiff,Zc,ite_true,ite_false,Option.some.injEq,and_self,Zl,Yi,Z4,Yo,Yp,kAsk,hcf2]
          exact ⟨i + 1, by omega, by omega, by rw [hts, List.length_append, hln]; omega, by rw [wrap64 (by omega) (by omega)]; rfl⟩
  · have hcf : decide ((i : Int) < (ls.length : Int)) = false := decide_eq_false (by omega)
    have hil : i = ls.length := by omega
    simp (maxSteps := 4000000) only [↓J5,↓wpYH_exit,↓Jf,↓Jc,↓Y0,Qs,Q4,Qt,↓Jg,yarg,Qu,↓Y1,↓Xx,↓Xr,↓Xs,endT_some,↓Zs,gw,Zh,Zp,↓chk,Yk,↓Y2,↓Yl,↓Z3,Y3,Pg.look,Q1,Qk,Za,implies_true,true_and,Y4,Ym,Yn,Q2,Q3,reduceCtorEq,Nat.reduceEqDiff,ite_true,ite_false,and_self,Yi,Z4,Yo,Yp,kAsk,hcf]
    rw [hil]
end Go.Pg
namespace Go.Pg
open Go Go.Proofs

theorem ok_askS : C1OK Try.prog 80 (kAsk startB) := C1OK.by (by kernel_rfl) (fun d h => calls_askS d.1 d.2.1 d.2.2 h.1 h.2.1 h.2.2) (fun _ => rfl) (fun _ => rfl)
theorem ok_askE : C1OK Try.prog 81 (kAsk endB) := C1OK.by (by kernel_rfl) (fun d h => calls_askE d.1 d.2.1 d.2.2 h.1 h.2.1 h.2.2) (fun _ => rfl) (fun _ => rfl)

/-- A closure that is asked of bytes: which of the two, and of which words. -/
def cAskFn : Cd (Bool × Bool) where
  enc d := .fn (if d.1 = true then 80 else 81) [.rp [.bool d.2]]
  dec
    | .fn f [.rp [.bool b]] => if f = 80 then some (true, b) else if f = 81 then some (false, b) else none
    | _ => none
  ok v a h := by
    split at h
    · split at h
      · next e => cases h; rw [e]; rfl
      · split at h
        · next e => cases h; rw [e]; rfl
        · cases h
    · cases h
theorem cAskFn_decS (b : Bool) : cAskFn.dec (.fn 80 [.rp [.bool b]]) = some (true, b) := rfl
theorem cAskFn_decE (b : Bool) : cAskFn.dec (.fn 81 [.rp [.bool b]]) = some (false, b) := rfl

def gOf (st : Bool) (big : Bool) : List UInt8 → Nat → Bool := if st = true then startB big else endB big
def marksOf (st e big : Bool) (ls : Ls) : List (Int × Int) := marksTo e (gOf st big) ls ls.length
abbrev lAt : CdL (Ls × Bool × Bool × Bool) := lCons (cRp (lOne cStrs)) (lCons (cRp (lOne cBool)) (lOne (cRp (lOne cAskFn))))
def kAt : C1 := C1.itBy lAt (fun d => fits 65536 65536 d.1) (fun d => (marksOf d.2.2.1 d.2.1 d.2.2.2 d.1).map fun p => [aPos p])
theorem ok_at : C1OK Try.prog 91 kAt := by
  refine C1OK.itBy (by kernel_rfl) fun d h => ?_
  obtain ⟨ls, e, st, big⟩ := d
  cases st with
  | true => exact it_at ls e _ big startB h ok_askS
  | false => exact it_at ls e _ big endB h ok_askE

/-- The iterator, as a value. -/
def aAt (ls : Ls) (e st big : Bool) : AV := .fn 91 [.rp [.sl 1 (ls.map .str)], .rp [.bool e], .rp [.fn (if st = true then 80 else 81) [.rp [.bool big]]]]

set_option maxHeartbeats 4000000 in
theorem calls_at (ls : Ls) (e st big : Bool) : CallsR Try.prog 79 [.sl 1 (ls.map .str), .bool e, .fn (if st = true then 80 else 81) [.rp [.bool big]]] [] (aAt ls e st big) [] := by
  refine callsR_of (mrg := true) (dyn := []) (CtrOK.nil _) mixed Try.func79 rfl (by simp [Try.ntmps79]) (by kernel_rfl) ?_
  rw [show Try.f79.results.toList = [.tmp 6] from by kernel_rfl]
  simp (maxSteps := 4000000) only [↓Qy,↓Y7,↓Yy,↓Zz,Zt,Yh,Z5,gw,Zh,↓chk,Yk,noW,↓Y2,↓Yl,↓Q0,Jr,↓Zq,↓Z3,Y3,Pg.look,Za,implies_true,Y4,Ym,Yn,Z8,Zj,Zk,Nat.reduceAdd,ofV,Z7,Js,Jt,Ju,Y9,Qa,Yr,Qb,Qc,Qd,Z9,Qe,Qf,frzL,Qg,Qh,Pg.freeze,Zd,Xn,Ys,Yt,Zo,Qi,subL,J4,resL,Y8,resM,AV.cells,AV.definite,frzAt,Ze,Zb,reduceCtorEq,Nat.reduceEqDiff,Nat.reduceAdd,Zm,Zc,Zr,Zu,Zf,Zx,Zw,Yu,Y6,Zv,ite_true,ite_false,Yg,Yq,Z2,and_self,Zl,resIn,List.contains_cons,Zg,Nat.reduceBEq,Bool.or_self,Bool.or_false,beq_self_eq_true,Bool.or_true,Yc,Yf,Yw,Z6,Z4,Yo,Yp,Z0,aAt]

def kAtF : C1 := C1.by [.sl 1 [], .id, .id] (lCons cStrs (lCons cBool (lOne cAskFn))) (fun _ => True) (fun d => aAt d.1 d.2.1 d.2.2.1 d.2.2.2) (fun _ => [])
theorem ok_atF : C1OK Try.prog 79 kAtF := C1OK.by (by kernel_rfl) (fun d _ => calls_at d.1 d.2.1 d.2.2.1 d.2.2.2) (fun d => by unfold aAt; rfl) (fun _ => rfl)

set_option maxHeartbeats 4000000 in
theorem calls_Starts (ls : Ls) (big : Bool) : CallsR Try.prog 65 [.sl 1 (ls.map .str), .bool big] [] (aAt ls true true big) [] := by
  refine callsR_of (mrg := true) (dyn := []) (CtrOK.cons ok_atF (CtrOK.nil _)) mixed Try.func65 rfl (by simp [Try.ntmps65]) (by kernel_rfl) ?_
  rw [show Try.f65.results.toList = [.tmp 4] from by kernel_rfl]
  simp (maxSteps := 4000000) only [↓Qy,↓Y7,↓Yy,↓Zz,Zt,Yh,Z5,gw,Zh,↓chk,Yk,noW,↓Y2,↓Yl,↓Q0,Jr,↓Zq,↓Z3,Y3,Pg.look,Za,implies_true,Y4,Ym,Yn,Z8,Zj,Zk,ofV,Z7,Js,Jt,Ju,Y9,Qa,Yr,Qb,Qc,Qd,Z9,Qe,Qf,frzL,Qg,Qh,Pg.freeze,Zd,Xn,Ys,Yt,Zo,Qi,subL,J4,↓Jx,Jy,Jz,J0,Qv,J1,normC,resL,Q6,Y8,resM,Jl,Jm,AV.cells,AV.definite,frzAt,Zb,reduceCtorEq,Nat.reduceEqDiff,Zm,Zc,Zu,Zf,Zx,Zw,Yu,Zv,ite_true,ite_false,and_self,Zl,Ji,Xh,Qw,Ql,Qq,Zg,Zy,J9,Q7,Qx,Jn,Jo,Qm,Qn,Qo,Yc,Yf,Yw,Q8,Z6,Z4,Yo,Yp,Z0,↓msel,muC,↓J2,Q9,aAt,kAtF,cAskFn_decS]

set_option maxHeartbeats 4000000 in
theorem calls_Ends (ls : Ls) (big : Bool) : CallsR Try.prog 69 [.sl 1 (ls.map .str), .bool big] [] (aAt ls false false big) [] := by
  refine callsR_of (mrg := true) (dyn := []) (CtrOK.cons ok_atF (CtrOK.nil _)) mixed Try.func69 rfl (by simp [Try.ntmps69]) (by kernel_rfl) ?_
  rw [show Try.f69.results.toList = [.tmp 4] from by kernel_rfl]
  simp (maxSteps := 4000000) only [↓Qy,↓Y7,↓Yy,↓Zz,Zt,Yh,Z5,gw,Zh,↓chk,Yk,noW,↓Y2,↓Yl,↓Q0,Jr,↓Zq,↓Z3,Y3,Pg.look,Za,implies_true,Y4,Ym,Yn,Z8,Zj,Zk,ofV,Z7,Js,Jt,Ju,Y9,Qa,Yr,Qb,Qc,Qd,Z9,Qe,Qf,frzL,Qg,Qh,Pg.freeze,Zd,Xn,Ys,Yt,Zo,Qi,subL,J4,↓Jx,Jy,Jz,J0,Qv,J1,normC,resL,Q6,Y8,resM,Jl,Jm,AV.cells,AV.definite,frzAt,Zb,reduceCtorEq,Nat.reduceEqDiff,Zm,Zc,Zu,Zf,Zx,Zw,Yu,Zv,ite_true,ite_false,and_self,Zl,Ji,Xh,Qw,Ql,Qq,Zg,Zy,J9,Q7,Qx,Jn,Jo,Qm,Qn,Qo,Yc,Yf,Yw,Q8,Z6,Z4,Yo,Yp,Z0,↓msel,muC,↓J2,Q9,aAt,kAtF,cAskFn_decE]
end Go.Pg
namespace Go.Pg
open Go Go.Proofs

theorem subX_nls {H : AH} {F : List Nat} {pick : List (Option Nat)} {i sz : Nat} (h : pick[i]? = some none) : subX H F pick [.nls] [.own i sz 0] := .inr ⟨⟨⟨h, rfl⟩, trivial⟩, trivial⟩
theorem subX_own {H : AH} {F : List Nat} {pick : List (Option Nat)} {i j sz n n' : Nat} (h : pick[i]? = some (some j)) (hn : n = n') : subX H F pick [.own j sz n] [.own i sz n'] := .inr ⟨⟨⟨h, rfl, hn⟩, trivial⟩, trivial⟩
theorem aPos_def (p : Int × Int) : aPos p = .agg [.int .i64 p.1, .int .i64 p.2] := rfl
end Go.Pg
