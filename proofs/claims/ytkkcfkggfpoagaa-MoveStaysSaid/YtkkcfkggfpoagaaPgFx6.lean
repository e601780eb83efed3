/- slices.Grow of nil, slices.Concat, slices.Reverse: of places. Where sentences begin: the parts. Where a pattern stands: the program's iterator; the word at a place. -/
import Derived.Test.YtkkcfkggfpoagaaPgFx5
import Derived.Shelf.Spec.SlicesGrow
import Derived.Test.YtkkcfkggfpoagaaPgFx3
import Derived.Test.YtkkcfkggfpoagaaPgFx4
open Bool renaming false_eq_true → Za, and_self → Yh, not_true → Yu, not_false → Yz, or_false → Qw, true_eq_false → Q2, and_true → J2
open List renaming getElem?_cons_zero → Zb, append_nil → Zc, foldl_nil → Zd, length_nil → Ze, contains_nil → Zg, length_map → Zj, nil_append → Zm, getElem?_cons_succ → Zo, map_nil → Zx, map_cons → Z0, getElem?_toArray → Z3, length_cons → Ya, range'_zero → Yn, cons_append → Ys, all_cons → Yt, all_nil → Y1, set_cons_zero → Qc, contains_cons → Ql, take_zero → Qq, drop_zero → Qs, drop_succ_cons → Qu, getElem?_map → Jl, foldl_cons → Ju, take_succ_cons → Jv, toList_toArray → Jw, drop_nil → Xi
open Go.Pg renaming gselH_plain → Zf, closeQ_nil → Zh, diagQ_zero → Zi, subV_succ → Zl, cselH_bool → Zp, pickOK_nil → Zr, thenA_normal → Zs, iselH_false → Zt, bselH_false → Zu, stepEv → Zv, isNext → Zw, wpH_region → Zy, selC_false → Zz, alives → Z1, pickOf → Z2, runH_cons → Z4, ofLeaf → Z5, regH_none → Z6, wpYH_region0 → Z8, thenY_normal → Z9, justK → Yb, pureK → Yc, heapV → Yd, footV → Ye, nextF → Yf, nextG → Yg, runH_nil → Yi, ptrsE → Yj, subOs → Yk, subEv → Yl, iselH_true → Ym, regYH_none → Yo, runYH_cons → Yp, yselH_none → Yq, wpH_seq → Yv, oneK → Yw, opnd → Yx, valV → Yy, runYH_nil → Y0, intOp → Y2, subA → Y3, subQ → Y4, frzO → Y5, subF → Y6, subG → Y7, frzE → Y8, frzC → Y9, frzH → Qa, subM → Qb, wpYH_cond → Qd, frz0 → Qe, wpYH_seq → Qf, oneYH_eq → Qg, binK → Qh, binV → Qi, res_succ → Qj, wpH_block → Qk, intV → Qn, wpA_H → Qo, wpYH_block → Qp, ldCells → Qr, wpH_cond → Qt, lCons_dec → Qx, dec2_some → Qy, optP_some → Qz, optV_some → Q0, optH_some → Q1, heapK → Q4, wpYH_skip → Q5, normArgs → Q6, lOne_dec → Q7, C1by_pre → Q8, blockA_normal → Ja, blockY_exit → Jb, endY_normal → Jc, wpY_H → Jd, gselH_if → Je, endT_some → Jf, res8_eq → Jg, C1by_ns → Jh, C1by_it → Ji, C1by_mu → Jj, thenY_exit → Jk, blockY_normal → Jm, wpH_ret → Jn, wpYH_exit → Jo, envOf → Jp, shiftR → Jq, shift1 → Jr, C1by_r → Js, C1by_H → Jt, wpH_skip → Jz, blockA_exit → J0, thenA_exit → J3, cInt_dec → J4, cStr_dec → J5, cBool_dec → J6, thenY_ret → J7, yieldH_some → J9, wpH_loop → Xa, wpH_exit → Xb, pickOK_one → Xc, wpYH_ret → Xd, yselH_some → Xe, blockY_ret → Xf, endY_ret → Xg, getD_str → Xh
open Option renaming getD_some → Zk, bind_some → Yr, isSome_some → Qm, map_some → Q3, toArray_some → Jx, toArray_none → Jy, map_none → J8
open Nat renaming zero_add → Zn, zero_lt_succ → Q9, lt_irrefl → J1
open Int renaming toNat_natCast → Zq, cast_ofNat_Int → Z7
open Array renaming toList_append → Qv
namespace Go.Pg
open Go Go.Proofs Go.Shelf

theorem app_posL (a b : List (Int × Int)) : a.map aPos ++ b.map aPos = (a ++ b).map aPos := by simp

theorem VRs.twoR {E : Env} {a b : AV} {vals : Array Value} (h : VRs E [a, b] vals) : ∃ u v, vals = #[u, v] ∧ VR E a u ∧ VR E b v := by
  obtain ⟨hs, hv⟩ := h
  match vals, hs with
  | ⟨[u, v]⟩, _ => exact ⟨u, v, rfl, hv 0 a rfl, hv 1 b rfl⟩
theorem callsR_newR {P : Program} {f : FuncId} {args : List AV} {t : TypeId} {sz : Nat}
    (h : ∀ (E : Env) (vals : Array Value), VRs E args vals → Calls P f vals E.W fun e W' => (e = .returned (.slice none 0 0) ∧ W' = E.W) ∨ ∃ (C : Array Value) (cap : Nat), e = .returned (.slice (some ⟨E.W.heap.size, 0, none⟩) 0 cap) ∧ SameBut E.W W' ∧ W'.heap = E.W.heap.push (.cells C t (0, 0)) ∧ C.size = cap * sz ∧ cap ≤ maxLen) :
    CallsR P f args [] (.own 0 sz 0) [.arr t sz []] := by
  intro E vals hr hv
  have hle : AHle [] [.arr t sz []] := fun id o ho => by simp at ho
  obtain ⟨E1, hr1, hW1, hM1, hst1⟩ := hr.le hle
  have hm0 : E1.M 0 = none := by rw [hM1]; exact hr.dom 0 (Nat.zero_le _)
  refine (h E vals hv).mono fun e W' hh => ?_
  rcases hh with ⟨he, hw⟩ | ⟨C, cap, he, hs, hh, hC, hcap⟩
  · obtain ⟨E', hW, hr', hst, _, hMid, hhl⟩ := alloc_nil hr1 (id := 0) hm0 (e := t) (sz := sz) (o' := .arr t sz []) rfl (AOle.refl _)
    refine ⟨_, E', he, by rw [hW, hW1, hw], .own 0 sz 0 none 0 (by rw [hMid]; rfl) (fun _ => rfl) (fun L hL => ?_), hr', hst1.trans hst⟩
    exact ⟨Nat.zero_le _, fun _ => .inl ⟨hMid, rfl, rfl⟩⟩
  · obtain ⟨E', hW, hr', hst, _, hMid, hhl⟩ := alloc_rel hr1 (id := 0) hm0 (e := t) (sz := sz) (vs := []) rfl (AOle.refl _) (w' := W') (c := C) (fz := (0, 0)) (by rw [hW1]; exact hs) (by rw [hW1]; exact hh) (by simp) (fun k _ hk => by simp at hk) (fun i v hi => by simp at hi)
    refine ⟨_, E', he, hW, .own 0 sz 0 _ cap (by rw [hMid]; rfl) (fun h => by cases h) (fun L hL => ?_), hr', hst1.trans hst⟩
    rw [hr'.hl] at hL
    have : L = 0 := by simpa [hlOf, AO.len] using hL.symm
    subst this
    exact ⟨Nat.le_refl _, fun _ => .inr ⟨E.W.heap.size, C, t, (0, 0), by rw [hMid, hW1], rfl, Nat.zero_le _, hcap, by rw [hW, hh]; simp, hC⟩⟩

def growRenR : Go.Shelf.Ren := ⟨fun | 4 => 113 | n => n, fun | 0 => 0 | 3 => 3 | 4 => 4 | 9 => 9 | 20 => 20 | 22 => 61 | 25 => 28 | n => n, fun | n => n⟩
theorem growLaysR : Lays8.n4 Try.prog growRenR := {
  mixed := by kernel_rfl
  f4 := ⟨Try.f113.name, by decide, Try.func113.trans (congrArg some (by kernel_rfl))⟩
  t0 := Try.underlying0
  a0 := Try.isAgg0
  z0 := Try.sizeOf0
  v0 := Try.zeroValue0
  t3 := Try.underlying3
  a3 := Try.isAgg3
  z3 := Try.sizeOf3
  v3 := Try.zeroValue3
  t4 := Try.underlying4
  a4 := Try.isAgg4
  z4 := Try.sizeOf4
  v4 := Try.zeroValue4
  t9 := Try.underlying9
  a9 := Try.isAgg9
  z9 := Try.sizeOf9
  v9 := Try.zeroValue9
  t20 := Try.underlying20
  a20 := Try.isAgg20
  z20 := Try.sizeOf20
  v20 := Try.zeroValue20
  t22 := Try.underlying61
  a22 := Try.isAgg61
  z22 := Try.sizeOf61
  v22 := Try.zeroValue61 }

theorem calls_GrowR (n : Nat) (h2 : n ≤ 1099511627776) : CallsR Try.prog 113 [.nls, .int .i64 n] [] (.own 0 2 0) [.arr 28 2 []] := by
  refine callsR_newR fun E vals hv => ?_
  obtain ⟨u, v, rfl, k1, k2⟩ := hv.twoR
  rw [k1.nls_inv, k2.int_inv]
  by_cases h1 : 0 < n
  · have hi : ∃ i0 z, Try.prog.info? 28 = some i0 ∧ i0.zero = some z ∧ i0.size = 2 ∧ i0.bytes = 16 ∧ z.cells.size = 2 := by
      have h : (match Try.prog.info? 28 with
        | some i => match i.zero with
          | some z => i.size == 2 && i.bytes == 16 && z.cells.size == 2
          | none => false
        | none => false) = true := by kernel_rfl
      split at h
      · next i hi =>
        split at h
        · next z hz =>
          simp only [Bool.and_eq_true,beq_iff_eq] at h
          exact ⟨i, z, hi, hz, h.1.1, h.1.2, h.2⟩
        · cases h
      · cases h
    obtain ⟨i0, z, hi0, hz, hs1, hb1, hc1⟩ := hi
    refine (Any8.slices_Grow_grow growLaysR i0 z hi0 hz (by omega) none 0 0 n [] E.W (Nat.le_refl _) (by omega) (by rw [hb1]; omega) (by omega) (by simp) (fun _ => rfl) (fun a ha => by cases ha)).mono fun e W' ⟨he, hw⟩ => .inr ?_
    obtain ⟨hsb, hh⟩ := drew_same E.W (.cells (([] : List Value).toArray ++ Builtin.zeroCells z.cells (0 + n - 0) ++ Builtin.zeroCells z.cells (grownCap E.W (0 + n) 0 28 - (0 + n))) 28)
    have hge := grownCap_ge E.W (0 + n) 0 28
    refine ⟨_, grownCap E.W (0 + n) 0 28, he, by rw [hw]; exact hsb, by rw [hw]; exact hh, ?_, grownCap_le_maxLen E.W _ 0 _ (by unfold maxLen; omega)⟩
    rw [Array.size_append, Array.size_append, growZ hc1, growZ hc1]
    simp only [Zn] at hge
    simp only [List.size_toArray,Ze,Zn,Nat.sub_zero,← Nat.add_mul]
    rw [show n + (grownCap E.W n 0 28 - n) = grownCap E.W n 0 28 by omega]
  · obtain rfl : n = 0 := by omega
    exact (Any8.slices_Grow_room growLaysR none 0 0 0 E.W (Nat.le_refl _) (by omega) (by omega) (by omega)).mono fun e W' h => .inl h

def kGrowR : C1 := C1.by [.id, .id] (lCons cAny (lOne (cInt .i64))) (fun d => d.1 = .nls ∧ 0 ≤ d.2 ∧ d.2 ≤ 1099511627776) (fun _ => .own 0 2 0) (fun _ => [.arr 28 2 []])
theorem ok_GrowR : C1OK Try.prog 113 kGrowR := C1OK.by (by kernel_rfl) (fun d h => by
  obtain ⟨a, n⟩ := d
  obtain ⟨h1, h2, h3⟩ := h
  simp only at h1 h2 h3
  subst h1
  have := calls_GrowR n.toNat (by omega)
  rw [show ((n.toNat : Nat) : Int) = n by omega] at this
  exact this) (fun _ => rfl) (fun _ => rfl)

def aStrsR (l : List (Int × Int)) : AV := .sl 2 (l.map aPos)
theorem getD_strssR (l : List (List (Int × Int))) (i : Nat) : (l.map aStrsR).getD i (.sl 2 []) = aStrsR (l.getD i []) := getD_map aStrsR l i []
theorem flat_takeR (l : List (List (Int × Int))) (i : Nat) (h : i < l.length) : (l.take (i + 1)).flatten = (l.take i).flatten ++ l.getD i [] := by
  rw [List.take_add_one, List.flatten_append, List.getElem?_eq_getElem h, List.getD_eq_getElem?_getD, List.getElem?_eq_getElem h]
  simp

set_option maxRecDepth 20000 in
set_option maxHeartbeats 4000000 in
theorem calls_ConcatR (l : List (List (Int × Int))) (h1 : l.flatten.length ≤ 1099511627776) (h2 : l.length ≤ 1048576) :
    CallsR Try.prog 109 [.sl 1 (l.map aStrsR)] [] (.sl 2 (l.flatten.map aPos)) [] := by
  refine callsR_of (mrg := true) (dyn := []) (CtrOK.cons ok_GrowR (CtrOK.nil _)) mixed Try.func109 rfl (by simp [Try.ntmps109]) (by kernel_rfl) ?_
  rw [show Try.f109.results.toList = [.tmp 2] from by kernel_rfl]
  have hle : ∀ i, (l.take i).flatten.length ≤ l.flatten.length := fun i => by
    have := congrArg (fun x : List (List (Int × Int)) => x.flatten.length) (List.take_append_drop i l)
    simp only [List.flatten_append,List.length_append] at this
    omega
  simp (maxSteps := 4000000) only [↓Qo,↓Yv,↓Qk,↓Xa,↓Zy,Zu,Yi,Z4,gw,Zf,↓chk,Yb,↓Yw,↓Yc,Jp,↓Zs,↓Zv,Yx,Pg.look,Za,implies_true,true_and,and_true,Yy,Yd,Ye,ofV,Z5,slen,Zk,reduceCtorEq,Nat.reduceEqDiff,Ze,ite_true,ite_false,Option.some.injEq,AV.int.injEq,and_self,exists_eq_left',Zj,Zg,Z6,Zw,Yf,Yg,Zz,tk120,kGrowR]
  refine loopH_intro (α := Nat) (fun i => ([(0, .sl 1 (l.map aStrsR)), (2, .nls), (3, .int .i64 (l.take i).flatten.length), (9, .sl 1 (l.map aStrsR)), (10, .int .i64 l.length), (11, .int .i64 i)], [])) (fun i => i ≤ l.length) (fun i => l.length - i) 0 (by omega) ?_ ?_
  · simp (maxSteps := 4000000) only [Pg.look,true_and,and_true,Z1,Zh,Zi,Y3,Y4,Yj,Y5,Y6,Y7,Z2,Y8,Y9,Qe,Qa,Pg.freeze,Zd,Yk,Yl,Zl,Qb,reduceCtorEq,Nat.reduceEqDiff,Zc,ite_true,ite_false,and_self,Zr,Z7,Qq]
    all_goals simp
  intro i hi
  by_cases hlt : i < l.length
  · have hct : decide ((i : Int) < l.length) = true := decide_eq_true (by omega)
    have hfl := flat_takeR l i hlt
    have hfl2 : (l.take (i + 1)).flatten.length = (l.take i).flatten.length + (l.getD i []).length := by rw [hfl, List.length_append]
    have hl2 := hle (i + 1)
    have w1 : IntKind.i64.wrap (((l.take i).flatten.length : Int) + ((l.getD i []).length : Int)) = ((l.take (i + 1)).flatten.length : Int) := by rw [wrap64 (by omega) (by omega)]; omega
    have hneg : decide (((l.take (i + 1)).flatten.length : Int) < 0) = false := decide_eq_false (by omega)
    simp (maxSteps := 4000000) only [↓Qo,↓Jz,↓Yv,↓Qt,↓Qk,↓Zy,↓Ym,↓Zt,Zu,Yi,Z4,gw,Zf,Zp,↓chk,Yb,noW,↓Yw,↓Yc,↓Q4,↓Zs,↓Ja,↓Zv,Yx,Pg.look,Qh,Y2,Za,implies_true,true_and,and_true,Yy,Yd,Ye,Qi,Qn,Z1,Zh,Zi,ofV,Z5,Y3,Y4,Yj,Y5,Y6,Y7,Z2,Y8,Y9,Qe,Qa,Pg.freeze,Zd,Yk,Yl,Zl,Qb,slen,Qr,AV.cells,TK.cells,Zb,Zk,reduceCtorEq,Nat.reduceEqDiff,Zc,ite_true,ite_false,Option.some.injEq,AV.int.injEq,and_self,exists_eq_left',Zr,Zj,Zg,Zq,Z6,Zw,Yf,Yg,Zz,tk61,dz61,tk120,kGrowR,hct,getD_strssR,aStrsR,w1,hneg]
    exact ⟨⟨by omega, hlt⟩, i + 1, by omega, by omega, rfl, by rw [wrap64 (by omega) (by omega)]; rfl⟩
  · have hcf : decide ((i : Int) < l.length) = false := decide_eq_false (by omega)
    have hil : i = l.length := by omega
    subst hil
    rw [List.take_length]
    simp (maxSteps := 4000000) only [↓Qo,↓Xb,↓Yv,↓Qt,↓Qk,↓Xa,↓Zy,↓Zt,Zu,Yi,Z4,gw,Zf,Zp,↓chk,Yb,↓Yw,↓Yc,↓Zs,↓J3,↓J0,↓Zv,Yx,Pg.look,Qh,Y2,Za,implies_true,true_and,and_true,Yy,Yd,Ye,Qi,Qn,ofV,Z5,retA,Pg.freeze,Zd,slen,↓callT,callC,callV,callH,Q6,normA,resL,Jg,Qj,resM,Jq,Jr,Zk,reduceCtorEq,Nat.reduceEqDiff,Zm,Zc,Ya,Ze,Z0,Zx,Zn,ite_true,ite_false,Option.some.injEq,AV.int.injEq,and_self,exists_eq_left',Zj,J4,cAny_dec,Q7,Qx,Qy,Zg,Yn,Jh,Q8,Js,Jt,Qz,Q0,Q1,Nat.add_zero,Ji,Z6,Zw,Yf,Yg,Zz,↓msel,muC,↓callP,Jj,List.range'_succ,tk120,kGrowR,hcf]
    refine ⟨⟨by omega, by omega⟩, ?_⟩
    refine loopH_intro (α := Nat) (fun i => ([(2, .nls), (6, .own 0 2 (l.take i).flatten.length), (25, .sl 1 (l.map aStrsR)), (26, .int .i64 l.length), (27, .int .i64 i)], [.arr 28 2 ((l.take i).flatten.map aPos)])) (fun i => i ≤ l.length) (fun i => l.length - i) 0 (by omega) ?_ ?_
    · simp (maxSteps := 4000000) only [Pg.look,true_and,and_true,Z1,aliveO,Zh,Zi,Y3,Y4,Yj,pairsO,Y5,Y6,Y7,Z2,assocN,pairsE,pairsC,pairs0,Y8,Y9,Qe,Qa,Pg.freeze,Zd,Yk,subO,Yl,Zl,Qb,Zb,reduceCtorEq,Nat.reduceEqDiff,Zm,Zc,ite_true,ite_false,and_self,Xc,Z7,Qq,J1]
      exact ⟨subX_eq rfl rfl, rfl⟩
    intro i hi
    by_cases hlt : i < l.length
    · have hct : decide ((i : Int) < l.length) = true := decide_eq_true (by omega)
      have hfl := flat_takeR l i hlt
      have hfl2 : (l.take (i + 1)).flatten.length = (l.take i).flatten.length + (l.getD i []).length := by rw [hfl, List.length_append]
      have hl2 := hle (i + 1)
      simp (maxSteps := 4000000) only [↓Qo,↓Jz,↓Yv,↓Qt,↓Qk,↓Zy,↓Ym,Zu,Yi,Z4,gw,Zf,Zp,↓chk,Yb,noW,↓Yw,↓Yc,↓Q4,↓Zs,↓Ja,↓Zv,Yx,Pg.look,Qh,Y2,Za,implies_true,true_and,and_true,Yy,Yd,Ye,Qi,Qn,Z1,aliveO,Zh,Zi,ofV,Z5,Y3,Y4,Yj,pairsO,Y5,Y6,Y7,Z2,assocN,pairsE,pairsC,pairs0,Y8,Y9,Qe,Qa,Pg.freeze,Zd,Yk,subO,Yl,Zl,Qb,srcV,srcE,appK,Qr,AV.cells,TK.cells,Zb,Zk,Nat.reduceEqDiff,Zm,Zc,Qc,ite_true,ite_false,Option.some.injEq,not_false_eq_true,and_self,exists_eq_left',Xc,Zj,not_mem_nil,Zg,Zq,J1,Z6,Zw,Yf,Yg,Zz,eb28,tk61,dz61,tk120,kGrowR,hct,getD_strssR,aStrsR,leafy_posL,app_posL]
      exact ⟨⟨by omega, hlt⟩, by omega, i + 1, by omega, by omega, subX_eq (by rw [hfl]) (pureB_posL _), hfl2.symm, by rw [wrap64 (by omega) (by omega)]; rfl⟩
    · have hcf : decide ((i : Int) < l.length) = false := decide_eq_false (by omega)
      have hil : i = l.length := by omega
      subst hil
      rw [List.take_length]
      simp (maxSteps := 4000000) only [↓Qo,↓Jn,↓Xb,↓Yv,↓Qt,↓Zy,↓Zt,Zu,Yi,Z4,gw,Zf,Zp,↓chk,Yb,↓Yw,↓Yc,↓Zs,↓J3,↓J0,↓Zv,Yx,Pg.look,Qh,Y2,Za,implies_true,Yy,Yd,Ye,Qi,Qn,Z1,Zh,Zi,retA,resK,tupA,Y3,Y4,Yj,Y5,Y6,Y7,Z2,Y8,Y9,Qe,Qa,Pg.freeze,Zd,Ju,Yk,Yl,Zl,Qb,objAt,Qj,resM,frzAt,Zb,Nat.reduceEqDiff,Zc,Ze,Qc,ite_true,ite_false,Yt,Y1,Yh,and_self,Zr,Zj,resIn,Ql,Zg,Qw,beq_self_eq_true,Z6,Zw,Yf,Yg,Zz,kGrowR,hcf,pureB_posL]

def kConcatR : C1 := C1.by [.sl 1 [some 2]] (lOne (cSl 1 (cSl 2 cPos2))) (fun d => d.flatten.length ≤ 1099511627776 ∧ d.length ≤ 1048576) (fun d => .sl 2 (d.flatten.map aPos)) (fun _ => [])
theorem ok_ConcatR : C1OK Try.prog 109 kConcatR := C1OK.by (by kernel_rfl) (fun d h => calls_ConcatR d h.1 h.2) (fun _ => rfl) (fun _ => rfl)

/-! ### Turned round -/
def revK (l : List (Int × Int)) (k : Nat) : List (Int × Int) := (List.range l.length).map fun i => if i < k ∨ l.length ≤ i + k then l.getD (l.length - 1 - i) (0, 0) else l.getD i (0, 0)
theorem revK_len (l : List (Int × Int)) (k : Nat) : (revK l k).length = l.length := by simp [revK]
theorem revK_get (l : List (Int × Int)) (k i : Nat) (h : i < l.length) : (revK l k).getD i (0, 0) = if i < k ∨ l.length ≤ i + k then l.getD (l.length - 1 - i) (0, 0) else l.getD i (0, 0) := by
  rw [List.getD_eq_getElem?_getD, revK, List.getElem?_map, List.getElem?_range h]; rfl
theorem ext_getD {a b : List (Int × Int)} (hl : a.length = b.length) (h : ∀ i, i < a.length → a.getD i (0, 0) = b.getD i (0, 0)) : a = b := by
  refine List.ext_getElem hl fun i h1 h2 => ?_
  have := h i h1
  rw [List.getD_eq_getElem?_getD, List.getD_eq_getElem?_getD, List.getElem?_eq_getElem h1, List.getElem?_eq_getElem h2] at this
  exact this
theorem revK_zero (l : List (Int × Int)) : revK l 0 = l := by
  refine ext_getD (revK_len l 0) fun i h => ?_
  rw [revK_len] at h
  rw [revK_get l 0 i h, if_neg (by omega)]
theorem revK_all (l : List (Int × Int)) (k : Nat) (h : l.length ≤ k + k + 1) : revK l k = l.reverse := by
  refine ext_getD (by rw [revK_len, List.length_reverse]) fun i hi => ?_
  rw [revK_len] at hi
  rw [revK_get l k i hi, getD_rev l i (0, 0) hi]
  split
  · rfl
  · rw [show l.length - 1 - i = i by omega]
theorem getD_setP (l : List (Int × Int)) (i j : Nat) (x d : Int × Int) (h : j < l.length) : (l.set j x).getD i d = if i = j then x else l.getD i d := by
  rw [List.getD_eq_getElem?_getD, List.getElem?_set, List.getD_eq_getElem?_getD]
  by_cases e : j = i
  · rw [if_pos e, if_pos h, if_pos e.symm]; rfl
  · rw [if_neg e, if_neg (fun e' => e e'.symm)]
theorem revK_step (l : List (Int × Int)) (k : Nat) (h : k + k + 1 < l.length) : ((revK l k).set k ((revK l k).getD (l.length - 1 - k) (0, 0))).set (l.length - 1 - k) ((revK l k).getD k (0, 0)) = revK l (k + 1) := by
  refine ext_getD (by simp [revK_len]) fun i hi => ?_
  simp only [List.length_set,revK_len] at hi
  rw [getD_setP _ _ _ _ _ (by rw [List.length_set, revK_len]; omega), getD_setP _ _ _ _ _ (by rw [revK_len]; omega), revK_get l (k + 1) i hi, revK_get l k k (by omega), revK_get l k (l.length - 1 - k) (by omega), revK_get l k i hi]
  by_cases e1 : i = l.length - 1 - k
  · rw [if_pos e1, if_neg (by omega), if_pos (by omega), e1, show l.length - 1 - (l.length - 1 - k) = k by omega]
  · rw [if_neg e1]
    by_cases e2 : i = k
    · rw [if_pos e2, if_neg (by omega), if_pos (by omega), e2]
    · rw [if_neg e2]
      by_cases e3 : i < k ∨ l.length ≤ i + k
      · rw [if_pos e3, if_pos (by omega)]
      · rw [if_neg e3, if_neg (by omega)]
theorem set_pos (l : List (Int × Int)) (i : Nat) (x : Int × Int) : (l.map aPos).set i (.agg [.int .i64 x.1, .int .i64 x.2]) = (l.set i x).map aPos := by
  rw [List.map_set]; rfl
theorem pos_pure : ∀ b : Int × Int, (cPos2.enc b).pureB = true := fun _ => rfl
abbrev hPoss : HC (List (Int × Int)) := hOwn 28 2 cPos2 pos_pure

set_option maxRecDepth 20000 in
set_option maxHeartbeats 4000000 in
theorem calls_Reverse (l : List (Int × Int)) (hl : l.length ≤ 1099511627776) : CallsR Try.prog 108 [.own 0 2 l.length] [.arr 28 2 (l.map aPos)] (.tuple []) [.arr 28 2 (l.reverse.map aPos)] := by
  refine callsR_of (mrg := true) (dyn := []) (CtrOK.nil _) mixed Try.func108 rfl (by simp [Try.ntmps108]) (by kernel_rfl) ?_
  rw [show Try.f108.results.toList = [] from by kernel_rfl]
  have w0 : IntKind.i64.wrap ((l.length : Int) - 1) = (l.length : Int) - 1 := wrap64 (by omega) (by omega)
  simp (maxSteps := 4000000) only [↓Qo,↓Yv,↓Qk,↓Xa,↓Zy,Zu,Yi,Z4,gw,Zf,↓chk,Yb,↓Yw,↓Yc,Jp,↓Zs,↓Zv,Yx,Pg.look,Qh,Y2,Za,implies_true,true_and,and_true,Yy,Yd,Ye,Qi,Qn,ofV,Z5,slen,Zk,reduceCtorEq,Nat.reduceEqDiff,Ya,Ze,Zn,ite_true,ite_false,Option.some.injEq,AV.int.injEq,and_self,exists_eq_left',Zg,Z6,Zw,Yf,Yg,Zz,tk61,w0]
  refine loopH_intro (α := Nat) (fun k => ([(0, .own 0 2 l.length), (2, .int .i64 k), (3, .int .i64 ((l.length : Int) - 1 - k))], [.arr 28 2 ((revK l k).map aPos)])) (fun k => k + k ≤ l.length + 1) (fun k => l.length - k) 0 (by omega) ?_ ?_
  · simp (maxSteps := 4000000) only [Pg.look,true_and,and_true,Z1,aliveO,nxtQ,hdS,pairsA,frzA,Zh,closeQ_succ,Zi,diagQ_succ,Y3,Y4,Yj,pairsO,Y5,Y6,Y7,Z2,assocN,pairsE,pairsC,pairs0,Y8,Y9,Qe,Qa,Pg.freeze,Zd,Yk,subO,Yl,Zl,Qb,Zb,reduceCtorEq,Nat.reduceEqDiff,Zm,Zc,ite_true,ite_false,and_self,Z7,Q9,pureB_posL,revK_zero]
    exact ⟨by decide, subX_eq rfl (pureB_posL _), by omega⟩
  intro k hk
  have hrl := revK_len l k
  by_cases hlt : k + k + 1 < l.length
  · have c1 : decide ((k : Int) < (l.length : Int) - 1 - k) = true := decide_eq_true (by omega)
    have e1 : ((l.length : Int) - 1 - k).toNat = l.length - 1 - k := by omega
    have w1 : IntKind.i64.wrap ((k : Int) + 1) = ((k + 1 : Nat) : Int) := by rw [wrap64 (by omega) (by omega)]; rfl
    have w2 : IntKind.i64.wrap ((l.length : Int) - 1 - k - 1) = (l.length : Int) - 1 - ((k + 1 : Nat) : Int) := by rw [wrap64 (by omega) (by omega)]; omega
    have hst := revK_step l k hlt
    simp (maxSteps := 4000000) only [↓Qo,↓Jz,↓Yv,↓Qt,↓Qk,↓Zy,↓Ym,Zu,Yi,Z4,gw,Zf,Zp,↓chk,Yb,noW,↓Yw,↓Yc,↓Q4,↓Zs,↓Ja,↓Zv,Yx,Pg.look,Qh,Y2,Za,implies_true,true_and,and_true,Yy,Yd,Ye,Qi,Qn,Z1,aliveO,nxtQ,hdS,pairsA,frzA,Zh,closeQ_succ,Zi,diagQ_succ,Nat.reduceAdd,ofV,Z5,Y3,Y4,Yj,pairsO,Y5,Y6,Y7,Z2,assocN,pairsE,pairsC,pairs0,Y8,Y9,Qe,Qa,Pg.freeze,Zd,Yk,subO,Yl,Zl,Qb,Qr,objAt,AV.cells,TK.cells,AV.leaf,AV.leafy,putCells,lay,Zb,Zk,reduceCtorEq,Nat.reduceEqDiff,Nat.reduceAdd,Zm,Zc,Ya,Ze,Qc,Zn,ite_true,ite_false,Option.some.injEq,Yt,Y1,Yh,and_self,exists_eq_left',Zj,List.length_set,Zg,Zq,cutL,Qs,Qu,Jv,Qq,Nat.sub_zero,Nat.le_refl,Xi,List.take_nil,Q9,Z6,Zw,Yf,Yg,selC_true,Zz,pureC,tk28,dz28,tk61,c1,e1,w1,w2,hrl,getD_pos,aPos_def,set_pos,hst,pureB_posL]
    exact ⟨⟨by omega, by omega⟩, by omega, ⟨by omega, by omega⟩, by omega, ⟨by omega, by omega⟩, by omega, ⟨by omega, by omega⟩, by omega, k + 1, by omega, by omega, by decide, subX_eq rfl (pureB_posL _), rfl, rfl⟩
  · have c1 : decide ((k : Int) < (l.length : Int) - 1 - k) = false := decide_eq_false (by omega)
    have hall := revK_all l k (by omega)
    simp (maxSteps := 4000000) only [↓Qo,↓Xb,↓Yv,↓Qt,↓Zy,↓Zt,Zu,Yi,Z4,gw,Zf,Zp,↓chk,Yb,↓Yw,↓Yc,↓Zs,↓J3,↓J0,↓Zv,Yx,Pg.look,Qh,Y2,Za,implies_true,true_and,and_true,Yy,Yd,Ye,Qi,Qn,Z1,aliveO,nxtQ,hdS,pairsA,frzA,Zh,closeQ_succ,Zi,diagQ_succ,retA,resK,tupA,Y3,Y4,Yj,pairsO,Y5,Y6,Y7,Z2,assocN,pairsE,pairsC,pairsL,Y8,Y9,frzL,Qa,Pg.freeze,Zd,Yk,subO,Yl,Zl,Qb,subL,Zb,reduceCtorEq,Nat.reduceEqDiff,Zm,Zc,Ya,Ze,Zn,ite_true,ite_false,and_self,Zg,Q9,Z6,Zw,Yf,Yg,Zz,c1,hall,pureB_posL]
    exact ⟨by decide, subX_eq rfl (pureB_posL _)⟩
def kReverse : C1 := C1.mby (hCons hPoss hNil) (fun d => d.1.length ≤ 1099511627776) (fun _ => .tuple []) (fun d => [.arr 28 2 (d.1.reverse.map aPos)])
theorem ok_Reverse : C1OK Try.prog 108 kReverse := C1OK.mby (by kernel_rfl) (fun d h => calls_Reverse d.1 h) (fun _ _ => Nat.le_refl _)
end Go.Pg
namespace Go.Pg
open Go Go.Proofs

theorem cls_blank0 (b : UInt8) : (cls (b.toNat : Int) true == 0) = blank b := by
  have h := cls_blank b
  rw [bne, Bool.not_inj_iff] at h
  exact h
theorem app1_ints (l : List Int) (k : Int) : l.map (AV.int .i64) ++ [.int .i64 k] = (l ++ [k]).map (AV.int .i64) := by simp
theorem pureB_ints (l : List Int) : (l.map (AV.int .i64)).all AV.pureB = true := by simp [AV.pureB, AV.cells, AV.pureLeaf]
theorem getD_ints (l : List Int) (i : Nat) : (l.map (AV.int .i64)).getD i (.int .i64 0) = .int .i64 (l.getD i 0) := getD_map _ l i 0

def solidF (s : List UInt8) (from_ : Nat) : Option Nat := findUp (fun i => !blank (s.getD i 0)) (s.length - from_) from_
def aSolid (r : Option Nat) : AV := .tuple [.int .i64 ((r.getD 0 : Nat) : Int), .bool r.isSome]
set_option maxHeartbeats 4000000 in
theorem calls_solid (s : List UInt8) (k0 : Nat) (h2 : s.length ≤ 65536) (h1 : k0 ≤ 65536) : CallsR Try.prog 104 [.str s, .int .i64 k0] [] (aSolid (solidF s k0)) [] := by
  refine callsR_of (mrg := true) (dyn := []) (CtrOK.cons ok_Of (CtrOK.nil _)) mixed Try.func104 rfl (by simp [Try.ntmps104]) (by kernel_rfl) ?_
  rw [show Try.f104.results.toList = [.tmp 4, .tmp 5] from by kernel_rfl]
  have hR : solidF s k0 = findUp (fun i => !blank (s.getD i 0)) (s.length - k0) k0 := rfl
  generalize solidF s k0 = R at hR ⊢
  simp (maxSteps := 4000000) only [↓Qo,↓Yv,↓Qk,↓Xa,↓Zy,Zu,Yi,Z4,gw,Zf,↓chk,Yb,↓Yw,↓Yc,Jp,↓Zs,↓Zv,Yx,Pg.look,Za,implies_true,true_and,Yy,Yd,Ye,ofV,Z5,reduceCtorEq,Nat.reduceEqDiff,Ze,Zn,ite_true,ite_false,and_self,Zg,Z6,Zw,Yf,Yg,Zz,kOf]
  refine loopH_intro (α := Nat) (fun i => ([(0, .str s), (4, .int .i64 0), (5, .bool false), (6, .int .i64 i)], [])) (fun i => (i ≤ s.length ∨ i = k0) ∧ R = findUp (fun i => !blank (s.getD i 0)) (s.length - i) i) (fun i => s.length - i) k0 ⟨.inr rfl, hR⟩ ?_ ?_
  · simp (maxSteps := 4000000) only [Pg.look,Z1,Zh,Zi,Y3,Y4,Yj,Y5,Y6,Y7,Z2,Y8,Y9,Qe,Qa,Pg.freeze,Zd,Yk,Yl,Zl,Qb,reduceCtorEq,Nat.reduceEqDiff,Zc,ite_true,ite_false,and_self,Zr]
    all_goals rfl
  rintro i ⟨hi, hR⟩
  by_cases hlt : i < s.length
  · have c1 : decide ((i : Int) < (s.length : Int)) = true := decide_eq_true (by omega)
    have w1 : IntKind.i64.wrap ((i : Int) + 1) = ((i + 1 : Nat) : Int) := by rw [wrap64 (by omega) (by omega)]; rfl
    rw [show s.length - i = (s.length - (i + 1)) + 1 by omega, findUp] at hR
    have hc := cls_blank (s.getD i 0)
    cases hg : blank (s.getD i 0) with
    | false =>
      rw [hg] at hR hc
      simp only [Yz,if_true] at hR
      subst hR
      simp (maxSteps := 4000000) only [↓Qo,↓Jz,↓Jn,↓Yv,↓Qt,↓Qk,↓Zy,↓Ym,Zu,Yi,Z4,gw,Zf,Zp,↓chk,Yb,↓Yw,↓Yc,↓Zs,↓thenA_ret,↓blockA_ret,↓Zv,Yx,Pg.look,Qh,Y2,Yz,Za,implies_true,true_and,and_true,Yy,Yd,Ye,Qi,Qn,Z1,Zh,Zi,ofV,Z5,retA,resK,tupA,Y3,Y4,Yj,Y5,Y6,Y7,Z2,Y8,Y9,frzL,Qe,Qa,Pg.freeze,Zd,Yk,Yl,Zl,Qb,subL,↓callT,callC,callV,callH,Q6,normA,resL,Jg,Qj,resM,Jq,Jr,Zk,reduceCtorEq,Nat.reduceEqDiff,Zc,Ze,Z0,Zx,ite_true,ite_false,Qm,and_self,Zr,J4,J6,Q7,Qx,Qy,Zg,Yn,Jh,Q8,Js,Jt,Qz,Q0,Q1,Zq,Ji,Z6,Zw,Yf,Yg,Zz,↓msel,muC,↓callP,Jj,tk9,kOf,aSolid,c1,hc]
      exact ⟨by omega, by omega⟩
    | true =>
      rw [hg] at hR hc
      simp only [Yu,Za,if_false] at hR
      simp (maxSteps := 4000000) only [↓Qo,↓Jz,↓Yv,↓Qt,↓Qk,↓Zy,↓Ym,↓Zt,Zu,Yi,Z4,gw,Zf,Zp,↓chk,Yb,↓Yw,↓Yc,↓Zs,↓Ja,↓Zv,Yx,Pg.look,Qh,Y2,Yu,Za,implies_true,true_and,and_true,Yy,Yd,Ye,Qi,Qn,Z1,Zh,Zi,ofV,Z5,Y3,Y4,Yj,Y5,Y6,Y7,Z2,Y8,Y9,Qe,Qa,Pg.freeze,Zd,Yk,Yl,Zl,Qb,↓callT,callC,callV,callH,Q6,normA,resL,Jg,Qj,resM,Jq,Jr,reduceCtorEq,Nat.reduceEqDiff,Zc,Ze,Z0,Zx,ite_true,ite_false,and_self,Zr,J4,J6,Q7,Qx,Qy,Zg,Yn,Jh,Q8,Js,Jt,Qz,Q0,Q1,Zq,Ji,Z6,Zw,Yf,Yg,Zz,↓msel,muC,↓callP,Jj,tk9,kOf,c1,w1,hc]
      exact ⟨⟨by omega, by omega⟩, i + 1, ⟨.inl (by omega), hR⟩, by omega, rfl⟩
  · have c1 : decide ((i : Int) < (s.length : Int)) = false := decide_eq_false (by omega)
    rw [show s.length - i = 0 by omega, findUp] at hR
    subst hR
    simp (maxSteps := 4000000) only [↓Qo,↓Jn,↓Xb,↓Yv,↓Qt,↓Zy,↓Zt,Zu,Yi,Z4,gw,Zf,Zp,↓chk,Yb,↓Yw,↓Yc,↓Zs,↓J3,↓J0,↓Zv,Yx,Pg.look,Qh,Y2,Za,implies_true,Yy,Yd,Ye,Qi,Qn,Z1,Zh,Zi,ofV,Z5,retA,resK,tupA,Y3,Y4,Yj,Y5,Y6,Y7,Z2,Y8,Y9,frzL,Qe,Qa,Pg.freeze,Zd,Yk,Yl,Zl,Qb,subL,Option.getD_none,reduceCtorEq,Nat.reduceEqDiff,Zc,Ze,ite_true,ite_false,Option.isSome_none,and_self,Zr,Zg,Z7,Z6,Zw,Yf,Yg,Zz,tk9,kOf,aSolid,c1]
def kSolid : C1 := C1.by [.id, .id] (lCons cStr (lOne (cInt .i64))) (fun d => d.1.length ≤ 65536 ∧ 0 ≤ d.2 ∧ d.2 ≤ 65536) (fun d => aSolid (solidF d.1 d.2.toNat)) (fun _ => [])
theorem ok_solid : C1OK Try.prog 104 kSolid := C1OK.by (by kernel_rfl) (fun d h => by
  obtain ⟨k, hk⟩ := Int.eq_ofNat_of_zero_le h.2.1
  have := calls_solid d.1 k h.1 (by have := h.2.2; omega)
  rw [show d.2.toNat = k by omega]
  have e : (lCons cStr (lOne (cInt .i64))).enc d = [.str d.1, .int .i64 k] := by show [AV.str d.1, AV.int .i64 d.2] = _; rw [hk]
  rw [e]; exact this) (fun _ => rfl) (fun _ => rfl)

def isStop (b : UInt8) : Bool := b == 46 || b == 33 || b == 63
def stopB (s : List UInt8) (i : Nat) : Bool := isStop (s.getD i 0) && (i + 1 == s.length || blank (s.getD (i + 1) 0))
set_option maxHeartbeats 4000000 in
theorem calls_stop (s : List UInt8) (i : Nat) (h2 : s.length ≤ 65536) (h1 : i < s.length) : CallsR Try.prog 110 [.str s, .int .i64 i] [] (.bool (stopB s i)) [] := by
  refine callsR_of (mrg := true) (dyn := []) (CtrOK.cons ok_Of (CtrOK.nil _)) mixed Try.func110 rfl (by simp [Try.ntmps110]) (by kernel_rfl) ?_
  rw [show Try.f110.results.toList = [.tmp 4] from by kernel_rfl]
  have w1 : IntKind.i64.wrap ((i : Int) + 1) = ((i + 1 : Nat) : Int) := by rw [wrap64 (by omega) (by omega)]; rfl
  have w2 : IntKind.i64.wrap ((s.length : Int) - 1) = (s.length : Int) - 1 := wrap64 (by omega) (by omega)
  have e1 : ((i : Int) == (s.length : Int) - 1) = (i + 1 == s.length) := by
    rw [Bool.eq_iff_iff, beq_iff_eq, beq_iff_eq]; omega
  have e2 := cls_blank0 (s.getD (i + 1) 0)
  unfold stopB isStop
  have b1 : (((s.getD i 0).toNat : Int) == 46) = (s.getD i 0 == 46) := byte_eq (s.getD i 0) 46
  have b2 : (((s.getD i 0).toNat : Int) == 33) = (s.getD i 0 == 33) := byte_eq (s.getD i 0) 33
  have b3 : (((s.getD i 0).toNat : Int) == 63) = (s.getD i 0 == 63) := byte_eq (s.getD i 0) 63
  generalize (s.getD i 0 == 46) = x1 at b1 ⊢
  generalize (s.getD i 0 == 33) = x2 at b2 ⊢
  generalize (s.getD i 0 == 63) = x3 at b3 ⊢
  cases x1 <;> cases x2 <;> cases x3
  all_goals
    simp (maxSteps := 4000000) only [↓Qo,↓Jz,↓Jn,↓Yv,↓Qt,↓Qk,↓Zy,↓Ym,↓Zt,Zu,Yi,Z4,gw,Zf,Je,kselH_1,Zp,gkind,↓chk,Yb,↓Yw,↓Yc,Jp,↓Zs,↓thenA_ret,↓Ja,↓blockA_ret,↓Zv,Yx,Pg.look,Qh,Y2,dstOf,Za,implies_true,imp_self,true_and,and_true,pickC,pickV,unc,gof,mux,mergeK,condsL,Yy,Yd,Ye,Qi,Qn,Z1,Zh,Zi,mergeable,look_stripE,ofV,Z5,sameK,retA,resK,tupA,Y3,Y4,Yj,Y5,Y6,Y7,Z2,Y8,Y9,Qe,Qa,Pg.freeze,Zd,Yk,Yl,Zl,Qb,↓callT,callC,callV,Q6,normA,resL,Jg,Qj,resM,Jq,Jr,Op.operands,Call.operands,Qv,Z3,Zo,Zb,Yr,reduceCtorEq,Nat.reduceEqDiff,Zm,Zc,Ys,Ze,Z0,Zx,Zn,ite_true,ite_false,Bool.if_true_left,Bool.decide_eq_true,Yh,and_self,Bool.not_eq_true',Zr,J4,J6,Jw,Q7,Qx,Qy,Zg,Bool.or_self,Qw,Bool.or_true,Yn,Jh,Q8,Js,Jt,Qz,Q0,Q1,Zq,Ji,Z6,Zw,Yf,Yg,Zz,↓msel,muC,↓callP,Jj,tk9,kOf,w1,w2,e1,e2,b1,b2,b3]
    first | exact ⟨⟨by omega, h1⟩, rfl⟩ | exact ⟨⟨by omega, h1⟩, fun h => ⟨h, by omega, by simp only [beq_eq_false_iff_ne,ne_eq] at h; omega⟩, rfl⟩
def kStop : C1 := C1.by [.id, .id] (lCons cStr (lOne (cInt .i64))) (fun d => d.1.length ≤ 65536 ∧ 0 ≤ d.2 ∧ d.2.toNat < d.1.length) (fun d => .bool (stopB d.1 d.2.toNat)) (fun _ => [])
theorem ok_stop : C1OK Try.prog 110 kStop := C1OK.by (by kernel_rfl) (fun d h => by
  obtain ⟨k, hk⟩ := Int.eq_ofNat_of_zero_le h.2.1
  have := calls_stop d.1 k h.1 (by have := h.2.2; omega)
  rw [show d.2.toNat = k by omega]
  have e : (lCons cStr (lOne (cInt .i64))).enc d = [.str d.1, .int .i64 k] := by show [AV.str d.1, AV.int .i64 d.2] = _; rw [hk]
  rw [e]; exact this) (fun _ => rfl) (fun _ => rfl)

/-- Where sentences begin in a line's first bytes, and whether one begins with the next byte that is no blank. -/
def sentTo (s : List UInt8) (o : Bool) : Nat → List Int × Bool
  | 0 => ([], o)
  | k + 1 => (if ((sentTo s o k).2 && !blank (s.getD k 0)) = true then (sentTo s o k).1 ++ [(k : Int)] else (sentTo s o k).1, (if ((sentTo s o k).2 && !blank (s.getD k 0)) = true then false else (sentTo s o k).2) || stopB s k)
theorem sentTo_len (s : List UInt8) (o : Bool) : ∀ k, (sentTo s o k).1.length ≤ k
  | 0 => by simp [sentTo]
  | k + 1 => by
    have := sentTo_len s o k
    simp only [sentTo]
    split
    · rw [List.length_append, List.length_singleton]; omega
    · omega
set_option maxRecDepth 20000 in
set_option maxHeartbeats 4000000 in
theorem calls_starts (s : List UInt8) (o : Bool) (h2 : s.length ≤ 65536) : CallsR Try.prog 103 [.str s, .bool o] [] (.tuple [.sl 1 ((sentTo s o s.length).1.map (AV.int .i64)), .bool (sentTo s o s.length).2]) [] := by
  refine callsR_of (mrg := true) (dyn := []) (CtrOK.cons ok_Of (CtrOK.cons ok_stop (CtrOK.nil _))) mixed Try.func103 rfl (by simp [Try.ntmps103]) (by kernel_rfl) ?_
  rw [show Try.f103.results.toList = [.tmp 4, .tmp 5] from by kernel_rfl]
  simp (maxSteps := 4000000) only [↓Qo,↓Yv,↓Qk,↓Xa,↓Zy,Zu,Yi,Z4,gw,Zf,↓chk,Yb,↓Yw,↓Yc,Jp,↓Zs,↓Zv,Yx,Pg.look,Za,implies_true,true_and,Yy,Yd,Ye,ofV,Z5,reduceCtorEq,Nat.reduceEqDiff,Ze,Zn,ite_true,ite_false,and_self,Zg,Z6,Zw,Yf,Yg,Zz,tk9,kOf,kStop]
  refine loopH_intro (α := Nat × List Int × Bool) (fun x => ([(0, .str s), (1, .bool x.2.2), (4, .nls), (5, .bool false), (6, .own 0 1 x.2.1.length), (9, .int .i64 s.length), (10, .int .i64 x.1)], [.arr 3 1 (x.2.1.map (AV.int .i64))]))
    (fun x => x.1 ≤ s.length ∧ x.2 = sentTo s o x.1) (fun x => s.length - x.1) (0, [], o) ⟨Nat.zero_le _, rfl⟩ ?_ ?_
  · simp (maxSteps := 4000000) only [Pg.look,Z1,aliveO,Zh,Zi,Y3,Y4,Yj,pairsO,Y5,Y6,Y7,Z2,assocN,pairsE,pairsC,pairs0,Y8,Y9,Qe,Qa,Pg.freeze,Zd,Yk,subO,Yl,Zl,Qb,Zb,reduceCtorEq,Nat.reduceEqDiff,Zm,Zc,Ze,Zx,ite_true,ite_false,and_self,Xc,Z7,J1]
    all_goals rfl
  rintro ⟨i, out, b⟩ ⟨hi, hx⟩
  dsimp only at hi hx
  have hol : out.length ≤ i := by have := sentTo_len s o i; rw [← hx] at this; exact this
  by_cases hlt : i < s.length
  · have c1 : decide ((i : Int) < (s.length : Int)) = true := decide_eq_true (by omega)
    have w1 : IntKind.i64.wrap ((i : Int) + 1) = ((i + 1 : Nat) : Int) := by rw [wrap64 (by omega) (by omega)]; rfl
    have hc := cls_blank (s.getD i 0)
    have hs : sentTo s o (i + 1) = (if (b && !blank (s.getD i 0)) = true then out ++ [(i : Int)] else out, (if (b && !blank (s.getD i 0)) = true then false else b) || stopB s i) := by
      simp only [sentTo,← hx]
    cases b <;> cases hb : blank (s.getD i 0)
    all_goals
      rw [hb] at hs hc
      simp only [Yu,Yz,J2,Bool.and_false,Za,if_true,if_false,Bool.false_or,Bool.true_or] at hs
      simp (maxSteps := 4000000) only [↓Qo,↓Jz,↓Yv,↓Qt,↓Qk,↓Zy,↓Ym,↓Zt,Zu,Yi,Z4,gw,Zf,Je,kselH_1,Zp,gkind,↓chk,Yb,noW,↓Yw,↓Yc,↓Q4,↓Zs,↓Ja,↓Zv,Yx,Pg.look,Qh,Y2,dstOf,Yz,Yu,Za,Q2,false_implies,implies_true,imp_self,true_and,and_true,forall_const,pickC,pickV,unc,gof,mux,mergeK,condsL,Yy,Yd,Ye,Qi,Qn,Z1,aliveO,Zh,Zi,Nat.reduceAdd,mergeable,look_stripE,ofV,Z5,sameK,Y3,Y4,Yj,pairsO,Y5,Y6,Y7,Z2,assocN,pairsE,pairsC,pairs0,Y8,Y9,Qe,Qa,Pg.freeze,Zd,Yk,subO,Yl,Zl,Qb,srcV,srcE,appK,objAt,↓callT,callC,callV,Q6,normA,resL,Jg,Qj,resM,Jq,Jr,AV.cells,AV.definite,AV.leaf,AV.leafy,Op.operands,Call.operands,Qv,Z3,Zo,Zb,Yr,reduceCtorEq,Nat.reduceEqDiff,Nat.reduceAdd,Zm,Zc,Ys,Ya,Ze,Z0,Zx,Qc,Zn,ite_true,ite_false,Qm,Yt,Y1,Yh,and_self,Xc,Zj,J4,J6,Jw,rg1,J5,Q7,Qx,Qy,Zg,beq_self_eq_true,Yn,Nat.reducePow,Jh,Q8,Js,Jt,Qz,Q0,Q1,Zq,Nat.reduceLeDiff,J1,Nat.mul_one,Ji,Z6,Zw,Yf,Yg,Zz,↓msel,muC,↓callP,Jj,eb3,tk9,tk110,kOf,kStop,app1_ints,c1,w1,hc]
      first
        | exact ⟨⟨h2, by omega, hlt⟩, (i + 1, _), ⟨hlt, hs.symm⟩, by dsimp only; omega, subX_eq rfl (pureB_ints _), rfl, rfl, rfl⟩
        | exact ⟨⟨by omega, hlt⟩, (i + 1, _), ⟨hlt, hs.symm⟩, by dsimp only; omega, subX_eq rfl (pureB_ints _), rfl, rfl, rfl⟩
        | exact ⟨⟨by omega, hlt⟩, ⟨by decide, by omega⟩, ⟨h2, by omega, hlt⟩, (i + 1, _), ⟨hlt, hs.symm⟩, by dsimp only; omega, subX_eq rfl (pureB_ints _), rfl, by simp, rfl⟩
  · have c1 : decide ((i : Int) < (s.length : Int)) = false := decide_eq_false (by omega)
    have hil : i = s.length := by omega
    subst hil
    simp (maxSteps := 4000000) only [↓Qo,↓Jn,↓Xb,↓Yv,↓Qt,↓Zy,↓Zt,Zu,Yi,Z4,gw,Zf,Zp,↓chk,Yb,↓Yw,↓Yc,↓Zs,↓J3,↓J0,↓Zv,Yx,Pg.look,Qh,Y2,Za,implies_true,true_and,and_true,Yy,Yd,Ye,Qi,Qn,Z1,Zh,Zi,retA,resK,tupA,Y3,Y4,Yj,Y5,Y6,Y7,Z2,Y8,Y9,frzL,Qe,Qa,Pg.freeze,Zd,Ju,Yk,Yl,Zl,Qb,subL,objAt,Qj,resM,frzAt,Zb,reduceCtorEq,Nat.reduceEqDiff,Zc,Ze,Qc,ite_true,ite_false,AV.sl.injEq,Yt,Y1,Yh,and_self,Zr,Zj,resIn,Ql,Zg,Qw,beq_self_eq_true,Z6,Zw,Yf,Yg,Zz,kOf,kStop,pureB_ints,c1]
    rw [← hx]
    exact ⟨rfl, rfl⟩
def kPStarts : C1 := C1.by [.id, .id] (lCons cStr (lOne cBool)) (fun d => d.1.length ≤ 65536) (fun d => .tuple [.sl 1 ((sentTo d.1 d.2 d.1.length).1.map (AV.int .i64)), .bool (sentTo d.1 d.2 d.1.length).2]) (fun _ => [])
theorem ok_pstarts : C1OK Try.prog 103 kPStarts := C1OK.by (by kernel_rfl) (fun d h => calls_starts d.1 d.2 h) (fun _ => rfl) (fun _ => rfl)

/-! ### All lines -/
def flatTo {α : Type} (f : Nat → List α) (n : Nat) : List α := (List.range n).flatMap f
theorem flatTo_succ {α : Type} (f : Nat → List α) (n : Nat) : flatTo f (n + 1) = flatTo f n ++ f n := by
  unfold flatTo
  rw [List.range_succ, List.flatMap_append]
  simp
theorem flatTo_get {α : Type} (f : Nat → List α) (i : Nat) : ∀ (n : Nat), i < n → ∀ (j : Nat) (p : α), (f i)[j]? = some p → (flatTo f n)[(flatTo f i).length + j]? = some p := by
  intro n
  induction n with
  | zero => intro h; omega
  | succ n ih =>
    intro h j p hp
    rw [flatTo_succ]
    by_cases he : i = n
    · subst he
      rw [List.getElem?_append_right (by omega), show (flatTo f i).length + j - (flatTo f i).length = j by omega]
      exact hp
    · have h1 := ih (by omega) j p hp
      rw [List.getElem?_append_left (List.getElem?_eq_some_iff.1 h1).1]
      exact h1
theorem flatTo_len {α : Type} (f : Nat → List α) (B : Nat) (h : ∀ i, (f i).length ≤ B) : ∀ n, (flatTo f n).length ≤ n * B
  | 0 => by simp [flatTo]
  | n + 1 => by
    have := flatTo_len f B h n
    have := h n
    rw [flatTo_succ, List.length_append, Nat.add_mul, Nat.one_mul]; omega

def sentOpen (ls : Ls) : Nat → Bool
  | 0 => true
  | k + 1 => if (ls.getD k [] == []) = true then true else (sentTo (ls.getD k []) (sentOpen ls k) (ls.getD k []).length).2 && (solidF (ls.getD k []) 0).isSome
def sentLine (ls : Ls) (k : Nat) : List (Int × Int) :=
  if (ls.getD k [] == []) = true then (if (k == 0 || !(ls.getD (k - 1) [] == [])) = true then [((k : Int), 0)] else [])
  else (sentTo (ls.getD k []) (sentOpen ls k) (ls.getD k []).length).1.map fun c => ((k : Int), c)
def sents (ls : Ls) : List (Int × Int) := flatTo (sentLine ls) ls.length

set_option maxRecDepth 20000 in
set_option maxHeartbeats 8000000 in
theorem it_sent (ls : Ls) (hf : okText ls) : ItR Try.prog 102 [.rp [.sl 1 (ls.map .str)]] (Tell.seq ((sents ls).map fun p => [aPos p])) := by
  refine itR_of (mrg := true) (dyn := []) (CtrOK.cons ok_pstarts (CtrOK.cons ok_solid (CtrOK.nil _))) mixed Try.func102 rfl (by simp [Try.ntmps102]) (by kernel_rfl) (by kernel_rfl) ?_ ?_
  · intro x hx
    obtain ⟨p, _, rfl⟩ := List.mem_map.1 hx
    rfl
  intro l
  have hll := hf.1
  have hls := fits_getD hf
  simp (maxSteps := 4000000) only [↓Jd,↓Qf,↓Qp,↓wpYH_loop,↓Z8,Yo,Y0,Yp,↓Qg,yarg,Yq,↓Z9,gw,Zf,↓chk,Yb,noW,↓Yw,↓Yc,↓Q4,Jp,↓Zv,Yx,Pg.look,Za,implies_true,true_and,and_true,Yy,Yd,Ye,ofV,Z5,slen,Qr,TK.cells,Zb,Zk,reduceCtorEq,Nat.reduceEqDiff,Zn,ite_true,ite_false,Option.some.injEq,AV.int.injEq,and_self,exists_eq_left',Zj,Zw,Yf,Yg,tk22,kPStarts,kSolid]
  refine loopYH_intro (α := Nat) (fun i => (some (flatTo (sentLine ls) i).length, [(0, .yld l), (1, .rp [.sl 1 (ls.map .str)]), (3, .bool (sentOpen ls i)), (12, .sl 1 (ls.map .str)), (13, .int .i64 ls.length), (14, .int .i64 i)], []))
    (fun i => i ≤ ls.length) (fun i => ls.length - i) 0 (by omega) (by simp [flatTo]) ?_ ?_
  · simp (maxSteps := 4000000) only [Pg.look,true_and,and_true,Z1,Zh,Zi,Y3,Y4,Yj,Y5,Y6,Y7,Z2,Y8,Y9,Qe,Qa,Pg.freeze,Zd,Yk,Yl,Zl,Qb,reduceCtorEq,Nat.reduceEqDiff,Zc,ite_true,ite_false,and_self,Zr,Z7]
    all_goals rfl
  intro i hi
  by_cases hlt : i < ls.length
  · have hct : decide ((i : Int) < (ls.length : Int)) = true := decide_eq_true (by omega)
    have hsl := hls i
    have hts := flatTo_succ (sentLine ls) i
    have hop : sentOpen ls (i + 1) = if (ls.getD i [] == []) = true then true else (sentTo (ls.getD i []) (sentOpen ls i) (ls.getD i []).length).2 && (solidF (ls.getD i []) 0).isSome := rfl
    have hln : sentLine ls i = if (ls.getD i [] == []) = true then (if (i == 0 || !(ls.getD (i - 1) [] == [])) = true then [((i : Int), 0)] else []) else (sentTo (ls.getD i []) (sentOpen ls i) (ls.getD i []).length).1.map fun c => ((i : Int), c) := rfl
    have w1 : IntKind.i64.wrap ((i : Int) + 1) = ((i + 1 : Nat) : Int) := by rw [wrap64 (by omega) (by omega)]; rfl
    have hg := flatTo_get (sentLine ls) i ls.length hlt
    cases hse : (ls.getD i [] == []) with
    | true =>
      rw [hse, if_pos rfl] at hop hln
      cases i with
      | zero =>
        have hln : sentLine ls 0 = [(0, 0)] := hln
        have hy0 := hg 0 (0, 0) (by rw [hln]; rfl)
        rw [Nat.add_zero] at hy0
        have hy1 : (sents ls)[(flatTo (sentLine ls) 0).length]? = some (0, 0) := hy0
        have hct0 : decide ((0 : Int) < (ls.length : Int)) = true := hct
        have w1 : IntKind.i64.wrap ((0 : Int) + 1) = 1 := rfl
        simp (maxSteps := 4000000) only [↓Jd,↓Q5,↓Xd,↓Jo,↓Qf,↓Qd,↓Qp,↓Z8,Yo,Y0,Yp,↓Qg,yarg,Yq,Xe,J9,↓Z9,↓J7,↓Jk,↓Xf,↓Jb,↓Jc,↓Xg,endT_none,Jf,↓Ym,↓Zt,↓fixG,setG,gw,Zf,Je,Zp,↓chk,Yb,noW,↓Yw,↓Yc,↓Q4,↓Zv,Yx,Pg.look,Qh,Y2,strOp,dstOf,J2,Yz,Yu,Za,Q2,implies_true,true_and,and_true,pickC,pickV,unc,gof,mux,Yy,Yd,Ye,Qi,Qn,strV,Z1,Zh,Zi,Nat.reduceAdd,ofV,Z5,Y3,Y4,Yj,Y5,Y6,Y7,Z2,Y8,Y9,Qe,Qa,Pg.freeze,Zd,Yk,Yl,Zl,Qb,Qr,AV.cells,TK.cells,AV.definite,lay,buildL,Z3,Zo,Zb,Yr,Q3,Zk,reduceCtorEq,Nat.reduceEqDiff,Nat.reduceAdd,Zm,Zc,Ys,Ya,Ze,Z0,Zx,Zn,Int.reduceToNat,ite_true,ite_false,Option.some.injEq,Qm,AV.agg.injEq,Yt,Y1,Yh,and_self,exists_eq_left',Zr,Zj,Int.reduceLE,beq_self_eq_true,Z7,Xh,Qs,Qu,Qq,Nat.sub_zero,Nat.reduceLeDiff,Zw,Yf,Yg,tk9,dz9,tk22,tk28,tz28,kPStarts,kSolid,hct0,hse,Jl,hy1,w1]
        exact ⟨by omega, rfl, rfl, 1, by omega, by omega, by rw [hts, hln, List.length_append]; rfl, hop.symm, rfl⟩
      | succ i =>
        have w2 : IntKind.i64.wrap (((i + 1 : Nat) : Int) - 1) = (i : Int) := by rw [wrap64 (by omega) (by omega)]; omega
        have e1 : (((i + 1 : Nat) : Int) == 0) = false := by rw [beq_eq_false_iff_ne]; omega
        have e2 : (i + 1 == 0) = false := by rw [beq_eq_false_iff_ne]; omega
        rw [e2, Bool.false_or, Nat.add_sub_cancel] at hln
        cases h0 : (ls.getD i [] == []) with
        | false =>
          rw [h0, Bool.not_false, if_pos rfl] at hln
          have hy0 := hg 0 (((i + 1 : Nat) : Int), 0) (by rw [hln]; rfl)
          rw [Nat.add_zero] at hy0
          have hy1 : (sents ls)[(flatTo (sentLine ls) (i + 1)).length]? = some (((i + 1 : Nat) : Int), 0) := hy0
          simp (maxSteps := 4000000) only [↓Jd,↓Q5,↓Xd,↓Jo,↓Qf,↓Qd,↓Qp,↓Z8,Yo,Y0,Yp,↓Qg,yarg,Yq,Xe,J9,↓Z9,↓J7,↓Jk,↓Xf,↓Jb,↓Jc,↓Xg,endT_none,Jf,↓Ym,↓Zt,↓fixG,setG,gw,Zf,Je,Zp,↓chk,Yb,noW,↓Yw,↓Yc,↓Q4,↓Zv,Yx,Pg.look,Qh,Y2,strOp,dstOf,J2,Yz,Yu,Za,Q2,implies_true,true_and,and_true,pickC,pickV,unc,gof,mux,Yy,Yd,Ye,Qi,Qn,strV,Z1,Zh,Zi,Nat.reduceAdd,ofV,Z5,Y3,Y4,Yj,Y5,Y6,Y7,Z2,Y8,Y9,Qe,Qa,Pg.freeze,Zd,Yk,Yl,Zl,Qb,Qr,AV.cells,TK.cells,AV.definite,lay,buildL,Z3,Zo,Zb,Yr,Q3,Zk,reduceCtorEq,Nat.reduceEqDiff,Nat.reduceAdd,Zm,Zc,Ys,Ya,Ze,Z0,Zx,Zn,ite_true,ite_false,Option.some.injEq,Qm,AV.agg.injEq,Yt,Y1,Yh,and_self,exists_eq_left',Zr,Zj,Xh,Zq,Qs,Qu,Qq,Nat.reduceLeDiff,Zw,Yf,Yg,tk9,dz9,tk22,tk28,tz28,kPStarts,kSolid,hct,hse,e1,h0,Jl,hy1,w1,w2]
          exact ⟨by omega, by omega, rfl, rfl, i + 2, by omega, by omega, by rw [hts, hln, List.length_append]; rfl, hop.symm, rfl⟩
        | true =>
          rw [h0, Bool.not_true, if_neg (by simp)] at hln
          simp (maxSteps := 4000000) only [↓Jd,↓Q5,↓Jo,↓Qf,↓Qd,↓Qp,↓Z8,Yo,Y0,Yp,↓Qg,yarg,Yq,↓Z9,↓Jk,↓Jb,↓Jc,Jf,↓Ym,↓Zt,↓fixG,setG,gw,Zf,Je,Zp,↓chk,Yb,noW,↓Yw,↓Yc,↓Q4,↓Zv,Yx,Pg.look,Qh,Y2,strOp,dstOf,Yz,Yu,Za,implies_true,true_and,and_true,pickC,pickV,unc,gof,mux,Yy,Yd,Ye,Qi,Qn,strV,Z1,Zh,Zi,ofV,Z5,Y3,Y4,Yj,Y5,Y6,Y7,Z2,Y8,Y9,Qe,Qa,Pg.freeze,Zd,Yk,Yl,Zl,Qb,Qr,AV.cells,TK.cells,Z3,Zo,Zb,Yr,Zk,reduceCtorEq,Nat.reduceEqDiff,Zc,ite_true,ite_false,Option.some.injEq,and_self,exists_eq_left',Zr,Zj,Xh,Zq,Zw,Yf,Yg,tk9,dz9,tk22,kPStarts,kSolid,hct,hse,e1,h0,w1,w2]
          exact ⟨by omega, by omega, i + 2, by omega, by omega, by rw [hts, hln, List.append_nil], hop.symm, rfl⟩
    | false =>
      rw [hse, if_neg (by simp)] at hop hln
      have hlen := sentTo_len (ls.getD i []) (sentOpen ls i) (ls.getD i []).length
      obtain ⟨r, hr⟩ : ∃ r, r = sentTo (ls.getD i []) (sentOpen ls i) (ls.getD i []).length := ⟨_, rfl⟩
      rw [← hr] at hop hln hlen
      obtain ⟨out, b⟩ := r
      dsimp only at hop hln hlen
      simp (maxSteps := 4000000) only [↓Jd,↓Q5,↓Qf,↓Qd,↓Qp,↓wpYH_loop,↓Z8,Yo,Y0,Yp,↓Qg,yarg,Yq,↓Z9,↓Ym,↓Zt,gw,Zf,Zp,↓chk,Yb,noW,↓Yw,↓Yc,↓Q4,↓Zv,Yx,Pg.look,Qh,Y2,strOp,Za,false_implies,implies_true,true_and,and_true,Yy,Yd,Ye,Qi,Qn,strV,ofV,Z5,Pg.freeze,Zd,slen,Qr,↓callT,callC,callV,callH,Q6,normA,resL,Jg,Qj,resM,Jq,Jr,AV.cells,TK.cells,Zo,Zb,Zk,reduceCtorEq,Nat.reduceEqDiff,Zm,Zc,Ze,Z0,Zx,Zn,ite_true,ite_false,Option.some.injEq,AV.int.injEq,Prod.mk.injEq,and_self,exists_eq_left',Zj,J6,J5,Q7,Qx,Qy,Yn,Jh,Q8,Js,Jt,Qz,Q0,Q1,Xh,Zq,Ji,Zw,Yf,Yg,↓msel,muC,↓callP,Jj,tk9,dz9,tk22,tk110,kPStarts,kSolid,hct,hse,← hr]
      refine ⟨by omega, by omega, ?_⟩
      refine loopYH_intro (α := Nat) (fun k => (some ((flatTo (sentLine ls) i).length + k), [(0, .yld l), (1, .rp [.sl 1 (ls.map .str)]), (4, .int .i64 i), (5, .str (ls.getD i [])), (7, .bool b), (12, .sl 1 (ls.map .str)), (13, .int .i64 ls.length), (14, .int .i64 i), (44, .sl 1 (out.map (AV.int .i64))), (45, .int .i64 out.length), (46, .int .i64 k)], []))
        (fun k => k ≤ out.length) (fun k => out.length - k) 0 (by omega) ?_ ?_ ?_
      · rfl
      · simp (maxSteps := 4000000) only [Pg.look,Z1,Zh,Zi,Y3,Y4,Yj,Y5,Y6,Y7,Z2,Y8,Y9,Qe,Qa,Pg.freeze,Zd,Yk,Yl,Zl,Qb,reduceCtorEq,Nat.reduceEqDiff,Zc,ite_true,ite_false,and_self,Zr,Z7]
        all_goals rfl
      intro k hk
      by_cases hk2 : k < out.length
      · have c2 : decide ((k : Int) < (out.length : Int)) = true := decide_eq_true (by omega)
        have w3 : IntKind.i64.wrap ((k : Int) + 1) = ((k + 1 : Nat) : Int) := by rw [wrap64 (by omega) (by omega)]; rfl
        have hy0 := hg k ((i : Int), out.getD k 0) (by rw [hln, List.getElem?_map, List.getD_eq_getElem?_getD, List.getElem?_eq_getElem hk2]; rfl)
        have hy1 : (sents ls)[(flatTo (sentLine ls) i).length + k]? = some ((i : Int), out.getD k 0) := hy0
        simp (maxSteps := 4000000) only [↓Jd,↓Q5,↓Xd,↓Qf,↓Qd,↓Qp,↓Z8,Yo,Y0,Yp,↓Qg,yarg,Yq,Xe,J9,↓Z9,↓J7,↓Jm,↓Xf,↓Xg,endT_none,↓Ym,↓Zt,gw,Zf,Zp,↓chk,Yb,noW,↓Yw,↓Yc,↓Q4,↓Zv,Yx,Pg.look,Qh,Y2,J2,Yz,Yu,Za,implies_true,true_and,and_true,Yy,Yd,Ye,Qi,Qn,Z1,Zh,Zi,Nat.reduceAdd,ofV,Z5,Y3,Y4,Yj,Y5,Y6,Y7,Z2,Y8,Y9,Qe,Qa,Pg.freeze,Zd,Yk,Yl,Zl,Qb,Qr,AV.cells,TK.cells,AV.definite,lay,buildL,Zo,Zb,Q3,Zk,reduceCtorEq,Nat.reduceEqDiff,Nat.reduceAdd,Zm,Zc,Ys,Ya,Ze,Z0,Zx,Zn,ite_true,ite_false,Option.some.injEq,Qm,AV.agg.injEq,Yt,Y1,Yh,and_self,exists_eq_left',Zr,Zj,Zq,Qs,Qu,Jv,Qq,Nat.reduceLeDiff,Nat.le_refl,Xi,Zw,Yf,Yg,tk3,dz3,tk28,tz28,tk110,kPStarts,kSolid,getD_ints,Jl,hy1,c2,w3]
        exact ⟨⟨by omega, hk2⟩, rfl, rfl, k + 1, by omega, by omega, by omega, rfl⟩
      · have c2 : decide ((k : Int) < (out.length : Int)) = false := decide_eq_false (by omega)
        have hke : k = out.length := by omega
        subst hke
        obtain ⟨so, hso⟩ : ∃ so, so = solidF (ls.getD i []) 0 := ⟨_, rfl⟩
        rw [← hso] at hop
        simp (maxSteps := 4000000) only [↓Jd,↓Jo,↓Qf,↓Qd,↓Z8,Yo,Y0,Yp,↓Qg,yarg,Yq,↓Z9,↓Jk,↓Jm,↓Jb,↓Jc,Jf,↓Zt,iselH_if,↓fixG,setG,gw,Zf,Je,Zp,↓chk,Yb,↓Yw,↓Yc,↓Zv,Yx,Pg.look,Qh,Y2,dstOf,Yu,Za,Q2,false_implies,implies_true,true_and,and_true,pickC,pickV,unc,gof,mux,Yy,Yd,Ye,Qi,Qn,Z1,Zh,Zi,ofV,Z5,Y3,Y4,Yj,Y5,Y6,Y7,Z2,Y8,Y9,Qe,Qa,Pg.freeze,Zd,Yk,Yl,Zl,Qb,↓callT,callC,callV,callH,Q6,normA,resL,Jg,Qj,resM,Jq,Jr,Z3,Zo,Zb,Yr,Zk,reduceCtorEq,Nat.reduceEqDiff,Zm,Zc,Ze,Z0,Zx,Zn,Int.reduceToNat,ite_true,ite_false,Option.some.injEq,Prod.mk.injEq,and_self,exists_eq_left',Zr,Zj,J4,Int.reduceLE,J5,Q7,Qx,Qy,Yn,Jh,Q8,Js,Jt,Qz,Q0,Q1,Ji,Zw,Yf,Yg,↓msel,muC,↓callP,Jj,kPStarts,kSolid,aSolid,← hso,c2,w1]
        refine ⟨hsl, fun hb => ?_, fun hb => ?_⟩
        · rw [hb] at hop
          exact ⟨i + 1, by omega, by omega, by rw [hts, hln, List.length_append, List.length_map], hop.symm, rfl⟩
        · rw [hb] at hop
          exact ⟨i + 1, by omega, by omega, by rw [hts, hln, List.length_append, List.length_map], hop.symm, rfl⟩
  · have hcf : decide ((i : Int) < (ls.length : Int)) = false := decide_eq_false (by omega)
    have hil : i = ls.length := by omega
    subst hil
    simp (maxSteps := 4000000) only [↓Jd,↓Jo,↓Qf,↓Qd,↓Z8,Yo,Y0,Yp,↓Qg,yarg,Yq,↓Z9,↓Jk,↓Jb,↓Jc,Jf,↓Zt,gw,Zf,Zp,↓chk,Yb,↓Yw,↓Yc,↓Zv,Yx,Pg.look,Qh,Y2,Za,implies_true,true_and,Yy,Yd,Ye,Qi,Qn,reduceCtorEq,Nat.reduceEqDiff,ite_true,ite_false,and_self,Zj,Zw,Yf,Yg,hcf]
    rfl
def aSent (ls : Ls) : AV := .fn 102 [.rp [.sl 1 (ls.map .str)]]
def kSents1 : C1 := C1.itBy (lOne (cRp (lOne cStrs))) (fun d => okText d) (fun d => (sents d).map fun p => [aPos p])
theorem ok_sents1 : C1OK Try.prog 102 kSents1 := C1OK.itBy (by kernel_rfl) (fun d h => it_sent d h)
theorem calls_Sentences (ls : Ls) : CallsR Try.prog 97 [.sl 1 (ls.map .str)] [] (aSent ls) [] := by
  refine callsR_of (mrg := true) (dyn := []) (CtrOK.nil _) mixed Try.func97 rfl (by simp [Try.ntmps97]) (by kernel_rfl) ?_
  rw [show Try.f97.results.toList = [.tmp 2] from by kernel_rfl]
  unfold aSent
  simp (maxSteps := 4000000) only [↓Qo,↓Jn,↓Yv,↓Zy,Zu,Yi,Z4,gw,Zf,↓chk,Yb,noW,↓Yw,↓Yc,↓Q4,Jp,↓Zs,↓Zv,Yx,Pg.look,Za,implies_true,Yy,Yd,Ye,Z1,Zh,Zi,ofV,Z5,retA,resK,tupA,Y3,Y4,Yj,Y5,Y6,Y7,Z2,Y8,Y9,frzL,Qe,Qa,Pg.freeze,Zd,Ju,Yk,Yl,Zl,Qb,subL,objAt,resL,Qj,resM,AV.cells,AV.definite,frzAt,Zb,reduceCtorEq,Nat.reduceEqDiff,Zm,Zc,Ya,Ze,Z0,Zx,Qc,Zn,ite_true,ite_false,Yt,Y1,Yh,and_self,Zr,resIn,Ql,Zg,Qw,beq_self_eq_true,List.getD_cons_zero,Qs,Q9,Z6,Zw,Yf,Yg,Zz]
def kSentsF : C1 := C1.by [.sl 1 []] (lOne cStrs) (fun _ => True) (fun d => aSent d) (fun _ => [])
theorem ok_SentsF : C1OK Try.prog 97 kSentsF := C1OK.by (by kernel_rfl) (fun d _ => calls_Sentences d) (fun d => by unfold aSent; rfl) (fun _ => rfl)
end Go.Pg
namespace Go.Pg
open Go Go.Proofs

def prefB (s p : List UInt8) : Bool := decide ((s.length : Int) ≥ (p.length : Int)) && s.take p.length == p
theorem calls_HasPrefixL (s p : List UInt8) : CallsR Try.prog 114 [.str s, .str p] [] (.bool (prefB s p)) [] := by
  refine callsR_of (mrg := true) (dyn := []) (CtrOK.nil _) mixed Try.func114 rfl (by simp [Try.ntmps114]) (by kernel_rfl) ?_
  rw [show Try.f114.results.toList = [.tmp 4] from by kernel_rfl]
  simp (maxSteps := 4000000) only [↓Qo,↓Jn,↓Yv,↓Zy,Zu,Yi,Z4,gw,Zf,Je,kselH_1,gkind,↓chk,Yb,↓Yw,↓Yc,Jp,↓Zs,↓Zv,Yx,Pg.look,Qh,Y2,strOp,dstOf,Za,implies_true,imp_self,true_and,and_true,pickC,pickV,unc,gof,mux,mergeK,condsL,Yy,Yd,Ye,Qi,Qn,strV,cutV,Z1,Zh,Zi,mergeable,look_stripE,ofV,Z5,sameK,retA,resK,tupA,Y3,Y4,Yj,Y5,Y6,Y7,Z2,Y8,Y9,Qe,Qa,Pg.freeze,Zd,Yk,Yl,Zl,Qb,sliceS,Op.operands,Call.operands,Qv,Z3,Zo,Zb,Yr,Q3,J8,reduceCtorEq,Nat.reduceEqDiff,Zm,Zc,Ys,Ze,Zn,ite_true,ite_false,Bool.if_false_right,decide_eq_true_eq,decide_eq_false_iff_not,Int.not_le,Yh,and_self,Zr,Jx,Jy,Jw,Zg,Zq,Z6,Zw,Yf,Yg,Zz,tk9,prefB]
  exact fun h => ⟨h, by omega, by omega⟩
def kHasPrefix : C1 := C1.by [.id, .id] (lCons cStr (lOne cStr)) (fun _ => True) (fun d => .bool (prefB d.1 d.2)) (fun _ => [])
theorem ok_HasPrefixL : C1OK Try.prog 114 kHasPrefix := C1OK.by (by kernel_rfl) (fun d _ => calls_HasPrefixL d.1 d.2) (fun _ => rfl) (fun _ => rfl)
theorem calls_HasPrefix (s p : List UInt8) : CallsR Try.prog 112 [.str s, .str p] [] (.bool (prefB s p)) [] := by
  refine callsR_of (mrg := true) (dyn := []) (CtrOK.cons ok_HasPrefixL (CtrOK.nil _)) mixed Try.func112 rfl (by simp [Try.ntmps112]) (by kernel_rfl) ?_
  rw [show Try.f112.results.toList = [.tmp 4] from by kernel_rfl]
  simp (maxSteps := 4000000) only [↓Qo,↓Jn,↓Yv,↓Zy,Zu,Yi,Z4,gw,Zf,↓chk,Yb,↓Yw,↓Yc,Jp,↓Zs,↓Zv,Yx,Pg.look,Za,implies_true,Yy,Yd,Ye,Z1,Zh,Zi,ofV,Z5,retA,resK,tupA,Y3,Y4,Yj,Y5,Y6,Y7,Z2,Y8,Y9,Qe,Qa,Pg.freeze,Zd,Yk,Yl,Zl,Qb,↓callT,callC,callV,callH,Q6,normA,resL,Jg,Qj,resM,Jq,Jr,reduceCtorEq,Nat.reduceEqDiff,Zc,Ze,Z0,Zx,Zn,ite_true,ite_false,and_self,Zr,J5,Q7,Qx,Qy,Zg,Yn,Jh,Q8,Js,Jt,Qz,Q0,Q1,Ji,Z6,Zw,Yf,Yg,Zz,↓msel,muC,↓callP,Jj,kHasPrefix]
theorem ok_HasPrefix : C1OK Try.prog 112 kHasPrefix := C1OK.by (by kernel_rfl) (fun d _ => calls_HasPrefix d.1 d.2) (fun _ => rfl) (fun _ => rfl)

def hitB (p : List UInt8) (s : List UInt8) (i : Nat) : Bool := prefB (s.drop i) p
def hits (p : List UInt8) (ls : Ls) : List (Int × Int) := if (p == []) = true then [] else marksTo false (hitB p) ls ls.length

set_option maxRecDepth 20000 in
set_option maxHeartbeats 8000000 in
theorem it_all (p : List UInt8) (ls : Ls) (hf : okText ls) : ItR Try.prog 111 [.rp [.str p], .rp [.sl 1 (ls.map .str)]] (Tell.seq ((hits p ls).map fun p => [aPos p])) := by
  refine itR_of (mrg := true) (dyn := [1000007]) (CtrOK.cons ok_HasPrefix (CtrOK.nil _)) mixed Try.func111 rfl (by simp [Try.ntmps111]) (by kernel_rfl) (by kernel_rfl) ?_ ?_
  · intro x hx
    obtain ⟨p, _, rfl⟩ := List.mem_map.1 hx
    rfl
  intro l
  have hll := hf.1
  have hls := fits_getD hf
  unfold hits
  cases hp : (p == []) with
  | true =>
    rw [if_pos rfl]
    simp (maxSteps := 4000000) only [↓Jd,↓Xd,↓Qf,↓Qd,↓Z8,Yo,Y0,Yp,↓Qg,yarg,Yq,↓Z9,↓J7,↓Xg,Jf,↓Ym,gw,Zf,Zp,↓chk,Yb,noW,↓Yw,↓Yc,↓Q4,Jp,↓Zv,Yx,Pg.look,Qh,strOp,Za,implies_true,true_and,and_true,Yy,Yd,Ye,Qi,strV,Nat.reduceAdd,ofV,Z5,Qr,TK.cells,Zb,Zk,reduceCtorEq,Nat.reduceEqDiff,Nat.reduceAdd,Ze,Zx,Zn,ite_true,ite_false,Option.some.injEq,and_self,exists_eq_left',Zw,Yf,Yg,tk9,kHasPrefix,hp]
    all_goals rfl
  | false =>
    rw [if_neg (by simp)]
    simp (maxSteps := 4000000) only [↓Jd,↓Q5,↓Qf,↓Qd,↓Qp,↓wpYH_loop,↓Z8,Yo,Y0,Yp,↓Qg,yarg,Yq,↓Z9,↓Zt,gw,Zf,Zp,↓chk,Yb,noW,↓Yw,↓Yc,↓Q4,Jp,↓Zv,Yx,Pg.look,Qh,strOp,Za,implies_true,true_and,and_true,Yy,Yd,Ye,Qi,strV,Nat.reduceAdd,ofV,Z5,slen,Qr,TK.cells,Zb,Zk,reduceCtorEq,Nat.reduceEqDiff,Nat.reduceAdd,Zn,ite_true,ite_false,Option.some.injEq,AV.int.injEq,and_self,exists_eq_left',Zj,Zw,Yf,Yg,tk9,tk22,kHasPrefix,hp]
    refine loopYH_intro (α := Nat) (fun i => (some (marksTo false (hitB p) ls i).length, [(0, .yld l), (1, .rp [.str p]), (9, .sl 1 (ls.map .str)), (10, .int .i64 ls.length), (11, .int .i64 i)], []))
      (fun i => i ≤ ls.length) (fun i => ls.length - i) 0 (by omega) (by simp [marksTo]) ?_ ?_
    · simp (maxSteps := 4000000) only [Pg.look,Z1,Zh,Zi,Y3,Y4,Yj,Y5,Y6,Y7,Z2,Y8,Y9,Qe,Qa,Pg.freeze,Zd,Yk,Yl,Zl,Qb,reduceCtorEq,Nat.reduceEqDiff,Zc,ite_true,ite_false,and_self,Zr,Z7]
      all_goals rfl
    intro i hi
    by_cases hlt : i < ls.length
    · have hct : decide ((i : Int) < (ls.length : Int)) = true := decide_eq_true (by omega)
      have hsl := hls i
      have hts := marksTo_succ false (hitB p) ls i
      have hln := lineMarks_len false (hitB p) i (ls.getD i [])
      have hl : lineLead false (ls.getD i []) = 0 := rfl
      have w1 : IntKind.i64.wrap ((i : Int) + 1) = ((i + 1 : Nat) : Int) := by rw [wrap64 (by omega) (by omega)]; rfl
      simp (maxSteps := 4000000) only [↓Jd,↓Q5,↓Qf,↓Qd,↓Qp,↓wpYH_loop,↓Z8,Yo,Y0,Yp,↓Qg,yarg,Yq,↓Z9,↓Ym,gw,Zf,Zp,↓chk,Yb,noW,↓Yw,↓Yc,↓Q4,↓Zv,Yx,Pg.look,Qh,Y2,Za,implies_true,true_and,and_true,Yy,Yd,Ye,Qi,Qn,ofV,Z5,Qr,AV.cells,TK.cells,Zb,Zk,reduceCtorEq,Nat.reduceEqDiff,ite_true,ite_false,Option.some.injEq,and_self,exists_eq_left',Zj,Xh,Zq,Zw,Yf,Yg,tk9,dz9,tk22,kHasPrefix,hct]
      refine ⟨by omega, ?_⟩
      refine loopYH_intro (α := Nat) (fun k => (some ((marksTo false (hitB p) ls i).length + lineLead false (ls.getD i []) + (marksIn (hitB p) i (ls.getD i []) k).length), [(0, .yld l), (1, .rp [.str p]), (4, .int .i64 i), (5, .str (ls.getD i [])), (9, .sl 1 (ls.map .str)), (10, .int .i64 ls.length), (11, .int .i64 i), (17, .int .i64 (ls.getD i []).length), (18, .int .i64 k)], []))
        (fun k => k ≤ (ls.getD i []).length) (fun k => (ls.getD i []).length - k) 0 (by omega) (by rw [hl]; simp [marksIn]) ?_ ?_
      · simp (maxSteps := 4000000) only [Pg.look,Z1,Zh,Zi,Y3,Y4,Yj,Y5,Y6,Y7,Z2,Y8,Y9,Qe,Qa,Pg.freeze,Zd,Yk,Yl,Zl,Qb,reduceCtorEq,Nat.reduceEqDiff,Zc,ite_true,ite_false,and_self,Zr,Z7]
        all_goals rfl
      intro k hk1
      have hm1 := marksIn_succ (hitB p) i (ls.getD i []) k
      by_cases hk2 : k < (ls.getD i []).length
      · have hct2 : decide ((k : Int) < ((ls.getD i []).length : Int)) = true := decide_eq_true (by omega)
        have w2 : IntKind.i64.wrap ((k : Int) + 1) = ((k + 1 : Nat) : Int) := by rw [wrap64 (by omega) (by omega)]; rfl
        have hgd : hitB p (ls.getD i []) k = prefB ((ls.getD i []).drop k) p := rfl
        cases hg : prefB ((ls.getD i []).drop k) p with
        | true =>
          rw [hg] at hgd
          rw [if_pos hgd] at hm1
          have hy := mark_in false (hitB p) ls i k hlt hk2 hgd
          simp (maxSteps := 4000000) only [↓Jd,↓Q5,↓Xd,↓Qf,↓Qd,↓Qp,↓Z8,↓wpYH_region1,Yo,Y0,Yp,↓Qg,runYDH_nil,runYDH_cons,↓tkC_eq,yarg,Yq,Xe,J9,↓Z9,↓J7,↓Jm,↓Xf,↓Xg,endT_none,bselH_true,↓Ym,↓Zt,↓fixG,setG,gw,Zf,Je,Zp,↓chk,Yb,noW,↓Yw,↓Yc,↓Q4,↓Zv,Yx,Pg.look,Qh,Y2,dstOf,Yz,Yu,Za,Q2,implies_true,true_and,and_true,pickC,pickV,unc,gof,mux,Yy,Yd,Ye,Qi,Qn,cutV,Z1,Zh,Zi,Nat.reduceAdd,ofV,Z5,Y3,Y4,Yj,Y5,Y6,Y7,Z2,Y8,Y9,Qe,Qa,Pg.freeze,Zd,Yk,Yl,Zl,Qb,Qr,sliceS,↓callT,callC,callV,callH,Q6,normA,resL,Jg,Qj,resM,Jq,Jr,AV.cells,TK.cells,AV.definite,lay,buildL,Op.operands,Qv,Z3,Zo,Zb,Yr,Q3,J8,Zk,reduceCtorEq,Nat.reduceEqDiff,Nat.reduceAdd,Zm,Zc,Ys,Ya,Ze,Z0,Zx,Zn,ite_true,ite_false,Option.some.injEq,Qm,AV.agg.injEq,Yt,Y1,Yh,and_self,exists_eq_left',Zr,Zj,Jx,Jy,J5,Q7,Qx,Qy,Ql,Zg,Qw,beq_self_eq_true,Yn,Jh,Q8,Js,Jt,Qz,Q0,Q1,Zq,Qs,Qu,Jv,Qq,Nat.reduceLeDiff,Nat.le_refl,Xi,Ji,Zw,Yf,Yg,↓msel,muC,↓callP,Jj,tk9,tk28,tz28,kHasPrefix,AV.okS,hct2,hg,Jl,hy,w2]
          exact ⟨by kernel_rfl, ⟨by omega, by omega⟩, ⟨by omega, by omega⟩, rfl, k + 1, by omega, by omega, by rw [hm1, List.length_append]; rfl, rfl⟩
        | false =>
          rw [hg] at hgd
          rw [if_neg (by rw [hgd]; simp)] at hm1
          simp (maxSteps := 4000000) only [↓Jd,↓Q5,↓Qf,↓Qd,↓Qp,↓Z8,↓wpYH_region1,Yo,Y0,Yp,↓Qg,runYDH_nil,runYDH_cons,↓tkC_eq,yarg,Yq,↓Z9,↓Jm,bselH_true,↓Ym,↓Zt,↓fixG,setG,gw,Zf,Je,Zp,↓chk,Yb,noW,↓Yw,↓Yc,↓Q4,↓Zv,Yx,Pg.look,Qh,Y2,dstOf,Yz,Yu,Za,implies_true,true_and,and_true,pickC,pickV,unc,gof,mux,Yy,Yd,Ye,Qi,Qn,cutV,Z1,Zh,Zi,Nat.reduceAdd,ofV,Z5,Y3,Y4,Yj,Y5,Y6,Y7,Z2,Y8,Y9,Qe,Qa,Pg.freeze,Zd,Yk,Yl,Zl,Qb,Qr,sliceS,↓callT,callC,callV,callH,Q6,normA,resL,Jg,Qj,resM,Jq,Jr,TK.cells,Op.operands,Qv,Z3,Zo,Zb,Yr,Q3,J8,Zk,reduceCtorEq,Nat.reduceEqDiff,Nat.reduceAdd,Zm,Zc,Ys,Ze,Z0,Zx,ite_true,ite_false,Option.some.injEq,Yt,Y1,Yh,and_self,exists_eq_left',Zr,Jx,Jy,J5,Q7,Qx,Qy,Ql,Zg,Qw,beq_self_eq_true,Yn,Jh,Q8,Js,Jt,Qz,Q0,Q1,Zq,Ji,Zw,Yf,Yg,↓msel,muC,↓callP,Jj,tk9,kHasPrefix,AV.okS,hct2,hg,w2]
          exact ⟨by kernel_rfl, ⟨by omega, by omega⟩, ⟨by omega, by omega⟩, k + 1, by omega, by omega, by rw [hm1], rfl⟩
      · have hcf2 : decide ((k : Int) < ((ls.getD i []).length : Int)) = false := decide_eq_false (by omega)
        have hke : k = (ls.getD i []).length := by omega
        subst hke
        simp (maxSteps := 4000000) only [↓Jd,↓Jo,↓Qf,↓Qd,↓Z8,Yo,Y0,Yp,↓Qg,yarg,Yq,↓Z9,↓Jk,↓Jm,↓Jb,↓Jc,Jf,↓Zt,gw,Zf,Zp,↓chk,Yb,↓Yw,↓Yc,↓Zv,Yx,Pg.look,Qh,Y2,Za,implies_true,true_and,and_true,Yy,Yd,Ye,Qi,Qn,Z1,Zh,Zi,ofV,Z5,Y3,Y4,Yj,Y5,Y6,Y7,Z2,Y8,Y9,Qe,Qa,Pg.freeze,Zd,Yk,Yl,Zl,Qb,reduceCtorEq,Nat.reduceEqDiff,Zc,ite_true,ite_false,Option.some.injEq,and_self,Zr,Zj,Zw,Yf,Yg,hcf2,w1]
        exact ⟨i + 1, by omega, by omega, by rw [hts, List.length_append, hln]; omega, rfl⟩
    · have hcf : decide ((i : Int) < (ls.length : Int)) = false := decide_eq_false (by omega)
      have hil : i = ls.length := by omega
      simp (maxSteps := 4000000) only [↓Jd,↓Jo,↓Qf,↓Qd,↓Z8,Yo,Y0,Yp,↓Qg,yarg,Yq,↓Z9,↓Jk,↓Jb,↓Jc,Jf,↓Zt,gw,Zf,Zp,↓chk,Yb,↓Yw,↓Yc,↓Zv,Yx,Pg.look,Qh,Y2,Za,implies_true,true_and,Yy,Yd,Ye,Qi,Qn,reduceCtorEq,Nat.reduceEqDiff,ite_true,ite_false,and_self,Zj,Zw,Yf,Yg,hcf]
      rw [hil]
def aAll (p : List UInt8) (ls : Ls) : AV := .fn 111 [.rp [.str p], .rp [.sl 1 (ls.map .str)]]
def kAll1 : C1 := C1.itBy (lCons (cRp (lOne cStr)) (lOne (cRp (lOne cStrs)))) (fun d => okText d.2) (fun d => (hits d.1 d.2).map fun p => [aPos p])
theorem ok_all1 : C1OK Try.prog 111 kAll1 := C1OK.itBy (by kernel_rfl) (fun d h => it_all d.1 d.2 h)
theorem calls_All (ls : Ls) (p : List UInt8) : CallsR Try.prog 107 [.sl 1 (ls.map .str), .str p] [] (aAll p ls) [] := by
  refine callsR_of (mrg := true) (dyn := []) (CtrOK.nil _) mixed Try.func107 rfl (by simp [Try.ntmps107]) (by kernel_rfl) ?_
  rw [show Try.f107.results.toList = [.tmp 4] from by kernel_rfl]
  unfold aAll
  simp (maxSteps := 4000000) only [↓Qo,↓Jn,↓Yv,↓Zy,Zu,Yi,Z4,gw,Zf,↓chk,Yb,noW,↓Yw,↓Yc,↓Q4,Jp,↓Zs,↓Zv,Yx,Pg.look,Za,implies_true,Yy,Yd,Ye,Z1,Zh,Zi,ofV,Z5,retA,resK,tupA,Y3,Y4,Yj,Y5,Y6,Y7,Z2,Y8,Y9,frzL,Qe,Qa,Pg.freeze,Zd,Ju,Yk,Yl,Zl,Qb,subL,objAt,resL,Qj,resM,AV.cells,AV.definite,frzAt,Zo,Zb,reduceCtorEq,Nat.reduceEqDiff,Zm,Zc,Ys,Ya,Ze,Z0,Zx,Qc,List.set_cons_succ,Zn,ite_true,ite_false,Yt,Y1,Yh,and_self,Zr,resIn,Ql,Zg,Nat.reduceBEq,Bool.or_self,Qw,beq_self_eq_true,Bool.or_true,List.getD_cons_zero,Qs,Q9,Z6,Zw,Yf,Yg,Zz]
def kAllF : C1 := C1.by [.sl 1 [], .id] (lCons cStrs (lOne cStr)) (fun _ => True) (fun d => aAll d.2 d.1) (fun _ => [])
theorem ok_AllF : C1OK Try.prog 107 kAllF := C1OK.by (by kernel_rfl) (fun d _ => calls_All d.1 d.2) (fun d => by unfold aAll; rfl) (fun _ => rfl)
end Go.Pg
