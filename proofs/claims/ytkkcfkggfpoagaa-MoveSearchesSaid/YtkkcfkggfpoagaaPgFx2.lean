/- The n-th beginning of a word, by the program. slices.Grow of nil, slices.Concat, slices.Reverse: of places. A line's first byte that is no blank, places brought to lines. -/
import Derived.Test.YtkkcfkggfpoagaaPgFx1
import Derived.Shelf.Spec.SlicesGrow
import Derived.Test.YtkkcfkggfpoagaaPgFx0
open List renaming getElem?_cons_zero → Za, append_nil → Zc, contains_nil → Zd, foldl_nil → Ze, length_nil → Zf, nil_append → Zh, getElem?_cons_succ → Zi, length_cons → Zk, set_cons_zero → Zn, drop_succ_cons → Zu, take_succ_cons → Zv, take_zero → Zx, getD_cons_zero → Z0, all_cons → Z2, set_cons_succ → Z4, cons_append → Z6, all_nil → Z7, length_map → Z8, map_nil → Z9, range'_zero → Ya, map_cons → Yb, drop_zero → Ye, drop_nil → Yh, take_nil → Yi, getElem?_toArray → Yl, toList_toArray → Yr
open Bool renaming false_eq_true → Zb, and_self → Z3, if_false_right → Yp, decide_eq_true → Yq, true_eq_false → Y9, and_eq_true → Q4, not_true → Jo
open Option renaming getD_some → Zg, isSome_some → Yu, bind_some → Y7
open Go.Pg renaming thenA_normal → Zj, bselH_false → Zl, gselH_plain → Zm, closeQ_nil → Zo, diagQ_zero → Zp, wpH_region → Zs, selC_false → Zt, subV_succ → Zw, runH_cons → Zy, regH_none → Zz, cselH_bool → Z1, runH_nil → Z5, wpH_seq → Yc, pickOK_nil → Yd, wpH_cond → Yf, alives → Yj, pickOf → Yk, stepEv → Ym, isNext → Yn, wpH_block → Yo, iselH_false → Yt, ptrsE → Yv, subOs → Yw, subEv → Yx, ofLeaf → Yy, wpA_H → Yz, justK → Y0, pureK → Y1, heapV → Y2, footV → Y3, nextF → Y4, nextG → Y5, res_succ → Y6, iselH_true → Y8, wpH_skip → Qa, subA → Qb, subQ → Qc, frzO → Qd, subF → Qe, subG → Qf, frzE → Qg, frzC → Qh, frzH → Qi, subM → Qj, ldCells → Qk, lCons_dec → Ql, dec2_some → Qm, optP_some → Qn, optV_some → Qo, optH_some → Qp, putCells → Qq, intOp → Qr, blockA_normal → Qs, wpH_ret → Qt, closeQ_succ → Qu, thenA_ret → Qv, normArgs → Qw, cInt_dec → Qx, lOne_dec → Qy, C1by_pre → Qz, blockA_exit → Q2, look_stripE → Q3, res8_eq → Q5, C1by_ns → Q6, C1by_it → Q7, C1by_mu → Q8, heapK → Q9, diagQ_succ → Ja, thenA_exit → Jb, cAgg_dec → Jc, objAt → Jd, shiftR → Je, shift1 → Jf, C1by_r → Jg, C1by_H → Jh, aliveO → Ji, pairsO → Jj, assocN → Jk, pairsE → Jl, pairsC → Jm, mergeable → Jn, C1itBy_pre → Jp, decL_str → Jq, pairs0 → Jr, wpH_exit → Js, gselH_if → Jt, C1itBy_it → Jv, C1itBy_mu → Jw, cSl_dec → Jx, kselH_1 → Jy
open Nat renaming zero_lt_succ → Zq, zero_add → Zr, sub_zero → Yg, le_refl → Ys, add_zero → Ju, lt_irrefl → Jz
open Int renaming cast_ofNat_Int → Q0, toNat_natCast → Q1
namespace Go.Pg
open Go Go.Proofs

def endPos (ls : Ls) : Int × Int := ((ls.length : Int) - 1, (ls.getD (ls.length - 1) []).length)
/-- The last of those that have been passed. -/
def lastOf (l : List (Int × Int)) (p : Int × Int) : Int × Int := l.getLastD p
def stopAt (ls : Ls) (p s last : Int × Int) (op : Bool) : Mv × Bool := if (op && decide (s.1 > last.1)) = true then wEnd ls p last.1 else mTo s 0
def wNext (ls : Ls) (p : Int × Int) (n : Int) (big op : Bool) : Mv × Bool :=
  if may ls p n = true then
    let l := behind (marksOf true true big ls) p false
    if n ≤ l.length then stopAt ls p (l.getD (n - 1).toNat (0, 0)) (lastOf (l.take (n - 1).toNat) p) op
    else if (op && n - l.length == 1) = true then wEnd ls p (ls.length - 1) else mNone
  else mNone

theorem behind_split (M : List (Int × Int)) (p : Int × Int) (here : Bool) (k : Nat) : behind M p here = behind (M.take k) p here ++ behind (M.drop k) p here := by
  unfold behind
  rw [← List.filter_append, List.take_append_drop]

theorem lastOf_line {ls : Ls} {M : List (Int × Int)} {p : Int × Int} {e : Bool} {g : List UInt8 → Nat → Bool} (hM : M = marksTo e g ls ls.length) (hp : place ls p.1 p.2 = true) (k : Nat) (here : Bool) : 0 ≤ (lastOf (behind (M.take k) p here) p).1 ∧ (lastOf (behind (M.take k) p here) p).1 < ls.length := by
  have hp' : 0 ≤ p.1 ∧ p.1 < ls.length := by
    unfold place at hp
    simp only [Q4,decide_eq_true_eq] at hp
    omega
  unfold lastOf
  rcases List.eq_nil_or_concat (behind (M.take k) p here) with h | ⟨l, q, h⟩
  · rw [h]; exact hp'
  · rw [h, List.concat_eq_append, List.getLastD_concat]
    have hq : q ∈ M := by
      have : q ∈ behind (M.take k) p here := by rw [h]; simp
      exact List.mem_of_mem_take (List.mem_filter.1 this).1
    rw [hM] at hq
    obtain ⟨h1, h2, _⟩ := (marksTo_sorted e g ls ls.length).2 q hq
    exact ⟨h1, h2⟩

set_option maxRecDepth 20000 in
set_option maxHeartbeats 8000000 in
theorem calls_Next (ls : Ls) (p : Int × Int) (n : Int) (big op : Bool) (hf : fits 65536 65536 ls) (hn9 : n ≤ 9223372036854775807) : CallsR Try.prog 58 [.sl 1 (ls.map .str), aPos p, .int .i64 n, .bool big, .bool op] [] (aMove (wNext ls p n big op)) [] := by
  obtain ⟨p1, p2⟩ := p
  refine callsR_of (mrg := true) (dyn := []) (CtrOK.cons ok_fails (CtrOK.cons ok_StartsF (CtrOK.cons ok_at (CtrOK.cons ok_Less (CtrOK.cons ok_wEnd (CtrOK.nil _)))))) mixed Try.func58 rfl (by simp [Try.ntmps58]) (by kernel_rfl) ?_
  rw [show Try.f58.results.toList = [.cell 10 38, .cell 11 4] from by kernel_rfl]
  cases hm : may ls (p1, p2) n with
  | false =>
    rw [wNext, if_neg (by rw [hm]; simp)]
    simp (maxSteps := 4000000) only [↓Yz,↓Qt,↓Yc,↓Yf,↓Zs,↓Y8,Zl,Z5,Zy,gw,Zm,Z1,↓chk,Y0,noW,↓oneK,↓Y1,↓Q9,envOf,↓Zj,↓Qv,↓Ym,opnd,Pg.look,Bool.not_false,Zb,false_implies,implies_true,true_and,and_true,valV,Y2,Y3,Yj,Zo,Zp,Nat.reduceAdd,ofV,Yy,retA,resK,tupA,Qb,Qc,Yv,Qd,Qe,Qf,Yk,Qg,Qh,frzL,frz0,Qi,Pg.freeze,Ze,Yw,Yx,Zw,Qj,subL,Qk,Jd,↓callT,callC,callV,callH,Qw,normA,normC,resL,Q5,Y6,resM,Je,Jf,AV.cells,TK.cells,AV.definite,AV.leaf,AV.leafy,Qq,lay,buildL,Zi,Za,Zg,reduceCtorEq,Nat.reduceEqDiff,Nat.reduceAdd,Zh,Zc,Z6,Zk,Zf,Yb,Z9,Zn,Z4,Zr,ite_true,ite_false,Option.some.injEq,Yu,AV.agg.injEq,Prod.mk.injEq,Z2,Z7,Z3,and_self,exists_eq_left',Yd,Qx,Jx,Jc,Qy,Ql,Qm,Zd,Ya,Jq,Q6,Qz,Jg,Jh,Qn,Qo,Qp,Z0,cutL,Ye,Zu,Zv,Zx,Yg,Ys,Yh,Yi,Zq,Q7,Zz,Yn,Y4,Y5,Zt,↓msel,muC,↓callP,Q8,mapAt,tk3,dz3,tk4,tz4,dz4,tk22,dz22,tk28,dz28,tk38,tz38,dz38,kFails,aPos,aMove,aMv,mNone,hm]
  | true =>
    have hmm := hm
    simp only [may,Q4,decide_eq_true_eq] at hmm
    have hpp : 0 < ls.length := by
      have := hmm.1
      unfold place at this
      simp only [Q4,decide_eq_true_eq] at this
      omega
    rw [wNext, if_pos hm]
    have hlast := fun (k : Nat) => lastOf_line (M := marksOf true true big ls) (p := (p1, p2)) (here := false) rfl hmm.1 k
    have hll := hf.1
    simp (maxSteps := 4000000) only [↓Yz,↓Qa,↓Yc,↓Yf,↓Yo,↓Zs,↓Yt,Zl,Z5,Zy,gw,Zm,Z1,↓chk,Y0,noW,↓oneK,↓Y1,↓Q9,envOf,↓Zj,↓Ym,opnd,Pg.look,Jo,Zb,Y9,false_implies,implies_true,true_and,and_true,valV,Y2,Y3,Nat.reduceAdd,Pg.freeze,Ze,Qk,Jd,↓callT,callC,callV,callH,Qw,normA,normC,resL,Q5,Y6,resM,Je,Jf,AV.cells,TK.cells,AV.definite,AV.leaf,AV.leafy,Qq,lay,Zi,Za,Zg,reduceCtorEq,Nat.reduceEqDiff,Nat.reduceAdd,Zh,Zc,Z6,Zk,Zf,Yb,Z9,Zn,Z4,Zr,ite_true,ite_false,Option.some.injEq,Prod.mk.injEq,Z2,Z7,Z3,and_self,exists_eq_left',Qx,cBool_dec,Jx,Jc,cRp_dec,Qy,Ql,Qm,Zd,Ya,Jq,Q6,Qz,Jg,Jh,Qn,Qo,Qp,Z0,cutL,Ye,Zu,Zv,Zx,Yg,Ys,Yh,Yi,Zq,↓wpH_range,rangH_fn,rangR_some,iterC,Q7,Jv,Jp,C1itBy_xs,optL_some,Zz,Yn,Y4,Y5,Zt,↓msel,muC,↓callP,Q8,Jw,tk3,dz3,tz4,tk22,dz22,tk28,tz28,dz28,tz38,kFails,kStartsF,aAt,kAt,kLess,aPos,hm,cAskFn_decS]
    refine ⟨hf, ?_⟩
    generalize hM : marksOf true true big ls = M at hlast ⊢
    rw [mark_eq]
    refine rangG_intro M (fun p => [aPos p]) (0, 0) [(5, .ptr 0 1 1 0 0), (6, .ptr 1 2 1 0 0), (7, .ptr 2 1 1 0 0), (9, .ptr 3 1 1 0 0), (10, .ptr 4 5 1 0 0), (11, .ptr 5 1 1 0 0), (12, .ptr 6 2 1 0 0)]
      [.arr 22 1 [.sl 1 (ls.map .str)], .arr 28 2 [.agg [.int .i64 p1, .int .i64 p2]], .arr 3 1 [.int .i64 n], .arr 4 1 [.bool op], .arr 38 5 [.agg [.int .i64 0, .int .i64 0, .int .i64 0, .bool false, .int .i64 0]], .arr 4 1 [.bool false], .arr 28 2 [.agg [.int .i64 p1, .int .i64 p2]]]
      (fun k => ([(5, .ptr 0 1 1 0 0), (6, .ptr 1 2 1 0 0), (7, .ptr 2 1 1 0 0), (9, .ptr 3 1 1 0 0), (10, .ptr 4 5 1 0 0), (11, .ptr 5 1 1 0 0), (12, .ptr 6 2 1 0 0)], [.arr 22 1 [.sl 1 (ls.map .str)], .arr 28 2 [.agg [.int .i64 p1, .int .i64 p2]], .arr 3 1 [.int .i64 (n - (behind (M.take k) (p1, p2) false).length)], .arr 4 1 [.bool op], .arr 38 5 [.agg [.int .i64 0, .int .i64 0, .int .i64 0, .bool false, .int .i64 0]], .arr 4 1 [.bool false], .arr 28 2 [.agg [.int .i64 (lastOf (behind (M.take k) (p1, p2) false) (p1, p2)).1, .int .i64 (lastOf (behind (M.take k) (p1, p2) false) (p1, p2)).2]]]))
      (fun k => ((behind (M.take k) (p1, p2) false).length : Int) < n) rfl ?_ ?_ ?_ (fun _ => rfl) ?_ ?_
    · simp (maxSteps := 4000000) only [Pg.look,true_and,and_true,Yj,Ji,nxtQ,hdS,pairsA,frzA,Zo,Qu,Zp,Nat.reduceAdd,Qb,Qc,Yv,Jj,Qd,Qe,Qf,Yk,Jk,Jl,Jm,Jr,Qg,Qh,frz0,Qi,Pg.freeze,Ze,Yw,subO,Yx,Zw,Qj,AV.cells,AV.pureLeaf,AV.pureB,Zi,Za,reduceCtorEq,Nat.reduceEqDiff,Nat.reduceAdd,Zh,Zc,Z6,Zr,ite_true,ite_false,Z2,Z7,Z3,and_self,Jz,Nat.not_lt_zero]
      exact ⟨by decide, subX_eq rfl rfl, subX_eq rfl rfl, subX_eq rfl rfl, subX_eq rfl rfl, subX_eq rfl rfl, subX_eq rfl rfl, subX_eq rfl rfl⟩
    · simp (maxSteps := 4000000) only [Pg.look,true_and,and_true,Yj,Ji,nxtQ,hdS,pairsA,frzA,Zo,Qu,Zp,Ja,Nat.reduceAdd,Qb,Qc,Yv,Jj,Qd,Qe,Qf,Yk,Jk,Jl,Jm,Jr,Qg,Qh,frz0,Qi,Pg.freeze,Ze,Yw,subO,Yx,Zw,Qj,AV.cells,AV.pureLeaf,AV.pureB,Zi,Za,reduceCtorEq,Nat.reduceEqDiff,Nat.reduceAdd,Nat.reduceLT,Zh,Zc,Z6,Zk,Zf,Zr,ite_true,ite_false,Z2,Z7,Z3,and_self,Zx,Zq]
      exact ⟨by decide, subX_eq rfl rfl, subX_eq rfl rfl, subX_eq (by simp [behind]) rfl, subX_eq rfl rfl, subX_eq rfl rfl, subX_eq rfl rfl, subX_eq rfl rfl⟩
    · show ((behind [] (p1, p2) false).length : Int) < n
      simp only [behind,List.filter_nil,Zf]
      omega
    · intro k hk hpk
      have hpk : ((behind (M.take k) (p1, p2) false).length : Int) < n := hpk
      have hsu := behind_succ M (p1, p2) false k hk
      have hib : isBehind (p1, p2) false (M.getD k (0, 0)) = less (p1, p2) ((M.getD k (0, 0)).1, (M.getD k (0, 0)).2) := by simp [isBehind]
      have hw : IntKind.i64.wrap (n - (behind (M.take k) (p1, p2) false).length - 1) = n - (behind (M.take k) (p1, p2) false).length - 1 := wrap64 (by omega) (by omega)
      obtain ⟨hl1, hl2⟩ := hlast k
      cases hb : isBehind (p1, p2) false (M.getD k (0, 0)) with
      | true =>
        rw [hib] at hb
        rw [hib, if_pos hb] at hsu
        by_cases hn : n - (behind (M.take k) (p1, p2) false).length - 1 > 0
        · have hct : decide (n - ((behind (M.take k) (p1, p2) false).length : Int) - 1 > 0) = true := decide_eq_true hn
          have hl' : lastOf (behind (M.take (k + 1)) (p1, p2) false) (p1, p2) = M.getD k (0, 0) := by rw [hsu]; unfold lastOf; simp
          simp (maxSteps := 4000000) only [↓Yz,↓Qa,↓Qt,↓Js,↓Yc,↓Yf,↓Yo,↓Zs,↓Y8,↓Yt,iselH_if,Zl,Z5,Zy,gw,Zm,Jt,Jy,Z1,gkind,↓chk,Y0,noW,↓oneK,↓Y1,↓Q9,↓Zj,↓Qv,↓Jb,↓Q2,↓Ym,opnd,Pg.look,binK,Qr,dstOf,Jo,Zb,Y9,false_implies,implies_true,imp_self,true_and,and_true,pickC,pickV,unc,gof,mux,mergeK,condsL,valV,Y2,Y3,binV,intV,Yj,Ji,nxtQ,hdS,pairsA,frzA,Zo,Qu,Zp,Ja,Nat.reduceAdd,Jn,Q3,ofV,Yy,sameK,retA,resK,tupA,Qb,Qc,Yv,Jj,Qd,Qe,Qf,Yk,Jk,Jl,Jm,Jr,Qg,Qh,frzL,frz0,Qi,Pg.freeze,Ze,Yw,subO,Yx,Zw,Qj,subL,slen,Qk,Jd,↓callT,callC,callV,callH,Qw,normA,normC,resL,Q5,Y6,resM,Je,Jf,AV.cells,TK.cells,AV.definite,AV.leaf,AV.leafy,AV.pureLeaf,AV.pureB,Qq,lay,buildL,Op.operands,Yl,Zi,Za,Y7,Zg,reduceCtorEq,Nat.reduceEqDiff,Nat.reduceAdd,Nat.reduceLT,Zh,Zc,Z6,Zk,Zf,Yb,Z9,Zn,Z4,Zr,ite_true,ite_false,Option.some.injEq,Yu,AV.int.injEq,AV.agg.injEq,Prod.mk.injEq,Yp,Yq,Z2,Z7,Z3,and_self,exists_eq_left',Yd,Z8,Qx,Yr,Jx,Jc,Qy,Ql,Qm,Zd,Ya,Jq,Q6,Qz,Jg,Jh,Qn,Qo,Qp,Z0,cutL,Ye,Zu,Zv,Zx,Yg,Ys,Yh,Yi,Zq,Q7,Jv,Jp,parE_cons,parE_nil,rqH_normal,rqH_exit,Zz,Yn,Y4,Y5,Zt,↓msel,muC,↓callP,Q8,Jw,mapAt,tk3,dz3,tk4,dz4,tk22,dz22,tk28,tz28,dz28,tk38,tz38,dz38,kLess,kWEnd,aPos,aMove,aMv,hb,hw,hct]
          exact ⟨by rw [hsu, List.length_append, List.length_singleton]; omega, by decide, subX_eq rfl rfl, subX_eq rfl rfl, subX_eq (by rw [hsu, List.length_append, List.length_singleton]; congr 2; omega) rfl, subX_eq rfl rfl, subX_eq rfl rfl, subX_eq rfl rfl, subX_eq (by rw [hl']) rfl⟩
        · have hct : decide (n - ((behind (M.take k) (p1, p2) false).length : Int) - 1 > 0) = false := decide_eq_false hn
          have hsp := behind_split M (p1, p2) false (k + 1)
          have hlen : (behind (M.take (k + 1)) (p1, p2) false).length = n := by rw [hsu, List.length_append, List.length_singleton]; omega
          have h1 : n ≤ ((behind M (p1, p2) false).length : Int) := by rw [hsp, List.length_append]; omega
          have h2 : (behind M (p1, p2) false).getD (n - 1).toNat (0, 0) = M.getD k (0, 0) := by
            rw [hsp, hsu, List.append_assoc, List.getD_eq_getElem?_getD, List.getElem?_append_right (by omega), show (n - 1).toNat - (behind (M.take k) (p1, p2) false).length = 0 by omega]
            rfl
          have h3 : (behind M (p1, p2) false).take (n - 1).toNat = behind (M.take k) (p1, p2) false := by
            rw [hsp, hsu, List.append_assoc, List.take_append_of_le_length (by omega), List.take_of_length_le (by omega)]
          rw [if_pos h1, h2, h3]
          cases hop : (op && decide ((M.getD k (0, 0)).1 > (lastOf (behind (M.take k) (p1, p2) false) (p1, p2)).1)) with
          | true =>
            rw [stopAt, if_pos hop]
            simp (maxSteps := 4000000) only [↓Yz,↓Qa,↓Qt,↓Yc,↓Yf,↓Yo,↓Zs,↓Y8,↓Yt,Zl,Z5,Zy,gw,Zm,Jt,Jy,Z1,gkind,↓chk,Y0,noW,↓oneK,↓Y1,↓Q9,↓Zj,↓Qv,↓blockA_ret,↓Ym,opnd,Pg.look,binK,Qr,dstOf,Jo,Zb,Y9,false_implies,implies_true,imp_self,true_and,and_true,pickC,pickV,unc,gof,mux,mergeK,condsL,valV,Y2,Y3,binV,intV,Yj,Zo,Zp,Nat.reduceAdd,Jn,Q3,ofV,Yy,sameK,retA,resK,tupA,Qb,Qc,Yv,Qd,Qe,Qf,Yk,Qg,Qh,frzL,frz0,Qi,Pg.freeze,Ze,Yw,Yx,Zw,Qj,subL,Qk,Jd,↓callT,callC,callV,callH,Qw,normA,normC,resL,Q5,Y6,resM,Je,Jf,AV.cells,TK.cells,AV.definite,AV.leaf,AV.leafy,Qq,lay,Op.operands,Yl,Zi,Za,Y7,Zg,reduceCtorEq,Nat.reduceEqDiff,Nat.reduceAdd,Zh,Zc,Z6,Zk,Zf,Yb,Z9,Zn,Z4,Zr,ite_true,ite_false,Option.some.injEq,Prod.mk.injEq,Yp,Yq,Z2,Z7,Z3,and_self,exists_eq_left',Yd,Qx,Yr,Jx,Jc,Qy,Ql,Qm,Zd,Ya,Jq,Q6,Qz,Jg,Jh,Qn,Qo,Qp,Z0,cutL,Ye,Zu,Zv,Zx,Ju,Yg,Ys,Yh,Yi,Zq,Q7,Jv,Jp,parE_cons,parE_nil,rqH_ret,Zz,Yn,Y4,Y5,Zt,↓msel,muC,↓callP,Q8,Jw,mapAt,tk3,dz3,tk4,dz4,tk22,dz22,tk28,tz28,dz28,tk38,dz38,kWEnd,aPos,aMove,aMv,hb,hw,hct,hop]
            exact ⟨hl1, hl2⟩
          | false =>
            rw [stopAt, if_neg (by rw [hop]; simp)]
            simp (maxSteps := 4000000) only [↓Yz,↓Qa,↓Qt,↓Yc,↓Yf,↓Yo,↓Zs,↓Yt,Zl,Z5,Zy,gw,Zm,Jt,Jy,Z1,gkind,↓chk,Y0,noW,↓oneK,↓Y1,↓Q9,↓Zj,↓Qv,↓blockA_ret,↓Ym,opnd,Pg.look,binK,Qr,dstOf,Jo,Zb,Y9,false_implies,implies_true,imp_self,true_and,and_true,pickC,pickV,unc,gof,mux,mergeK,condsL,valV,Y2,Y3,binV,intV,Yj,Zo,Zp,Nat.reduceAdd,Jn,Q3,ofV,Yy,sameK,retA,resK,tupA,Qb,Qc,Yv,Qd,Qe,Qf,Yk,Qg,Qh,frzL,frz0,Qi,Pg.freeze,Ze,Yw,Yx,Zw,Qj,subL,Qk,Jd,↓callT,callC,callV,callH,Qw,normA,normC,resL,Q5,Y6,resM,Je,Jf,AV.cells,TK.cells,AV.definite,AV.leaf,AV.leafy,Qq,lay,buildL,Op.operands,Yl,Zi,Za,Y7,Zg,Nat.reduceEqDiff,Nat.reduceAdd,Zh,Zc,Z6,Zk,Zf,Yb,Z9,Zn,Z4,Zr,ite_true,ite_false,Option.some.injEq,Yu,AV.agg.injEq,Prod.mk.injEq,Yp,Yq,Z2,Z7,Z3,and_self,exists_eq_left',Yd,Qx,Yr,Jc,Qy,Ql,Qm,Zd,Ya,Q6,Qz,Jg,Jh,Qn,Qo,Qp,Z0,cutL,Ye,Zu,Zv,Zx,Ju,Yg,Nat.reduceLeDiff,Ys,Yh,Yi,Zq,Q7,Jv,Jp,parE_cons,parE_nil,rqH_ret,Zz,Yn,Y4,Y5,Zt,↓msel,muC,↓callP,Q8,Jw,mapAt,tk3,dz3,tk4,dz4,tk28,tz28,dz28,tk38,tz38,dz38,kWEnd,aPos,aMove,aMv,mTo,hb,hw,hct,hop]
      | false =>
        rw [hib] at hb
        rw [hib, if_neg (by rw [hb]; simp)] at hsu
        simp (maxSteps := 4000000) only [↓Yz,↓Qa,↓Qt,↓Js,↓Yc,↓Yf,↓Yo,↓Zs,↓Y8,iselH_if,Zl,Z5,Zy,gw,Zm,Jt,Jy,Z1,gkind,↓chk,Y0,noW,↓oneK,↓Y1,↓Q9,↓Zj,↓Qv,↓Jb,↓Q2,↓Ym,opnd,Pg.look,binK,Qr,dstOf,Bool.not_false,Zb,Y9,false_implies,implies_true,imp_self,true_and,and_true,pickC,pickV,unc,gof,mux,mergeK,condsL,valV,Y2,Y3,binV,intV,Yj,Ji,nxtQ,hdS,pairsA,frzA,Zo,Qu,Zp,Ja,Nat.reduceAdd,Jn,Q3,ofV,Yy,sameK,retA,resK,tupA,Qb,Qc,Yv,Jj,Qd,Qe,Qf,Yk,Jk,Jl,Jm,Jr,Qg,Qh,frzL,frz0,Qi,Pg.freeze,Ze,Yw,subO,Yx,Zw,Qj,subL,slen,Qk,Jd,↓callT,callC,callV,callH,Qw,normA,normC,resL,Q5,Y6,resM,Je,Jf,AV.cells,TK.cells,AV.definite,AV.leaf,AV.leafy,AV.pureLeaf,AV.pureB,Qq,lay,buildL,Op.operands,Yl,Zi,Za,Y7,Zg,reduceCtorEq,Nat.reduceEqDiff,Nat.reduceAdd,Nat.reduceLT,Zh,Zc,Z6,Zk,Zf,Yb,Z9,Zn,Z4,Zr,ite_true,ite_false,Option.some.injEq,Yu,AV.int.injEq,AV.agg.injEq,Prod.mk.injEq,Yp,Yq,Z2,Z7,Z3,and_self,exists_eq_left',Yd,Z8,Qx,Yr,Jx,Jc,Qy,Ql,Qm,Zd,Ya,Jq,Q6,Qz,Jg,Jh,Qn,Qo,Qp,Z0,cutL,Ye,Zu,Zv,Zx,Yg,Ys,Yh,Yi,Zq,Q7,Jv,Jp,parE_cons,parE_nil,rqH_normal,rqH_exit,Zz,Yn,Y4,Y5,Zt,↓msel,muC,↓callP,Q8,Jw,mapAt,tk3,dz3,tk4,dz4,tk22,dz22,tk28,tz28,dz28,tk38,tz38,dz38,kLess,kWEnd,aPos,aMove,aMv,hb]
        exact ⟨by rw [hsu]; exact hpk, by decide, subX_eq rfl rfl, subX_eq rfl rfl, subX_eq (by rw [hsu]) rfl, subX_eq rfl rfl, subX_eq rfl rfl, subX_eq rfl rfl, subX_eq (by rw [hsu]) rfl⟩
    · intro hpk
      have hpk : ((behind (M.take M.length) (p1, p2) false).length : Int) < n := hpk
      rw [List.take_of_length_le (Nat.le_refl M.length)] at hpk ⊢
      rw [if_neg (by omega)]
      cases hop : (op && n - ((behind M (p1, p2) false).length : Int) == 1) with
      | true =>
        have hw2 : IntKind.i64.wrap ((ls.length : Int) - 1) = (ls.length : Int) - 1 := wrap64 (by omega) (by omega)
        rw [if_pos rfl]
        simp (maxSteps := 4000000) only [↓Yz,↓Qt,↓Yc,↓Yf,↓Zs,↓Y8,Zl,Z5,Zy,gw,Zm,Jt,Jy,Z1,gkind,↓chk,Y0,noW,↓oneK,↓Y1,↓Q9,↓Zj,↓Qv,↓Qs,↓Ym,opnd,Pg.look,binK,Qr,dstOf,Zb,false_implies,implies_true,imp_self,true_and,and_true,pickC,pickV,unc,gof,mux,mergeK,condsL,valV,Y2,Y3,binV,intV,Yj,Zo,Zp,Nat.reduceAdd,Jn,Q3,ofV,Yy,sameK,retA,resK,tupA,Qb,Qc,Yv,Qd,Qe,Qf,Yk,Qg,Qh,frzL,frz0,Qi,Pg.freeze,Ze,Yw,Yx,Zw,Qj,subL,slen,Qk,Jd,↓callT,callC,callV,callH,Qw,normA,normC,resL,Q5,Y6,resM,Je,Jf,AV.cells,TK.cells,AV.leaf,AV.leafy,Qq,lay,Op.operands,Yl,Zi,Za,Y7,Zg,Nat.reduceEqDiff,Nat.reduceAdd,Zh,Zc,Z6,Zk,Zf,Yb,Z9,Zn,Z4,Zr,ite_true,ite_false,Option.some.injEq,AV.int.injEq,Prod.mk.injEq,Yp,Yq,Z2,Z7,Z3,and_self,exists_eq_left',Yd,Z8,Qx,Yr,Jx,Jc,Qy,Ql,Qm,Zd,Ya,Jq,Q6,Qz,Jg,Jh,Qn,Qo,Qp,Z0,cutL,Ye,Zu,Zv,Zx,Yg,Ys,Yh,Yi,Zq,Q7,Zz,Yn,Y4,Y5,Zt,↓msel,muC,↓callP,Q8,mapAt,tk3,dz3,tk4,dz4,tk22,dz22,tk28,dz28,tk38,dz38,kLess,kWEnd,aMove,aMv,hop,hw2]
        exact ⟨by omega, by omega⟩
      | false =>
        rw [if_neg (by simp)]
        simp (maxSteps := 4000000) only [↓Yz,↓Qa,↓Qt,↓Yc,↓Yf,↓Zs,↓Yt,Zl,Z5,Zy,gw,Zm,Jt,Jy,Z1,gkind,↓chk,Y0,noW,↓oneK,↓Y1,↓Q9,↓Zj,↓Qs,↓Ym,opnd,Pg.look,binK,Qr,dstOf,Zb,implies_true,imp_self,true_and,and_true,pickC,pickV,unc,gof,mux,mergeK,condsL,valV,Y2,Y3,binV,intV,Yj,Zo,Zp,Nat.reduceAdd,Jn,Q3,ofV,Yy,sameK,retA,resK,tupA,Qb,Qc,Yv,Qd,Qe,Qf,Yk,Qg,Qh,frzL,frz0,Qi,Pg.freeze,Ze,Yw,Yx,Zw,Qj,subL,Qk,Jd,Y6,resM,AV.cells,TK.cells,AV.leaf,AV.leafy,Qq,lay,buildL,Op.operands,Yl,Zi,Za,Y7,Zg,Nat.reduceEqDiff,Nat.reduceAdd,Zh,Zc,Zk,Zf,Z9,Zn,Z4,Zr,ite_true,ite_false,Option.some.injEq,Yu,AV.agg.injEq,Yp,Yq,Z2,Z7,Z3,and_self,exists_eq_left',Yd,Yr,Zd,Z0,cutL,Ye,Zu,Zv,Zx,Yg,Ys,Yh,Yi,Zq,Zz,Yn,Y4,Y5,Zt,mapAt,tk3,dz3,tk4,dz4,tk38,tz38,dz38,kLess,kWEnd,aMove,aMv,mNone,hop]
end Go.Pg
namespace Go.Pg
open Go Go.Proofs Go.Shelf

theorem app_posL (a b : List (Int × Int)) : a.map aPos ++ b.map aPos = (a ++ b).map aPos := by simp

theorem VRs.twoR {E : Env} {a b : AV} {vals : Array Value} (h : VRs E [a, b] vals) : ∃ u v, vals = #[u, v] ∧ VR E a u ∧ VR E b v := by
  obtain ⟨hs, hv⟩ := h
  match vals, hs with
  | ⟨[u, v]⟩, _ => exact ⟨u, v, rfl, hv 0 a rfl, hv 1 b rfl⟩
theorem callsR_newR {P : Program} {f : FuncId} {args : List AV} {t : TypeId} {sz : Nat}
    (h : ∀ (E : Env) (vals : Array Value), VRs E args vals → Calls P f vals E.W fun e W' => (e = .returned (.slice none 0 0) ∧ W' = E.W) ∨ ∃ (C : Array Value) (cap : Nat), e = .returned (.slice (some ⟨E.W.heap.size, 0, none⟩) 0 cap) ∧ SameBut E.W W' ∧ W'.heap = E.W.heap.push (.cells C t (0, 0)) ∧ C.size = cap * sz ∧ cap ≤ maxLen) :
    CallsR P f args [] (.own 0 sz 0) [.arr t sz []] := by
  intro E vals hr hv
  have hle : AHle [] [.arr t sz []] := fun id o ho => by simp at ho
  obtain ⟨E1, hr1, hW1, hM1, hst1⟩ := hr.le hle
  have hm0 : E1.M 0 = none := by rw [hM1]; exact hr.dom 0 (Nat.zero_le _)
  refine (h E vals hv).mono fun e W' hh => ?_
  rcases hh with ⟨he, hw⟩ | ⟨C, cap, he, hs, hh, hC, hcap⟩
  · obtain ⟨E', hW, hr', hst, _, hMid, hhl⟩ := alloc_nil hr1 (id := 0) hm0 (e := t) (sz := sz) (o' := .arr t sz []) rfl (AOle.refl _)
    refine ⟨_, E', he, by rw [hW, hW1, hw], .own 0 sz 0 none 0 (by rw [hMid]; rfl) (fun _ => rfl) (fun L hL => ?_), hr', hst1.trans hst⟩
    exact ⟨Nat.zero_le _, fun _ => .inl ⟨hMid, rfl, rfl⟩⟩
  · obtain ⟨E', hW, hr', hst, _, hMid, hhl⟩ := alloc_rel hr1 (id := 0) hm0 (e := t) (sz := sz) (vs := []) rfl (AOle.refl _) (w' := W') (c := C) (fz := (0, 0)) (by rw [hW1]; exact hs) (by rw [hW1]; exact hh) (by simp) (fun k _ hk => by simp at hk) (fun i v hi => by simp at hi)
    refine ⟨_, E', he, hW, .own 0 sz 0 _ cap (by rw [hMid]; rfl) (fun h => by cases h) (fun L hL => ?_), hr', hst1.trans hst⟩
    rw [hr'.hl] at hL
    have : L = 0 := by simpa [hlOf, AO.len] using hL.symm
    subst this
    exact ⟨Nat.le_refl _, fun _ => .inr ⟨E.W.heap.size, C, t, (0, 0), by rw [hMid, hW1], rfl, Nat.zero_le _, hcap, by rw [hW, hh]; simp, hC⟩⟩

def growRenR : Go.Shelf.Ren := ⟨fun | 4 => 113 | n => n, fun | 0 => 0 | 3 => 3 | 4 => 4 | 9 => 9 | 20 => 20 | 22 => 61 | 25 => 28 | n => n, fun | n => n⟩
theorem growLaysR : Lays8.n4 Try.prog growRenR := {
  mixed := by kernel_rfl
  f4 := ⟨Try.f113.name, by decide, Try.func113.trans (congrArg some (by kernel_rfl))⟩
  t0 := Try.underlying0
  a0 := Try.isAgg0
  z0 := Try.sizeOf0
  v0 := Try.zeroValue0
  t3 := Try.underlying3
  a3 := Try.isAgg3
  z3 := Try.sizeOf3
  v3 := Try.zeroValue3
  t4 := Try.underlying4
  a4 := Try.isAgg4
  z4 := Try.sizeOf4
  v4 := Try.zeroValue4
  t9 := Try.underlying9
  a9 := Try.isAgg9
  z9 := Try.sizeOf9
  v9 := Try.zeroValue9
  t20 := Try.underlying20
  a20 := Try.isAgg20
  z20 := Try.sizeOf20
  v20 := Try.zeroValue20
  t22 := Try.underlying61
  a22 := Try.isAgg61
  z22 := Try.sizeOf61
  v22 := Try.zeroValue61 }

theorem calls_GrowR (n : Nat) (h2 : n ≤ 1099511627776) : CallsR Try.prog 113 [.nls, .int .i64 n] [] (.own 0 2 0) [.arr 28 2 []] := by
  refine callsR_newR fun E vals hv => ?_
  obtain ⟨u, v, rfl, k1, k2⟩ := hv.twoR
  rw [k1.nls_inv, k2.int_inv]
  by_cases h1 : 0 < n
  · have hi : ∃ i0 z, Try.prog.info? 28 = some i0 ∧ i0.zero = some z ∧ i0.size = 2 ∧ i0.bytes = 16 ∧ z.cells.size = 2 := by
      have h : (match Try.prog.info? 28 with
        | some i => match i.zero with
          | some z => i.size == 2 && i.bytes == 16 && z.cells.size == 2
          | none => false
        | none => false) = true := by kernel_rfl
      split at h
      · next i hi =>
        split at h
        · next z hz =>
          simp only [Q4,beq_iff_eq] at h
          exact ⟨i, z, hi, hz, h.1.1, h.1.2, h.2⟩
        · cases h
      · cases h
    obtain ⟨i0, z, hi0, hz, hs1, hb1, hc1⟩ := hi
    refine (Any8.slices_Grow_grow growLaysR i0 z hi0 hz (by omega) none 0 0 n [] E.W (Nat.le_refl _) (by omega) (by rw [hb1]; omega) (by omega) (by simp) (fun _ => rfl) (fun a ha => by cases ha)).mono fun e W' ⟨he, hw⟩ => .inr ?_
    obtain ⟨hsb, hh⟩ := drew_same E.W (.cells (([] : List Value).toArray ++ Builtin.zeroCells z.cells (0 + n - 0) ++ Builtin.zeroCells z.cells (grownCap E.W (0 + n) 0 28 - (0 + n))) 28)
    have hge := grownCap_ge E.W (0 + n) 0 28
    refine ⟨_, grownCap E.W (0 + n) 0 28, he, by rw [hw]; exact hsb, by rw [hw]; exact hh, ?_, grownCap_le_maxLen E.W _ 0 _ (by unfold maxLen; omega)⟩
    rw [Array.size_append, Array.size_append, growZ hc1, growZ hc1]
    simp only [Zr] at hge
    simp only [List.size_toArray,Zf,Zr,Yg,← Nat.add_mul]
    rw [show n + (grownCap E.W n 0 28 - n) = grownCap E.W n 0 28 by omega]
  · obtain rfl : n = 0 := by omega
    exact (Any8.slices_Grow_room growLaysR none 0 0 0 E.W (Nat.le_refl _) (by omega) (by omega) (by omega)).mono fun e W' h => .inl h

def kGrowR : C1 := C1.by [.id, .id] (lCons cAny (lOne (cInt .i64))) (fun d => d.1 = .nls ∧ 0 ≤ d.2 ∧ d.2 ≤ 1099511627776) (fun _ => .own 0 2 0) (fun _ => [.arr 28 2 []])
theorem ok_GrowR : C1OK Try.prog 113 kGrowR := C1OK.by (by kernel_rfl) (fun d h => by
  obtain ⟨a, n⟩ := d
  obtain ⟨h1, h2, h3⟩ := h
  simp only at h1 h2 h3
  subst h1
  have := calls_GrowR n.toNat (by omega)
  rw [show ((n.toNat : Nat) : Int) = n by omega] at this
  exact this) (fun _ => rfl) (fun _ => rfl)

def aStrsR (l : List (Int × Int)) : AV := .sl 2 (l.map aPos)
theorem getD_strssR (l : List (List (Int × Int))) (i : Nat) : (l.map aStrsR).getD i (.sl 2 []) = aStrsR (l.getD i []) := getD_map aStrsR l i []
theorem flat_takeR (l : List (List (Int × Int))) (i : Nat) (h : i < l.length) : (l.take (i + 1)).flatten = (l.take i).flatten ++ l.getD i [] := by
  rw [List.take_add_one, List.flatten_append, List.getElem?_eq_getElem h, List.getD_eq_getElem?_getD, List.getElem?_eq_getElem h]
  simp

set_option maxRecDepth 20000 in
set_option maxHeartbeats 4000000 in
theorem calls_ConcatR (l : List (List (Int × Int))) (h1 : l.flatten.length ≤ 1099511627776) (h2 : l.length ≤ 1048576) :
    CallsR Try.prog 109 [.sl 1 (l.map aStrsR)] [] (.sl 2 (l.flatten.map aPos)) [] := by
  refine callsR_of (mrg := true) (dyn := []) (CtrOK.cons ok_GrowR (CtrOK.nil _)) mixed Try.func109 rfl (by simp [Try.ntmps109]) (by kernel_rfl) ?_
  rw [show Try.f109.results.toList = [.tmp 2] from by kernel_rfl]
  have hle : ∀ i, (l.take i).flatten.length ≤ l.flatten.length := fun i => by
    have := congrArg (fun x : List (List (Int × Int)) => x.flatten.length) (List.take_append_drop i l)
    simp only [List.flatten_append,List.length_append] at this
    omega
  simp (maxSteps := 4000000) only [↓Yz,↓Yc,↓Yo,↓wpH_loop,↓Zs,Zl,Z5,Zy,gw,Zm,↓chk,Y0,↓oneK,↓Y1,envOf,↓Zj,↓Ym,opnd,Pg.look,Zb,implies_true,true_and,and_true,valV,Y2,Y3,ofV,Yy,slen,Zg,reduceCtorEq,Nat.reduceEqDiff,Zf,ite_true,ite_false,Option.some.injEq,AV.int.injEq,and_self,exists_eq_left',Z8,Zd,Zz,Yn,Y4,Y5,Zt,tk120,kGrowR]
  refine loopH_intro (α := Nat) (fun i => ([(0, .sl 1 (l.map aStrsR)), (2, .nls), (3, .int .i64 (l.take i).flatten.length), (9, .sl 1 (l.map aStrsR)), (10, .int .i64 l.length), (11, .int .i64 i)], [])) (fun i => i ≤ l.length) (fun i => l.length - i) 0 (by omega) ?_ ?_
  · simp (maxSteps := 4000000) only [Pg.look,true_and,and_true,Yj,Zo,Zp,Qb,Qc,Yv,Qd,Qe,Qf,Yk,Qg,Qh,frz0,Qi,Pg.freeze,Ze,Yw,Yx,Zw,Qj,reduceCtorEq,Nat.reduceEqDiff,Zc,ite_true,ite_false,and_self,Yd,Q0,Zx]
    all_goals simp
  intro i hi
  by_cases hlt : i < l.length
  · have hct : decide ((i : Int) < l.length) = true := decide_eq_true (by omega)
    have hfl := flat_takeR l i hlt
    have hfl2 : (l.take (i + 1)).flatten.length = (l.take i).flatten.length + (l.getD i []).length := by rw [hfl, List.length_append]
    have hl2 := hle (i + 1)
    have w1 : IntKind.i64.wrap (((l.take i).flatten.length : Int) + ((l.getD i []).length : Int)) = ((l.take (i + 1)).flatten.length : Int) := by rw [wrap64 (by omega) (by omega)]; omega
    have hneg : decide (((l.take (i + 1)).flatten.length : Int) < 0) = false := decide_eq_false (by omega)
    simp (maxSteps := 4000000) only [↓Yz,↓Qa,↓Yc,↓Yf,↓Yo,↓Zs,↓Y8,↓Yt,Zl,Z5,Zy,gw,Zm,Z1,↓chk,Y0,noW,↓oneK,↓Y1,↓Q9,↓Zj,↓Qs,↓Ym,opnd,Pg.look,binK,Qr,Zb,implies_true,true_and,and_true,valV,Y2,Y3,binV,intV,Yj,Zo,Zp,ofV,Yy,Qb,Qc,Yv,Qd,Qe,Qf,Yk,Qg,Qh,frz0,Qi,Pg.freeze,Ze,Yw,Yx,Zw,Qj,slen,Qk,AV.cells,TK.cells,Za,Zg,reduceCtorEq,Nat.reduceEqDiff,Zc,ite_true,ite_false,Option.some.injEq,AV.int.injEq,and_self,exists_eq_left',Yd,Z8,Zd,Q1,Zz,Yn,Y4,Y5,Zt,tk61,dz61,tk120,kGrowR,hct,getD_strssR,aStrsR,w1,hneg]
    exact ⟨⟨by omega, hlt⟩, i + 1, by omega, by omega, rfl, by rw [wrap64 (by omega) (by omega)]; rfl⟩
  · have hcf : decide ((i : Int) < l.length) = false := decide_eq_false (by omega)
    have hil : i = l.length := by omega
    subst hil
    rw [List.take_length]
    simp (maxSteps := 4000000) only [↓Yz,↓Js,↓Yc,↓Yf,↓Yo,↓wpH_loop,↓Zs,↓Yt,Zl,Z5,Zy,gw,Zm,Z1,↓chk,Y0,↓oneK,↓Y1,↓Zj,↓Jb,↓Q2,↓Ym,opnd,Pg.look,binK,Qr,Zb,implies_true,true_and,and_true,valV,Y2,Y3,binV,intV,ofV,Yy,retA,Pg.freeze,Ze,slen,↓callT,callC,callV,callH,Qw,normA,resL,Q5,Y6,resM,Je,Jf,Zg,reduceCtorEq,Nat.reduceEqDiff,Zh,Zc,Zk,Zf,Yb,Z9,Zr,ite_true,ite_false,Option.some.injEq,AV.int.injEq,and_self,exists_eq_left',Z8,Qx,cAny_dec,Qy,Ql,Qm,Zd,Ya,Q6,Qz,Jg,Jh,Qn,Qo,Qp,Ju,Q7,Zz,Yn,Y4,Y5,Zt,↓msel,muC,↓callP,Q8,List.range'_succ,tk120,kGrowR,hcf]
    refine ⟨⟨by omega, by omega⟩, ?_⟩
    refine loopH_intro (α := Nat) (fun i => ([(2, .nls), (6, .own 0 2 (l.take i).flatten.length), (25, .sl 1 (l.map aStrsR)), (26, .int .i64 l.length), (27, .int .i64 i)], [.arr 28 2 ((l.take i).flatten.map aPos)])) (fun i => i ≤ l.length) (fun i => l.length - i) 0 (by omega) ?_ ?_
    · simp (maxSteps := 4000000) only [Pg.look,true_and,and_true,Yj,Ji,Zo,Zp,Qb,Qc,Yv,Jj,Qd,Qe,Qf,Yk,Jk,Jl,Jm,Jr,Qg,Qh,frz0,Qi,Pg.freeze,Ze,Yw,subO,Yx,Zw,Qj,Za,reduceCtorEq,Nat.reduceEqDiff,Zh,Zc,ite_true,ite_false,and_self,pickOK_one,Q0,Zx,Jz]
      exact ⟨subX_eq rfl rfl, rfl⟩
    intro i hi
    by_cases hlt : i < l.length
    · have hct : decide ((i : Int) < l.length) = true := decide_eq_true (by omega)
      have hfl := flat_takeR l i hlt
      have hfl2 : (l.take (i + 1)).flatten.length = (l.take i).flatten.length + (l.getD i []).length := by rw [hfl, List.length_append]
      have hl2 := hle (i + 1)
      simp (maxSteps := 4000000) only [↓Yz,↓Qa,↓Yc,↓Yf,↓Yo,↓Zs,↓Y8,Zl,Z5,Zy,gw,Zm,Z1,↓chk,Y0,noW,↓oneK,↓Y1,↓Q9,↓Zj,↓Qs,↓Ym,opnd,Pg.look,binK,Qr,Zb,implies_true,true_and,and_true,valV,Y2,Y3,binV,intV,Yj,Ji,Zo,Zp,ofV,Yy,Qb,Qc,Yv,Jj,Qd,Qe,Qf,Yk,Jk,Jl,Jm,Jr,Qg,Qh,frz0,Qi,Pg.freeze,Ze,Yw,subO,Yx,Zw,Qj,srcV,srcE,appK,Qk,AV.cells,TK.cells,Za,Zg,Nat.reduceEqDiff,Zh,Zc,Zn,ite_true,ite_false,Option.some.injEq,not_false_eq_true,and_self,exists_eq_left',pickOK_one,Z8,not_mem_nil,Zd,Q1,Jz,Zz,Yn,Y4,Y5,Zt,eb28,tk61,dz61,tk120,kGrowR,hct,getD_strssR,aStrsR,leafy_posL,app_posL]
      exact ⟨⟨by omega, hlt⟩, by omega, i + 1, by omega, by omega, subX_eq (by rw [hfl]) (pureB_posL _), hfl2.symm, by rw [wrap64 (by omega) (by omega)]; rfl⟩
    · have hcf : decide ((i : Int) < l.length) = false := decide_eq_false (by omega)
      have hil : i = l.length := by omega
      subst hil
      rw [List.take_length]
      simp (maxSteps := 4000000) only [↓Yz,↓Qt,↓Js,↓Yc,↓Yf,↓Zs,↓Yt,Zl,Z5,Zy,gw,Zm,Z1,↓chk,Y0,↓oneK,↓Y1,↓Zj,↓Jb,↓Q2,↓Ym,opnd,Pg.look,binK,Qr,Zb,implies_true,valV,Y2,Y3,binV,intV,Yj,Zo,Zp,retA,resK,tupA,Qb,Qc,Yv,Qd,Qe,Qf,Yk,Qg,Qh,frz0,Qi,Pg.freeze,Ze,List.foldl_cons,Yw,Yx,Zw,Qj,Jd,Y6,resM,frzAt,Za,Nat.reduceEqDiff,Zc,Zf,Zn,ite_true,ite_false,Z2,Z7,Z3,and_self,Yd,Z8,resIn,List.contains_cons,Zd,Bool.or_false,beq_self_eq_true,Zz,Yn,Y4,Y5,Zt,kGrowR,hcf,pureB_posL]

def kConcatR : C1 := C1.by [.sl 1 [some 2]] (lOne (cSl 1 (cSl 2 cPos2))) (fun d => d.flatten.length ≤ 1099511627776 ∧ d.length ≤ 1048576) (fun d => .sl 2 (d.flatten.map aPos)) (fun _ => [])
theorem ok_ConcatR : C1OK Try.prog 109 kConcatR := C1OK.by (by kernel_rfl) (fun d h => calls_ConcatR d h.1 h.2) (fun _ => rfl) (fun _ => rfl)

/-! ### Turned round -/
def revK (l : List (Int × Int)) (k : Nat) : List (Int × Int) := (List.range l.length).map fun i => if i < k ∨ l.length ≤ i + k then l.getD (l.length - 1 - i) (0, 0) else l.getD i (0, 0)
theorem revK_len (l : List (Int × Int)) (k : Nat) : (revK l k).length = l.length := by simp [revK]
theorem revK_get (l : List (Int × Int)) (k i : Nat) (h : i < l.length) : (revK l k).getD i (0, 0) = if i < k ∨ l.length ≤ i + k then l.getD (l.length - 1 - i) (0, 0) else l.getD i (0, 0) := by
  rw [List.getD_eq_getElem?_getD, revK, List.getElem?_map, List.getElem?_range h]; rfl
theorem ext_getD {a b : List (Int × Int)} (hl : a.length = b.length) (h : ∀ i, i < a.length → a.getD i (0, 0) = b.getD i (0, 0)) : a = b := by
  refine List.ext_getElem hl fun i h1 h2 => ?_
  have := h i h1
  rw [List.getD_eq_getElem?_getD, List.getD_eq_getElem?_getD, List.getElem?_eq_getElem h1, List.getElem?_eq_getElem h2] at this
  exact this
theorem revK_zero (l : List (Int × Int)) : revK l 0 = l := by
  refine ext_getD (revK_len l 0) fun i h => ?_
  rw [revK_len] at h
  rw [revK_get l 0 i h, if_neg (by omega)]
theorem revK_all (l : List (Int × Int)) (k : Nat) (h : l.length ≤ k + k + 1) : revK l k = l.reverse := by
  refine ext_getD (by rw [revK_len, List.length_reverse]) fun i hi => ?_
  rw [revK_len] at hi
  rw [revK_get l k i hi, getD_rev l i (0, 0) hi]
  split
  · rfl
  · rw [show l.length - 1 - i = i by omega]
theorem getD_setP (l : List (Int × Int)) (i j : Nat) (x d : Int × Int) (h : j < l.length) : (l.set j x).getD i d = if i = j then x else l.getD i d := by
  rw [List.getD_eq_getElem?_getD, List.getElem?_set, List.getD_eq_getElem?_getD]
  by_cases e : j = i
  · rw [if_pos e, if_pos h, if_pos e.symm]; rfl
  · rw [if_neg e, if_neg (fun e' => e e'.symm)]
theorem revK_step (l : List (Int × Int)) (k : Nat) (h : k + k + 1 < l.length) : ((revK l k).set k ((revK l k).getD (l.length - 1 - k) (0, 0))).set (l.length - 1 - k) ((revK l k).getD k (0, 0)) = revK l (k + 1) := by
  refine ext_getD (by simp [revK_len]) fun i hi => ?_
  simp only [List.length_set,revK_len] at hi
  rw [getD_setP _ _ _ _ _ (by rw [List.length_set, revK_len]; omega), getD_setP _ _ _ _ _ (by rw [revK_len]; omega), revK_get l (k + 1) i hi, revK_get l k k (by omega), revK_get l k (l.length - 1 - k) (by omega), revK_get l k i hi]
  by_cases e1 : i = l.length - 1 - k
  · rw [if_pos e1, if_neg (by omega), if_pos (by omega), e1, show l.length - 1 - (l.length - 1 - k) = k by omega]
  · rw [if_neg e1]
    by_cases e2 : i = k
    · rw [if_pos e2, if_neg (by omega), if_pos (by omega), e2]
    · rw [if_neg e2]
      by_cases e3 : i < k ∨ l.length ≤ i + k
      · rw [if_pos e3, if_pos (by omega)]
      · rw [if_neg e3, if_neg (by omega)]
theorem set_pos (l : List (Int × Int)) (i : Nat) (x : Int × Int) : (l.map aPos).set i (.agg [.int .i64 x.1, .int .i64 x.2]) = (l.set i x).map aPos := by
  rw [List.map_set]; rfl
theorem pos_pure : ∀ b : Int × Int, (cPos2.enc b).pureB = true := fun _ => rfl
abbrev hPoss : HC (List (Int × Int)) := hOwn 28 2 cPos2 pos_pure

set_option maxRecDepth 20000 in
set_option maxHeartbeats 4000000 in
theorem calls_Reverse (l : List (Int × Int)) (hl : l.length ≤ 1099511627776) : CallsR Try.prog 108 [.own 0 2 l.length] [.arr 28 2 (l.map aPos)] (.tuple []) [.arr 28 2 (l.reverse.map aPos)] := by
  refine callsR_of (mrg := true) (dyn := []) (CtrOK.nil _) mixed Try.func108 rfl (by simp [Try.ntmps108]) (by kernel_rfl) ?_
  rw [show Try.f108.results.toList = [] from by kernel_rfl]
  have w0 : IntKind.i64.wrap ((l.length : Int) - 1) = (l.length : Int) - 1 := wrap64 (by omega) (by omega)
  simp (maxSteps := 4000000) only [↓Yz,↓Yc,↓Yo,↓wpH_loop,↓Zs,Zl,Z5,Zy,gw,Zm,↓chk,Y0,↓oneK,↓Y1,envOf,↓Zj,↓Ym,opnd,Pg.look,binK,Qr,Zb,implies_true,true_and,and_true,valV,Y2,Y3,binV,intV,ofV,Yy,slen,Zg,reduceCtorEq,Nat.reduceEqDiff,Zk,Zf,Zr,ite_true,ite_false,Option.some.injEq,AV.int.injEq,and_self,exists_eq_left',Zd,Zz,Yn,Y4,Y5,Zt,tk61,w0]
  refine loopH_intro (α := Nat) (fun k => ([(0, .own 0 2 l.length), (2, .int .i64 k), (3, .int .i64 ((l.length : Int) - 1 - k))], [.arr 28 2 ((revK l k).map aPos)])) (fun k => k + k ≤ l.length + 1) (fun k => l.length - k) 0 (by omega) ?_ ?_
  · simp (maxSteps := 4000000) only [Pg.look,true_and,and_true,Yj,Ji,nxtQ,hdS,pairsA,frzA,Zo,Qu,Zp,Ja,Qb,Qc,Yv,Jj,Qd,Qe,Qf,Yk,Jk,Jl,Jm,Jr,Qg,Qh,frz0,Qi,Pg.freeze,Ze,Yw,subO,Yx,Zw,Qj,Za,reduceCtorEq,Nat.reduceEqDiff,Zh,Zc,ite_true,ite_false,and_self,Q0,Zq,pureB_posL,revK_zero]
    exact ⟨by decide, subX_eq rfl (pureB_posL _), by omega⟩
  intro k hk
  have hrl := revK_len l k
  by_cases hlt : k + k + 1 < l.length
  · have c1 : decide ((k : Int) < (l.length : Int) - 1 - k) = true := decide_eq_true (by omega)
    have e1 : ((l.length : Int) - 1 - k).toNat = l.length - 1 - k := by omega
    have w1 : IntKind.i64.wrap ((k : Int) + 1) = ((k + 1 : Nat) : Int) := by rw [wrap64 (by omega) (by omega)]; rfl
    have w2 : IntKind.i64.wrap ((l.length : Int) - 1 - k - 1) = (l.length : Int) - 1 - ((k + 1 : Nat) : Int) := by rw [wrap64 (by omega) (by omega)]; omega
    have hst := revK_step l k hlt
    simp (maxSteps := 4000000) only [↓Yz,↓Qa,↓Yc,↓Yf,↓Yo,↓Zs,↓Y8,Zl,Z5,Zy,gw,Zm,Z1,↓chk,Y0,noW,↓oneK,↓Y1,↓Q9,↓Zj,↓Qs,↓Ym,opnd,Pg.look,binK,Qr,Zb,implies_true,true_and,and_true,valV,Y2,Y3,binV,intV,Yj,Ji,nxtQ,hdS,pairsA,frzA,Zo,Qu,Zp,Ja,Nat.reduceAdd,ofV,Yy,Qb,Qc,Yv,Jj,Qd,Qe,Qf,Yk,Jk,Jl,Jm,Jr,Qg,Qh,frz0,Qi,Pg.freeze,Ze,Yw,subO,Yx,Zw,Qj,Qk,Jd,AV.cells,TK.cells,AV.leaf,AV.leafy,Qq,lay,Za,Zg,reduceCtorEq,Nat.reduceEqDiff,Nat.reduceAdd,Zh,Zc,Zk,Zf,Zn,Zr,ite_true,ite_false,Option.some.injEq,Z2,Z7,Z3,and_self,exists_eq_left',Z8,List.length_set,Zd,Q1,cutL,Ye,Zu,Zv,Zx,Yg,Ys,Yh,Yi,Zq,Zz,Yn,Y4,Y5,selC_true,Zt,pureC,tk28,dz28,tk61,c1,e1,w1,w2,hrl,getD_pos,aPos_def,set_pos,hst,pureB_posL]
    exact ⟨⟨by omega, by omega⟩, by omega, ⟨by omega, by omega⟩, by omega, ⟨by omega, by omega⟩, by omega, ⟨by omega, by omega⟩, by omega, k + 1, by omega, by omega, by decide, subX_eq rfl (pureB_posL _), rfl, rfl⟩
  · have c1 : decide ((k : Int) < (l.length : Int) - 1 - k) = false := decide_eq_false (by omega)
    have hall := revK_all l k (by omega)
    simp (maxSteps := 4000000) only [↓Yz,↓Js,↓Yc,↓Yf,↓Zs,↓Yt,Zl,Z5,Zy,gw,Zm,Z1,↓chk,Y0,↓oneK,↓Y1,↓Zj,↓Jb,↓Q2,↓Ym,opnd,Pg.look,binK,Qr,Zb,implies_true,true_and,and_true,valV,Y2,Y3,binV,intV,Yj,Ji,nxtQ,hdS,pairsA,frzA,Zo,Qu,Zp,Ja,retA,resK,tupA,Qb,Qc,Yv,Jj,Qd,Qe,Qf,Yk,Jk,Jl,Jm,pairsL,Qg,Qh,frzL,Qi,Pg.freeze,Ze,Yw,subO,Yx,Zw,Qj,subL,Za,reduceCtorEq,Nat.reduceEqDiff,Zh,Zc,Zk,Zf,Zr,ite_true,ite_false,and_self,Zd,Zq,Zz,Yn,Y4,Y5,Zt,c1,hall,pureB_posL]
    exact ⟨by decide, subX_eq rfl (pureB_posL _)⟩
def kReverse : C1 := C1.mby (hCons hPoss hNil) (fun d => d.1.length ≤ 1099511627776) (fun _ => .tuple []) (fun d => [.arr 28 2 (d.1.reverse.map aPos)])
theorem ok_Reverse : C1OK Try.prog 108 kReverse := C1OK.mby (by kernel_rfl) (fun d h => calls_Reverse d.1 h) (fun _ _ => Nat.le_refl _)
end Go.Pg
namespace Go.Pg
open Go Go.Proofs

def blank (b : UInt8) : Bool := b == 32 || b == 9
/-- A line's first byte that is no blank, or its last one. -/
def firstC (s : List UInt8) : Int := if (s.takeWhile blank).length < s.length then (s.takeWhile blank).length else max ((s.length : Int) - 1) 0
theorem tw_step {p : UInt8 → Bool} : ∀ (s : List UInt8) (i : Nat), i ≤ (s.takeWhile p).length → i < s.length → (p (s.getD i 0) = true → i + 1 ≤ (s.takeWhile p).length) ∧ (p (s.getD i 0) = false → (s.takeWhile p).length = i)
  | [], i, _, h => by simp at h
  | b :: s, i, h1, h2 => by
    cases hb : p b with
    | false =>
      rw [List.takeWhile_cons_of_neg (by simp [hb])] at h1 ⊢
      have : i = 0 := by simpa using h1
      subst this
      simp [hb]
    | true =>
      rw [List.takeWhile_cons_of_pos hb] at h1 ⊢
      cases i with
      | zero => simp [hb]
      | succ i =>
        have := tw_step s i (by simpa using h1) (by simpa using h2)
        simpa using this
theorem tw_le (s : List UInt8) : (s.takeWhile blank).length ≤ s.length := (List.takeWhile_sublist _).length_le
theorem cls_blank (b : UInt8) : (cls (b.toNat : Int) true != 0) = !blank b := by
  unfold cls blank
  have h1 : ((b.toNat : Int) == 32) = (b == 32) := by
    rw [Bool.eq_iff_iff, beq_iff_eq, beq_iff_eq]
    exact ⟨fun h => UInt8.toNat_inj.1 (by show _ = 32; omega), fun h => by subst h; rfl⟩
  have h2 : ((b.toNat : Int) == 9) = (b == 9) := by
    rw [Bool.eq_iff_iff, beq_iff_eq, beq_iff_eq]
    exact ⟨fun h => UInt8.toNat_inj.1 (by show _ = 9; omega), fun h => by subst h; rfl⟩
  rw [h1, h2]
  cases (b == 32 || b == 9) <;> simp
set_option maxHeartbeats 4000000 in
theorem calls_First (s : List UInt8) (hs : s.length ≤ 140737488355328) : CallsR Try.prog 40 [.str s] [] (.int .i64 (firstC s)) [] := by
  refine callsR_of (mrg := true) (dyn := []) (CtrOK.cons ok_Of (CtrOK.nil _)) mixed Try.func40 rfl (by simp [Try.ntmps40]) (by kernel_rfl) ?_
  rw [show Try.f40.results.toList = [.tmp 2] from by kernel_rfl]
  simp (maxSteps := 4000000) only [↓Yz,↓Yc,↓Yo,↓wpH_loop,↓Zs,Zl,Z5,Zy,gw,Zm,↓chk,Y0,↓oneK,↓Y1,envOf,↓Zj,↓Ym,opnd,Pg.look,Zb,implies_true,true_and,valV,Y2,Y3,ofV,Yy,reduceCtorEq,Nat.reduceEqDiff,Zf,ite_true,ite_false,and_self,Zd,Zz,Yn,Y4,Y5,Zt,tk9,kOf]
  refine loopH_intro (α := Nat) (fun i => ([(0, .str s), (2, .int .i64 0), (5, .int .i64 s.length), (6, .int .i64 i)], [])) (fun i => i ≤ (s.takeWhile blank).length) (fun i => s.length - i) 0 (by omega) ?_ ?_
  · simp (maxSteps := 4000000) only [Pg.look,Yj,Zo,Zp,Qb,Qc,Yv,Qd,Qe,Qf,Yk,Qg,Qh,frz0,Qi,Pg.freeze,Ze,Yw,Yx,Zw,Qj,reduceCtorEq,Nat.reduceEqDiff,Zc,ite_true,ite_false,and_self,Yd,Q0]
  intro i hi
  have hle := tw_le s
  by_cases hlt : i < s.length
  · have hct : decide ((i : Int) < s.length) = true := decide_eq_true (by omega)
    obtain ⟨g1, g2⟩ := tw_step s i hi hlt
    simp (maxSteps := 4000000) only [↓Yz,↓Qa,↓Qt,↓Yc,↓Yf,↓Yo,↓Zs,↓Y8,iselH_if,Zl,Z5,Zy,gw,Zm,Z1,↓chk,Y0,↓oneK,↓Y1,↓Zj,↓Qv,↓Qs,↓blockA_ret,↓Ym,opnd,Pg.look,binK,Qr,Zb,implies_true,true_and,and_true,valV,Y2,Y3,binV,intV,Yj,Zo,Zp,ofV,Yy,retA,resK,tupA,Qb,Qc,Yv,Qd,Qe,Qf,Yk,Qg,Qh,frz0,Qi,Pg.freeze,Ze,Yw,Yx,Zw,Qj,↓callT,callC,callV,callH,Qw,normA,resL,Q5,Y6,resM,Je,Jf,reduceCtorEq,Nat.reduceEqDiff,Zc,Zf,Yb,Z9,ite_true,ite_false,and_self,Bool.not_eq_true',Yd,Qx,cBool_dec,Qy,Ql,Qm,Zd,Ya,Q6,Qz,Jg,Jh,Qn,Qo,Qp,Q1,Q7,Zz,Yn,Y4,Y5,Zt,↓msel,muC,↓callP,Q8,tk9,kOf,hct,cls_blank]
    refine ⟨⟨by omega, hlt⟩, fun hb => ?_, fun hb => ?_⟩
    · unfold firstC
      rw [g2 hb, if_pos hlt]
    · have hb2 : blank (s.getD i 0) = true := by simpa using hb
      exact ⟨i + 1, g1 hb2, by omega, by rw [wrap64 (by omega) (by omega)]; rfl⟩
  · have hcf : decide ((i : Int) < s.length) = false := decide_eq_false (by omega)
    simp (maxSteps := 4000000) only [↓Yz,↓Qt,↓Js,↓Yc,↓Yf,↓Zs,↓Yt,Zl,Z5,Zy,gw,Zm,Z1,↓chk,Y0,↓oneK,↓Y1,↓Zj,↓Jb,↓Q2,↓Ym,opnd,Pg.look,binK,Qr,Zb,implies_true,true_and,and_true,valV,Y2,Y3,binV,intV,Yj,Zo,Zp,ofV,Yy,retA,resK,tupA,Qb,Qc,Yv,Qd,Qe,Qf,Yk,Qg,Qh,frz0,Qi,Pg.freeze,Ze,Yw,Yx,Zw,Qj,foldInts,Zg,reduceCtorEq,Nat.reduceEqDiff,Zc,Zf,Yb,Z9,ite_true,ite_false,Option.some.injEq,AV.int.injEq,and_self,exists_eq_left',Yd,Zd,Zz,Yn,Y4,Y5,Zt,tk9,kOf,hcf]
    unfold firstC
    rw [if_neg (by omega), wrap64 (by omega) (by omega)]
def clampP (ls : Ls) (p : Int × Int) (past : Bool) : Int × Int :=
  if ls.length = 0 then (0, 0) else
  let l := min (max p.1 0) ((ls.length : Int) - 1)
  let m : Int := (ls.getD l.toNat []).length
  (l, min (max p.2 0) (if past = true then m else max (m - 1) 0))
set_option maxHeartbeats 4000000 in
theorem calls_Clamp (ls : Ls) (p : Int × Int) (past : Bool) (hs : small ls) : CallsR Try.prog 24 [.sl 1 (ls.map .str), aPos p, .bool past] [] (aPos (clampP ls p past)) [] := by
  obtain ⟨p1, p2⟩ := p
  refine callsR_of (mrg := true) (dyn := []) (CtrOK.nil _) mixed Try.func24 rfl (by simp [Try.ntmps24]) (by kernel_rfl) ?_
  rw [show Try.f24.results.toList = [.cell 6 28] from by kernel_rfl]
  simp (maxSteps := 4000000) only [↓Yz,↓Qa,↓Qt,↓Yc,↓Yf,↓Zs,iselH_if,Zl,Z5,Zy,gw,Zm,Z1,↓chk,Y0,noW,↓oneK,↓Y1,↓Q9,envOf,↓Zj,↓Qv,↓Ym,opnd,Pg.look,binK,Qr,Zb,implies_true,true_and,and_true,valV,Y2,Y3,binV,intV,Yj,Zo,Zp,Nat.reduceAdd,ofV,Yy,retA,resK,tupA,Qb,Qc,Yv,Qd,Qe,Qf,Yk,Qg,Qh,frzL,frz0,Qi,Pg.freeze,Ze,Yw,Yx,Zw,Qj,subL,slen,Qk,Jd,Y6,resM,AV.cells,TK.cells,AV.definite,AV.leaf,AV.leafy,Qq,lay,buildL,foldInts,Zi,Za,Zg,reduceCtorEq,Nat.reduceEqDiff,Nat.reduceAdd,Zh,Zc,Z6,Zk,Zf,Yb,Z9,Zn,Z4,Zr,ite_true,ite_false,Option.some.injEq,Yu,AV.int.injEq,AV.agg.injEq,Z2,Z7,Z3,and_self,Bool.not_eq_true',exists_eq_left',Yd,Z8,Zd,getD_str,Z0,cutL,Ye,Zu,Zv,Zx,Ju,Yg,Nat.reduceLeDiff,Ys,Yh,Yi,Zq,Zz,Yn,Y4,Y5,Zt,mapAt,tk3,tk9,dz9,tk22,tk28,tz28,dz28,aPos]
  have hl := hs.1
  have hw : IntKind.i64.wrap ((ls.length : Int) - 1) = (ls.length : Int) - 1 := wrap64 (by omega) (by omega)
  rw [hw]
  refine ⟨fun h => ?_, fun h => ?_⟩
  · have h0 : ls.length = 0 := by simpa using h
    simp [clampP, h0]
  · have h0 : ls.length ≠ 0 := by simpa using h
    have h2 := hs.2 (min (max p1 0) ((ls.length : Int) - 1)).toNat
    refine ⟨⟨by omega, by omega⟩, fun hp => ?_, fun hp => ?_⟩
    · subst hp
      rw [wrap64 (by omega) (by omega)]
      simp [clampP, h0]
    · have : past = true := by simpa using hp
      subst this
      simp [clampP, h0]
def kFirst : C1 := C1.by [.id] (lOne cStr) (fun s => s.length ≤ 140737488355328) (fun s => .int .i64 (firstC s)) (fun _ => [])
theorem ok_First : C1OK Try.prog 40 kFirst := C1OK.by (by kernel_rfl) (fun d h => calls_First d h) (fun _ => rfl) (fun _ => rfl)
end Go.Pg
