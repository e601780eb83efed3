/- The word at a place: the document's. Chapter 25: the chapter's example. Searching: plain laws. MoveSearches: n goes on as the last search went, N the other way, star searches the word. -/
import Derived.Test.YtkkcfkggfpoagaaPgFx10
open List renaming getElem?_cons_succ → Za, getElem?_cons_zero → Zb, cons_append → Zd, nil_append → Ze, append_nil → Zf, contains_nil → Zg, foldl_nil → Zh, getElem?_toArray → Zi, range'_zero → Zj, length_cons → Zk, length_nil → Zl, toList_toArray → Zo, map_cons → Zs, getD_cons_zero → Zt, all_cons → Zu, map_nil → Zx, contains_cons → Zy, all_nil → Z0, drop_succ_cons → Z1, take_succ_cons → Z2, set_cons_zero → Z5, set_cons_succ → Yc, drop_zero → Yp, take_zero → Yq, drop_nil → Yv, take_nil → Y4, length_map → Qr, filter_cons → Jb
open Bool renaming false_eq_true → Zc, not_true → Zn, not_false → Zq, and_self → Zr, true_eq_false → Zz, or_self → Y1, or_false → Xh, true_and → Xi
open Int renaming toNat_natCast → Zm
open Nat renaming zero_add → Zp, zero_lt_succ → Z7, le_refl → Y0, sub_zero → Qb, add_zero → Qc, not_lt_zero → Qs, lt_irrefl → Jc, sub_self → Jq
open Option renaming bind_some → Zv, getD_some → Z6, isSome_some → Yd, map_some → Qd, map_none → Qe, isSome_none → Qt
open Go.Pg renaming thenA_normal → Zw, bselH_false → Z3, gselH_plain → Z4, wpH_region → Z8, closeQ_nil → Z9, diagQ_zero → Ya, selC_false → Yb, cselH_bool → Ye, runH_cons → Yf, subV_succ → Yg, regH_none → Yh, lCons_dec → Yj, dec2_some → Yk, optP_some → Yl, optV_some → Ym, optH_some → Yn, look_stripE → Yo, runH_nil → Yr, res_succ → Ys, lOne_dec → Yt, iselH_false → Yu, wpH_cond → Yw, normArgs → Yx, cInt_dec → Yy, C1by_pre → Yz, wpH_seq → Y2, res8_eq → Y3, mergeable → Y5, cBool_dec → Y6, C1by_ns → Y7, C1by_it → Y8, C1by_mu → Y9, pickOK_nil → Qa, gselH_if → Qf, stepEv → Qg, alives → Qh, ofLeaf → Qi, pickOf → Qj, isNext → Qk, iselH_true → Ql, shiftR → Qm, shift1 → Qn, C1by_r → Qo, C1by_H → Qp, kselH_1 → Qq, wpH_skip → Qu, wpA_H → Qv, justK → Qw, pureK → Qx, heapV → Qy, footV → Qz, ptrsE → Q0, subOs → Q1, subEv → Q2, callT → Q3, normA → Q4, nextF → Q5, nextG → Q6, callC → Q7, callV → Q8, putCells → Q9, callP → Ja, mergeK → Jd, condsL → Je, wpH_ret → Jf, ldCells → Jg, intOp → Jh, closeQ_succ → Ji, gkind → Jj, dstOf → Jk, pickC → Jl, pickV → Jm, sameK → Jn, decL_str → Jo, cSl_dec → Jp, cAgg_dec → Jr, heapK → Js, objAt → Jt, blockA_exit → Ju, thenA_ret → Jv, buildL → Jw, wpH_block → Jx, thenA_exit → Jy, getD_str → Jz, lNil_dec → J0, cByte_dec → J1, cByte_lit → J2, hCons_dec → J3, app3_some → J4, selC_true → J5, wpH_exit → J6, cStr_dec → J7, C1mby_mu → J8, mkM_some → J9, hNil_dec → Xa, hP1_some → Xb, hP2_some → Xc, hB1_some → Xd, hBox_dec → Xe, foldInts → Xf, blockA_normal → Xg
open Array renaming toList_append → Yi
namespace Go.Pg
open Go Go.Proofs

def rB (s : List UInt8) (k : Nat) : Nat := if k < s.length ∧ wAt s k = true then wBeg s k else k
theorem wBeg_at (s : List UInt8) : ∀ k, wAt s k = true → wAt s (wBeg s k) = true
  | 0, h => h
  | k + 1, h => by
    unfold wBeg
    split
    · next h2 => exact wBeg_at s k h2
    · exact h
theorem wBeg_stop (s : List UInt8) (k : Nat) (h : ¬ (0 < k ∧ wAt s (k - 1) = true)) : wBeg s k = k := by
  cases k with
  | zero => rfl
  | succ k => rw [wBeg]; exact if_neg (fun h2 => h ⟨by omega, h2⟩)
theorem rB_step (s : List UInt8) (k : Nat) (h : 0 < k ∧ k < s.length ∧ wAt s k = true ∧ wAt s (k - 1) = true) : rB s (k - 1) = rB s k := by
  obtain ⟨h1, h2, h3, h4⟩ := h
  obtain ⟨j, rfl⟩ : ∃ j, k = j + 1 := ⟨k - 1, by omega⟩
  rw [Nat.add_sub_cancel] at h4 ⊢
  rw [rB, rB, if_pos ⟨by omega, h4⟩, if_pos ⟨h2, h3⟩]
  conv => rhs; rw [wBeg, if_pos h4]
theorem rB_stop (s : List UInt8) (k : Nat) (h : ¬ (0 < k ∧ k < s.length ∧ wAt s k = true ∧ wAt s (k - 1) = true)) : rB s k = k := by
  unfold rB
  split
  · next h2 => exact wBeg_stop s k (fun h3 => h ⟨h3.1, h2.1, h2.2, h3.2⟩)
  · rfl
theorem findUp_none_at {g : Nat → Bool} {k i : Nat} (h : g i = true) (hk : 0 < k) : findUp g k i = some i := by
  obtain ⟨j, rfl⟩ : ∃ j, k = j + 1 := ⟨k - 1, by omega⟩
  rw [findUp, if_pos h]
theorem findUp_first {g : Nat → Bool} : ∀ {k i j : Nat}, findUp g k i = some j → ∀ m, i ≤ m → m < j → g m = false
  | 0, _, _, h => by cases h
  | k + 1, i, j, h => by
    unfold findUp at h
    split at h
    · next hg => cases h; intro m h1 h2; omega
    · next hg =>
      intro m h1 h2
      by_cases hm : m = i
      · subst hm; exact Bool.eq_false_iff.2 hg
      · exact findUp_first h m (by omega) h2
def rwL (l : Int) (s : List UInt8) (b : Nat) : Wd := match findUp (wAt s) (s.length - b) b with
  | some i => wdB l s i
  | none => ((0, 0), [], false)
theorem rw_word (l : Int) (s : List UInt8) (c : Nat) : rwL l s (rB s c) = wordL l s c := by
  unfold rwL wordL
  by_cases h : c < s.length ∧ wAt s c = true
  · have hle := wBeg_le s c
    rw [rB, if_pos h, findUp_none_at h.2 (by omega), findUp_none_at (wBeg_at s c h.2) (by omega)]
  · rw [rB, if_neg h]
    cases e : findUp (wAt s) (s.length - c) c with
    | none => rfl
    | some i =>
      have h1 := findUp_some e
      have h2 := findUp_first e
      show wdB l s i = wdB l s (wBeg s i)
      rw [wBeg_stop]
      intro h3
      by_cases hic : i = c
      · subst hic; exact h ⟨by omega, h1.2.2⟩
      · have := h2 (i - 1) (by omega) (by omega)
        rw [this] at h3
        exact absurd h3.2 (by simp)

set_option maxRecDepth 20000 in
set_option maxHeartbeats 8000000 in
theorem calls_RWord (ls : Ls) (p : Int × Int) (hf : okText ls) : CallsR Try.prog 12 [.sl 1 (ls.map .str), aPos p] [] (aWd (wordP ls p)) [] := by
  refine callsR_of (mrg := true) (dyn := [14]) (CtrOK.cons ok_may (CtrOK.cons ok_ROf (CtrOK.nil _))) mixed Try.func12 rfl (by simp [Try.ntmps12]) (by kernel_rfl) ?_
  rw [show Try.f12.results.toList = [.cell 4 28, .tmp 5, .tmp 6] from by kernel_rfl]
  obtain ⟨p1, p2⟩ := p
  unfold wordP
  dsimp only
  have hmy : may ls (p1, p2) 1 = place ls p1 p2 := by unfold may; simp
  cases hm : place ls p1 p2 with
  | false =>
    rw [hm] at hmy
    rw [if_neg (by simp)]
    simp (maxSteps := 4000000) only [↓Qv,↓Jf,↓Y2,↓Yw,↓Z8,↓Ql,Z3,Yr,Yf,gw,Z4,Ye,↓chk,Qw,noW,↓oneK,↓Qx,↓Js,envOf,↓Zw,↓Jv,↓Qg,opnd,Pg.look,Zq,Zc,false_implies,implies_true,true_and,and_true,valV,Qy,Qz,Qh,Z9,Ya,Nat.reduceAdd,ofV,Qi,retA,resK,tupA,subA,subQ,Q0,frzO,subF,subG,Qj,frzE,frzC,frzL,frz0,frzH,Pg.freeze,Zh,Q1,Q2,Yg,subM,subL,Jg,Jt,↓Q3,Q7,Q8,callH,Yx,Q4,normC,resL,Y3,Ys,resM,Qm,Qn,AV.cells,TK.cells,AV.definite,AV.leaf,AV.leafy,Q9,lay,Jw,Za,Zb,Z6,reduceCtorEq,Nat.reduceEqDiff,Nat.reduceAdd,Ze,Zf,Zd,Zk,Zl,Zs,Zx,Z5,Yc,Zp,ite_true,ite_false,Option.some.injEq,Yd,AV.agg.injEq,Prod.mk.injEq,Zu,Z0,Zr,and_self,exists_eq_left',Qa,Yy,Jp,Jr,Yt,Yj,Yk,Zy,Zg,Nat.reduceBEq,Y1,Zj,Jo,Y7,Yz,Qo,Qp,Yl,Ym,Yn,Zt,cutL,Yp,Z1,Z2,Yq,Qb,Y0,Yv,Y4,Z7,Y8,Yh,Qk,Q5,Q6,Yb,↓msel,muC,↓Ja,Y9,mapAt,tk28,tz28,dz28,kMay,aPos,aWd,hmy]
  | true =>
    rw [hm] at hmy
    rw [if_pos rfl]
    obtain ⟨g1, g2, g3, g4⟩ := (place_iff _ _ _).1 hm
    obtain ⟨l, rfl⟩ := Int.eq_ofNat_of_zero_le g1
    obtain ⟨c, rfl⟩ := Int.eq_ofNat_of_zero_le g3
    rw [Int.toNat_natCast] at g2 g4
    have h5 := fits_getD hf l
    rw [Int.toNat_natCast, Int.toNat_natCast]
    obtain ⟨s, hs⟩ : ∃ s, s = ls.getD l [] := ⟨_, rfl⟩
    rw [← hs] at g4 h5 ⊢
    rw [← rw_word]
    simp (maxSteps := 4000000) only [↓Qv,↓Qu,↓Y2,↓Yw,↓Jx,↓wpH_loop,↓Z8,↓Yu,Z3,Yr,Yf,gw,Z4,Ye,↓chk,Qw,noW,↓oneK,↓Qx,↓Js,envOf,↓Zw,↓Qg,opnd,Pg.look,Zn,Zc,false_implies,implies_true,true_and,and_true,valV,Qy,Qz,Nat.reduceAdd,ofV,Qi,Pg.freeze,Zh,Jg,Jt,↓Q3,Q7,Q8,callH,Yx,Q4,normC,resL,Y3,Ys,resM,Qm,Qn,AV.cells,TK.cells,AV.definite,Za,Zb,Z6,reduceCtorEq,Nat.reduceEqDiff,Nat.reduceAdd,Ze,Zf,Zd,Zk,Zl,Zs,Zx,Zp,ite_true,ite_false,Option.some.injEq,Prod.mk.injEq,and_self,exists_eq_left',Qr,Yy,Jp,Jr,Yt,Yj,Yk,Zy,Zg,Nat.reduceBEq,Y1,Zj,Jo,Y7,Yz,Qo,Qp,Yl,Ym,Yn,Jz,Zm,Zt,cutL,Yp,Z2,Qc,Qb,Y0,Y4,Z7,Y8,Yh,Qk,Q5,Q6,Yb,↓msel,muC,↓Ja,Y9,tk3,tk9,dz9,tk22,tk28,tz28,dz28,kMay,aPos,hmy,← hs]
    refine ⟨⟨by omega, g2⟩, ?_⟩
    refine loopH_intro (α := Nat) (fun i => ([(3, .ptr 0 2 1 0 0), (4, .ptr 1 2 1 0 0), (5, .str []), (6, .bool false), (7, .str s), (8, .int .i64 i)], [.arr 28 2 [.agg [.int .i64 l, .int .i64 c]], .arr 28 2 [.agg [.int .i64 0, .int .i64 0]]]))
      (fun i => i ≤ s.length ∧ rB s i = rB s c) (fun i => i) c ⟨by omega, rfl⟩ ?_ ?_
    · simp (maxSteps := 4000000) only [Pg.look,true_and,and_true,Qh,aliveO,nxtQ,hdS,pairsA,frzA,Z9,Ji,Ya,subA,subQ,Q0,pairsO,frzO,subF,subG,Qj,assocN,pairsE,pairsC,pairs0,frzE,frzC,frz0,frzH,Pg.freeze,Zh,Q1,subO,Q2,Yg,subM,AV.cells,AV.pureLeaf,AV.pureB,Za,Zb,reduceCtorEq,Nat.reduceEqDiff,Ze,Zf,Zd,Zp,ite_true,ite_false,Zu,Z0,Zr,and_self,Jc,Qs]
      (repeat' first | exact subX_eq rfl rfl | apply And.intro | rfl | omega)
    rintro k ⟨hk, hR⟩
    by_cases hct : 0 < k ∧ k < s.length ∧ wAt s k = true ∧ wAt s (k - 1) = true
    · have hst := rB_step s k hct
      obtain ⟨e1, e2, e3, e4⟩ := hct
      have c1 : decide ((k : Int) > 0) = true := decide_eq_true (by omega)
      have c2 : decide ((k : Int) < (s.length : Int)) = true := decide_eq_true (by omega)
      have w1 : IntKind.i64.wrap ((k : Int) - 1) = (k : Int) - 1 := wrap64 (by omega) (by omega)
      have htn : ((k : Int) - 1).toNat = k - 1 := by omega
      unfold wAt at e3 e4
      simp (maxSteps := 4000000) only [↓Qv,↓Qu,↓Y2,↓Yw,↓Jx,↓Z8,↓Ql,Z3,Yr,Yf,gw,Z4,Qf,Qq,Ye,Jj,↓chk,Qw,↓oneK,↓Qx,↓Zw,↓Xg,↓Qg,opnd,Pg.look,binK,Jh,Jk,Zn,Zc,Zz,implies_true,true_and,and_true,forall_const,Jl,Jm,unc,gof,mux,Jd,Je,valV,Qy,Qz,binV,intV,Qh,aliveO,nxtQ,hdS,pairsA,frzA,Z9,Ji,Ya,Nat.reduceAdd,Y5,Yo,ofV,Qi,Jn,subA,subQ,Q0,pairsO,frzO,subF,subG,Qj,assocN,pairsE,pairsC,pairs0,frzE,frzC,frz0,frzH,Pg.freeze,Zh,Q1,subO,Q2,Yg,subM,↓Q3,Q7,Q8,Yx,Q4,resL,Y3,Ys,resM,Qm,Qn,AV.cells,AV.pureLeaf,AV.pureB,Op.operands,Call.operands,Yi,Zi,Za,Zb,Zv,reduceCtorEq,Nat.reduceEqDiff,Nat.reduceAdd,Ze,Zf,Zd,Zk,Zl,Zs,Zx,Zp,ite_true,ite_false,Zu,Z0,Zr,and_self,Yy,Y6,Zo,Yt,Yj,Yk,Zy,Zg,Nat.reduceBEq,Y1,Zj,Y7,Yz,Qo,Qp,Yl,Ym,Yn,Zm,Jc,Qs,Y8,Yh,Qk,Q5,Q6,Yb,↓msel,muC,↓Ja,Y9,tk9,kOf,c1,c2,w1,htn,e3,e4]
      refine ⟨by omega, ⟨by omega, by omega⟩, k - 1, ⟨by omega, hst.trans hR⟩, by omega, ?_⟩
      (repeat' first | exact subX_eq rfl rfl | apply And.intro | rfl | omega)
    · have hst := rB_stop s k hct
      rw [hst] at hR
      rw [← hR]
      have w1 : IntKind.i64.wrap ((k : Int) - 1) = (k : Int) - 1 := wrap64 (by omega) (by omega)
      have htn : ((k : Int) - 1).toNat = k - 1 := by omega
      have D : (decide ((k : Int) > 0) = false ∧ decide ((k : Int) > 0) = false ∧ decide ((k : Int) > 0) = false ∧ decide ((k : Int) > 0) = false ∧ True)
          ∨ (decide ((k : Int) > 0) = true ∧ decide ((k : Int) < (s.length : Int)) = false ∧ decide ((k : Int) > 0) = true ∧ decide ((k : Int) > 0) = true ∧ True)
          ∨ (decide ((k : Int) > 0) = true ∧ decide ((k : Int) < (s.length : Int)) = true ∧ (cls (s.getD k 0).toNat false == 1) = false ∧ decide ((k : Int) > 0) = true ∧ (0 < k ∧ k < s.length))
          ∨ (decide ((k : Int) > 0) = true ∧ decide ((k : Int) < (s.length : Int)) = true ∧ (cls (s.getD k 0).toNat false == 1) = true ∧ (cls (s.getD (k - 1) 0).toNat false == 1) = false ∧ (0 < k ∧ k < s.length)) := by
        by_cases e1 : 0 < k
        · rw [show decide ((k : Int) > 0) = true from decide_eq_true (by omega)]
          by_cases e2 : k < s.length
          · rw [show decide ((k : Int) < (s.length : Int)) = true from decide_eq_true (by omega)]
            cases e3 : wAt s k with
            | false => exact .inr (.inr (.inl ⟨rfl, rfl, e3, rfl, e1, e2⟩))
            | true =>
              cases e4 : wAt s (k - 1) with
              | false => exact .inr (.inr (.inr ⟨rfl, rfl, e3, e4, e1, e2⟩))
              | true => exact absurd ⟨e1, e2, e3, e4⟩ hct
          · rw [show decide ((k : Int) < (s.length : Int)) = false from decide_eq_false (by omega)]
            exact .inr (.inl ⟨rfl, rfl, rfl, rfl, trivial⟩)
        · rw [show decide ((k : Int) > 0) = false from decide_eq_false (by omega)]
          exact .inl ⟨rfl, rfl, rfl, rfl, trivial⟩
      rcases D with ⟨c1, c2, e3, e4, d⟩ | ⟨c1, c2, e3, e4, d⟩ | ⟨c1, c2, e3, e4, d⟩ | ⟨c1, c2, e3, e4, d⟩
      all_goals
        simp (maxSteps := 4000000) only [↓Qv,↓J6,↓Y2,↓Yw,↓Jx,↓wpH_loop,↓Z8,↓Yu,Z3,Yr,Yf,gw,Z4,Qf,Qq,Ye,Jj,↓chk,Qw,↓oneK,↓Qx,↓Zw,↓Jy,↓Ju,↓Qg,opnd,Pg.look,binK,Jh,Jk,Zq,Zn,Zc,Zz,false_implies,implies_true,imp_self,true_and,and_true,forall_const,Jl,Jm,unc,gof,mux,Jd,Je,valV,Qy,Qz,binV,intV,Nat.reduceAdd,Y5,Yo,ofV,Qi,Jn,retA,Pg.freeze,Zh,↓Q3,Q7,Q8,Yx,Q4,resL,Y3,Ys,resM,Qm,Qn,Op.operands,Call.operands,Yi,Zi,Za,Zb,Zv,Nat.reduceEqDiff,Nat.reduceAdd,Ze,Zf,Zd,Zk,Zl,Zs,Zx,Zp,ite_true,ite_false,Zr,and_self,Yy,Y6,Zo,Yt,Yj,Yk,Zy,Zg,Nat.reduceBEq,Y1,Zj,Y7,Yz,Qo,Qp,Yl,Ym,Yn,Zm,Y8,Yh,Qk,Q5,Q6,Yb,↓msel,muC,↓Ja,Y9,tk9,kOf,c1,c2,w1,htn,e3,e4]
        try (refine ⟨by omega, ?_⟩)
        try (refine ⟨⟨by omega, by omega⟩, ?_⟩)
        refine loopH_intro (α := Nat) (fun i => ([(3, .ptr 0 2 1 0 0), (4, .ptr 1 2 1 0 0), (5, .str []), (6, .bool false), (7, .str s), (8, .int .i64 i)], [.arr 28 2 [.agg [.int .i64 l, .int .i64 c]], .arr 28 2 [.agg [.int .i64 0, .int .i64 0]]]))
          (fun i => i ≤ s.length ∧ rwL (l : Int) s k = match findUp (wAt s) (s.length - i) i with
            | some i => wdB l s i
            | none => ((0, 0), [], false)) (fun i => s.length - i) k ⟨by omega, rfl⟩ ?_ ?_
        · simp (maxSteps := 4000000) only [Pg.look,true_and,and_true,Qh,aliveO,nxtQ,hdS,pairsA,frzA,Z9,Ji,Ya,subA,subQ,Q0,pairsO,frzO,subF,subG,Qj,assocN,pairsE,pairsC,pairs0,frzE,frzC,frz0,frzH,Pg.freeze,Zh,Q1,subO,Q2,Yg,subM,AV.cells,AV.pureLeaf,AV.pureB,Za,Zb,reduceCtorEq,Nat.reduceEqDiff,Ze,Zf,Zd,Zp,ite_true,ite_false,Zu,Z0,Zr,and_self,Jc,Qs]
          (repeat' first | exact subX_eq rfl rfl | apply And.intro | rfl | omega)
        rintro i ⟨hi, hE⟩
        by_cases hil : i < s.length
        · have c3 : decide ((i : Int) < (s.length : Int)) = true := decide_eq_true (by omega)
          have w2 : IntKind.i64.wrap ((i : Int) + 1) = ((i + 1 : Nat) : Int) := by rw [wrap64 (by omega) (by omega)]; rfl
          rw [show s.length - i = (s.length - (i + 1)) + 1 by omega, findUp] at hE
          cases e5 : wAt s i with
          | false =>
            rw [e5] at hE
            simp only [Zc,if_false] at hE
            unfold wAt at e5
            simp (maxSteps := 4000000) only [↓Qv,↓Qu,↓Y2,↓Yw,↓Jx,↓Z8,↓Ql,Z3,Yr,Yf,gw,Z4,Qf,Qq,Ye,Jj,↓chk,Qw,↓oneK,↓Qx,↓Zw,↓Xg,↓Qg,opnd,Pg.look,binK,Jh,Jk,Zq,Zn,Zc,Zz,implies_true,true_and,and_true,forall_const,Jl,Jm,unc,gof,mux,Jd,Je,valV,Qy,Qz,binV,intV,Qh,aliveO,nxtQ,hdS,pairsA,frzA,Z9,Ji,Ya,Nat.reduceAdd,Y5,Yo,ofV,Qi,Jn,subA,subQ,Q0,pairsO,frzO,subF,subG,Qj,assocN,pairsE,pairsC,pairs0,frzE,frzC,frz0,frzH,Pg.freeze,Zh,Q1,subO,Q2,Yg,subM,↓Q3,Q7,Q8,Yx,Q4,resL,Y3,Ys,resM,Qm,Qn,AV.cells,AV.pureLeaf,AV.pureB,Op.operands,Call.operands,Yi,Zi,Za,Zb,Zv,reduceCtorEq,Nat.reduceEqDiff,Nat.reduceAdd,Ze,Zf,Zd,Zk,Zl,Zs,Zx,Zp,ite_true,ite_false,Zu,Z0,Zr,and_self,Yy,Y6,Zo,Yt,Yj,Yk,Zy,Zg,Nat.reduceBEq,Y1,Zj,Y7,Yz,Qo,Qp,Yl,Ym,Yn,Zm,Jc,Qs,Y8,Yh,Qk,Q5,Q6,Yb,↓msel,muC,↓Ja,Y9,tk9,kOf,c3,w2,e5,bne]
            refine ⟨⟨by omega, hil⟩, i + 1, ⟨by omega, hE⟩, by omega, ?_⟩
            (repeat' first | exact subX_eq rfl rfl | apply And.intro | rfl | omega)
          | true =>
            rw [e5] at hE
            simp only [if_true] at hE
            have hE : rwL (l : Int) s k = wdB l s i := hE
            unfold wAt at e5
            have c4 : decide ((i : Int) ≥ (s.length : Int)) = false := decide_eq_false (by omega)
            simp (maxSteps := 4000000) only [↓Qv,↓Qu,↓J6,↓Y2,↓Yw,↓Jx,↓wpH_loop,↓Z8,↓Yu,Z3,Yr,Yf,gw,Z4,Qf,Qq,Ye,Jj,↓chk,Qw,↓oneK,↓Qx,↓Zw,↓Jy,↓Ju,↓Qg,opnd,Pg.look,binK,Jh,Jk,Zn,Zc,Zz,implies_true,true_and,and_true,forall_const,Jl,Jm,unc,gof,mux,Jd,Je,valV,Qy,Qz,binV,intV,Nat.reduceAdd,Y5,Yo,ofV,Qi,Jn,retA,Pg.freeze,Zh,↓Q3,Q7,Q8,Yx,Q4,resL,Y3,Ys,resM,Qm,Qn,Op.operands,Call.operands,Yi,Zi,Za,Zb,Zv,Nat.reduceEqDiff,Nat.reduceAdd,Ze,Zf,Zd,Zk,Zl,Zs,Zx,Zp,ite_true,ite_false,Zr,and_self,Yy,Y6,Zo,Yt,Yj,Yk,Zy,Zg,Nat.reduceBEq,Y1,Zj,Y7,Yz,Qo,Qp,Yl,Ym,Yn,Zm,Y8,Yh,Qk,Q5,Q6,Yb,↓msel,muC,↓Ja,Y9,tk9,kOf,c3,e5,bne,c4]
            refine ⟨⟨by omega, hil⟩, ?_⟩
            refine loopH_intro (α := Nat) (fun m => ([(3, .ptr 0 2 1 0 0), (4, .ptr 1 2 1 0 0), (5, .str []), (6, .bool false), (7, .str s), (8, .int .i64 i), (9, .int .i64 m)], [.arr 28 2 [.agg [.int .i64 l, .int .i64 c]], .arr 28 2 [.agg [.int .i64 0, .int .i64 0]]]))
              (fun m => i ≤ m ∧ m ≤ s.length ∧ wEndF s i = (findUp (fun k => !wAt s k) (s.length - m) m).getD s.length) (fun m => s.length - m) i ⟨by omega, by omega, rfl⟩ ?_ ?_
            · simp (maxSteps := 4000000) only [Pg.look,true_and,and_true,Qh,aliveO,nxtQ,hdS,pairsA,frzA,Z9,Ji,Ya,subA,subQ,Q0,pairsO,frzO,subF,subG,Qj,assocN,pairsE,pairsC,pairs0,frzE,frzC,frz0,frzH,Pg.freeze,Zh,Q1,subO,Q2,Yg,subM,AV.cells,AV.pureLeaf,AV.pureB,Za,Zb,reduceCtorEq,Nat.reduceEqDiff,Ze,Zf,Zd,Zp,ite_true,ite_false,Zu,Z0,Zr,and_self,Jc,Qs]
              (repeat' first | exact subX_eq rfl rfl | apply And.intro | rfl | omega)
            rintro m ⟨hkm, hms, hG⟩
            by_cases hml : m < s.length
            · have c5 : decide ((m : Int) < (s.length : Int)) = true := decide_eq_true (by omega)
              have w3 : IntKind.i64.wrap ((m : Int) + 1) = ((m + 1 : Nat) : Int) := by rw [wrap64 (by omega) (by omega)]; rfl
              rw [show s.length - m = (s.length - (m + 1)) + 1 by omega, findUp] at hG
              cases e6 : wAt s m with
              | true =>
                rw [e6, if_neg (by simp)] at hG
                unfold wAt at e6
                simp (maxSteps := 4000000) only [↓Qv,↓Qu,↓Y2,↓Yw,↓Jx,↓Z8,↓Ql,Z3,Yr,Yf,gw,Z4,Qf,Qq,Ye,Jj,↓chk,Qw,↓oneK,↓Qx,↓Zw,↓Xg,↓Qg,opnd,Pg.look,binK,Jh,Jk,Zn,Zc,Zz,implies_true,true_and,and_true,forall_const,Jl,Jm,unc,gof,mux,Jd,Je,valV,Qy,Qz,binV,intV,Qh,aliveO,nxtQ,hdS,pairsA,frzA,Z9,Ji,Ya,Nat.reduceAdd,Y5,Yo,ofV,Qi,Jn,subA,subQ,Q0,pairsO,frzO,subF,subG,Qj,assocN,pairsE,pairsC,pairs0,frzE,frzC,frz0,frzH,Pg.freeze,Zh,Q1,subO,Q2,Yg,subM,↓Q3,Q7,Q8,Yx,Q4,resL,Y3,Ys,resM,Qm,Qn,AV.cells,AV.pureLeaf,AV.pureB,Op.operands,Call.operands,Yi,Zi,Za,Zb,Zv,reduceCtorEq,Nat.reduceEqDiff,Nat.reduceAdd,Ze,Zf,Zd,Zk,Zl,Zs,Zx,Zp,ite_true,ite_false,Zu,Z0,Zr,and_self,Yy,Y6,Zo,Yt,Yj,Yk,Zy,Zg,Nat.reduceBEq,Y1,Zj,Y7,Yz,Qo,Qp,Yl,Ym,Yn,Zm,Jc,Qs,Y8,Yh,Qk,Q5,Q6,Yb,↓msel,muC,↓Ja,Y9,tk9,kOf,c5,w3,e6]
                refine ⟨⟨by omega, hml⟩, m + 1, ⟨by omega, by omega, hG⟩, by omega, ?_⟩
                (repeat' first | exact subX_eq rfl rfl | apply And.intro | rfl | omega)
              | false =>
                rw [e6, if_pos (show (!false) = true from rfl)] at hG
                have hG2 : wEndF s i = m := hG
                unfold wAt at e6
                rw [wdB, hG2] at hE
                rw [hE]
                simp (maxSteps := 4000000) only [↓Qv,↓Jf,↓J6,↓Y2,↓Yw,↓Z8,bselH_true,↓Yu,Z3,Yr,Yf,gw,Z4,Qf,Qq,Ye,Jj,↓chk,Qw,noW,↓oneK,↓Qx,↓Js,↓Zw,↓Jy,↓Ju,↓Qg,opnd,Pg.look,binK,Jh,Jk,Zn,Zc,Zz,implies_true,true_and,and_true,forall_const,Jl,Jm,unc,gof,mux,Jd,Je,valV,Qy,Qz,binV,intV,cutV,Qh,Z9,Ya,Nat.reduceAdd,Y5,Yo,ofV,Qi,Jn,retA,resK,tupA,subA,subQ,Q0,frzO,subF,subG,Qj,frzE,frzC,frzL,frz0,frzH,Pg.freeze,Zh,Q1,Q2,Yg,subM,subL,Jg,Jt,sliceS,↓Q3,Q7,Q8,Yx,Q4,resL,Y3,Ys,resM,Qm,Qn,AV.cells,TK.cells,AV.definite,AV.leaf,AV.leafy,Q9,lay,Jw,Op.operands,Call.operands,Yi,Zi,Za,Zb,Zv,Qd,Qe,Z6,Nat.reduceEqDiff,Nat.reduceAdd,Ze,Zf,Zd,Zk,Zl,Zs,Zx,Z5,Yc,Zp,ite_true,ite_false,Option.some.injEq,Yd,AV.agg.injEq,Zu,Z0,Zr,and_self,exists_eq_left',Qa,Yy,Y6,Zo,Yt,Yj,Yk,Zy,Zg,Nat.reduceBEq,Y1,Xh,beq_self_eq_true,Zj,Y7,Yz,Qo,Qp,Yl,Ym,Yn,Zm,Zt,cutL,Yp,Z1,Z2,Yq,Qc,Qb,Nat.reduceLeDiff,Y0,Yv,Y4,Z7,Y8,Yh,Qk,Q5,Q6,Yb,↓msel,muC,↓Ja,Y9,mapAt,tk3,tk9,tk28,tz28,dz28,kOf,aPos,aWd,c5,e6]
                exact ⟨⟨by omega, hml⟩, ⟨by omega, by omega, by omega⟩, by kernel_rfl⟩
            · have c5 : decide ((m : Int) < (s.length : Int)) = false := decide_eq_false (by omega)
              have hG2 : wEndF s i = m := by
                rw [hG, show s.length - m = 0 by omega, findUp]
                show s.length = m
                omega
              rw [wdB, hG2] at hE
              rw [hE]
              simp (maxSteps := 4000000) only [↓Qv,↓Jf,↓J6,↓Y2,↓Yw,↓Z8,bselH_true,↓Yu,Z3,Yr,Yf,gw,Z4,Qf,Qq,Ye,Jj,↓chk,Qw,noW,↓oneK,↓Qx,↓Js,↓Zw,↓Jy,↓Ju,↓Qg,opnd,Pg.look,binK,Jh,Jk,Zq,Zc,false_implies,implies_true,imp_self,true_and,and_true,forall_const,Jl,Jm,unc,gof,mux,Jd,Je,valV,Qy,Qz,binV,intV,cutV,Qh,Z9,Ya,Nat.reduceAdd,Y5,Yo,ofV,Qi,Jn,retA,resK,tupA,subA,subQ,Q0,frzO,subF,subG,Qj,frzE,frzC,frzL,frz0,frzH,Pg.freeze,Zh,Q1,Q2,Yg,subM,subL,Jg,Jt,sliceS,↓Q3,Q7,Q8,Yx,Q4,resL,Y3,Ys,resM,Qm,Qn,AV.cells,TK.cells,AV.definite,AV.leaf,AV.leafy,Q9,lay,Jw,Op.operands,Call.operands,Yi,Zi,Za,Zb,Zv,Qd,Qe,Z6,Nat.reduceEqDiff,Nat.reduceAdd,Ze,Zf,Zd,Zk,Zl,Zs,Zx,Z5,Yc,Zp,ite_true,ite_false,Option.some.injEq,Yd,AV.agg.injEq,Zu,Z0,Zr,and_self,exists_eq_left',Qa,Yy,Y6,Zo,Yt,Yj,Yk,Zy,Zg,Nat.reduceBEq,Y1,Xh,beq_self_eq_true,Zj,Y7,Yz,Qo,Qp,Yl,Ym,Yn,Zm,Zt,cutL,Yp,Z1,Z2,Yq,Qc,Qb,Nat.reduceLeDiff,Y0,Yv,Y4,Z7,Y8,Yh,Qk,Q5,Q6,Yb,↓msel,muC,↓Ja,Y9,mapAt,tk3,tk9,tk28,tz28,dz28,kOf,aPos,aWd,c5]
              exact ⟨⟨by omega, by omega, by omega⟩, by kernel_rfl⟩
        · have c3 : decide ((i : Int) < (s.length : Int)) = false := decide_eq_false (by omega)
          have c4 : decide ((i : Int) ≥ (s.length : Int)) = true := decide_eq_true (by omega)
          rw [show s.length - i = 0 by omega, findUp] at hE
          rw [hE]
          simp (maxSteps := 4000000) only [↓Qv,↓Jf,↓J6,↓Y2,↓Yw,↓Z8,↓Ql,↓Yu,Z3,Yr,Yf,gw,Z4,Qf,Qq,Ye,Jj,↓chk,Qw,↓oneK,↓Qx,↓Js,↓Zw,↓Jv,↓Jy,↓Ju,↓Qg,opnd,Pg.look,binK,Jh,Jk,Zq,Zc,false_implies,implies_true,imp_self,true_and,and_true,Jl,Jm,unc,gof,mux,Jd,Je,valV,Qy,Qz,binV,intV,Qh,Z9,Ya,Nat.reduceAdd,Y5,Yo,ofV,Qi,Jn,retA,resK,tupA,subA,subQ,Q0,frzO,subF,subG,Qj,frzE,frzC,frzL,frz0,frzH,Pg.freeze,Zh,Q1,Q2,Yg,subM,subL,Jg,Jt,↓Q3,Q7,Q8,Yx,Q4,resL,Y3,Ys,resM,Qm,Qn,AV.cells,TK.cells,AV.leaf,AV.leafy,Q9,lay,Jw,Op.operands,Call.operands,Yi,Zi,Za,Zb,Zv,Z6,Nat.reduceEqDiff,Nat.reduceAdd,Ze,Zf,Zd,Zk,Zl,Zs,Zx,Z5,Yc,Zp,ite_true,ite_false,Option.some.injEq,Yd,AV.agg.injEq,Zu,Z0,Zr,and_self,exists_eq_left',Qa,Yy,Y6,Zo,Yt,Yj,Yk,Zy,Zg,Nat.reduceBEq,Y1,Zj,Y7,Yz,Qo,Qp,Yl,Ym,Yn,Zm,Zt,cutL,Yp,Z1,Z2,Yq,Qb,Y0,Yv,Y4,Z7,Y8,Yh,Qk,Q5,Q6,Yb,↓msel,muC,↓Ja,Y9,mapAt,tk9,tk28,tz28,dz28,kOf,aPos,aWd,c3,c4]
theorem ok_RWord : C1OK Try.prog 12 kWord := C1OK.by (by kernel_rfl) (fun d h => calls_RWord d.1 d.2 h) (fun _ => rfl) (fun _ => rfl)
end Go.Pg
namespace Go.Pg
open Go Go.Proofs

def ex25 : Ls := [[97, 98, 32, 99, 100], [120]]
theorem ex25_1 : doN ex25 (0, 0, 0, 0, 0, 0, [], false) (0, 0, [], [119], 0, []) false = ((((0, 3), 0, false, 3), true), (0, 0, 0, 0, 0, 0, [], false)) := by kernel_rfl
theorem ex25_2 : doN ex25 (0, 0, 0, 0, 0, 0, [], false) (0, 0, [], [102], 100, []) false = ((((0, 4), 1, false, 4), true), (0, 0, 0, 0, 102, 100, [], false)) := by kernel_rfl
theorem ex25_3 : doN ex25 (0, 0, 0, 0, 102, 100, [], false) (0, 0, [], [71], 0, []) false = ((((1, 0), 2, true, 0), true), (0, 0, 0, 0, 102, 100, [], false)) := by kernel_rfl
theorem ex25_4 : doN ex25 (0, 0, 0, 0, 102, 100, [], false) (0, 0, [], [110], 0, []) false = (mNone, (0, 0, 0, 0, 102, 100, [], false)) := by kernel_rfl
set_option maxRecDepth 40000 in
set_option maxHeartbeats 4000000 in
theorem calls_known25 : CallsR Try.prog 5 [] [] (.bool true) [] := by
  refine callsR_of (mrg := true) (dyn := []) (CtrOK.cons ok_DoN (CtrOK.nil _)) mixed Try.func5 rfl (by simp [Try.ntmps5]) (by kernel_rfl) ?_
  rw [show Try.f5.results.toList = [.tmp 0] from by kernel_rfl]
  have e1 := ex25_1
  have e2 := ex25_2
  have e3 := ex25_3
  have e4 := ex25_4
  unfold ex25 at e1 e2 e3 e4
  simp (maxSteps := 4000000) only [↓Qv,↓Jf,↓Y2,↓Z8,Z3,Yr,Yf,gw,Z4,Qf,Qq,Jj,↓chk,Qw,noW,↓oneK,↓Qx,↓Js,envOf,↓Zw,↓Qg,opnd,Pg.look,binK,Jh,Jk,Bool.and_true,Zq,Zn,Zc,Zz,implies_true,imp_self,true_and,and_true,Jl,Jm,unc,gof,mux,Jd,Je,valV,Qy,Qz,binV,intV,Qh,Z9,Ya,Nat.reduceAdd,Y5,Yo,ofV,Qi,Jn,retA,resK,tupA,subA,subQ,Q0,frzO,subF,subG,Qj,frzE,frzC,frz0,frzH,Pg.freeze,Zh,List.foldl_cons,Q1,Q2,Yg,subM,Jg,Jt,↓Q3,Q4,normC,resL,Y3,Ys,resM,AV.cells,TK.cells,AV.definite,AV.leaf,AV.leafy,AV.pureLeaf,AV.pureB,Q9,lay,Jw,frzAt,Op.operands,Zi,Za,Zb,Zv,Z6,reduceCtorEq,Nat.reduceEqDiff,Nat.reduceAdd,Ze,Zf,Zd,Zk,Zl,Zs,Zx,Z5,Yc,Zp,Int.reduceToNat,ite_true,ite_false,Option.some.injEq,Yd,AV.agg.injEq,Bool.if_false_right,Bool.decide_eq_true,Zu,Z0,Zr,and_self,exists_eq_left',Qa,Yy,Y6,Zo,rg2,J1,J2,Int.reduceLE,Int.reduceLT,UInt8.reduceOfNat,J7,Jp,Jr,Yt,Yj,Yk,Zy,Zg,Nat.reduceBEq,Xh,beq_self_eq_true,decL_nil,decL_cons,consO_some,Zj,Nat.reducePow,Zt,Yp,Z1,Z2,Yq,Qc,Jq,Nat.reduceLeDiff,Y0,Nat.mul_one,Yv,Z7,Yh,Qk,Q5,Q6,Yb,↓msel,muC,↓callU,↓callUV,↓callUH,↓callUF,J8,runM_eq,J9,Xa,J3,J4,hP_dec,Xb,Xc,Xd,hB2_arr,Xe,pickF,nodupB,somes,fresh,gids,putO,ren,renL,renO,tk3,tk5,eb9,tk22,tk28,tk31,tz31,dz31,tk33,tz33,tk38,tz38,dz38,kDoN,aMove,aMv,mNone,cNpt_dec,e1,e2,e3,e4]
  have h : okText ex25 := ⟨by decide, by intro s hs; simp [ex25] at hs; rcases hs with rfl | rfl <;> decide⟩
  exact ⟨h, h, h, h, rfl⟩
def kKnown25 : C1 := C1.by [] lNil (fun _ => True) (fun _ => .bool true) (fun _ => [])
theorem ok_known25 : C1OK Try.prog 5 kKnown25 := C1OK.by (by kernel_rfl) (fun _ _ => calls_known25) (fun _ => rfl) (fun _ => rfl)
end Go.Pg
namespace Go.Pg
open Go Go.Proofs

theorem hits_sorted (pat : List UInt8) (ls : Ls) : (hits pat ls).Pairwise (fun a b => less a b = true) := by
  unfold hits
  split
  · exact .nil
  · exact (marksTo_sorted _ _ _ _).1
theorem hits_mem {pat : List UInt8} {ls : Ls} {q : Int × Int} (h : q ∈ hits pat ls) : pat ≠ [] ∧ ∃ l k : Nat, q = ((l : Int), (k : Int)) ∧ l < ls.length ∧ k + pat.length ≤ (ls.getD l []).length ∧ hitB pat (ls.getD l []) k = true := by
  unfold hits at h
  split at h
  · cases h
  · next hp =>
    refine ⟨fun h2 => hp (by rw [h2]; rfl), ?_⟩
    unfold marksTo at h
    obtain ⟨l, hl, hq⟩ := List.mem_flatMap.1 h
    rw [List.mem_range] at hl
    unfold lineMarks at hq
    rw [Bool.false_and, if_neg (by simp), List.nil_append] at hq
    unfold marksIn at hq
    obtain ⟨k, hk, rfl⟩ := List.mem_map.1 hq
    obtain ⟨h1, h2⟩ := List.mem_filter.1 hk
    refine ⟨l, k, rfl, hl, ?_, h2⟩
    rw [List.mem_range] at h1
    unfold hitB prefB at h2
    rw [Bool.and_eq_true, decide_eq_true_eq, List.length_drop] at h2
    omega
theorem mem_hits {pat : List UInt8} {ls : Ls} {l k : Nat} (hp : pat ≠ []) (hl : l < ls.length) (hk : k < (ls.getD l []).length) (h : hitB pat (ls.getD l []) k = true) : ((l : Int), (k : Int)) ∈ hits pat ls := by
  unfold hits
  rw [if_neg (fun h2 => hp (by simpa using h2))]
  unfold marksTo
  refine List.mem_flatMap.2 ⟨l, List.mem_range.2 hl, ?_⟩
  unfold lineMarks
  refine List.mem_append.2 (.inr ?_)
  unfold marksIn
  exact List.mem_map.2 ⟨k, List.mem_filter.2 ⟨List.mem_range.2 hk, h⟩, rfl⟩
theorem clamp_hit {pat : List UInt8} {ls : Ls} {q : Int × Int} (h : q ∈ hits pat ls) : clampP ls q false = q := by
  obtain ⟨hp, l, k, rfl, h1, h2, h3⟩ := hits_mem h
  have : 0 < pat.length := List.length_pos_iff.2 hp
  have e1 : min (max (l : Int) 0) ((ls.length : Int) - 1) = l := by omega
  unfold clampP
  rw [if_neg (by omega)]
  simp only [e1,Zm,Zc,if_false]
  rw [show min (max (k : Int) 0) (max (((ls.getD l []).length : Int) - 1) 0) = k by omega]

theorem filter_none {α : Type} {g : α → Bool} {l : List α} (h : ∀ q ∈ l, g q = false) : l.filter g = [] := by
  rw [List.filter_eq_nil_iff]
  intro q hq
  rw [h q hq]; simp
theorem not_less_both {p q : Int × Int} (h1 : less p q = true) : less q p = false := by
  unfold less at *
  simp only [Bool.or_eq_true,Bool.and_eq_true,decide_eq_true_eq,beq_iff_eq] at h1
  simp only [Bool.or_eq_false_iff,Bool.and_eq_false_iff,decide_eq_false_iff_not,beq_eq_false_iff_ne]
  omega
theorem neither_eq {p q : Int × Int} (h1 : less p q = false) (h2 : less q p = false) : p = q := by
  unfold less at *
  simp only [Bool.or_eq_false_iff,Bool.and_eq_false_iff,decide_eq_false_iff_not,beq_eq_false_iff_ne] at h1 h2
  obtain ⟨p1, p2⟩ := p
  obtain ⟨q1, q2⟩ := q
  dsimp only at *
  rw [Prod.mk.injEq]
  omega
/-- Ahead of a place, or at it: the list in two. -/
theorem fwd_split (p : Int × Int) : ∀ (M : List (Int × Int)), M.Pairwise (fun a b => less a b = true) → M.filter (fun q => !less p q) = (M.filter fun q => less q p) ++ M.filter fun q => !less q p && !less p q
  | [], _ => rfl
  | q :: M, h => by
    obtain ⟨h1, h2⟩ := List.pairwise_cons.1 h
    have ih := fwd_split p M h2
    cases a : less q p with
    | true =>
      have b := not_less_both a
      simp only [Jb,a,b,Zq,Zn,Bool.false_and,if_true,Zc,if_false,Zd]
      rw [ih]
    | false =>
      have e1 : M.filter (fun q => less q p) = [] := by
        refine filter_none fun r hr => ?_
        cases c : less r p with
        | false => rfl
        | true => have := less_trans (h1 r hr) c; rw [a] at this; cases this
      rw [e1, List.nil_append] at ih
      simp only [Jb,a,Zq,Xi,Zc,if_false]
      rw [e1, List.nil_append, ih]
theorem at_most (p : Int × Int) : ∀ (M : List (Int × Int)), M.Pairwise (fun a b => less a b = true) → (M.filter fun q => !less q p && !less p q).length ≤ 1
  | [], _ => by simp
  | q :: M, h => by
    obtain ⟨h1, h2⟩ := List.pairwise_cons.1 h
    have ih := at_most p M h2
    rw [List.filter_cons]
    split
    · next hq =>
      rw [Bool.and_eq_true, Bool.not_eq_true', Bool.not_eq_true'] at hq
      have e := neither_eq hq.1 hq.2
      rw [filter_none (fun r hr => by rw [← e, h1 r hr]; simp)]
      simp
    · exact ih
theorem rev_one {α : Type} : ∀ {l : List α}, l.length ≤ 1 → l.reverse = l
  | [], _ => rfl
  | [_], _ => rfl
  | _ :: _ :: _, h => by simp at h
theorem bwd_split (p : Int × Int) : ∀ (M : List (Int × Int)), M.Pairwise (fun a b => less a b = true) → M.filter (fun q => !less q p) = (M.filter fun q => !less q p && !less p q) ++ M.filter fun q => !less q p && less p q
  | [], _ => rfl
  | q :: M, h => by
    obtain ⟨h1, h2⟩ := List.pairwise_cons.1 h
    have ih := bwd_split p M h2
    cases a : less q p with
    | true =>
      simp only [Jb,a,Zn,Bool.false_and,Zc,if_false]
      exact ih
    | false =>
      cases b : less p q with
      | false =>
        simp only [Jb,a,b,Zq,Xi,if_true,Zc,if_false,Zd]
        rw [ih]
      | true =>
        have e1 : (M.filter fun q => !less q p && !less p q) = [] := by
          refine filter_none fun r hr => ?_
          rw [less_trans b (h1 r hr)]; simp
        rw [e1, List.nil_append] at ih
        simp only [Jb,a,b,Zq,Zn,Bool.and_false,Xi,if_true,Zc,if_false]
        rw [e1, List.nil_append, ih]
theorem round_eq (ls : Ls) (p : Int × Int) (pat : List UInt8) (back : Bool) : roundS ls p pat back = roundR ls p pat back := by
  have hs := hits_sorted pat ls
  unfold roundS roundR
  generalize hits pat ls = M at hs
  have e0 : (M.filter fun q => !less q p && less p q) = M.filter (less p) := by
    apply List.filter_congr
    intro q _
    cases c : less p q with
    | false => simp
    | true => rw [not_less_both c]; rfl
  cases back with
  | true =>
    rw [if_pos rfl, if_pos rfl]
    unfold ahead
    rw [List.filter_reverse, List.filter_reverse, bwd_split p M hs, List.reverse_append, rev_one (at_most p M hs)]
  | false =>
    rw [if_neg (by simp), if_neg (by simp), behind_f, e0, fwd_split p M hs]
theorem search_eq (ls : Ls) (p : Int × Int) (pat : List UInt8) (back : Bool) (n : Int) : searchP ls p pat back n = rsearchP ls p pat back n := by
  unfold searchP rsearchP
  rw [round_eq]
theorem round_mem {ls : Ls} {p q : Int × Int} {pat : List UInt8} {back : Bool} (h : q ∈ roundR ls p pat back) : q ∈ hits pat ls := by
  unfold roundR behind ahead at h
  split at h
  · rcases List.mem_append.1 h with h | h
    · exact List.mem_reverse.1 (List.mem_filter.1 h).1
    · exact List.mem_reverse.1 (List.mem_filter.1 h).1
  · rcases List.mem_append.1 h with h | h
    · exact (List.mem_filter.1 h).1
    · exact (List.mem_filter.1 h).1
/-- Where there is one, a search leads to one. -/
theorem search_to {ls : Ls} {p : Int × Int} {pat : List UInt8} {back : Bool} {n : Int} (hm : may ls p n = true) (hn : 1 ≤ n) (h : hits pat ls ≠ []) : ∃ q, q ∈ hits pat ls ∧ rsearchP ls p pat back n = (jumpM q, true) := by
  have hl : 0 < (roundR ls p pat back).length := by rw [roundR_len]; exact List.length_pos_iff.2 h
  refine ⟨(roundR ls p pat back).getD ((min n 1073741824 - 1) % (roundR ls p pat back).length).toNat (0, 0), ?_, ?_⟩
  · have h1 := Int.emod_nonneg (min n 1073741824 - 1) (b := ((roundR ls p pat back).length : Int)) (by omega)
    have h2 := Int.emod_lt_of_pos (min n 1073741824 - 1) (b := ((roundR ls p pat back).length : Int)) (by omega)
    have h3 : ((min n 1073741824 - 1) % (roundR ls p pat back).length).toNat < (roundR ls p pat back).length := by omega
    rw [List.getD_eq_getElem?_getD, List.getElem?_eq_getElem h3]
    exact round_mem (List.getElem_mem h3)
  · unfold rsearchP whenMay pickS
    rw [if_pos hm, if_neg (by omega)]
/-- A place whose bytes are the pattern. -/
theorem here_hit {ls : Ls} {l c k : Nat} (hl : l < ls.length) (hc : c ≤ (ls.getD l []).length) (hne : ((ls.getD l []).drop c).take k ≠ []) : ((l : Int), (c : Int)) ∈ hits (((ls.getD l []).drop c).take k) ls := by
  have hlt : c < (ls.getD l []).length := by
    refine Nat.lt_of_not_le fun h => hne ?_
    rw [List.drop_eq_nil_of_le h]; simp
  refine mem_hits hne hl hlt ?_
  unfold hitB prefB
  rw [Bool.and_eq_true, decide_eq_true_eq, beq_iff_eq, List.length_take]
  refine ⟨by omega, ?_⟩
  rw [List.take_eq_take_iff]
  omega

theorem wEnd_gt (s : List UInt8) (i : Nat) (h : i < s.length) (hw : wAt s i = true) : i < wEndF s i ∧ wEndF s i ≤ s.length := by
  unfold wEndF
  cases e : findUp (fun k => !wAt s k) (s.length - i) i with
  | none => exact ⟨h, Nat.le_refl _⟩
  | some j =>
    have h1 := findUp_some e
    show i < j ∧ j ≤ s.length
    refine ⟨?_, by omega⟩
    refine Nat.lt_of_le_of_ne h1.1 fun h2 => ?_
    subst h2
    rw [hw] at h1
    exact absurd h1.2.2 (by simp)
/-- The word told is one: it stands where it is said. -/
theorem word_hit {ls : Ls} {p : Int × Int} (h : (wordP ls p).2.2 = true) : (wordP ls p).1 ∈ hits (wordP ls p).2.1 ls ∧ place ls (wordP ls p).1.1 (wordP ls p).1.2 = true := by
  unfold wordP at *
  split at h
  · next hp =>
    obtain ⟨g1, g2, g3, g4⟩ := (place_iff _ _ _).1 hp
    obtain ⟨p1, p2⟩ := p
    obtain ⟨l, rfl⟩ := Int.eq_ofNat_of_zero_le g1
    obtain ⟨c, rfl⟩ := Int.eq_ofNat_of_zero_le g3
    rw [if_pos hp]
    dsimp only at *
    rw [Int.toNat_natCast] at *
    rw [Int.toNat_natCast] at *
    unfold wordL at *
    cases e : findUp (wAt (ls.getD l [])) ((ls.getD l []).length - c) c with
    | none => rw [e] at h; cases h
    | some i =>
      have h1 := findUp_some e
      have hb := wBeg_at _ i h1.2.2
      have hle := wBeg_le (ls.getD l []) i
      have hwe := wEnd_gt (ls.getD l []) (wBeg (ls.getD l []) i) (by omega) hb
      dsimp only [wdB]
      refine ⟨?_, (place_iff _ _ _).2 ⟨by omega, by omega, by omega, by rw [Int.toNat_natCast]; omega⟩⟩
      unfold cutL
      refine here_hit g2 (by omega) ?_
      rw [← List.length_pos_iff, List.length_take, List.length_drop]
      omega
  · cases h
end Go.Pg
namespace Go.Pg
open Go Go.Proofs

theorem okText_of {ls : Ls} (h : text ls = true) : okText ls := fits_mono (fits_text h) (by omega) (by omega)
theorem doN_slash (ls : Ls) (x : Cx) (t : List UInt8) (cn : Int) (h0 : 0 < ls.length) (ht : t ≠ []) : doN ls x (0, cn, [], [47], 0, t) false = (doFin ls false (rsearchP ls (curOf x) t false (cntF cn)), setFB x t false) := by
  rw [← search_eq]
  simp [doN, lineA, wordA, vertA, textA, searchA, show ls ≠ [] from fun h => by simp [h] at h0, ht]
theorem doN_quest (ls : Ls) (x : Cx) (t : List UInt8) (cn : Int) (h0 : 0 < ls.length) (ht : t ≠ []) : doN ls x (0, cn, [], [63], 0, t) false = (doFin ls false (rsearchP ls (curOf x) t true (cntF cn)), setFB x t true) := by
  rw [← search_eq]
  simp [doN, lineA, wordA, vertA, textA, searchA, show ls ≠ [] from fun h => by simp [h] at h0, ht]
theorem doN_n (ls : Ls) (x : Cx) (h0 : 0 < ls.length) : doN ls x (0, 0, [], [110], 0, []) false = (doFin ls false (rsearchP ls (curOf x) x.2.2.2.2.2.2.1 x.2.2.2.2.2.2.2 1), x) := by
  rw [← search_eq]
  simp [doN, lineA, wordA, vertA, textA, searchA, cntF, show ls ≠ [] from fun h => by simp [h] at h0]
theorem doN_N (ls : Ls) (x : Cx) (h0 : 0 < ls.length) : doN ls x (0, 0, [], [78], 0, []) false = (doFin ls false (rsearchP ls (curOf x) x.2.2.2.2.2.2.1 (!x.2.2.2.2.2.2.2) 1), x) := by
  rw [← search_eq]
  simp [doN, lineA, wordA, vertA, textA, searchA, cntF, show ls ≠ [] from fun h => by simp [h] at h0]
theorem doN_star (ls : Ls) (x : Cx) (h0 : 0 < ls.length) : doN ls x (0, 0, [], [42], 0, []) false = if (wordP ls (curOf x)).2.2 = true then (doFin ls false (rsearchP ls (wordP ls (curOf x)).1 (wordP ls (curOf x)).2.1 false 1), setFB x (wordP ls (curOf x)).2.1 false) else (mNone, x) := by
  rw [← search_eq]
  have h1 : ls ≠ [] := fun h => by simp [h] at h0
  cases h : (wordP ls (curOf x)).2.2 with
  | true => simp [doN, lineA, wordA, vertA, textA, searchA, cntF, h1, h]
  | false => simp [doN, lineA, wordA, vertA, textA, searchA, h1, h, doFin, mNone]
theorem doFin_hit {ls : Ls} {pat : List UInt8} {q : Int × Int} (h : q ∈ hits pat ls) : doFin ls false (jumpM q, true) = ((q, 0, true, q.2), true) := by
  unfold doFin
  rw [if_pos rfl]
  simp only [jumpM,clamp_hit h,if_true]

set_option maxRecDepth 40000 in
set_option maxHeartbeats 8000000 in
theorem calls_MoveSearches (ls : Ls) (a b : Int) (k : UInt8) (back : Bool) (n : UInt8) (hs : ∀ i, (ls.getD i []).length ≤ 140737488355328) (ha : 0 ≤ a ∧ a < 65536) (hb : 0 ≤ b ∧ b < 65536) :
    CallsR Try.prog 4 [.sl 1 (ls.map .str), .int .u16 a, .int .u16 b, byteA k, .bool back, byteA n] [] (.bool true) [] := by
  refine callsR_of (mrg := true) (dyn := []) (CtrOK.cons ok_known25 (CtrOK.cons ok_Text (CtrOK.cons ok_SPlace (CtrOK.cons ok_DoN (CtrOK.cons ok_RSearch (CtrOK.cons ok_RWord (CtrOK.nil _))))))) mixed Try.func4 rfl (by simp [Try.ntmps4]) (by kernel_rfl) ?_
  rw [show Try.f4.results.toList = [.tmp 12] from by kernel_rfl]
  cases ht : text ls with
  | false =>
    simp (maxSteps := 4000000) only [↓Qv,↓Qu,↓Jf,↓Y2,↓Yw,↓Z8,↓Ql,↓Yu,Z3,Yr,Yf,gw,Z4,Ye,↓chk,Qw,↓oneK,↓Qx,envOf,↓Zw,↓Jv,↓Qg,opnd,Pg.look,Zq,Zn,Zc,false_implies,implies_true,imp_self,true_and,and_true,valV,Qy,Qz,Qh,Z9,Ya,Nat.reduceAdd,ofV,Qi,retA,resK,tupA,subA,subQ,Q0,frzO,subF,subG,Qj,frzE,frzC,frz0,frzH,Pg.freeze,Zh,Q1,Q2,Yg,subM,↓Q3,Q7,Q8,callH,Yx,Q4,normC,resL,Y3,Ys,resM,Qm,Qn,reduceCtorEq,Nat.reduceEqDiff,Nat.reduceAdd,Ze,Zf,Zl,Zs,Zx,Zp,ite_true,ite_false,Prod.mk.injEq,and_self,Qa,Jp,J0,Yt,Zg,Zj,Jo,Y7,Yz,Qo,Qp,Yl,Ym,Yn,Y8,Yh,Qk,Q5,Q6,Yb,↓msel,muC,↓Ja,Y9,kKnown25,kText,ht]
    exact hs
  | true =>
    have hft : okText ls := okText_of ht
    obtain ⟨hl0, hl1, hl2⟩ := few_of_text ht
    have hsm : small ls := fits_small hft (by omega) (by omega)
    obtain ⟨p, hp⟩ : ∃ p, p = splace ls a b := ⟨_, rfl⟩
    have hpl := splace_place ls a b hl0 hb.1
    rw [← hp] at hpl
    obtain ⟨p1, p2⟩ := p
    obtain ⟨g1, g2, g3, g4⟩ := (place_iff _ _ _).1 hpl
    dsimp only at g1 g2 g3 g4
    obtain ⟨l, rfl⟩ := Int.eq_ofNat_of_zero_le g1
    obtain ⟨c, rfl⟩ := Int.eq_ofNat_of_zero_le g3
    rw [Int.toNat_natCast] at g2 g4
    have hk256 : k.toNat < 256 := k.toNat_lt
    have hn256 : n.toNat < 256 := n.toNat_lt
    have w1 : (n.toNat : Int).tmod 5 = (n.toNat : Int) % 5 := Int.tmod_eq_emod_of_nonneg (by omega)
    have w2 : (k.toNat : Int).tmod 3 = (k.toNat : Int) % 3 := Int.tmod_eq_emod_of_nonneg (by omega)
    have w3 : IntKind.i64.wrap ((n.toNat : Int) % 5) = (n.toNat : Int) % 5 := wrap64 (by omega) (by omega)
    have w4 : IntKind.i64.wrap ((k.toNat : Int) % 3) = (k.toNat : Int) % 3 := wrap64 (by omega) (by omega)
    have w5 : IntKind.i64.wrap ((k.toNat : Int) % 3 + 1) = (k.toNat : Int) % 3 + 1 := wrap64 (by omega) (by omega)
    obtain ⟨m, hm⟩ : ∃ m, m = (min ((k.toNat : Int) % 3 + 1) ((List.drop c (ls.getD l [])).length : Int)).toNat := ⟨_, rfl⟩
    obtain ⟨s, hs1⟩ : ∃ s, s = List.take m (List.drop c (ls.getD l [])) := ⟨_, rfl⟩
    obtain ⟨cn, hcn⟩ : ∃ cn, cn = (n.toNat : Int) % 5 := ⟨_, rfl⟩
    have w6 : IntKind.i64.wrap cn = cn := by rw [hcn]; exact w3
    have hcn9 : cn ≤ 9223372036854775807 := by omega
    have hcx : max cn 1 ≤ 9223372036854775807 := by omega
    have hsl : s.length ≤ 1200 := by
      have := hl2 l
      rw [hs1, List.length_take, List.length_drop]; omega
    have hmm : m ≤ (List.drop c (ls.getD l [])).length := by rw [hm]; omega
    by_cases hse : s = []
    · have c1 : (s == []) = true := beq_iff_eq.2 hse
      simp (maxSteps := 4000000) only [↓Qv,↓Qu,↓Jf,↓Y2,↓Yw,↓Z8,↓Ql,↓Yu,Z3,Yr,Yf,gw,Z4,Ye,↓chk,Qw,noW,↓oneK,↓Qx,↓Js,envOf,↓Zw,↓Jv,↓Qg,opnd,Pg.look,binK,Jh,strOp,Zn,Zc,false_implies,implies_true,imp_self,true_and,and_true,valV,Qy,Qz,binV,intV,strV,cutV,Qh,Z9,Ya,Nat.reduceAdd,ofV,Qi,retA,resK,tupA,subA,subQ,Q0,frzO,subF,subG,Qj,frzE,frzC,frz0,frzH,Pg.freeze,Zh,Q1,Q2,Yg,subM,Jg,Jt,sliceS,↓Q3,Q7,Q8,callH,Yx,Q4,normC,resL,Y3,Ys,resM,Qm,Qn,AV.cells,TK.cells,AV.definite,AV.leaf,AV.leafy,Q9,lay,Xf,Za,Zb,Qd,Qe,Z6,reduceCtorEq,Nat.reduceEqDiff,Nat.reduceAdd,Ze,Zf,Zk,Zl,Zs,Zx,Z5,Zp,ite_true,ite_false,Option.some.injEq,Qt,AV.int.injEq,Prod.mk.injEq,ne_eq,not_false_eq_true,Zu,Z0,Zr,and_self,exists_eq_left',Qa,Qr,Yy,Jp,J0,Yt,Yj,Yk,Zg,Zj,Jo,Y7,Yz,Qo,Qp,Yl,Ym,Yn,Jz,Zm,Zt,Z1,Yq,Qc,Y0,Yv,Z7,Y8,Yh,Qk,Q5,Q6,J5,Yb,pureC,↓msel,muC,↓Ja,Y9,tk3,tk5,tk9,dz9,tk22,tk28,tz28,dz28,kKnown25,kText,kSPlace,ht,← hp,aPos,w2,w4,w5,← hm,← hs1,c1]
      (repeat' first | exact hs | exact hsm | exact hft | exact ha | exact hb | apply And.intro | omega)
    · have c1 : (s == []) = false := beq_eq_false_iff_ne.2 hse
      have hit : ((l : Int), (c : Int)) ∈ hits s ls := by
        have := here_hit (l := l) (c := c) (k := m) g2 (by omega) (by rw [← hs1]; exact hse)
        rwa [← hs1] at this
      have hne : hits s ls ≠ [] := List.ne_nil_of_mem hit
      have hmay : ∀ j : Int, 1 ≤ j → may ls ((l : Int), (c : Int)) j = true := by
        intro j hj
        unfold may
        rw [hpl, decide_eq_true hj]; rfl
      have hmx : cntF cn = max cn 1 := by unfold cntF; split <;> omega
      obtain ⟨⟨a1, a2⟩, hA, rA⟩ := search_to (back := back) (hmay (max cn 1) (by omega)) (by omega) hne
      obtain ⟨⟨b1, b2⟩, hB, rB⟩ := search_to (back := back) (hmay 1 (by omega)) (by omega) hne
      obtain ⟨⟨o1, o2⟩, hD, rD⟩ := search_to (back := !back) (hmay 1 (by omega)) (by omega) hne
      have dn := doN_n ls ((l : Int), (c : Int), 0, 0, 0, 0, s, back) hl0
      have dN := doN_N ls ((l : Int), (c : Int), 0, 0, 0, 0, s, back) hl0
      have ds := doN_star ls ((l : Int), (c : Int), 0, 0, 0, 0, s, back) hl0
      dsimp only [curOf] at dn dN ds
      rw [rB, doFin_hit hB] at dn
      rw [rD, doFin_hit hD] at dN
      obtain ⟨wd, hwd⟩ : ∃ wd, wd = wordP ls ((l : Int), (c : Int)) := ⟨_, rfl⟩
      have hh := @word_hit ls ((l : Int), (c : Int))
      simp only [← hwd] at ds hh
      obtain ⟨⟨q1, q2⟩, word, has⟩ := wd
      dsimp only at ds hh
      cases has with
      | false =>
        rw [if_neg (by simp)] at ds
        cases back with
        | false =>
          have d1 := doN_slash ls ((l : Int), (c : Int), 0, 0, 0, 0, [], false) s cn hl0 hse
          dsimp only [curOf] at d1
          rw [hmx, rA, doFin_hit hA] at d1
          dsimp only [setFB] at d1 ds dn dN
          simp only [Zq] at rD
          simp (maxSteps := 4000000) only [↓Qv,↓Qu,↓Jf,↓Y2,↓Yw,↓Z8,↓Ql,↓Yu,Z3,Yr,Yf,gw,Z4,Qf,Qq,Ye,Jj,↓chk,Qw,noW,↓oneK,↓Qx,↓Js,envOf,↓Zw,↓Jv,↓Qg,opnd,Pg.look,binK,Jh,strOp,cellsEq,leafEq,Jk,Zq,Zn,Zc,Zz,false_implies,implies_true,imp_self,true_and,and_true,Jl,Jm,unc,gof,mux,Jd,Je,valV,Qy,Qz,binV,intV,strV,cutV,Qh,Z9,Ya,Nat.reduceAdd,Y5,Yo,ofV,Qi,Jn,retA,resK,tupA,subA,subQ,Q0,frzO,subF,subG,Qj,frzE,frzC,frz0,frzH,Pg.freeze,Zh,Q1,Q2,Yg,subM,Jg,Jt,sliceS,↓Q3,Q7,Q8,callH,Yx,Q4,normC,resL,Y3,Ys,resM,Qm,Qn,AV.cells,TK.cells,AV.definite,AV.leaf,AV.leafy,Q9,lay,Jw,Xf,Op.operands,Zi,Za,Zb,Zv,Qd,Qe,Z6,reduceCtorEq,Nat.reduceEqDiff,Nat.reduceAdd,Ze,Zf,Zd,Zk,Zl,Zs,Zx,Z5,Yc,Zp,Int.reduceToNat,ite_true,ite_false,Option.some.injEq,Yd,Qt,AV.int.injEq,AV.agg.injEq,Prod.mk.injEq,ne_eq,not_false_eq_true,Zu,Z0,Zr,and_self,exists_eq_left',Qa,Qr,Yy,Y6,Zo,J1,J2,Int.reduceLE,Int.reduceLT,UInt8.reduceOfNat,J7,Jp,Jr,J0,Yt,Yj,Yk,Zg,beq_self_eq_true,Zj,Jo,Y7,Yz,Qo,Qp,Yl,Ym,Yn,Jz,Zm,Zt,cutL,Yp,Z1,Z2,Yq,Qc,Qb,Jq,Nat.reduceLeDiff,Y0,Yv,Y4,Z7,Y8,Yh,Qk,Q5,Q6,J5,Yb,pureC,↓msel,muC,↓Ja,↓callU,↓callUV,↓callUH,↓callUF,Y9,J8,runM_eq,J9,Xa,J3,J4,hP_dec,Xb,Xc,Xd,hB2_arr,Xe,pickF,nodupB,somes,fresh,gids,putO,ren,renL,renO,tk3,tk4,tk5,tk9,dz9,tk22,tk28,tz28,dz28,eq28,tk31,tz31,dz31,tk33,tz33,tk38,tz38,dz38,kKnown25,kText,kSPlace,kDoN,kRSearch,kWord,ht,← hp,aPos,aMove,aMv,aWd,mNone,jumpM,cNpt_dec,w1,w2,w4,w5,w6,← hm,← hs1,← hcn,c1,d1,dn,dN,ds,rA,rB,rD,← hwd]
          (repeat' first | exact hs | exact hsm | exact hft | exact ha | exact hb | apply And.intro | omega)
        | true =>
          have d1 := doN_quest ls ((l : Int), (c : Int), 0, 0, 0, 0, [], false) s cn hl0 hse
          dsimp only [curOf] at d1
          rw [hmx, rA, doFin_hit hA] at d1
          dsimp only [setFB] at d1 ds dn dN
          simp only [Zn] at rD
          simp (maxSteps := 4000000) only [↓Qv,↓Qu,↓Jf,↓Y2,↓Yw,↓Z8,↓Ql,↓Yu,Z3,Yr,Yf,gw,Z4,Qf,Qq,Ye,Jj,↓chk,Qw,noW,↓oneK,↓Qx,↓Js,envOf,↓Zw,↓Jv,↓Qg,opnd,Pg.look,binK,Jh,strOp,cellsEq,leafEq,Jk,Zq,Zn,Zc,Zz,false_implies,implies_true,imp_self,true_and,and_true,Jl,Jm,unc,gof,mux,Jd,Je,valV,Qy,Qz,binV,intV,strV,cutV,Qh,Z9,Ya,Nat.reduceAdd,Y5,Yo,ofV,Qi,Jn,retA,resK,tupA,subA,subQ,Q0,frzO,subF,subG,Qj,frzE,frzC,frz0,frzH,Pg.freeze,Zh,Q1,Q2,Yg,subM,Jg,Jt,sliceS,↓Q3,Q7,Q8,callH,Yx,Q4,normC,resL,Y3,Ys,resM,Qm,Qn,AV.cells,TK.cells,AV.definite,AV.leaf,AV.leafy,Q9,lay,Jw,Xf,Op.operands,Zi,Za,Zb,Zv,Qd,Qe,Z6,reduceCtorEq,Nat.reduceEqDiff,Nat.reduceAdd,Ze,Zf,Zd,Zk,Zl,Zs,Zx,Z5,Yc,Zp,Int.reduceToNat,ite_true,ite_false,Option.some.injEq,Yd,Qt,AV.int.injEq,AV.agg.injEq,Prod.mk.injEq,ne_eq,not_false_eq_true,Zu,Z0,Zr,and_self,exists_eq_left',Qa,Qr,Yy,Y6,Zo,J1,J2,Int.reduceLE,Int.reduceLT,UInt8.reduceOfNat,J7,Jp,Jr,J0,Yt,Yj,Yk,Zg,beq_self_eq_true,Zj,Jo,Y7,Yz,Qo,Qp,Yl,Ym,Yn,Jz,Zm,Zt,cutL,Yp,Z1,Z2,Yq,Qc,Qb,Jq,Nat.reduceLeDiff,Y0,Yv,Y4,Z7,Y8,Yh,Qk,Q5,Q6,J5,Yb,pureC,↓msel,muC,↓Ja,↓callU,↓callUV,↓callUH,↓callUF,Y9,J8,runM_eq,J9,Xa,J3,J4,hP_dec,Xb,Xc,Xd,hB2_arr,Xe,pickF,nodupB,somes,fresh,gids,putO,ren,renL,renO,tk3,tk4,tk5,tk9,dz9,tk22,tk28,tz28,dz28,eq28,tk31,tz31,dz31,tk33,tz33,tk38,tz38,dz38,kKnown25,kText,kSPlace,kDoN,kRSearch,kWord,ht,← hp,aPos,aMove,aMv,aWd,mNone,jumpM,cNpt_dec,w1,w2,w4,w5,w6,← hm,← hs1,← hcn,c1,d1,dn,dN,ds,rA,rB,rD,← hwd]
          (repeat' first | exact hs | exact hsm | exact hft | exact ha | exact hb | apply And.intro | omega)
      | true =>
        obtain ⟨h1, h2⟩ := hh rfl
        have hwl : word.length ≤ 1099511627776 := by
          obtain ⟨_, i, j, _, _, h3, _⟩ := hits_mem h1
          have := hl2 i
          omega
        have hmq : may ls (q1, q2) 1 = true := by unfold may; rw [h2]; rfl
        obtain ⟨⟨e1, e2⟩, hE, rE⟩ := search_to (back := false) hmq (by omega) (List.ne_nil_of_mem h1)
        rw [if_pos rfl, rE, doFin_hit hE] at ds
        cases back with
        | false =>
          have d1 := doN_slash ls ((l : Int), (c : Int), 0, 0, 0, 0, [], false) s cn hl0 hse
          dsimp only [curOf] at d1
          rw [hmx, rA, doFin_hit hA] at d1
          dsimp only [setFB] at d1 ds dn dN
          simp only [Zq] at rD
          simp (maxSteps := 4000000) only [↓Qv,↓Qu,↓Jf,↓Y2,↓Yw,↓Z8,↓Yu,Z3,Yr,Yf,gw,Z4,Qf,Qq,Ye,Jj,↓chk,Qw,noW,↓oneK,↓Qx,↓Js,envOf,↓Zw,↓Qg,opnd,Pg.look,binK,Jh,strOp,cellsEq,leafEq,Jk,Zq,Zn,Zc,Zz,false_implies,implies_true,imp_self,true_and,and_true,Jl,Jm,unc,gof,mux,Jd,Je,valV,Qy,Qz,binV,intV,strV,cutV,Qh,Z9,Ya,Nat.reduceAdd,Y5,Yo,ofV,Qi,Jn,retA,resK,tupA,subA,subQ,Q0,frzO,subF,subG,Qj,frzE,frzC,frz0,frzH,Pg.freeze,Zh,Q1,Q2,Yg,subM,Jg,Jt,sliceS,↓Q3,Q7,Q8,callH,Yx,Q4,normC,resL,Y3,Ys,resM,Qm,Qn,AV.cells,TK.cells,AV.definite,AV.leaf,AV.leafy,Q9,lay,Jw,Xf,Op.operands,Zi,Za,Zb,Zv,Qd,Qe,Z6,reduceCtorEq,Nat.reduceEqDiff,Nat.reduceAdd,Ze,Zf,Zd,Zk,Zl,Zs,Zx,Z5,Yc,Zp,Int.reduceToNat,ite_true,ite_false,Option.some.injEq,Yd,Qt,AV.int.injEq,AV.agg.injEq,Prod.mk.injEq,ne_eq,not_false_eq_true,Zu,Z0,Zr,and_self,exists_eq_left',Qa,Qr,Yy,Y6,Zo,J1,J2,Int.reduceLE,Int.reduceLT,UInt8.reduceOfNat,J7,Jp,Jr,J0,Yt,Yj,Yk,Zg,beq_self_eq_true,Zj,Jo,Y7,Yz,Qo,Qp,Yl,Ym,Yn,Jz,Zm,Zt,cutL,Yp,Z1,Z2,Yq,Qc,Qb,Jq,Nat.reduceLeDiff,Y0,Yv,Y4,Z7,Y8,Yh,Qk,Q5,Q6,J5,Yb,pureC,↓msel,muC,↓Ja,↓callU,↓callUV,↓callUH,↓callUF,Y9,J8,runM_eq,J9,Xa,J3,J4,hP_dec,Xb,Xc,Xd,hB2_arr,Xe,pickF,nodupB,somes,fresh,gids,putO,ren,renL,renO,tk3,tk4,tk5,tk9,dz9,tk22,tk28,tz28,dz28,eq28,tk31,tz31,dz31,tk33,tz33,tk38,tz38,dz38,kKnown25,kText,kSPlace,kDoN,kRSearch,kWord,ht,← hp,aPos,aMove,aMv,aWd,jumpM,cNpt_dec,w1,w2,w4,w5,w6,← hm,← hs1,← hcn,c1,d1,dn,dN,ds,rA,rB,rD,rE,← hwd]
          (repeat' first | exact hs | exact hsm | exact hft | exact ha | exact hb | apply And.intro | omega)
        | true =>
          have d1 := doN_quest ls ((l : Int), (c : Int), 0, 0, 0, 0, [], false) s cn hl0 hse
          dsimp only [curOf] at d1
          rw [hmx, rA, doFin_hit hA] at d1
          dsimp only [setFB] at d1 ds dn dN
          simp only [Zn] at rD
          simp (maxSteps := 4000000) only [↓Qv,↓Qu,↓Jf,↓Y2,↓Yw,↓Z8,↓Ql,↓Yu,Z3,Yr,Yf,gw,Z4,Qf,Qq,Ye,Jj,↓chk,Qw,noW,↓oneK,↓Qx,↓Js,envOf,↓Zw,↓Qg,opnd,Pg.look,binK,Jh,strOp,cellsEq,leafEq,Jk,Zq,Zn,Zc,Zz,false_implies,implies_true,imp_self,true_and,and_true,Jl,Jm,unc,gof,mux,Jd,Je,valV,Qy,Qz,binV,intV,strV,cutV,Qh,Z9,Ya,Nat.reduceAdd,Y5,Yo,ofV,Qi,Jn,retA,resK,tupA,subA,subQ,Q0,frzO,subF,subG,Qj,frzE,frzC,frz0,frzH,Pg.freeze,Zh,Q1,Q2,Yg,subM,Jg,Jt,sliceS,↓Q3,Q7,Q8,callH,Yx,Q4,normC,resL,Y3,Ys,resM,Qm,Qn,AV.cells,TK.cells,AV.definite,AV.leaf,AV.leafy,Q9,lay,Jw,Xf,Op.operands,Zi,Za,Zb,Zv,Qd,Qe,Z6,reduceCtorEq,Nat.reduceEqDiff,Nat.reduceAdd,Ze,Zf,Zd,Zk,Zl,Zs,Zx,Z5,Yc,Zp,Int.reduceToNat,ite_true,ite_false,Option.some.injEq,Yd,Qt,AV.int.injEq,AV.agg.injEq,Prod.mk.injEq,ne_eq,not_false_eq_true,Zu,Z0,Zr,and_self,exists_eq_left',Qa,Qr,Yy,Y6,Zo,J1,J2,Int.reduceLE,Int.reduceLT,UInt8.reduceOfNat,J7,Jp,Jr,J0,Yt,Yj,Yk,Zg,beq_self_eq_true,Zj,Jo,Y7,Yz,Qo,Qp,Yl,Ym,Yn,Jz,Zm,Zt,cutL,Yp,Z1,Z2,Yq,Qc,Qb,Jq,Nat.reduceLeDiff,Y0,Yv,Y4,Z7,Y8,Yh,Qk,Q5,Q6,J5,Yb,pureC,↓msel,muC,↓Ja,↓callU,↓callUV,↓callUH,↓callUF,Y9,J8,runM_eq,J9,Xa,J3,J4,hP_dec,Xb,Xc,Xd,hB2_arr,Xe,pickF,nodupB,somes,fresh,gids,putO,ren,renL,renO,tk3,tk4,tk5,tk9,dz9,tk22,tk28,tz28,dz28,eq28,tk31,tz31,dz31,tk33,tz33,tk38,tz38,dz38,kKnown25,kText,kSPlace,kDoN,kRSearch,kWord,ht,← hp,aPos,aMove,aMv,aWd,jumpM,cNpt_dec,w1,w2,w4,w5,w6,← hm,← hs1,← hcn,c1,d1,dn,dN,ds,rA,rB,rD,rE,← hwd]
          (repeat' first | exact hs | exact hsm | exact hft | exact ha | exact hb | apply And.intro | omega)
end Go.Pg
