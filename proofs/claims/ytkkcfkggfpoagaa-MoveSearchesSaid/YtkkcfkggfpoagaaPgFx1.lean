/- Where words begin and end: the program's iterator. Where words begin and end: the iterators that the program hands out. What is heard of an iterator of places. Motions by words, by the program: small parts. The n-th end of a word, by the program. The n-th of places ahead, by the program. Motions back by words, by the program; they are the document's. -/
import Derived.Test.YtkkcfkggfpoagaaPgFx0
import Derived.Test.YtkkcfkggfpoagaaPgYld4
open List renaming getElem?_cons_zero → Za, getElem?_cons_succ → Zb, append_nil → Zd, foldl_nil → Ze, nil_append → Zf, length_nil → Zg, cons_append → Zi, length_cons → Zj, take_succ_cons → Zk, contains_nil → Zl, getD_cons_zero → Zn, range'_zero → Zo, drop_succ_cons → Zq, all_cons → Zv, map_nil → Zw, drop_zero → Zx, set_cons_zero → Zy, map_cons → Zz, set_cons_succ → Z3, all_nil → Z4, take_zero → Z5, getElem?_toArray → Z7, drop_nil → Yb, take_nil → Yf, length_map → Yt, toList_toArray → Jt, getElem?_map → Xw, foldl_cons → Ke
open Bool renaming false_eq_true → Zc, and_self → Zu, not_false → Yl, not_true → Yx, true_eq_false → Y3, and_eq_true → Qm, and_true → Jl, if_true_left → J0, not_eq_true' → J1, if_false_right → J5, decide_eq_true → J6, or_eq_true → Kf
open Option renaming getD_some → Zh, isSome_some → Z2, bind_some → Yr, isSome_none → Jx, map_some → Xz
open Go.Pg renaming gselH_plain → Zm, closeQ_nil → Zr, diagQ_zero → Zs, subV_succ → Z0, pickOK_nil → Z1, thenA_normal → Z8, cselH_bool → Z9, bselH_false → Ya, iselH_false → Yc, wpH_region → Yd, selC_false → Ye, res_succ → Yg, lCons_dec → Yi, dec2_some → Yj, optP_some → Yk, alives → Ym, pickOf → Yn, optV_some → Yo, optH_some → Yp, stepEv → Yq, isNext → Ys, runH_cons → Yv, regH_none → Yw, ofLeaf → Yy, ldCells → Yz, lOne_dec → Y0, C1by_pre → Y1, normArgs → Y2, runH_nil → Y4, ptrsE → Y5, subOs → Y6, subEv → Y7, justK → Y8, pureK → Y9, heapV → Qa, footV → Qb, cInt_dec → Qc, nextF → Qd, nextG → Qe, iselH_true → Qf, res8_eq → Qg, C1by_it → Qh, C1by_mu → Qi, C1by_ns → Qj, wpH_seq → Qk, heapK → Ql, wpYH_region0 → Qn, thenY_normal → Qo, subA → Qp, subQ → Qq, frzO → Qr, subF → Qs, subG → Qt, frzE → Qu, frzC → Qv, frz0 → Qw, frzH → Qx, subM → Qy, shiftR → Qz, shift1 → Q0, C1by_r → Q1, C1by_H → Q2, oneK → Q3, opnd → Q4, valV → Q5, wpH_ret → Q6, cBool_dec → Q7, wpH_cond → Q8, putCells → Q9, regYH_none → Ja, runYH_cons → Jb, yselH_none → Jc, cAgg_dec → Jd, callT → Je, callC → Jf, callV → Jg, normA → Jh, callP → Ji, wpA_H → Jj, callH → Jk, resM → Jm, runYH_nil → Jn, gselH_if → Jo, wpYH_cond → Jp, blockY_normal → Jq, resL → Jr, objAt → Js, wpYH_seq → Ju, oneYH_eq → Jv, intOp → Jw, msel → Jy, buildL → Jz, wpYH_block → J2, closeQ_succ → J3, decL_str → J4, binK → J7, binV → J8, envOf → J9, intV → Xa, retA → Xb, resK → Xc, tupA → Xd, wpH_skip → Xe, cRp_dec → Xf, cSl_dec → Xg, wpYH_skip → Xh, thenA_ret → Xi, mapAt → Xj, C1itBy_pre → Xk, dstOf → Xm, pickC → Xn, pickV → Xo, wpH_block → Xq, C1itBy_it → Xr, C1itBy_mu → Xs, wpY_H → Xt, normC → Xu, diagQ_succ → Xv, look_stripE → Xx, blockA_normal → Xy, mergeable → X1, selC_true → X2, aliveO → X3, pairsA → X4, pairsO → X5, assocN → X6, pairsE → X7, pairsC → X8, pairs0 → X9, parE_cons → Ka, rqH_normal → Kb, cStr_dec → Kc, parE_nil → Kd, yieldH_some → Kg, blockY_exit → Kh, endY_normal → Ki, kselH_1 → Kj, getD_str → Kk, yselH_some → Kl, blockY_ret → Km, thenY_exit → Kn
open Nat renaming zero_add → Zp, zero_lt_succ → Zt, le_refl → Yh, sub_zero → Yu, lt_irrefl → Xl
open Int renaming toNat_natCast → Z6, cast_ofNat_Int → Xp
open Array renaming toList_append → X0
namespace Go.Pg
open Go Go.Proofs

/-! ### Plain: which mark is the next one -/
def lineLead (e : Bool) (s : List UInt8) : Nat := if (e && s == []) = true then 1 else 0
theorem lineMarks_len (e : Bool) (g : List UInt8 → Nat → Bool) (l : Nat) (s : List UInt8) : (lineMarks e g l s).length = lineLead e s + (marksIn g l s s.length).length := by
  unfold lineMarks lineLead
  split <;> simp [Nat.add_comm]

theorem marksTo_get (e : Bool) (g : List UInt8 → Nat → Bool) (ls : Ls) (i : Nat) : ∀ (n : Nat), i < n → ∀ (j : Nat) (p : Int × Int), (lineMarks e g i (ls.getD i []))[j]? = some p → (marksTo e g ls n)[(marksTo e g ls i).length + j]? = some p := by
  intro n
  induction n with
  | zero => intro h; omega
  | succ n ih =>
    intro h j p hp
    rw [marksTo_succ]
    by_cases he : i = n
    · subst he
      rw [List.getElem?_append_right (by omega), show (marksTo e g ls i).length + j - (marksTo e g ls i).length = j by omega]
      exact hp
    · have h1 := ih (by omega) j p hp
      rw [List.getElem?_append_left (List.getElem?_eq_some_iff.1 h1).1]
      exact h1

theorem marksIn_get (g : List UInt8 → Nat → Bool) (l : Nat) (s : List UInt8) (k : Nat) (hg : g s k = true) : ∀ (n : Nat), k < n → (marksIn g l s n)[(marksIn g l s k).length]? = some ((l : Int), (k : Int)) := by
  intro n
  induction n with
  | zero => intro h; omega
  | succ n ih =>
    intro h
    rw [marksIn_succ]
    by_cases he : k = n
    · subst he
      rw [if_pos hg, List.getElem?_append_right (by omega), Nat.sub_self]
      rfl
    · have h1 := ih (by omega)
      split
      · rw [List.getElem?_append_left (List.getElem?_eq_some_iff.1 h1).1]; exact h1
      · exact h1

theorem mark_lead (e : Bool) (g : List UInt8 → Nat → Bool) (ls : Ls) (i : Nat) (hi : i < ls.length) (h : (e && ls.getD i [] == []) = true) : (marksTo e g ls ls.length)[(marksTo e g ls i).length]? = some ((i : Int), 0) := by
  refine marksTo_get e g ls i ls.length hi 0 _ ?_
  unfold lineMarks
  rw [if_pos h]
  rfl

theorem mark_in (e : Bool) (g : List UInt8 → Nat → Bool) (ls : Ls) (i k : Nat) (hi : i < ls.length) (hk : k < (ls.getD i []).length) (h : g (ls.getD i []) k = true) :
    (marksTo e g ls ls.length)[(marksTo e g ls i).length + lineLead e (ls.getD i []) + (marksIn g i (ls.getD i []) k).length]? = some ((i : Int), (k : Int)) := by
  rw [Nat.add_assoc]
  refine marksTo_get e g ls i ls.length hi _ _ ?_
  have h1 := marksIn_get g i (ls.getD i []) k h (ls.getD i []).length hk
  unfold lineMarks lineLead
  split
  · rw [List.getElem?_append_right (by simp), show 1 + (marksIn g i (ls.getD i []) k).length - [((i : Int), (0 : Int))].length = (marksIn g i (ls.getD i []) k).length by simp]
    exact h1
  · rw [List.nil_append, Nat.zero_add]
    exact h1

/-! ### What is asked of a byte -/
abbrev lAsk : CdL (List UInt8 × Int × Bool) := lCons cStr (lCons (cInt .i64) (lOne (cRp (lOne cBool))))
def kAsk (g : Bool → List UInt8 → Nat → Bool) : C1 := C1.by [.id, .id, .id] lAsk (fun d => 0 ≤ d.2.1 ∧ d.2.1 < d.1.length ∧ d.1.length ≤ 140737488355328) (fun d => .bool (g d.2.2 d.1 d.2.1.toNat)) (fun _ => [])

set_option maxHeartbeats 4000000 in
theorem calls_askS (s : List UInt8) (i : Int) (big : Bool) (h0 : 0 ≤ i) (h1 : i < s.length) (h2 : s.length ≤ 140737488355328) : CallsR Try.prog 80 [.str s, .int .i64 i, .rp [.bool big]] [] (.bool (startB big s i.toNat)) [] := by
  refine callsR_of (mrg := true) (dyn := []) (CtrOK.cons ok_Of (CtrOK.nil _)) mixed Try.func80 rfl (by simp [Try.ntmps80]) (by kernel_rfl) ?_
  rw [show Try.f80.results.toList = [.tmp 5] from by kernel_rfl]
  obtain ⟨k, rfl⟩ := Int.eq_ofNat_of_zero_le h0
  have hk1 : (IntKind.i64.wrap ((k : Int) - 1)) = (k : Int) - 1 := wrap64 (by omega) (by omega)
  have hk2 : ((k : Int) - 1).toNat = k - 1 := by omega
  simp (maxSteps := 4000000) only [↓Jj,↓Q6,↓Qk,↓Yd,Ya,Y4,Yv,gw,Zm,Jo,kselH_0,Kj,gkind,↓chk,pickO,Y8,noW,↓Q3,↓Y9,↓Ql,J9,↓Z8,↓Yq,Q4,Pg.look,J7,Jw,Xm,Zc,implies_true,imp_self,true_and,and_true,Xn,Xo,unc,gof,mux,mergeK,condsL,Q5,Qa,Qb,J8,Xa,Ym,Zr,Zs,Nat.reduceAdd,X1,Xx,ofV,Yy,sameK,Xb,Xc,Xd,Qp,Qq,Y5,Qr,Qs,Qt,Yn,Qu,Qv,Qw,Qx,Pg.freeze,Ze,Y6,Y7,Z0,Qy,Yz,↓Je,Jf,Jg,Jk,Y2,Jh,Jr,Qg,Yg,Jm,Qz,Q0,TK.cells,Op.operands,Call.operands,X0,Z7,Zb,Za,Yr,Zh,reduceCtorEq,Nat.reduceEqDiff,Nat.reduceAdd,Zf,Zd,Zi,Zg,Zz,Zw,Zp,ite_true,ite_false,Option.some.injEq,Jx,J5,J0,J6,Zu,and_self,exists_eq_left',Z1,Qc,Q7,Jt,Y0,Yi,Yj,Zl,Zo,Qj,Y1,Q1,Q2,Yk,Yo,Yp,Z6,Qh,Yw,Ys,Qd,Qe,X2,Ye,pureC,↓Jy,muC,↓Ji,Qi,tk4,tk9,kOf,hk1,hk2]
  refine ⟨⟨by omega, by omega⟩, fun h => ⟨h, ?_⟩, fun h => ⟨h, fun h2 => by rw [h, h2]; rfl⟩, rfl⟩
  have h' := h
  simp only [Qm,J1,beq_eq_false_iff_ne,ne_eq] at h'
  exact ⟨by omega, by omega⟩

set_option maxHeartbeats 4000000 in
theorem calls_askE (s : List UInt8) (i : Int) (big : Bool) (h0 : 0 ≤ i) (h1 : i < s.length) (h2 : s.length ≤ 140737488355328) : CallsR Try.prog 81 [.str s, .int .i64 i, .rp [.bool big]] [] (.bool (endB big s i.toNat)) [] := by
  refine callsR_of (mrg := true) (dyn := []) (CtrOK.cons ok_Of (CtrOK.nil _)) mixed Try.func81 rfl (by simp [Try.ntmps81]) (by kernel_rfl) ?_
  rw [show Try.f81.results.toList = [.tmp 5] from by kernel_rfl]
  obtain ⟨k, rfl⟩ := Int.eq_ofNat_of_zero_le h0
  have hk3 : (IntKind.i64.wrap ((k : Int) + 1)) = ((k + 1 : Nat) : Int) := by rw [wrap64 (by omega) (by omega)]; omega
  have hk4 : IntKind.i64.wrap ((s.length : Int) - 1) = (s.length : Int) - 1 := wrap64 (by omega) (by omega)
  simp (maxSteps := 4000000) only [↓Jj,↓Q6,↓Qk,↓Yd,Ya,Y4,Yv,gw,Zm,Jo,kselH_0,Kj,gkind,↓chk,pickO,Y8,noW,↓Q3,↓Y9,↓Ql,J9,↓Z8,↓Yq,Q4,Pg.look,J7,Jw,Xm,Zc,implies_true,imp_self,true_and,and_true,Xn,Xo,unc,gof,mux,mergeK,condsL,Q5,Qa,Qb,J8,Xa,Ym,Zr,Zs,Nat.reduceAdd,X1,Xx,ofV,Yy,sameK,Xb,Xc,Xd,Qp,Qq,Y5,Qr,Qs,Qt,Yn,Qu,Qv,Qw,Qx,Pg.freeze,Ze,Y6,Y7,Z0,Qy,Yz,↓Je,Jf,Jg,Jk,Y2,Jh,Jr,Qg,Yg,Jm,Qz,Q0,TK.cells,Op.operands,Call.operands,X0,Z7,Zb,Za,Yr,Zh,reduceCtorEq,Nat.reduceEqDiff,Nat.reduceAdd,Zf,Zd,Zi,Zg,Zz,Zw,Zp,ite_true,ite_false,Option.some.injEq,Jx,J5,J0,J6,Zu,and_self,exists_eq_left',Z1,Qc,Q7,Jt,Y0,Yi,Yj,Zl,Zo,Qj,Y1,Q1,Q2,Yk,Yo,Yp,Z6,Qh,Yw,Ys,Qd,Qe,X2,Ye,pureC,↓Jy,muC,↓Ji,Qi,tk4,tk9,kOf,hk3,hk4]
  refine ⟨⟨by omega, by omega⟩, fun h => ⟨h, ?_⟩, fun h => ⟨h, fun h2 => by rw [h, h2]; rfl⟩, rfl⟩
  have h' := h
  simp only [Qm,J1,beq_eq_false_iff_ne,ne_eq] at h'
  exact ⟨by omega, by omega⟩

set_option maxRecDepth 20000 in
set_option maxHeartbeats 4000000 in
theorem it_at (ls : Ls) (e : Bool) (fid : Nat) (big : Bool) (g : Bool → List UInt8 → Nat → Bool) (hf : fits 65536 65536 ls) (hk : C1OK Try.prog fid (kAsk g)) :
    ItR Try.prog 91 [.rp [.sl 1 (ls.map .str)], .rp [.bool e], .rp [.fn fid [.rp [.bool big]]]] (Tell.seq ((marksTo e (g big) ls ls.length).map fun p => [aPos p])) := by
  refine itR_of (mrg := true) (dyn := []) (CtrOK.cons hk (CtrOK.nil _)) mixed Try.func91 rfl (by simp [Try.ntmps91]) (by kernel_rfl) (by kernel_rfl) ?_ ?_
  · intro x hx
    obtain ⟨p, _, rfl⟩ := List.mem_map.1 hx
    rfl
  intro l
  have hll := hf.1
  have hls := fits_getD hf
  simp (maxSteps := 4000000) only [↓Xt,↓Ju,↓J2,↓wpYH_loop,↓Qn,Ja,Jn,Jb,↓Jv,yarg,Jc,↓Qo,gw,Zm,↓chk,Y8,noW,↓Q3,↓Y9,↓Ql,J9,↓Yq,Q4,Pg.look,Zc,implies_true,true_and,and_true,Q5,Qa,Qb,Nat.reduceAdd,ofV,Yy,slen,Yz,TK.cells,Za,Zh,reduceCtorEq,Nat.reduceEqDiff,Nat.reduceAdd,Zp,ite_true,ite_false,Option.some.injEq,AV.int.injEq,and_self,exists_eq_left',Yt,Ys,Qd,Qe,tk22,kAsk]
  refine loopYH_intro (α := Nat) (fun i => (some (marksTo e (g big) ls i).length, [(0, .yld l), (1, .rp [.sl 1 (ls.map .str)]), (2, .rp [.bool e]), (3, .rp [.fn fid [.rp [.bool big]]]), (8, .sl 1 (ls.map .str)), (9, .int .i64 ls.length), (10, .int .i64 i)], []))
    (fun i => i ≤ ls.length) (fun i => ls.length - i) 0 (by omega) (by simp [marksTo]) ?_ ?_
  · simp (maxSteps := 4000000) only [Pg.look,Ym,Zr,Zs,Qp,Qq,Y5,Qr,Qs,Qt,Yn,Qu,Qv,Qw,Qx,Pg.freeze,Ze,Y6,Y7,Z0,Qy,reduceCtorEq,Nat.reduceEqDiff,Zd,ite_true,ite_false,and_self,Z1,Xp]
    all_goals rfl
  intro i hi
  by_cases hlt : i < ls.length
  · have hct : decide ((i : Int) < (ls.length : Int)) = true := decide_eq_true (by omega)
    have hsl := hls i
    have hts := marksTo_succ e (g big) ls i
    have hln := lineMarks_len e (g big) i (ls.getD i [])
    cases e with
    | false =>
      have hl : lineLead false (ls.getD i []) = 0 := rfl
      simp (maxSteps := 4000000) only [↓Xt,↓Xh,↓Ju,↓Jp,↓J2,↓wpYH_loop,↓Qn,Ja,Jn,Jb,↓Jv,yarg,Jc,↓Qo,↓Qf,↓Yc,↓fixG,setG,gw,Zm,Jo,Z9,↓chk,Y8,noW,↓Q3,↓Y9,↓Ql,↓Yq,Q4,Pg.look,J7,Jw,Xm,Yl,Yx,Zc,implies_true,true_and,and_true,Xn,Xo,unc,gof,mux,Q5,Qa,Qb,J8,Xa,ofV,Yy,Yz,AV.cells,TK.cells,Z7,Zb,Za,Yr,Zh,reduceCtorEq,Nat.reduceEqDiff,ite_true,ite_false,Option.some.injEq,and_self,exists_eq_left',Yt,Kk,Z6,Ys,Qd,Qe,tk4,tk9,dz9,tk22,kAsk,hct]
      refine ⟨by omega, ?_⟩
      refine loopYH_intro (α := Nat) (fun k => (some ((marksTo false (g big) ls i).length + lineLead false (ls.getD i []) + (marksIn (g big) i (ls.getD i []) k).length), [(0, .yld l), (1, .rp [.sl 1 (ls.map .str)]), (2, .rp [.bool false]), (3, .rp [.fn fid [.rp [.bool big]]]), (5, .int .i64 i), (6, .str (ls.getD i [])), (8, .sl 1 (ls.map .str)), (9, .int .i64 ls.length), (10, .int .i64 i), (28, .int .i64 (ls.getD i []).length), (29, .int .i64 k)], []))
        (fun k => k ≤ (ls.getD i []).length) (fun k => (ls.getD i []).length - k) 0 (by omega) (by rw [hl]; simp [marksIn]) ?_ ?_
      · simp (maxSteps := 4000000) only [Pg.look,Ym,Zr,Zs,Qp,Qq,Y5,Qr,Qs,Qt,Yn,Qu,Qv,Qw,Qx,Pg.freeze,Ze,Y6,Y7,Z0,Qy,reduceCtorEq,Nat.reduceEqDiff,Zd,ite_true,ite_false,and_self,Z1,Xp]
        all_goals rfl
      intro k hk1
      have hm1 := marksIn_succ (g big) i (ls.getD i []) k
      by_cases hk2 : k < (ls.getD i []).length
      · have hct2 : decide ((k : Int) < ((ls.getD i []).length : Int)) = true := decide_eq_true (by omega)
        cases hg : g big (ls.getD i []) k with
        | true =>
          rw [if_pos hg] at hm1
          have hy := mark_in false (g big) ls i k hlt hk2 hg
          simp (maxSteps := 4000000) only [↓Xt,↓Xh,↓wpYH_ret,↓Ju,↓Jp,↓J2,↓Qn,Ja,Jn,Jb,↓Jv,yarg,Jc,Kl,Kg,↓Qo,↓thenY_ret,↓Jq,↓Km,↓endY_ret,endT_none,↓Qf,↓Yc,↓fixG,setG,gw,Zm,Jo,Z9,↓chk,Y8,noW,↓Q3,↓Y9,↓Ql,↓Yq,Q4,Pg.look,J7,Jw,Xm,Jl,Yl,Yx,Zc,Y3,implies_true,true_and,and_true,Xn,Xo,unc,gof,mux,Q5,Qa,Qb,J8,Xa,Ym,Zr,Zs,Nat.reduceAdd,ofV,Yy,Qp,Qq,Y5,Qr,Qs,Qt,Yn,Qu,Qv,Qw,Qx,Pg.freeze,Ze,Y6,Y7,Z0,Qy,Yz,↓Je,Jf,Jg,Jk,Y2,Jh,Jr,Qg,Yg,Jm,Qz,Q0,AV.cells,TK.cells,AV.definite,lay,Jz,Z7,Zb,Za,Yr,Xz,Zh,reduceCtorEq,Nat.reduceEqDiff,Nat.reduceAdd,Zf,Zd,Zi,Zj,Zg,Zz,Zw,Zp,ite_true,ite_false,Option.some.injEq,Z2,AV.agg.injEq,Zv,Z4,Zu,and_self,exists_eq_left',Z1,Yt,Qc,Q7,Kc,Xf,Y0,Yi,Yj,Zo,Qj,Y1,Q1,Q2,Yk,Yo,Yp,Z6,Zx,Zq,Zk,Z5,Nat.reduceLeDiff,Yh,Yb,Qh,Ys,Qd,Qe,↓Jy,muC,↓Ji,Qi,tk28,tz28,tk98,kAsk,eq_self,hct2,hg,Z6,Xw,hy]
          exact ⟨⟨by omega, by omega, by omega⟩, rfl, rfl, k + 1, by omega, by omega, by rw [hm1, List.length_append]; rfl, by rw [wrap64 (by omega) (by omega)]; rfl⟩
        | false =>
          rw [if_neg (by rw [hg]; simp)] at hm1
          simp (maxSteps := 4000000) only [↓Xt,↓Xh,↓Ju,↓Jp,↓J2,↓Qn,Ja,Jn,Jb,↓Jv,yarg,Jc,↓Qo,↓Jq,↓Qf,↓Yc,↓fixG,setG,gw,Zm,Jo,Z9,↓chk,Y8,noW,↓Q3,↓Y9,↓Ql,↓Yq,Q4,Pg.look,J7,Jw,Xm,Yl,Yx,Zc,implies_true,true_and,and_true,Xn,Xo,unc,gof,mux,Q5,Qa,Qb,J8,Xa,Ym,Zr,Zs,ofV,Yy,Qp,Qq,Y5,Qr,Qs,Qt,Yn,Qu,Qv,Qw,Qx,Pg.freeze,Ze,Y6,Y7,Z0,Qy,Yz,↓Je,Jf,Jg,Jk,Y2,Jh,Jr,Qg,Yg,Jm,Qz,Q0,TK.cells,Z7,Zb,Za,Yr,Zh,reduceCtorEq,Nat.reduceEqDiff,Zf,Zd,Zi,Zg,Zz,Zw,ite_true,ite_false,Option.some.injEq,and_self,exists_eq_left',Z1,Qc,Q7,Kc,Xf,Y0,Yi,Yj,Zo,Qj,Y1,Q1,Q2,Yk,Yo,Yp,Z6,Qh,Ys,Qd,Qe,↓Jy,muC,↓Ji,Qi,tk98,kAsk,eq_self,hct2,hg,Z6]
          exact ⟨⟨by omega, by omega, by omega⟩, k + 1, by omega, by omega, by rw [hm1], by rw [wrap64 (by omega) (by omega)]; rfl⟩
      · have hcf2 : decide ((k : Int) < ((ls.getD i []).length : Int)) = false := decide_eq_false (by omega)
        have hke : k = (ls.getD i []).length := by omega
        subst hke
        simp (maxSteps := 4000000) only [↓Xt,↓wpYH_exit,↓Ju,↓Jp,↓Qn,Ja,Jn,Jb,↓Jv,yarg,Jc,↓Qo,↓Kn,↓Jq,↓Kh,↓Ki,endT_some,↓Yc,gw,Zm,Z9,↓chk,Y8,↓Q3,↓Y9,↓Yq,Q4,Pg.look,J7,Jw,Zc,implies_true,true_and,and_true,Q5,Qa,Qb,J8,Xa,Ym,Zr,Zs,ofV,Yy,Qp,Qq,Y5,Qr,Qs,Qt,Yn,Qu,Qv,Qw,Qx,Pg.freeze,Ze,Y6,Y7,Z0,Qy,reduceCtorEq,Nat.reduceEqDiff,Zd,ite_true,ite_false,Option.some.injEq,and_self,Z1,Yt,Ys,Qd,Qe,kAsk,hcf2]
        exact ⟨i + 1, by omega, by omega, by rw [hts, List.length_append, hln]; omega, by rw [wrap64 (by omega) (by omega)]; rfl⟩
    | true =>
      cases hse : (ls.getD i [] == []) with
      | true =>
        have hl : lineLead true (ls.getD i []) = 1 := by unfold lineLead; rw [if_pos (by rw [hse]; rfl)]
        have hy0 := mark_lead true (g big) ls i hlt (by rw [hse]; rfl)
        simp (maxSteps := 4000000) only [↓Xt,↓Xh,↓wpYH_ret,↓Ju,↓Jp,↓J2,↓wpYH_loop,↓Qn,Ja,Jn,Jb,↓Jv,yarg,Jc,Kl,Kg,↓Qo,↓thenY_ret,↓Km,↓endY_ret,endT_none,↓Qf,↓Yc,↓fixG,setG,gw,Zm,Jo,Z9,↓chk,Y8,noW,↓Q3,↓Y9,↓Ql,↓Yq,Q4,Pg.look,J7,Jw,strOp,Xm,Jl,Yl,Yx,Zc,Y3,implies_true,true_and,and_true,Xn,Xo,unc,gof,mux,Q5,Qa,Qb,J8,Xa,strV,Nat.reduceAdd,ofV,Yy,Yz,AV.cells,TK.cells,AV.definite,lay,Jz,Z7,Zb,Za,Yr,Xz,Zh,reduceCtorEq,Nat.reduceEqDiff,Nat.reduceAdd,Zf,Zi,Zj,Zg,Zz,Zw,Zp,ite_true,ite_false,Option.some.injEq,Z2,AV.agg.injEq,Zv,Z4,Zu,and_self,exists_eq_left',Yt,Kk,Z6,Zx,Zq,Z5,Nat.reduceLeDiff,Ys,Qd,Qe,tk4,tk9,dz9,tk22,tk28,tz28,kAsk,hct,hse,Xw,hy0]
        refine ⟨by omega, rfl, rfl, ?_⟩
        refine loopYH_intro (α := Nat) (fun k => (some ((marksTo true (g big) ls i).length + lineLead true (ls.getD i []) + (marksIn (g big) i (ls.getD i []) k).length), [(0, .yld l), (1, .rp [.sl 1 (ls.map .str)]), (2, .rp [.bool true]), (3, .rp [.fn fid [.rp [.bool big]]]), (5, .int .i64 i), (6, .str (ls.getD i [])), (8, .sl 1 (ls.map .str)), (9, .int .i64 ls.length), (10, .int .i64 i), (28, .int .i64 (ls.getD i []).length), (29, .int .i64 k)], []))
          (fun k => k ≤ (ls.getD i []).length) (fun k => (ls.getD i []).length - k) 0 (by omega) (by rw [hl]; simp [marksIn]) ?_ ?_
        · simp (maxSteps := 4000000) only [Pg.look,Ym,Zr,Zs,Qp,Qq,Y5,Qr,Qs,Qt,Yn,Qu,Qv,Qw,Qx,Pg.freeze,Ze,Y6,Y7,Z0,Qy,reduceCtorEq,Nat.reduceEqDiff,Zd,ite_true,ite_false,and_self,Z1,Xp]
          all_goals rfl
        intro k hk1
        have hm1 := marksIn_succ (g big) i (ls.getD i []) k
        by_cases hk2 : k < (ls.getD i []).length
        · have hct2 : decide ((k : Int) < ((ls.getD i []).length : Int)) = true := decide_eq_true (by omega)
          cases hg : g big (ls.getD i []) k with
          | true =>
            rw [if_pos hg] at hm1
            have hy := mark_in true (g big) ls i k hlt hk2 hg
            simp (maxSteps := 4000000) only [↓Xt,↓Xh,↓wpYH_ret,↓Ju,↓Jp,↓J2,↓Qn,Ja,Jn,Jb,↓Jv,yarg,Jc,Kl,Kg,↓Qo,↓thenY_ret,↓Jq,↓Km,↓endY_ret,endT_none,↓Qf,↓Yc,↓fixG,setG,gw,Zm,Jo,Z9,↓chk,Y8,noW,↓Q3,↓Y9,↓Ql,↓Yq,Q4,Pg.look,J7,Jw,Xm,Jl,Yl,Yx,Zc,Y3,implies_true,true_and,and_true,Xn,Xo,unc,gof,mux,Q5,Qa,Qb,J8,Xa,Ym,Zr,Zs,Nat.reduceAdd,ofV,Yy,Qp,Qq,Y5,Qr,Qs,Qt,Yn,Qu,Qv,Qw,Qx,Pg.freeze,Ze,Y6,Y7,Z0,Qy,Yz,↓Je,Jf,Jg,Jk,Y2,Jh,Jr,Qg,Yg,Jm,Qz,Q0,AV.cells,TK.cells,AV.definite,lay,Jz,Z7,Zb,Za,Yr,Xz,Zh,reduceCtorEq,Nat.reduceEqDiff,Nat.reduceAdd,Zf,Zd,Zi,Zj,Zg,Zz,Zw,Zp,ite_true,ite_false,Option.some.injEq,Z2,AV.agg.injEq,Zv,Z4,Zu,and_self,exists_eq_left',Z1,Yt,Qc,Q7,Kc,Xf,Y0,Yi,Yj,Zo,Qj,Y1,Q1,Q2,Yk,Yo,Yp,Z6,Zx,Zq,Zk,Z5,Nat.reduceLeDiff,Yh,Yb,Qh,Ys,Qd,Qe,↓Jy,muC,↓Ji,Qi,tk28,tz28,tk98,kAsk,eq_self,hct2,hg,Z6,Xw,hy]
            exact ⟨⟨by omega, by omega, by omega⟩, rfl, rfl, k + 1, by omega, by omega, by rw [hm1, List.length_append]; rfl, by rw [wrap64 (by omega) (by omega)]; rfl⟩
          | false =>
            rw [if_neg (by rw [hg]; simp)] at hm1
            simp (maxSteps := 4000000) only [↓Xt,↓Xh,↓Ju,↓Jp,↓J2,↓Qn,Ja,Jn,Jb,↓Jv,yarg,Jc,↓Qo,↓Jq,↓Qf,↓Yc,↓fixG,setG,gw,Zm,Jo,Z9,↓chk,Y8,noW,↓Q3,↓Y9,↓Ql,↓Yq,Q4,Pg.look,J7,Jw,Xm,Yl,Yx,Zc,implies_true,true_and,and_true,Xn,Xo,unc,gof,mux,Q5,Qa,Qb,J8,Xa,Ym,Zr,Zs,ofV,Yy,Qp,Qq,Y5,Qr,Qs,Qt,Yn,Qu,Qv,Qw,Qx,Pg.freeze,Ze,Y6,Y7,Z0,Qy,Yz,↓Je,Jf,Jg,Jk,Y2,Jh,Jr,Qg,Yg,Jm,Qz,Q0,TK.cells,Z7,Zb,Za,Yr,Zh,reduceCtorEq,Nat.reduceEqDiff,Zf,Zd,Zi,Zg,Zz,Zw,ite_true,ite_false,Option.some.injEq,and_self,exists_eq_left',Z1,Qc,Q7,Kc,Xf,Y0,Yi,Yj,Zo,Qj,Y1,Q1,Q2,Yk,Yo,Yp,Z6,Qh,Ys,Qd,Qe,↓Jy,muC,↓Ji,Qi,tk98,kAsk,eq_self,hct2,hg,Z6]
            exact ⟨⟨by omega, by omega, by omega⟩, k + 1, by omega, by omega, by rw [hm1], by rw [wrap64 (by omega) (by omega)]; rfl⟩
        · have hcf2 : decide ((k : Int) < ((ls.getD i []).length : Int)) = false := decide_eq_false (by omega)
          have hke : k = (ls.getD i []).length := by omega
          subst hke
          simp (maxSteps := 4000000) only [↓Xt,↓wpYH_exit,↓Ju,↓Jp,↓Qn,Ja,Jn,Jb,↓Jv,yarg,Jc,↓Qo,↓Kn,↓Jq,↓Kh,↓Ki,endT_some,↓Yc,gw,Zm,Z9,↓chk,Y8,↓Q3,↓Y9,↓Yq,Q4,Pg.look,J7,Jw,Zc,implies_true,true_and,and_true,Q5,Qa,Qb,J8,Xa,Ym,Zr,Zs,ofV,Yy,Qp,Qq,Y5,Qr,Qs,Qt,Yn,Qu,Qv,Qw,Qx,Pg.freeze,Ze,Y6,Y7,Z0,Qy,reduceCtorEq,Nat.reduceEqDiff,Zd,ite_true,ite_false,Option.some.injEq,and_self,Z1,Yt,Ys,Qd,Qe,kAsk,hcf2]
          exact ⟨i + 1, by omega, by omega, by rw [hts, List.length_append, hln]; omega, by rw [wrap64 (by omega) (by omega)]; rfl⟩
      | false =>
        have hl : lineLead true (ls.getD i []) = 0 := by unfold lineLead; rw [if_neg (by rw [hse]; decide)]
        simp (maxSteps := 4000000) only [↓Xt,↓Xh,↓Ju,↓Jp,↓J2,↓wpYH_loop,↓Qn,Ja,Jn,Jb,↓Jv,yarg,Jc,↓Qo,↓Qf,↓Yc,↓fixG,setG,gw,Zm,Jo,Z9,↓chk,Y8,noW,↓Q3,↓Y9,↓Ql,↓Yq,Q4,Pg.look,J7,Jw,strOp,Xm,Yl,Yx,Zc,Y3,implies_true,true_and,and_true,Xn,Xo,unc,gof,mux,Q5,Qa,Qb,J8,Xa,strV,ofV,Yy,Yz,AV.cells,TK.cells,Z7,Zb,Za,Yr,Zh,reduceCtorEq,Nat.reduceEqDiff,ite_true,ite_false,Option.some.injEq,and_self,exists_eq_left',Yt,Kk,Z6,Ys,Qd,Qe,tk4,tk9,dz9,tk22,kAsk,hct,hse]
        refine ⟨by omega, ?_⟩
        refine loopYH_intro (α := Nat) (fun k => (some ((marksTo true (g big) ls i).length + lineLead true (ls.getD i []) + (marksIn (g big) i (ls.getD i []) k).length), [(0, .yld l), (1, .rp [.sl 1 (ls.map .str)]), (2, .rp [.bool true]), (3, .rp [.fn fid [.rp [.bool big]]]), (5, .int .i64 i), (6, .str (ls.getD i [])), (8, .sl 1 (ls.map .str)), (9, .int .i64 ls.length), (10, .int .i64 i), (28, .int .i64 (ls.getD i []).length), (29, .int .i64 k)], []))
          (fun k => k ≤ (ls.getD i []).length) (fun k => (ls.getD i []).length - k) 0 (by omega) (by rw [hl]; simp [marksIn]) ?_ ?_
        · simp (maxSteps := 4000000) only [Pg.look,Ym,Zr,Zs,Qp,Qq,Y5,Qr,Qs,Qt,Yn,Qu,Qv,Qw,Qx,Pg.freeze,Ze,Y6,Y7,Z0,Qy,reduceCtorEq,Nat.reduceEqDiff,Zd,ite_true,ite_false,and_self,Z1,Xp]
          all_goals rfl
        intro k hk1
        have hm1 := marksIn_succ (g big) i (ls.getD i []) k
        by_cases hk2 : k < (ls.getD i []).length
        · have hct2 : decide ((k : Int) < ((ls.getD i []).length : Int)) = true := decide_eq_true (by omega)
          cases hg : g big (ls.getD i []) k with
          | true =>
            rw [if_pos hg] at hm1
            have hy := mark_in true (g big) ls i k hlt hk2 hg
            simp (maxSteps := 4000000) only [↓Xt,↓Xh,↓wpYH_ret,↓Ju,↓Jp,↓J2,↓Qn,Ja,Jn,Jb,↓Jv,yarg,Jc,Kl,Kg,↓Qo,↓thenY_ret,↓Jq,↓Km,↓endY_ret,endT_none,↓Qf,↓Yc,↓fixG,setG,gw,Zm,Jo,Z9,↓chk,Y8,noW,↓Q3,↓Y9,↓Ql,↓Yq,Q4,Pg.look,J7,Jw,Xm,Jl,Yl,Yx,Zc,Y3,implies_true,true_and,and_true,Xn,Xo,unc,gof,mux,Q5,Qa,Qb,J8,Xa,Ym,Zr,Zs,Nat.reduceAdd,ofV,Yy,Qp,Qq,Y5,Qr,Qs,Qt,Yn,Qu,Qv,Qw,Qx,Pg.freeze,Ze,Y6,Y7,Z0,Qy,Yz,↓Je,Jf,Jg,Jk,Y2,Jh,Jr,Qg,Yg,Jm,Qz,Q0,AV.cells,TK.cells,AV.definite,lay,Jz,Z7,Zb,Za,Yr,Xz,Zh,reduceCtorEq,Nat.reduceEqDiff,Nat.reduceAdd,Zf,Zd,Zi,Zj,Zg,Zz,Zw,Zp,ite_true,ite_false,Option.some.injEq,Z2,AV.agg.injEq,Zv,Z4,Zu,and_self,exists_eq_left',Z1,Yt,Qc,Q7,Kc,Xf,Y0,Yi,Yj,Zo,Qj,Y1,Q1,Q2,Yk,Yo,Yp,Z6,Zx,Zq,Zk,Z5,Nat.reduceLeDiff,Yh,Yb,Qh,Ys,Qd,Qe,↓Jy,muC,↓Ji,Qi,tk28,tz28,tk98,kAsk,eq_self,hct2,hg,Z6,Xw,hy]
            exact ⟨⟨by omega, by omega, by omega⟩, rfl, rfl, k + 1, by omega, by omega, by rw [hm1, List.length_append]; rfl, by rw [wrap64 (by omega) (by omega)]; rfl⟩
          | false =>
            rw [if_neg (by rw [hg]; simp)] at hm1
            simp (maxSteps := 4000000) only [↓Xt,↓Xh,↓Ju,↓Jp,↓J2,↓Qn,Ja,Jn,Jb,↓Jv,yarg,Jc,↓Qo,↓Jq,↓Qf,↓Yc,↓fixG,setG,gw,Zm,Jo,Z9,↓chk,Y8,noW,↓Q3,↓Y9,↓Ql,↓Yq,Q4,Pg.look,J7,Jw,Xm,Yl,Yx,Zc,implies_true,true_and,and_true,Xn,Xo,unc,gof,mux,Q5,Qa,Qb,J8,Xa,Ym,Zr,Zs,ofV,Yy,Qp,Qq,Y5,Qr,Qs,Qt,Yn,Qu,Qv,Qw,Qx,Pg.freeze,Ze,Y6,Y7,Z0,Qy,Yz,↓Je,Jf,Jg,Jk,Y2,Jh,Jr,Qg,Yg,Jm,Qz,Q0,TK.cells,Z7,Zb,Za,Yr,Zh,reduceCtorEq,Nat.reduceEqDiff,Zf,Zd,Zi,Zg,Zz,Zw,ite_true,ite_false,Option.some.injEq,and_self,exists_eq_left',Z1,Qc,Q7,Kc,Xf,Y0,Yi,Yj,Zo,Qj,Y1,Q1,Q2,Yk,Yo,Yp,Z6,Qh,Ys,Qd,Qe,↓Jy,muC,↓Ji,Qi,tk98,kAsk,eq_self,hct2,hg,Z6]
            exact ⟨⟨by omega, by omega, by omega⟩, k + 1, by omega, by omega, by rw [hm1], by rw [wrap64 (by omega) (by omega)]; rfl⟩
        · have hcf2 : decide ((k : Int) < ((ls.getD i []).length : Int)) = false := decide_eq_false (by omega)
          have hke : k = (ls.getD i []).length := by omega
          subst hke
          simp (maxSteps := 4000000) only [↓Xt,↓wpYH_exit,↓Ju,↓Jp,↓Qn,Ja,Jn,Jb,↓Jv,yarg,Jc,↓Qo,↓Kn,↓Jq,↓Kh,↓Ki,endT_some,↓Yc,gw,Zm,Z9,↓chk,Y8,↓Q3,↓Y9,↓Yq,Q4,Pg.look,J7,Jw,Zc,implies_true,true_and,and_true,Q5,Qa,Qb,J8,Xa,Ym,Zr,Zs,ofV,Yy,Qp,Qq,Y5,Qr,Qs,Qt,Yn,Qu,Qv,Qw,Qx,Pg.freeze,Ze,Y6,Y7,Z0,Qy,reduceCtorEq,Nat.reduceEqDiff,Zd,ite_true,ite_false,Option.some.injEq,and_self,Z1,Yt,Ys,Qd,Qe,kAsk,hcf2]
          exact ⟨i + 1, by omega, by omega, by rw [hts, List.length_append, hln]; omega, by rw [wrap64 (by omega) (by omega)]; rfl⟩
  · have hcf : decide ((i : Int) < (ls.length : Int)) = false := decide_eq_false (by omega)
    have hil : i = ls.length := by omega
    simp (maxSteps := 4000000) only [↓Xt,↓wpYH_exit,↓Ju,↓Jp,↓Qn,Ja,Jn,Jb,↓Jv,yarg,Jc,↓Qo,↓Kn,↓Kh,↓Ki,endT_some,↓Yc,gw,Zm,Z9,↓chk,Y8,↓Q3,↓Y9,↓Yq,Q4,Pg.look,J7,Jw,Zc,implies_true,true_and,Q5,Qa,Qb,J8,Xa,reduceCtorEq,Nat.reduceEqDiff,ite_true,ite_false,and_self,Yt,Ys,Qd,Qe,kAsk,hcf]
    rw [hil]
end Go.Pg
namespace Go.Pg
open Go Go.Proofs

theorem ok_askS : C1OK Try.prog 80 (kAsk startB) := C1OK.by (by kernel_rfl) (fun d h => calls_askS d.1 d.2.1 d.2.2 h.1 h.2.1 h.2.2) (fun _ => rfl) (fun _ => rfl)
theorem ok_askE : C1OK Try.prog 81 (kAsk endB) := C1OK.by (by kernel_rfl) (fun d h => calls_askE d.1 d.2.1 d.2.2 h.1 h.2.1 h.2.2) (fun _ => rfl) (fun _ => rfl)

/-- A closure that is asked of bytes: which of the two, and of which words. -/
def cAskFn : Cd (Bool × Bool) where
  enc d := .fn (if d.1 = true then 80 else 81) [.rp [.bool d.2]]
  dec
    | .fn f [.rp [.bool b]] => if f = 80 then some (true, b) else if f = 81 then some (false, b) else none
    | _ => none
  ok v a h := by
    split at h
    · split at h
      · next e => cases h; rw [e]; rfl
      · split at h
        · next e => cases h; rw [e]; rfl
        · cases h
    · cases h
theorem cAskFn_decS (b : Bool) : cAskFn.dec (.fn 80 [.rp [.bool b]]) = some (true, b) := rfl
theorem cAskFn_decE (b : Bool) : cAskFn.dec (.fn 81 [.rp [.bool b]]) = some (false, b) := rfl

def gOf (st : Bool) (big : Bool) : List UInt8 → Nat → Bool := if st = true then startB big else endB big
def marksOf (st e big : Bool) (ls : Ls) : List (Int × Int) := marksTo e (gOf st big) ls ls.length
abbrev lAt : CdL (Ls × Bool × Bool × Bool) := lCons (cRp (lOne cStrs)) (lCons (cRp (lOne cBool)) (lOne (cRp (lOne cAskFn))))
def kAt : C1 := C1.itBy lAt (fun d => fits 65536 65536 d.1) (fun d => (marksOf d.2.2.1 d.2.1 d.2.2.2 d.1).map fun p => [aPos p])
theorem ok_at : C1OK Try.prog 91 kAt := by
  refine C1OK.itBy (by kernel_rfl) fun d h => ?_
  obtain ⟨ls, e, st, big⟩ := d
  cases st with
  | true => exact it_at ls e _ big startB h ok_askS
  | false => exact it_at ls e _ big endB h ok_askE

/-- The iterator, as a value. -/
def aAt (ls : Ls) (e st big : Bool) : AV := .fn 91 [.rp [.sl 1 (ls.map .str)], .rp [.bool e], .rp [.fn (if st = true then 80 else 81) [.rp [.bool big]]]]

set_option maxHeartbeats 4000000 in
theorem calls_at (ls : Ls) (e st big : Bool) : CallsR Try.prog 79 [.sl 1 (ls.map .str), .bool e, .fn (if st = true then 80 else 81) [.rp [.bool big]]] [] (aAt ls e st big) [] := by
  refine callsR_of (mrg := true) (dyn := []) (CtrOK.nil _) mixed Try.func79 rfl (by simp [Try.ntmps79]) (by kernel_rfl) ?_
  rw [show Try.f79.results.toList = [.tmp 6] from by kernel_rfl]
  simp (maxSteps := 4000000) only [↓Jj,↓Q6,↓Qk,↓Yd,Ya,Y4,Yv,gw,Zm,↓chk,Y8,noW,↓Q3,↓Y9,↓Ql,J9,↓Z8,↓Yq,Q4,Pg.look,Zc,implies_true,Q5,Qa,Qb,Ym,Zr,Zs,Nat.reduceAdd,ofV,Yy,Xb,Xc,Xd,Qp,Qq,Y5,Qr,Qs,Qt,Yn,Qu,Qv,frzL,Qw,Qx,Pg.freeze,Ze,Ke,Y6,Y7,Z0,Qy,subL,Js,Jr,Yg,Jm,AV.cells,AV.definite,frzAt,Zb,Za,reduceCtorEq,Nat.reduceEqDiff,Nat.reduceAdd,Zf,Zd,Zi,Zj,Zg,Zz,Zw,Zy,Z3,Zp,ite_true,ite_false,Zv,Z4,Zu,and_self,Z1,resIn,List.contains_cons,Zl,Nat.reduceBEq,Bool.or_self,Bool.or_false,beq_self_eq_true,Bool.or_true,Zn,Zx,Zt,Yw,Ys,Qd,Qe,Ye,aAt]

def kAtF : C1 := C1.by [.sl 1 [], .id, .id] (lCons cStrs (lCons cBool (lOne cAskFn))) (fun _ => True) (fun d => aAt d.1 d.2.1 d.2.2.1 d.2.2.2) (fun _ => [])
theorem ok_atF : C1OK Try.prog 79 kAtF := C1OK.by (by kernel_rfl) (fun d _ => calls_at d.1 d.2.1 d.2.2.1 d.2.2.2) (fun d => by unfold aAt; rfl) (fun _ => rfl)

set_option maxHeartbeats 4000000 in
theorem calls_Starts (ls : Ls) (big : Bool) : CallsR Try.prog 65 [.sl 1 (ls.map .str), .bool big] [] (aAt ls true true big) [] := by
  refine callsR_of (mrg := true) (dyn := []) (CtrOK.cons ok_atF (CtrOK.nil _)) mixed Try.func65 rfl (by simp [Try.ntmps65]) (by kernel_rfl) ?_
  rw [show Try.f65.results.toList = [.tmp 4] from by kernel_rfl]
  simp (maxSteps := 4000000) only [↓Jj,↓Q6,↓Qk,↓Yd,Ya,Y4,Yv,gw,Zm,↓chk,Y8,noW,↓Q3,↓Y9,↓Ql,J9,↓Z8,↓Yq,Q4,Pg.look,Zc,implies_true,Q5,Qa,Qb,Ym,Zr,Zs,ofV,Yy,Xb,Xc,Xd,Qp,Qq,Y5,Qr,Qs,Qt,Yn,Qu,Qv,frzL,Qw,Qx,Pg.freeze,Ze,Ke,Y6,Y7,Z0,Qy,subL,Js,↓Je,Jf,Jg,Jk,Y2,Jh,Xu,Jr,Qg,Yg,Jm,Qz,Q0,AV.cells,AV.definite,frzAt,Za,reduceCtorEq,Nat.reduceEqDiff,Zf,Zd,Zj,Zg,Zz,Zw,Zy,Zp,ite_true,ite_false,and_self,Z1,Q7,Xg,Y0,Yi,Yj,Zl,Zo,J4,Qj,Y1,Q1,Q2,Yk,Yo,Yp,Zn,Zx,Zt,Qh,Yw,Ys,Qd,Qe,Ye,↓Jy,muC,↓Ji,Qi,aAt,kAtF,cAskFn_decS]

set_option maxHeartbeats 4000000 in
theorem calls_Ends (ls : Ls) (big : Bool) : CallsR Try.prog 69 [.sl 1 (ls.map .str), .bool big] [] (aAt ls false false big) [] := by
  refine callsR_of (mrg := true) (dyn := []) (CtrOK.cons ok_atF (CtrOK.nil _)) mixed Try.func69 rfl (by simp [Try.ntmps69]) (by kernel_rfl) ?_
  rw [show Try.f69.results.toList = [.tmp 4] from by kernel_rfl]
  simp (maxSteps := 4000000) only [↓Jj,↓Q6,↓Qk,↓Yd,Ya,Y4,Yv,gw,Zm,↓chk,Y8,noW,↓Q3,↓Y9,↓Ql,J9,↓Z8,↓Yq,Q4,Pg.look,Zc,implies_true,Q5,Qa,Qb,Ym,Zr,Zs,ofV,Yy,Xb,Xc,Xd,Qp,Qq,Y5,Qr,Qs,Qt,Yn,Qu,Qv,frzL,Qw,Qx,Pg.freeze,Ze,Ke,Y6,Y7,Z0,Qy,subL,Js,↓Je,Jf,Jg,Jk,Y2,Jh,Xu,Jr,Qg,Yg,Jm,Qz,Q0,AV.cells,AV.definite,frzAt,Za,reduceCtorEq,Nat.reduceEqDiff,Zf,Zd,Zj,Zg,Zz,Zw,Zy,Zp,ite_true,ite_false,and_self,Z1,Q7,Xg,Y0,Yi,Yj,Zl,Zo,J4,Qj,Y1,Q1,Q2,Yk,Yo,Yp,Zn,Zx,Zt,Qh,Yw,Ys,Qd,Qe,Ye,↓Jy,muC,↓Ji,Qi,aAt,kAtF,cAskFn_decE]
end Go.Pg
namespace Go.Pg
open Go Go.Proofs

theorem subX_nls {H : AH} {F : List Nat} {pick : List (Option Nat)} {i sz : Nat} (h : pick[i]? = some none) : subX H F pick [.nls] [.own i sz 0] := .inr ⟨⟨⟨h, rfl⟩, trivial⟩, trivial⟩
theorem subX_own {H : AH} {F : List Nat} {pick : List (Option Nat)} {i j sz n n' : Nat} (h : pick[i]? = some (some j)) (hn : n = n') : subX H F pick [.own j sz n] [.own i sz n'] := .inr ⟨⟨⟨h, rfl, hn⟩, trivial⟩, trivial⟩
theorem aPos_def (p : Int × Int) : aPos p = .agg [.int .i64 p.1, .int .i64 p.2] := rfl
end Go.Pg
namespace Go.Pg
open Go Go.Proofs

def kStartsF : C1 := C1.by [.sl 1 [], .id] (lCons cStrs (lOne cBool)) (fun _ => True) (fun d => aAt d.1 true true d.2) (fun _ => [])
theorem ok_StartsF : C1OK Try.prog 65 kStartsF := C1OK.by (by kernel_rfl) (fun d _ => calls_Starts d.1 d.2) (fun d => by unfold aAt; rfl) (fun _ => rfl)
def kEndsF : C1 := C1.by [.sl 1 [], .id] (lCons cStrs (lOne cBool)) (fun _ => True) (fun d => aAt d.1 false false d.2) (fun _ => [])
theorem ok_EndsF : C1OK Try.prog 69 kEndsF := C1OK.by (by kernel_rfl) (fun d _ => calls_Ends d.1 d.2) (fun d => by unfold aAt; rfl) (fun _ => rfl)

theorem calls_fails (ls : Ls) (p : Int × Int) (n : Int) : CallsR Try.prog 64 [.sl 1 (ls.map .str), aPos p, .int .i64 n] [] (.bool (!may ls p n)) [] := by
  obtain ⟨p1, p2⟩ := p
  refine callsR_of (mrg := true) (dyn := []) (CtrOK.cons ok_CPlace (CtrOK.nil _)) mixed Try.func64 rfl (by simp [Try.ntmps64]) (by kernel_rfl) ?_
  rw [show Try.f64.results.toList = [.tmp 6] from by kernel_rfl]
  simp (maxSteps := 4000000) only [↓Jj,↓Q6,↓Qk,↓Yd,Ya,Y4,Yv,gw,Zm,Jo,Kj,gkind,↓chk,Y8,noW,↓Q3,↓Y9,↓Ql,J9,↓Z8,↓Yq,Q4,Pg.look,J7,Jw,Xm,Zc,implies_true,imp_self,true_and,and_true,Xn,Xo,unc,gof,mux,mergeK,condsL,Q5,Qa,Qb,J8,Xa,Ym,Zr,Zs,Nat.reduceAdd,X1,Xx,ofV,Yy,sameK,Xb,Xc,Xd,Qp,Qq,Y5,Qr,Qs,Qt,Yn,Qu,Qv,Qw,Qx,Pg.freeze,Ze,Y6,Y7,Z0,Qy,Yz,Js,↓Je,Jf,Jg,Y2,Jh,Xu,Jr,Qg,Yg,Jm,Qz,Q0,AV.cells,TK.cells,AV.definite,Op.operands,Call.operands,X0,Z7,Zb,Za,Yr,Zh,reduceCtorEq,Nat.reduceEqDiff,Nat.reduceAdd,Zf,Zd,Zi,Zj,Zg,Zz,Zw,Zp,ite_true,ite_false,Option.some.injEq,J0,decide_eq_true_eq,decide_eq_false_iff_not,Int.not_lt,Zu,and_self,J1,exists_eq_left',Z1,Qc,Jt,Xg,Jd,Y0,Yi,Yj,Zl,Zo,J4,Qj,Y1,Q1,Q2,Yk,Yo,Yp,Zn,cutL,Zx,Zk,Yu,Yh,Yf,Zt,Qh,Yw,Ys,Qd,Qe,Ye,↓Jy,muC,↓Ji,Qi,tk28,dz28,kRPlace,aPos,may]
  cases place ls p1 p2 <;> by_cases h : n < 1 <;> simp [h] <;> omega
def kFails : C1 := C1.by [.sl 1 [], .id, .id] (lCons cStrs (lCons cPos2 (lOne (cInt .i64)))) (fun _ => True) (fun d => .bool (!may d.1 d.2.1 d.2.2)) (fun _ => [])
theorem ok_fails : C1OK Try.prog 64 kFails := C1OK.by (by kernel_rfl) (fun d _ => calls_fails d.1 d.2.1 d.2.2) (fun _ => rfl) (fun _ => rfl)

/-- The motion to a line's end. -/
def wEnd (ls : Ls) (p : Int × Int) (l : Int) : Mv × Bool := if less p (l, (ls.getD l.toNat []).length) = true then mTo (l, (ls.getD l.toNat []).length) 0 else mNone
theorem calls_wEnd (ls : Ls) (p : Int × Int) (l : Int) (h0 : 0 ≤ l) (h1 : l < ls.length) : CallsR Try.prog 67 [.sl 1 (ls.map .str), aPos p, .int .i64 l] [] (aMove (wEnd ls p l)) [] := by
  obtain ⟨p1, p2⟩ := p
  refine callsR_of (mrg := true) (dyn := []) (CtrOK.cons ok_Less (CtrOK.nil _)) mixed Try.func67 rfl (by simp [Try.ntmps67]) (by kernel_rfl) ?_
  rw [show Try.f67.results.toList = [.cell 6 38, .tmp 7] from by kernel_rfl]
  cases hl : less (p1, p2) (l, (ls.getD l.toNat []).length) with
  | true =>
    rw [wEnd, if_pos hl]
    simp (maxSteps := 4000000) only [↓Jj,↓Xe,↓Q6,↓Qk,↓Q8,↓Yd,↓Yc,Ya,Y4,Yv,gw,Zm,Z9,↓chk,Y8,noW,↓Q3,↓Y9,↓Ql,J9,↓Z8,↓Yq,Q4,Pg.look,Yx,Zc,implies_true,true_and,and_true,Q5,Qa,Qb,Ym,Zr,Zs,Nat.reduceAdd,ofV,Yy,Xb,Xc,Xd,Qp,Qq,Y5,Qr,Qs,Qt,Yn,Qu,Qv,frzL,Qw,Qx,Pg.freeze,Ze,Y6,Y7,Z0,Qy,subL,Yz,Js,↓Je,Jf,Jg,Jk,Y2,Jh,Jr,Qg,Yg,Jm,Qz,Q0,AV.cells,TK.cells,AV.definite,AV.leaf,AV.leafy,Q9,lay,Jz,Zb,Za,Zh,reduceCtorEq,Nat.reduceEqDiff,Nat.reduceAdd,Zf,Zd,Zi,Zj,Zg,Zz,Zw,Zy,Z3,Zp,ite_true,ite_false,Option.some.injEq,Z2,AV.agg.injEq,Zv,Z4,Zu,and_self,exists_eq_left',Z1,Yt,Qc,Jd,Y0,Yi,Yj,Zl,Zo,Qj,Y1,Q1,Q2,Yk,Yo,Yp,Kk,Zn,cutL,Zx,Zq,Zk,Z5,Yu,Nat.reduceLeDiff,Yh,Yb,Yf,Zt,Qh,Yw,Ys,Qd,Qe,Ye,↓Jy,muC,↓Ji,Qi,Xj,tk9,dz9,tk22,tk28,tz28,dz28,tk38,tz38,dz38,kLess,aPos,aMove,aMv,mTo,hl]
    exact ⟨by omega, by omega⟩
  | false =>
    rw [wEnd, if_neg (by rw [hl]; simp)]
    simp (maxSteps := 4000000) only [↓Jj,↓Q6,↓Qk,↓Q8,↓Yd,↓Qf,Ya,Y4,Yv,gw,Zm,Z9,↓chk,Y8,noW,↓Q3,↓Y9,↓Ql,J9,↓Z8,↓Xi,↓Yq,Q4,Pg.look,Yl,Zc,implies_true,true_and,and_true,Q5,Qa,Qb,Ym,Zr,Zs,Nat.reduceAdd,ofV,Yy,Xb,Xc,Xd,Qp,Qq,Y5,Qr,Qs,Qt,Yn,Qu,Qv,frzL,Qw,Qx,Pg.freeze,Ze,Y6,Y7,Z0,Qy,subL,Yz,Js,↓Je,Jf,Jg,Jk,Y2,Jh,Jr,Qg,Yg,Jm,Qz,Q0,AV.cells,TK.cells,AV.definite,AV.leaf,AV.leafy,Q9,lay,Jz,Zb,Za,Zh,reduceCtorEq,Nat.reduceEqDiff,Nat.reduceAdd,Zf,Zd,Zi,Zj,Zg,Zz,Zw,Zy,Z3,Zp,ite_true,ite_false,Option.some.injEq,Z2,AV.agg.injEq,Zv,Z4,Zu,and_self,exists_eq_left',Z1,Yt,Qc,Jd,Y0,Yi,Yj,Zl,Zo,Qj,Y1,Q1,Q2,Yk,Yo,Yp,Kk,Zn,cutL,Zx,Zq,Zk,Z5,Yu,Nat.reduceLeDiff,Yh,Yb,Yf,Zt,Qh,Yw,Ys,Qd,Qe,Ye,↓Jy,muC,↓Ji,Qi,Xj,tk9,dz9,tk22,tk28,tz28,dz28,tk38,tz38,dz38,kLess,aPos,aMove,aMv,mNone,hl]
    exact ⟨by omega, by omega⟩
def kWEnd : C1 := C1.by [.sl 1 [], .id, .id] (lCons cStrs (lCons cPos2 (lOne (cInt .i64)))) (fun d => 0 ≤ d.2.2 ∧ d.2.2 < d.1.length) (fun d => aMove (wEnd d.1 d.2.1 d.2.2)) (fun _ => [])
theorem ok_wEnd : C1OK Try.prog 67 kWEnd := C1OK.by (by kernel_rfl) (fun d h => calls_wEnd d.1 d.2.1 d.2.2 h.1 h.2) (fun _ => rfl) (fun _ => rfl)
end Go.Pg
namespace Go.Pg
open Go Go.Proofs

theorem skip_eq (p q : Int × Int) (here : Bool) : (less q p || (q.1 == p.1 && q.2 == p.2) && !here) = !isBehind p here q := by
  obtain ⟨a, b⟩ := p
  obtain ⟨c, d⟩ := q
  unfold isBehind less
  rw [Bool.eq_iff_iff]
  cases here <;> simp <;> omega

theorem behind_succ (M : List (Int × Int)) (p : Int × Int) (here : Bool) (k : Nat) (hk : k < M.length) : behind (M.take (k + 1)) p here = if isBehind p here (M.getD k (0, 0)) = true then behind (M.take k) p here ++ [M.getD k (0, 0)] else behind (M.take k) p here :=
  filter_take _ M k (0, 0) hk

theorem behind_at (M : List (Int × Int)) (p : Int × Int) (here : Bool) (k : Nat) (hk : k < M.length) (h : isBehind p here (M.getD k (0, 0)) = true) : (behind M p here)[(behind (M.take k) p here).length]? = some (M.getD k (0, 0)) := by
  have h1 := behind_succ M p here k hk
  rw [if_pos h] at h1
  have h2 : behind M p here = behind (M.take (k + 1)) p here ++ behind (M.drop (k + 1)) p here := by
    unfold behind
    rw [← List.filter_append, List.take_append_drop]
  rw [h2, h1, List.append_assoc, List.getElem?_append_right (Nat.le_refl _), Nat.sub_self]
  rfl

theorem nth_at (l : List (Int × Int)) (k : Nat) (n way : Int) (q : Int × Int) (h : l[k]? = some q) (hn : n = k + 1) : nth l n way = mTo q way := by
  have hk := (List.getElem?_eq_some_iff.1 h).1
  unfold nth
  rw [if_neg (by omega), show (n - 1).toNat = k by omega, List.getD_eq_getElem?_getD, h]
  rfl

def rTail (ls : Ls) (p : Int × Int) (n : Int) (big here : Bool) : Mv × Bool := if may ls p n = true then nth (behind (marksOf false false big ls) p here) n 1 else mNone

set_option maxRecDepth 20000 in
set_option maxHeartbeats 4000000 in
theorem calls_Tail (ls : Ls) (p : Int × Int) (n : Int) (big here : Bool) (hf : fits 65536 65536 ls) (hn9 : n ≤ 9223372036854775807) : CallsR Try.prog 60 [.sl 1 (ls.map .str), aPos p, .int .i64 n, .bool big, .bool here] [] (aMove (rTail ls p n big here)) [] := by
  obtain ⟨p1, p2⟩ := p
  refine callsR_of (mrg := true) (dyn := []) (CtrOK.cons ok_fails (CtrOK.cons ok_EndsF (CtrOK.cons ok_at (CtrOK.cons ok_Less (CtrOK.nil _))))) mixed Try.func60 rfl (by simp [Try.ntmps60]) (by kernel_rfl) ?_
  rw [show Try.f60.results.toList = [.cell 10 38, .cell 11 4] from by kernel_rfl]
  cases hm : may ls (p1, p2) n with
  | false =>
    rw [rTail, if_neg (by rw [hm]; simp)]
    simp (maxSteps := 4000000) only [↓Jj,↓Q6,↓Qk,↓Q8,↓Yd,↓Qf,Ya,Y4,Yv,gw,Zm,Z9,↓chk,Y8,noW,↓Q3,↓Y9,↓Ql,J9,↓Z8,↓Xi,↓Yq,Q4,Pg.look,Yl,Zc,false_implies,implies_true,true_and,and_true,Q5,Qa,Qb,Ym,Zr,Zs,Nat.reduceAdd,ofV,Yy,Xb,Xc,Xd,Qp,Qq,Y5,Qr,Qs,Qt,Yn,Qu,Qv,frzL,Qw,Qx,Pg.freeze,Ze,Y6,Y7,Z0,Qy,subL,Yz,Js,↓Je,Jf,Jg,Jk,Y2,Jh,Xu,Jr,Qg,Yg,Jm,Qz,Q0,AV.cells,TK.cells,AV.definite,AV.leaf,AV.leafy,Q9,lay,Jz,Zb,Za,Zh,reduceCtorEq,Nat.reduceEqDiff,Nat.reduceAdd,Zf,Zd,Zi,Zj,Zg,Zz,Zw,Zy,Z3,Zp,ite_true,ite_false,Option.some.injEq,Z2,AV.agg.injEq,Prod.mk.injEq,Zv,Z4,Zu,and_self,exists_eq_left',Z1,Qc,Xg,Jd,Y0,Yi,Yj,Zl,Zo,J4,Qj,Y1,Q1,Q2,Yk,Yo,Yp,Zn,cutL,Zx,Zq,Zk,Z5,Yu,Yh,Yb,Yf,Zt,Qh,Yw,Ys,Qd,Qe,Ye,↓Jy,muC,↓Ji,Qi,Xj,tk3,dz3,tk4,tz4,dz4,tk28,dz28,tk38,tz38,dz38,kFails,aPos,aMove,aMv,mNone,hm]
  | true =>
    rw [rTail, if_pos hm]
    simp (maxSteps := 4000000) only [↓Jj,↓Xe,↓Qk,↓Q8,↓Xq,↓Yd,↓Yc,Ya,Y4,Yv,gw,Zm,Z9,↓chk,Y8,noW,↓Q3,↓Y9,↓Ql,J9,↓Z8,↓Yq,Q4,Pg.look,Yx,Zc,Y3,false_implies,implies_true,true_and,and_true,Q5,Qa,Qb,Nat.reduceAdd,Pg.freeze,Ze,Yz,Js,↓Je,Jf,Jg,Jk,Y2,Jh,Xu,Jr,Qg,Yg,Jm,Qz,Q0,AV.cells,TK.cells,AV.definite,Zb,Za,Zh,reduceCtorEq,Nat.reduceEqDiff,Nat.reduceAdd,Zf,Zd,Zi,Zj,Zg,Zz,Zw,Zp,ite_true,ite_false,Option.some.injEq,Prod.mk.injEq,and_self,exists_eq_left',Qc,Q7,Xg,Jd,Xf,Y0,Yi,Yj,Zl,Zo,J4,Qj,Y1,Q1,Q2,Yk,Yo,Yp,Zn,cutL,Zx,Zk,Yu,Yh,Yf,Zt,↓wpH_range,rangH_fn,rangR_some,iterC,Qh,Xr,Xk,C1itBy_xs,optL_some,Yw,Ys,Qd,Qe,Ye,↓Jy,muC,↓Ji,Qi,Xs,tk3,dz3,tz4,tk28,dz28,tz38,kFails,kEndsF,aAt,kAt,kLess,aPos,hm,cAskFn_decE]
    refine ⟨hf, ?_⟩
    generalize hM : marksOf false false big ls = M
    rw [mark_eq]
    refine rangG_intro M (fun p => [aPos p]) (0, 0) [(6, .ptr 0 2 1 0 0), (7, .ptr 1 1 1 0 0), (9, .ptr 2 1 1 0 0), (10, .ptr 3 5 1 0 0), (11, .ptr 4 1 1 0 0)]
      [.arr 28 2 [.agg [.int .i64 p1, .int .i64 p2]], .arr 3 1 [.int .i64 n], .arr 4 1 [.bool here], .arr 38 5 [.agg [.int .i64 0, .int .i64 0, .int .i64 0, .bool false, .int .i64 0]], .arr 4 1 [.bool false]]
      (fun k => ([(6, .ptr 0 2 1 0 0), (7, .ptr 1 1 1 0 0), (9, .ptr 2 1 1 0 0), (10, .ptr 3 5 1 0 0), (11, .ptr 4 1 1 0 0)], [.arr 28 2 [.agg [.int .i64 p1, .int .i64 p2]], .arr 3 1 [.int .i64 (n - (behind (M.take k) (p1, p2) here).length)], .arr 4 1 [.bool here], .arr 38 5 [.agg [.int .i64 0, .int .i64 0, .int .i64 0, .bool false, .int .i64 0]], .arr 4 1 [.bool false]]))
      (fun k => ((behind (M.take k) (p1, p2) here).length : Int) < n) rfl ?_ ?_ ?_ (fun _ => rfl) ?_ ?_
    · simp (maxSteps := 4000000) only [Pg.look,true_and,and_true,Ym,X3,nxtQ,hdS,X4,frzA,Zr,J3,Zs,Nat.reduceAdd,Qp,Qq,Y5,X5,Qr,Qs,Qt,Yn,X6,X7,X8,X9,Qu,Qv,Qw,Qx,Pg.freeze,Ze,Y6,subO,Y7,Z0,Qy,AV.cells,AV.pureLeaf,AV.pureB,Zb,Za,reduceCtorEq,Nat.reduceEqDiff,Nat.reduceAdd,Zf,Zd,Zi,Zp,ite_true,ite_false,Zv,Z4,Zu,and_self,Xl,Nat.not_lt_zero]
      exact ⟨by decide, subX_eq rfl rfl, subX_eq rfl rfl, subX_eq rfl rfl, subX_eq rfl rfl, subX_eq rfl rfl⟩
    · simp (maxSteps := 4000000) only [Pg.look,true_and,and_true,Ym,X3,nxtQ,hdS,X4,frzA,Zr,J3,Zs,Xv,Nat.reduceAdd,Qp,Qq,Y5,X5,Qr,Qs,Qt,Yn,X6,X7,X8,X9,Qu,Qv,Qw,Qx,Pg.freeze,Ze,Y6,subO,Y7,Z0,Qy,AV.cells,AV.pureLeaf,AV.pureB,Zb,Za,reduceCtorEq,Nat.reduceEqDiff,Nat.reduceAdd,Nat.reduceLT,Zf,Zd,Zi,Zj,Zg,Zp,ite_true,ite_false,Zv,Z4,Zu,and_self,Z5,Zt]
      exact ⟨by decide, subX_eq rfl rfl, subX_eq (by simp [behind]) rfl, subX_eq rfl rfl, subX_eq rfl rfl, subX_eq rfl rfl⟩
    · have := hm
      simp only [may,Qm,decide_eq_true_eq] at this
      show ((behind [] (p1, p2) here).length : Int) < n
      simp only [behind,List.filter_nil,Zg]
      omega
    · intro k hk hpk
      have hpk : ((behind (M.take k) (p1, p2) here).length : Int) < n := hpk
      have hs := skip_eq (p1, p2) (M.getD k (0, 0)) here
      have hsu := behind_succ M (p1, p2) here k hk
      have hw : IntKind.i64.wrap (n - (behind (M.take k) (p1, p2) here).length - 1) = n - (behind (M.take k) (p1, p2) here).length - 1 := wrap64 (by omega) (by omega)
      have hg : less ((M.getD k (0, 0)).1, (M.getD k (0, 0)).2) (p1, p2) = false → less ((M.getD k (0, 0)).1, (M.getD k (0, 0)).2) (p1, p2) = false ∧ (((M.getD k (0, 0)).1 == p1 && (M.getD k (0, 0)).2 == p2) = true → (!less ((M.getD k (0, 0)).1, (M.getD k (0, 0)).2) (p1, p2) && ((M.getD k (0, 0)).1 == p1 && (M.getD k (0, 0)).2 == p2)) = true) :=
        fun h => ⟨h, fun h2 => by rw [h, h2]; rfl⟩
      cases hb : isBehind (p1, p2) here (M.getD k (0, 0)) with
      | true =>
        rw [hb] at hs
        have hat := behind_at M (p1, p2) here k hk hb
        rw [if_pos hb] at hsu
        by_cases hn : n - (behind (M.take k) (p1, p2) here).length - 1 = 0
        · have hct : (n - ((behind (M.take k) (p1, p2) here).length : Int) - 1 == 0) = true := by rw [hn]; rfl
          rw [nth_at _ _ n 1 _ hat (by omega)]
          simp (maxSteps := 4000000) only [↓Jj,↓Xe,↓Q6,↓Qk,↓Q8,↓Xq,↓Yd,↓Qf,↓Yc,Ya,Y4,Yv,gw,Zm,Jo,kselH_0,Kj,Z9,gkind,↓chk,pickO,Y8,noW,↓Q3,↓Y9,↓Ql,↓Z8,↓Xi,↓blockA_ret,↓Yq,Q4,Pg.look,J7,Jw,cellsEq,leafEq,Xm,Jl,Yx,Zc,Y3,false_implies,implies_true,imp_self,true_and,and_true,Xn,Xo,unc,gof,mux,mergeK,condsL,Q5,Qa,Qb,J8,Xa,Ym,Zr,Zs,Nat.reduceAdd,X1,Xx,ofV,Yy,sameK,Xb,Xc,Xd,Qp,Qq,Y5,Qr,Qs,Qt,Yn,Qu,Qv,frzL,Qw,Qx,Pg.freeze,Ze,Y6,Y7,Z0,Qy,subL,Yz,Js,↓Je,Jf,Jg,Jk,Y2,Jh,Xu,Jr,Qg,Yg,Jm,Qz,Q0,AV.cells,TK.cells,AV.definite,AV.leaf,AV.leafy,Q9,lay,Jz,Op.operands,Z7,Zb,Za,Yr,Zh,Nat.reduceEqDiff,Nat.reduceAdd,Zf,Zd,Zi,Zj,Zg,Zz,Zw,Zy,Z3,Zp,ite_true,ite_false,Option.some.injEq,Z2,AV.agg.injEq,Prod.mk.injEq,J5,J0,J6,Zv,Z4,Zu,and_self,J1,exists_eq_left',Z1,Qc,Jt,Jd,Y0,Yi,Yj,Zl,Zo,Qj,Y1,Q1,Q2,Yk,Yo,Yp,Zn,cutL,Zx,Zq,Zk,Z5,Yu,Nat.reduceLeDiff,Yh,Yb,Yf,Zt,Qh,Xr,Xk,Ka,Kd,rqH_ret,Yw,Ys,Qd,Qe,Ye,↓Jy,muC,↓Ji,Qi,Xs,Xj,tk3,dz3,tk4,dz4,tk28,tz28,dz28,eq28,tk38,tz38,dz38,aPos,aMove,aMv,mTo,hs,hw,hct]
          exact hg
        · have hct : (n - ((behind (M.take k) (p1, p2) here).length : Int) - 1 == 0) = false := by rw [beq_eq_false_iff_ne]; exact hn
          simp (maxSteps := 4000000) only [↓Jj,↓Xe,↓Qk,↓Q8,↓Xq,↓Yd,↓Yc,Ya,Y4,Yv,gw,Zm,Jo,kselH_0,Kj,Z9,gkind,↓chk,pickO,Y8,noW,↓Q3,↓Y9,↓Ql,↓Z8,↓Xy,↓Yq,Q4,Pg.look,J7,Jw,cellsEq,leafEq,Xm,Jl,Yx,Zc,Y3,false_implies,implies_true,imp_self,true_and,and_true,Xn,Xo,unc,gof,mux,mergeK,condsL,Q5,Qa,Qb,J8,Xa,Ym,X3,nxtQ,hdS,X4,frzA,Zr,J3,Zs,Xv,Nat.reduceAdd,X1,Xx,ofV,Yy,sameK,Qp,Qq,Y5,X5,Qr,Qs,Qt,Yn,X6,X7,X8,X9,Qu,Qv,Qw,Qx,Pg.freeze,Ze,Y6,subO,Y7,Z0,Qy,Yz,Js,↓Je,Jf,Jg,Jk,Y2,Jh,Xu,Jr,Qg,Yg,Jm,Qz,Q0,AV.cells,TK.cells,AV.definite,AV.leaf,AV.leafy,AV.pureLeaf,AV.pureB,Q9,lay,Op.operands,Z7,Zb,Za,Yr,Zh,reduceCtorEq,Nat.reduceEqDiff,Nat.reduceAdd,Nat.reduceLT,Zf,Zd,Zi,Zj,Zg,Zz,Zw,Zy,Z3,Zp,ite_true,ite_false,Option.some.injEq,Prod.mk.injEq,J5,J0,J6,Zv,Z4,Zu,and_self,J1,exists_eq_left',Qc,Jt,Jd,Y0,Yi,Yj,Zl,Zo,Qj,Y1,Q1,Q2,Yk,Yo,Yp,Zn,cutL,Zx,Zq,Zk,Z5,Yu,Yh,Yb,Yf,Zt,Qh,Xr,Xk,Ka,Kd,Kb,Yw,Ys,Qd,Qe,Ye,↓Jy,muC,↓Ji,Qi,Xs,tk3,dz3,tk4,dz4,tk28,tz28,dz28,eq28,aPos,hs,hw,hct]
          exact ⟨hg, by rw [hsu, List.length_append, List.length_singleton]; omega, by decide, subX_eq rfl rfl, subX_eq (by rw [hsu, List.length_append, List.length_singleton]; congr 2; omega) rfl, subX_eq rfl rfl, subX_eq rfl rfl, subX_eq rfl rfl⟩
      | false =>
        rw [hb] at hs
        rw [if_neg (by rw [hb]; simp)] at hsu
        simp (maxSteps := 4000000) only [↓Jj,↓Q6,↓wpH_exit,↓Qk,↓Q8,↓Xq,↓Yd,↓Qf,Ya,Y4,Yv,gw,Zm,Jo,kselH_0,Kj,Z9,gkind,↓chk,pickO,Y8,noW,↓Q3,↓Y9,↓Ql,↓Z8,↓thenA_exit,↓blockA_exit,↓Yq,Q4,Pg.look,J7,cellsEq,leafEq,Xm,Jl,Yl,Zc,Y3,false_implies,implies_true,imp_self,true_and,and_true,Xn,Xo,unc,gof,mux,mergeK,condsL,Q5,Qa,Qb,J8,Ym,X3,nxtQ,hdS,X4,frzA,Zr,J3,Zs,Xv,Nat.reduceAdd,X1,Xx,ofV,Yy,sameK,Xb,Xc,Xd,Qp,Qq,Y5,X5,Qr,Qs,Qt,Yn,X6,X7,X8,X9,Qu,Qv,frzL,Qw,Qx,Pg.freeze,Ze,Y6,subO,Y7,Z0,Qy,subL,Yz,Js,↓Je,Jf,Jg,Jk,Y2,Jh,Xu,Jr,Qg,Yg,Jm,Qz,Q0,AV.cells,TK.cells,AV.definite,AV.leaf,AV.leafy,AV.pureLeaf,AV.pureB,Q9,lay,Jz,Op.operands,Z7,Zb,Za,Yr,Zh,reduceCtorEq,Nat.reduceEqDiff,Nat.reduceAdd,Nat.reduceLT,Zf,Zd,Zi,Zj,Zg,Zz,Zw,Zy,Z3,Zp,ite_true,ite_false,Option.some.injEq,Z2,AV.agg.injEq,Prod.mk.injEq,J5,J0,J6,Zv,Z4,Zu,and_self,J1,exists_eq_left',Z1,Qc,Jt,Jd,Y0,Yi,Yj,Zl,Zo,Qj,Y1,Q1,Q2,Yk,Yo,Yp,Zn,cutL,Zx,Zq,Zk,Z5,Yu,Yh,Yb,Yf,Zt,Qh,Xr,Xk,Ka,Kd,Kb,rqH_exit,Yw,Ys,Qd,Qe,Ye,↓Jy,muC,↓Ji,Qi,Xs,Xj,tk4,dz4,tk28,tz28,dz28,eq28,tk38,tz38,dz38,kFails,kEndsF,aAt,kAt,kLess,aPos,aMove,aMv,hs]
        exact ⟨hg, by rw [hsu]; exact hpk, by decide, subX_eq rfl rfl, subX_eq (by rw [hsu]) rfl, subX_eq rfl rfl, subX_eq rfl rfl, subX_eq rfl rfl⟩
    · intro hpk
      have hpk : ((behind (M.take M.length) (p1, p2) here).length : Int) < n := hpk
      rw [List.take_of_length_le (Nat.le_refl M.length)] at hpk ⊢
      have hno : nth (behind M (p1, p2) here) n 1 = mNone := by rw [nth, if_pos (by omega)]
      rw [hno]
      simp (maxSteps := 4000000) only [↓Jj,↓Q6,↓Qk,↓Yd,Ya,Y4,Yv,gw,Zm,↓chk,Y8,↓Q3,↓Y9,↓Ql,↓Z8,↓Xy,↓Yq,Q4,Pg.look,Zc,implies_true,true_and,and_true,Q5,Qa,Qb,Ym,Zr,Zs,Nat.reduceAdd,ofV,Yy,Xb,Xc,Xd,Qp,Qq,Y5,Qr,Qs,Qt,Yn,Qu,Qv,frzL,Qw,Qx,Pg.freeze,Ze,Y6,Y7,Z0,Qy,subL,Yz,Js,Yg,Jm,AV.cells,TK.cells,AV.leaf,AV.leafy,Q9,lay,Jz,Zb,Za,Zh,Nat.reduceEqDiff,Nat.reduceAdd,Zf,Zd,Zj,Zg,Zw,Zy,Z3,Zp,ite_true,ite_false,Option.some.injEq,Z2,AV.agg.injEq,Zv,Z4,Zu,and_self,exists_eq_left',Z1,Zl,Zn,cutL,Zx,Zq,Zk,Z5,Yu,Yh,Yb,Yf,Zt,Yw,Ys,Qd,Qe,Ye,Xj,tk4,dz4,tk38,tz38,dz38,kFails,kEndsF,aAt,kAt,kLess,aPos,aMove,aMv,mNone]
end Go.Pg
namespace Go.Pg
open Go Go.Proofs

def tw (M : List (Int × Int)) (p : Int × Int) : List (Int × Int) := M.takeWhile fun q => less q p
def wBack (M : List (Int × Int)) (p : Int × Int) (n : Int) : (Int × Int) × Bool := if n > (tw M p).length then ((0, 0), false) else ((tw M p).getD ((tw M p).length - n.toNat) (0, 0), true)

theorem tw_stop (p : Int × Int) : ∀ (M : List (Int × Int)) (k : Nat), k < M.length → (M.take k).all (fun q => less q p) = true → less (M.getD k (0, 0)) p = false → tw M p = M.take k := by
  intro M
  induction M with
  | nil => intro k h; simp at h
  | cons q M ih =>
    intro k hk ha hs
    cases k with
    | zero =>
      have hs : less q p = false := hs
      simp [tw, hs]
    | succ k =>
      simp only [Zk,Zv,Qm] at ha
      have := ih k (by simpa using hk) ha.2 hs
      unfold tw at this ⊢
      rw [List.takeWhile_cons, if_pos ha.1, this, List.take_succ_cons]
theorem tw_all (p : Int × Int) (M : List (Int × Int)) (h : M.all (fun q => less q p) = true) : tw M p = M := by
  unfold tw
  induction M with
  | nil => rfl
  | cons q M ih =>
    simp only [Zv,Qm] at h
    rw [List.takeWhile_cons, if_pos h.1, ih h.2]

def aBack (r : (Int × Int) × Bool) : AV := .tuple [aPos r.1, .bool r.2]

set_option maxRecDepth 20000 in
set_option maxHeartbeats 4000000 in
theorem calls_back (ls : Ls) (e st big : Bool) (p : Int × Int) (n : Int) (h1 : 1 ≤ n) (hf : fits 65536 65536 ls) : CallsR Try.prog 68 [aAt ls e st big, aPos p, .int .i64 n] [] (aBack (wBack (marksOf st e big ls) p n)) [] := by
  obtain ⟨p1, p2⟩ := p
  refine callsR_of (mrg := true) (dyn := []) (CtrOK.cons ok_at (CtrOK.cons ok_Less (CtrOK.nil _))) mixed Try.func68 rfl (by simp [Try.ntmps68]) (by kernel_rfl) ?_
  rw [show Try.f68.results.toList = [.cell 6 28, .tmp 7] from by kernel_rfl]
  have hml : (marksOf st e big ls).length ≤ 4295032832 := by
    have h1 := marksTo_len e (gOf st big) ls 65536 (fits_getD hf) ls.length
    have h2 : ls.length * (65536 + 1) ≤ 65536 * 65537 := Nat.mul_le_mul hf.1 (by omega)
    show (marksTo e (gOf st big) ls ls.length).length ≤ _
    omega
  generalize hM : marksOf st e big ls = M at hml ⊢
  have hend : ∀ k, tw M (p1, p2) = M.take k → k ≤ M.length → (n > (k : Int) → wBack M (p1, p2) n = ((0, 0), false)) ∧ (n ≤ (k : Int) → wBack M (p1, p2) n = ((M.take k).getD (k - n.toNat) (0, 0), true)) := by
    intro k hk hkl
    have hl : (tw M (p1, p2)).length = k := by rw [hk, List.length_take]; omega
    unfold wBack
    rw [hl]
    exact ⟨fun h => if_pos h, fun h => by rw [if_neg (by omega), hk]⟩
  cases st
  all_goals
    unfold aAt
    simp (maxSteps := 4000000) only [↓Jj,↓Qk,↓Xq,↓Yd,Ya,Y4,Yv,gw,Zm,↓chk,Y8,noW,↓Q3,↓Y9,↓Ql,J9,↓Z8,↓Yq,Q4,Pg.look,Zc,implies_true,true_and,Q5,Qa,Qb,Nat.reduceAdd,ofV,Yy,Pg.freeze,Ze,Jr,Qg,Yg,Jm,AV.cells,AV.definite,reduceCtorEq,Nat.reduceEqDiff,Nat.reduceAdd,Zf,Zd,Zi,Zj,Zg,Zp,ite_true,ite_false,and_self,Q7,Xg,Xf,Y0,Yi,Yj,Zl,J4,Y1,Yk,↓wpH_range,rangH_fn,rangR_some,iterC,Qh,Xr,Xk,C1itBy_xs,optL_some,Yw,Ys,Qd,Qe,Ye,Qi,Xs,tz28,tz61,aPos,kAt,kLess,cAskFn_decS,cAskFn_decE]
    refine ⟨hf, ?_⟩
    rw [mark_eq, hM]
    refine rangG_intro M (fun p => [aPos p]) (0, 0) [(2, .int .i64 n), (4, .ptr 0 2 1 0 0), (6, .ptr 1 2 1 0 0), (8, .ptr 2 1 1 0 0)] [.arr 28 2 [.agg [.int .i64 p1, .int .i64 p2]], .arr 28 2 [.agg [.int .i64 0, .int .i64 0]], .arr 61 1 [.nls]]
      (fun k => ([(2, .int .i64 n), (4, .ptr 0 2 1 0 0), (6, .ptr 1 2 1 0 0), (8, .ptr 2 1 1 0 0)], [.arr 28 2 [.agg [.int .i64 p1, .int .i64 p2]], .arr 28 2 [.agg [.int .i64 0, .int .i64 0]], .arr 61 1 [.own 3 2 k], .arr 28 2 ((M.take k).map aPos)])) (fun k => (M.take k).all (fun q => less q (p1, p2)) = true) rfl ?_ ?_ (by simp) (fun _ => rfl) ?_ ?_
    · simp (maxSteps := 4000000) only [Pg.look,true_and,and_true,Ym,X3,nxtQ,hdS,X4,frzA,Zr,J3,Zs,Nat.reduceAdd,Qp,Qq,Y5,X5,Qr,Qs,Qt,Yn,X6,X7,X8,X9,Qu,Qv,Qw,Qx,Pg.freeze,Ze,Y6,subO,Y7,Z0,Qy,AV.cells,AV.pureLeaf,AV.pureB,Zb,Za,reduceCtorEq,Nat.reduceEqDiff,Nat.reduceAdd,Zf,Zd,Zi,Zp,ite_true,ite_false,Zv,Z4,Zu,and_self,Xl,Nat.not_lt_zero]
      exact ⟨by decide, subX_eq rfl rfl, subX_eq rfl rfl, subX_eq rfl rfl⟩
    · simp (maxSteps := 4000000) only [Pg.look,true_and,and_true,Ym,X3,nxtQ,hdS,X4,frzA,Zr,J3,Zs,Xv,Nat.reduceAdd,Qp,Qq,Y5,X5,Qr,Qs,Qt,Yn,X6,X7,X8,X9,Qu,Qv,Qw,Qx,Pg.freeze,Ze,Y6,subO,Y7,Z0,Qy,AV.cells,AV.pureLeaf,AV.pureB,Zb,Za,reduceCtorEq,Nat.reduceEqDiff,Nat.reduceAdd,Nat.reduceLT,Zf,Zd,Zi,Zj,Zg,Zw,Zp,ite_true,ite_false,Zv,Z4,Zu,and_self,Z5,Xl,Zt]
      exact ⟨by decide, subX_eq rfl rfl, subX_eq rfl rfl, subX_nls rfl⟩
    · intro k hk hpk
      have hpk : (M.take k).all (fun q => less q (p1, p2)) = true := hpk
      have hrl : (M.take k).length = k := by rw [List.length_take]; omega
      have hap := app1_pos (M.take k) (M.getD k (0, 0))
      rw [← take_succ_getD M k (0, 0) hk] at hap
      have hrl2 : (M.take (k + 1)).length = k + 1 := by rw [List.length_take]; omega
      cases hb : less (M.getD k (0, 0)) (p1, p2) with
      | true =>
        have hall : (M.take (k + 1)).all (fun q => less q (p1, p2)) = true := by
          rw [take_succ_getD M k (0, 0) hk, List.all_append, hpk]
          simp only [Zv,Z4,hb]; rfl
        simp (maxSteps := 4000000) only [↓Jj,↓Xe,↓Qk,↓Q8,↓Xq,↓Yd,↓Yc,Ya,Y4,Yv,gw,Zm,Z9,↓chk,Y8,noW,↓Q3,↓Y9,↓Ql,↓Z8,↓Xy,↓Yq,Q4,Pg.look,Jl,Yx,Zc,Y3,false_implies,implies_true,true_and,and_true,Q5,Qa,Qb,Ym,X3,nxtQ,hdS,X4,frzA,Zr,J3,Zs,Xv,Nat.reduceAdd,ofV,Yy,Qp,Qq,Y5,X5,Qr,Qs,Qt,Yn,X6,X7,X8,X9,Qu,Qv,Qw,Qx,Pg.freeze,Ze,Y6,subO,Y7,Z0,Qy,srcV,srcE,appK,Yz,Js,↓Je,Jf,Jg,Jk,Y2,Jh,Jr,Qg,Yg,Jm,Qz,Q0,AV.cells,TK.cells,AV.definite,AV.leaf,AV.leafy,AV.pureLeaf,AV.pureB,Q9,lay,Zb,Za,Zh,reduceCtorEq,Nat.reduceEqDiff,Nat.reduceAdd,Nat.reduceLT,Zf,Zd,Zi,Zj,Zg,Zz,Zw,Zy,Z3,Zp,ite_true,ite_false,Option.some.injEq,Z2,Prod.mk.injEq,Zv,Z4,Zu,and_self,exists_eq_left',Yt,Qc,rg1,Jd,Y0,Yi,Yj,Zl,beq_self_eq_true,Zo,Nat.reducePow,Qj,Y1,Q1,Q2,Yk,Yo,Yp,Zn,cutL,Zx,Zq,Zk,Z5,Yu,Nat.reduceLeDiff,Yh,Xl,Nat.one_mul,Yb,Yf,Zt,Qh,Xr,Xk,Ka,Kd,Kb,Yw,Ys,Qd,Qe,Ye,↓Jy,muC,↓Ji,Qi,Xs,tk28,tz28,dz28,eb28,tk61,dz61,hrl,hap,hb,pureB_posL,aPos_def]
        exact ⟨⟨by decide, by omega⟩, hall, by decide, subX_eq rfl rfl, subX_eq rfl rfl, subX_own rfl rfl, subX_eq rfl (pureB_posL _)⟩
      | false =>
        have hfin := hend k (tw_stop _ M k hk hpk hb) (by omega)
        by_cases hn : n > (k : Int)
        · have hct : decide (n > (k : Int)) = true := decide_eq_true hn
          rw [hfin.1 hn]
          simp (maxSteps := 4000000) only [↓Jj,↓Q6,↓wpH_exit,↓Qk,↓Q8,↓Xq,↓Yd,↓Qf,Ya,Y4,Yv,gw,Zm,Z9,↓chk,Y8,noW,↓Q3,↓Y9,↓Ql,↓Z8,↓Xi,↓thenA_exit,↓blockA_exit,↓Yq,Q4,Pg.look,J7,Jw,Jl,Yl,Zc,Y3,false_implies,implies_true,true_and,and_true,Q5,Qa,Qb,J8,Xa,Ym,X3,nxtQ,hdS,X4,frzA,Zr,J3,Zs,Xv,Nat.reduceAdd,ofV,Yy,Xb,Xc,Xd,Qp,Qq,Y5,X5,Qr,Qs,Qt,Yn,X6,X7,X8,X9,Qu,Qv,frzL,Qw,Qx,Pg.freeze,Ze,Y6,subO,Y7,Z0,Qy,subL,slen,Yz,Js,↓Je,Jf,Jg,Jk,Y2,Jh,Jr,Qg,Yg,Jm,Qz,Q0,AV.cells,TK.cells,AV.definite,AV.leaf,AV.leafy,AV.pureLeaf,AV.pureB,Q9,lay,Jz,Zb,Za,Zh,reduceCtorEq,Nat.reduceEqDiff,Nat.reduceAdd,Nat.reduceLT,Zf,Zd,Zi,Zj,Zg,Zz,Zw,Zy,Z3,Zp,ite_true,ite_false,Option.some.injEq,Z2,AV.int.injEq,AV.agg.injEq,Prod.mk.injEq,Zv,Z4,Zu,and_self,exists_eq_left',Z1,Qc,Jd,Y0,Yi,Yj,Zl,Zo,Qj,Y1,Q1,Q2,Yk,Yo,Yp,Zn,cutL,Zx,Zq,Zk,Z5,Yu,Yh,Xl,Yb,Yf,Zt,Qh,Xr,Xk,Ka,Kd,Kb,rqH_exit,Yw,Ys,Qd,Qe,Ye,↓Jy,muC,↓Ji,Qi,Xs,Xj,tk28,tz28,dz28,tk61,dz61,aBack,kAt,kLess,hb,hct,pureB_posL,aPos_def]
        · have hct : decide (n > (k : Int)) = false := decide_eq_false hn
          have hw : IntKind.i64.wrap ((k : Int) - n) = ((k - n.toNat : Nat) : Int) := by rw [wrap64 (by omega) (by omega)]; omega
          rw [hfin.2 (by omega)]
          simp (maxSteps := 4000000) only [↓Jj,↓Xe,↓Q6,↓wpH_exit,↓Qk,↓Q8,↓Xq,↓Yd,↓Qf,↓Yc,Ya,Y4,Yv,gw,Zm,Z9,↓chk,Y8,noW,↓Q3,↓Y9,↓Ql,↓Z8,↓thenA_exit,↓blockA_exit,↓Yq,Q4,Pg.look,J7,Jw,Jl,Yl,Zc,Y3,false_implies,implies_true,true_and,and_true,Q5,Qa,Qb,J8,Xa,Ym,X3,nxtQ,hdS,X4,frzA,Zr,J3,Zs,Xv,Nat.reduceAdd,ofV,Yy,Xb,Xc,Xd,Qp,Qq,Y5,X5,Qr,Qs,Qt,Yn,X6,X7,X8,X9,Qu,Qv,frzL,Qw,Qx,Pg.freeze,Ze,Y6,subO,Y7,Z0,Qy,subL,slen,Yz,Js,↓Je,Jf,Jg,Jk,Y2,Jh,Jr,Qg,Yg,Jm,Qz,Q0,AV.cells,TK.cells,AV.definite,AV.leaf,AV.leafy,AV.pureLeaf,AV.pureB,Q9,lay,Zb,Za,Zh,reduceCtorEq,Nat.reduceEqDiff,Nat.reduceAdd,Nat.reduceLT,Zf,Zd,Zi,Zj,Zg,Zz,Zw,Zy,Z3,Zp,ite_true,ite_false,Option.some.injEq,AV.int.injEq,Prod.mk.injEq,Zv,Z4,Zu,and_self,exists_eq_left',Z1,Yt,Qc,Jd,Y0,Yi,Yj,Zl,Zo,Qj,Y1,Q1,Q2,Yk,Yo,Yp,Z6,Zn,cutL,Zx,Zq,Zk,Z5,Yu,Yh,Xl,Yb,Yf,Zt,Qh,Xr,Xk,Ka,Kd,Kb,rqH_exit,Yw,Ys,Qd,Qe,Ye,↓Jy,muC,↓Ji,Qi,Xs,Xj,tk28,tz28,dz28,tk61,dz61,aBack,kAt,kLess,hrl,hb,hct,hw,getD_pos,pureB_posL,aPos_def]
          exact ⟨⟨by omega, by omega⟩, by omega⟩
    · intro hpk
      have hpk : (M.take M.length).all (fun q => less q (p1, p2)) = true := hpk
      rw [List.take_of_length_le (Nat.le_refl M.length)] at hpk ⊢
      have hfin := hend M.length (by rw [List.take_of_length_le (Nat.le_refl M.length)]; exact tw_all _ M hpk) (Nat.le_refl _)
      rw [List.take_of_length_le (Nat.le_refl M.length)] at hfin
      by_cases hn : n > (M.length : Int)
      · have hct : decide (n > (M.length : Int)) = true := decide_eq_true hn
        rw [hfin.1 hn]
        simp (maxSteps := 4000000) only [↓Jj,↓Q6,↓Qk,↓Q8,↓Yd,↓Qf,Ya,Y4,Yv,gw,Zm,Z9,↓chk,Y8,noW,↓Q3,↓Y9,↓Ql,↓Z8,↓Xi,↓Xy,↓Yq,Q4,Pg.look,J7,Jw,Zc,implies_true,true_and,and_true,Q5,Qa,Qb,J8,Xa,Ym,Zr,Zs,Nat.reduceAdd,ofV,Yy,Xb,Xc,Xd,Qp,Qq,Y5,Qr,Qs,Qt,Yn,Qu,Qv,frzL,Qw,Qx,Pg.freeze,Ze,Y6,Y7,Z0,Qy,subL,slen,Yz,Js,Yg,Jm,AV.cells,TK.cells,AV.leaf,AV.leafy,Q9,lay,Jz,Zb,Za,Zh,Nat.reduceEqDiff,Nat.reduceAdd,Zf,Zd,Zj,Zg,Zw,Zy,Z3,Zp,ite_true,ite_false,Option.some.injEq,Z2,AV.int.injEq,AV.agg.injEq,Zv,Z4,Zu,and_self,exists_eq_left',Z1,Zl,Zn,cutL,Zx,Zq,Zk,Z5,Yu,Yh,Yb,Yf,Zt,Yw,Ys,Qd,Qe,Ye,Xj,tk28,tz28,dz28,tk61,dz61,aBack,kAt,kLess,hct,aPos_def]
      · have hct : decide (n > (M.length : Int)) = false := decide_eq_false hn
        have hw : IntKind.i64.wrap ((M.length : Int) - n) = ((M.length - n.toNat : Nat) : Int) := by rw [wrap64 (by omega) (by omega)]; omega
        rw [hfin.2 (by omega)]
        simp (maxSteps := 4000000) only [↓Jj,↓Xe,↓Q6,↓Qk,↓Q8,↓Yd,↓Yc,Ya,Y4,Yv,gw,Zm,Z9,↓chk,Y8,noW,↓Q3,↓Y9,↓Ql,↓Z8,↓Xy,↓Yq,Q4,Pg.look,J7,Jw,Zc,implies_true,true_and,and_true,Q5,Qa,Qb,J8,Xa,Ym,Zr,Zs,Nat.reduceAdd,ofV,Yy,Xb,Xc,Xd,Qp,Qq,Y5,Qr,Qs,Qt,Yn,Qu,Qv,frzL,Qw,Qx,Pg.freeze,Ze,Y6,Y7,Z0,Qy,subL,slen,Yz,Js,Yg,Jm,AV.cells,TK.cells,AV.leaf,AV.leafy,Q9,lay,Zb,Za,Zh,Nat.reduceEqDiff,Nat.reduceAdd,Zf,Zd,Zj,Zg,Zy,Z3,Zp,ite_true,ite_false,Option.some.injEq,AV.int.injEq,Zv,Z4,Zu,and_self,exists_eq_left',Z1,Yt,Zl,Z6,Zn,cutL,Zx,Zq,Zk,Z5,Yu,Yh,Yb,Yf,Zt,Yw,Ys,Qd,Qe,Ye,Xj,tk28,dz28,tk61,dz61,aBack,kAt,kLess,hct,hw,getD_pos,aPos_def]
        exact ⟨⟨by omega, by omega⟩, by omega⟩
end Go.Pg
namespace Go.Pg
open Go Go.Proofs

def kBack8 : C1 := C1.by [.id, .id, .id] (lCons (cFn 91 lAt) (lCons cPos2 (lOne (cInt .i64)))) (fun d => 1 ≤ d.2.2 ∧ fits 65536 65536 d.1.1) (fun d => aBack (wBack (marksOf d.1.2.2.1 d.1.2.1 d.1.2.2.2 d.1.1) d.2.1 d.2.2)) (fun _ => [])
theorem ok_back : C1OK Try.prog 68 kBack8 := C1OK.by (by kernel_rfl) (fun d h => calls_back d.1.1 d.1.2.1 d.1.2.2.1 d.1.2.2.2 d.2.1 d.2.2 h.1 h.2) (fun _ => rfl) (fun _ => rfl)

def mBack (r : (Int × Int) × Bool) (way : Int) : Mv × Bool := if r.2 = true then mTo r.1 way else mNone
def wBackM (ls : Ls) (p : Int × Int) (n : Int) (st e big : Bool) (way : Int) : Mv × Bool := if may ls p n = true then mBack (wBack (marksOf st e big ls) p n) way else mNone

set_option maxRecDepth 20000 in
set_option maxHeartbeats 4000000 in
theorem calls_WBack (ls : Ls) (p : Int × Int) (n : Int) (big : Bool) (hf : fits 65536 65536 ls) : CallsR Try.prog 59 [.sl 1 (ls.map .str), aPos p, .int .i64 n, .bool big] [] (aMove (wBackM ls p n true true big 0)) [] := by
  obtain ⟨p1, p2⟩ := p
  refine callsR_of (mrg := true) (dyn := []) (CtrOK.cons ok_fails (CtrOK.cons ok_StartsF (CtrOK.cons ok_back (CtrOK.nil _)))) mixed Try.func59 rfl (by simp [Try.ntmps59]) (by kernel_rfl) ?_
  rw [show Try.f59.results.toList = [.cell 8 38, .tmp 9] from by kernel_rfl]
  cases hm : may ls (p1, p2) n with
  | false =>
    rw [wBackM, if_neg (by rw [hm]; simp)]
    simp (maxSteps := 4000000) only [↓Jj,↓Q6,↓Qk,↓Q8,↓Yd,↓Qf,Ya,Y4,Yv,gw,Zm,Z9,↓chk,Y8,noW,↓Q3,↓Y9,↓Ql,J9,↓Z8,↓Xi,↓Yq,Q4,Pg.look,Yl,Zc,false_implies,implies_true,true_and,and_true,Q5,Qa,Qb,Ym,Zr,Zs,Nat.reduceAdd,ofV,Yy,Xb,Xc,Xd,Qp,Qq,Y5,Qr,Qs,Qt,Yn,Qu,Qv,frzL,Qw,Qx,Pg.freeze,Ze,Y6,Y7,Z0,Qy,subL,Yz,Js,↓Je,Jf,Jg,Jk,Y2,Jh,Xu,Jr,Qg,Yg,Jm,Qz,Q0,AV.cells,TK.cells,AV.definite,AV.leaf,AV.leafy,Q9,lay,Jz,Zb,Za,Zh,reduceCtorEq,Nat.reduceEqDiff,Nat.reduceAdd,Zf,Zd,Zi,Zj,Zg,Zz,Zw,Zy,Z3,Zp,ite_true,ite_false,Option.some.injEq,Z2,AV.agg.injEq,Prod.mk.injEq,Zv,Z4,Zu,and_self,exists_eq_left',Z1,Qc,Xg,Jd,Y0,Yi,Yj,Zl,Zo,J4,Qj,Y1,Q1,Q2,Yk,Yo,Yp,Zn,cutL,Zx,Zq,Zk,Z5,Yu,Yh,Yb,Yf,Zt,Qh,Yw,Ys,Qd,Qe,Ye,↓Jy,muC,↓Ji,Qi,Xj,tk28,dz28,tk38,tz38,dz38,kFails,kStartsF,kBack8,aPos,aMove,aMv,mNone,hm]
  | true =>
    have hn : 1 ≤ n := by
      have := hm
      simp only [may,Qm,decide_eq_true_eq] at this
      omega
    rw [wBackM, if_pos hm]
    generalize hr : wBack (marksOf true true big ls) (p1, p2) n = r
    obtain ⟨⟨r1, r2⟩, ok⟩ := r
    cases ok with
    | true =>
      simp (maxSteps := 4000000) only [↓Jj,↓Xe,↓Q6,↓Qk,↓Q8,↓Yd,↓Yc,Ya,Y4,Yv,gw,Zm,Z9,↓chk,Y8,noW,↓Q3,↓Y9,↓Ql,J9,↓Z8,↓Yq,Q4,Pg.look,Yx,Zc,false_implies,implies_true,true_and,and_true,Q5,Qa,Qb,Ym,Zr,Zs,Nat.reduceAdd,ofV,Yy,Xb,Xc,Xd,Qp,Qq,Y5,Qr,Qs,Qt,Yn,Qu,Qv,frzL,Qw,Qx,Pg.freeze,Ze,Y6,Y7,Z0,Qy,subL,Yz,Js,↓Je,Jf,Jg,Jk,Y2,Jh,Xu,Jr,Qg,Yg,Jm,Qz,Q0,AV.cells,TK.cells,AV.definite,AV.leaf,AV.leafy,Q9,lay,Jz,Zb,Za,Zh,reduceCtorEq,Nat.reduceEqDiff,Nat.reduceAdd,Zf,Zd,Zi,Zj,Zg,Zz,Zw,Zy,Z3,Zp,ite_true,ite_false,Option.some.injEq,Z2,Jx,AV.agg.injEq,Prod.mk.injEq,Zv,Z4,Zu,and_self,exists_eq_left',Z1,Qc,Q7,Xg,Jd,Xf,cFn_dec,Y0,Yi,Yj,Zl,Zo,J4,Qj,Y1,Q1,Q2,Yk,Yo,Yp,Zn,cutL,Zx,Zq,Zk,Z5,Yu,Nat.reduceLeDiff,Yh,Yb,Yf,Zt,Qh,Yw,Ys,Qd,Qe,X2,Ye,pureC,↓Jy,muC,↓Ji,Qi,Xj,tk28,tz28,dz28,tk38,tz38,dz38,kFails,kStartsF,kBack8,aAt,aBack,aPos,aMove,aMv,mBack,mTo,hm,cAskFn_decS,hr]
      exact ⟨hn, hf⟩
    | false =>
      simp (maxSteps := 4000000) only [↓Jj,↓Xe,↓Q6,↓Qk,↓Q8,↓Yd,↓Qf,↓Yc,Ya,Y4,Yv,gw,Zm,Z9,↓chk,Y8,noW,↓Q3,↓Y9,↓Ql,J9,↓Z8,↓Xi,↓Yq,Q4,Pg.look,Yl,Yx,Zc,false_implies,implies_true,true_and,and_true,Q5,Qa,Qb,Ym,Zr,Zs,Nat.reduceAdd,ofV,Yy,Xb,Xc,Xd,Qp,Qq,Y5,Qr,Qs,Qt,Yn,Qu,Qv,frzL,Qw,Qx,Pg.freeze,Ze,Y6,Y7,Z0,Qy,subL,Yz,Js,↓Je,Jf,Jg,Jk,Y2,Jh,Xu,Jr,Qg,Yg,Jm,Qz,Q0,AV.cells,TK.cells,AV.definite,AV.leaf,AV.leafy,Q9,lay,Jz,Zb,Za,Zh,reduceCtorEq,Nat.reduceEqDiff,Nat.reduceAdd,Zf,Zd,Zi,Zj,Zg,Zz,Zw,Zy,Z3,Zp,ite_true,ite_false,Option.some.injEq,Z2,Jx,AV.agg.injEq,Prod.mk.injEq,Zv,Z4,Zu,and_self,exists_eq_left',Z1,Qc,Q7,Xg,Jd,Xf,cFn_dec,Y0,Yi,Yj,Zl,Zo,J4,Qj,Y1,Q1,Q2,Yk,Yo,Yp,Zn,cutL,Zx,Zq,Zk,Z5,Yu,Yh,Yb,Yf,Zt,Qh,Yw,Ys,Qd,Qe,X2,Ye,pureC,↓Jy,muC,↓Ji,Qi,Xj,tk28,tz28,dz28,tk38,tz38,dz38,kFails,kStartsF,kBack8,aAt,aBack,aPos,aMove,aMv,mBack,mNone,hm,cAskFn_decS,hr]
      exact ⟨hn, hf⟩

set_option maxRecDepth 20000 in
set_option maxHeartbeats 4000000 in
theorem calls_WBackTail (ls : Ls) (p : Int × Int) (n : Int) (big : Bool) (hf : fits 65536 65536 ls) : CallsR Try.prog 61 [.sl 1 (ls.map .str), aPos p, .int .i64 n, .bool big] [] (aMove (wBackM ls p n false false big 1)) [] := by
  obtain ⟨p1, p2⟩ := p
  refine callsR_of (mrg := true) (dyn := []) (CtrOK.cons ok_fails (CtrOK.cons ok_EndsF (CtrOK.cons ok_back (CtrOK.nil _)))) mixed Try.func61 rfl (by simp [Try.ntmps61]) (by kernel_rfl) ?_
  rw [show Try.f61.results.toList = [.cell 8 38, .tmp 9] from by kernel_rfl]
  cases hm : may ls (p1, p2) n with
  | false =>
    rw [wBackM, if_neg (by rw [hm]; simp)]
    simp (maxSteps := 4000000) only [↓Jj,↓Q6,↓Qk,↓Q8,↓Yd,↓Qf,Ya,Y4,Yv,gw,Zm,Z9,↓chk,Y8,noW,↓Q3,↓Y9,↓Ql,J9,↓Z8,↓Xi,↓Yq,Q4,Pg.look,Yl,Zc,false_implies,implies_true,true_and,and_true,Q5,Qa,Qb,Ym,Zr,Zs,Nat.reduceAdd,ofV,Yy,Xb,Xc,Xd,Qp,Qq,Y5,Qr,Qs,Qt,Yn,Qu,Qv,frzL,Qw,Qx,Pg.freeze,Ze,Y6,Y7,Z0,Qy,subL,Yz,Js,↓Je,Jf,Jg,Jk,Y2,Jh,Xu,Jr,Qg,Yg,Jm,Qz,Q0,AV.cells,TK.cells,AV.definite,AV.leaf,AV.leafy,Q9,lay,Jz,Zb,Za,Zh,reduceCtorEq,Nat.reduceEqDiff,Nat.reduceAdd,Zf,Zd,Zi,Zj,Zg,Zz,Zw,Zy,Z3,Zp,ite_true,ite_false,Option.some.injEq,Z2,AV.agg.injEq,Prod.mk.injEq,Zv,Z4,Zu,and_self,exists_eq_left',Z1,Qc,Xg,Jd,Y0,Yi,Yj,Zl,Zo,J4,Qj,Y1,Q1,Q2,Yk,Yo,Yp,Zn,cutL,Zx,Zq,Zk,Z5,Yu,Yh,Yb,Yf,Zt,Qh,Yw,Ys,Qd,Qe,Ye,↓Jy,muC,↓Ji,Qi,Xj,tk28,dz28,tk38,tz38,dz38,kFails,kEndsF,kBack8,aPos,aMove,aMv,mNone,hm]
  | true =>
    have hn : 1 ≤ n := by
      have := hm
      simp only [may,Qm,decide_eq_true_eq] at this
      omega
    rw [wBackM, if_pos hm]
    generalize hr : wBack (marksOf false false big ls) (p1, p2) n = r
    obtain ⟨⟨r1, r2⟩, ok⟩ := r
    cases ok with
    | true =>
      simp (maxSteps := 4000000) only [↓Jj,↓Xe,↓Q6,↓Qk,↓Q8,↓Yd,↓Yc,Ya,Y4,Yv,gw,Zm,Z9,↓chk,Y8,noW,↓Q3,↓Y9,↓Ql,J9,↓Z8,↓Yq,Q4,Pg.look,Yx,Zc,false_implies,implies_true,true_and,and_true,Q5,Qa,Qb,Ym,Zr,Zs,Nat.reduceAdd,ofV,Yy,Xb,Xc,Xd,Qp,Qq,Y5,Qr,Qs,Qt,Yn,Qu,Qv,frzL,Qw,Qx,Pg.freeze,Ze,Y6,Y7,Z0,Qy,subL,Yz,Js,↓Je,Jf,Jg,Jk,Y2,Jh,Xu,Jr,Qg,Yg,Jm,Qz,Q0,AV.cells,TK.cells,AV.definite,AV.leaf,AV.leafy,Q9,lay,Jz,Zb,Za,Zh,reduceCtorEq,Nat.reduceEqDiff,Nat.reduceAdd,Zf,Zd,Zi,Zj,Zg,Zz,Zw,Zy,Z3,Zp,ite_true,ite_false,Option.some.injEq,Z2,Jx,AV.agg.injEq,Prod.mk.injEq,Zv,Z4,Zu,and_self,exists_eq_left',Z1,Qc,Q7,Xg,Jd,Xf,cFn_dec,Y0,Yi,Yj,Zl,Zo,J4,Qj,Y1,Q1,Q2,Yk,Yo,Yp,Zn,cutL,Zx,Zq,Zk,Z5,Yu,Nat.reduceLeDiff,Yh,Yb,Yf,Zt,Qh,Yw,Ys,Qd,Qe,X2,Ye,pureC,↓Jy,muC,↓Ji,Qi,Xj,tk28,tz28,dz28,tk38,tz38,dz38,kFails,kEndsF,kBack8,aAt,aBack,aPos,aMove,aMv,mBack,mTo,hm,cAskFn_decE,hr]
      exact ⟨hn, hf⟩
    | false =>
      simp (maxSteps := 4000000) only [↓Jj,↓Xe,↓Q6,↓Qk,↓Q8,↓Yd,↓Qf,↓Yc,Ya,Y4,Yv,gw,Zm,Z9,↓chk,Y8,noW,↓Q3,↓Y9,↓Ql,J9,↓Z8,↓Xi,↓Yq,Q4,Pg.look,Yl,Yx,Zc,false_implies,implies_true,true_and,and_true,Q5,Qa,Qb,Ym,Zr,Zs,Nat.reduceAdd,ofV,Yy,Xb,Xc,Xd,Qp,Qq,Y5,Qr,Qs,Qt,Yn,Qu,Qv,frzL,Qw,Qx,Pg.freeze,Ze,Y6,Y7,Z0,Qy,subL,Yz,Js,↓Je,Jf,Jg,Jk,Y2,Jh,Xu,Jr,Qg,Yg,Jm,Qz,Q0,AV.cells,TK.cells,AV.definite,AV.leaf,AV.leafy,Q9,lay,Jz,Zb,Za,Zh,reduceCtorEq,Nat.reduceEqDiff,Nat.reduceAdd,Zf,Zd,Zi,Zj,Zg,Zz,Zw,Zy,Z3,Zp,ite_true,ite_false,Option.some.injEq,Z2,Jx,AV.agg.injEq,Prod.mk.injEq,Zv,Z4,Zu,and_self,exists_eq_left',Z1,Qc,Q7,Xg,Jd,Xf,cFn_dec,Y0,Yi,Yj,Zl,Zo,J4,Qj,Y1,Q1,Q2,Yk,Yo,Yp,Zn,cutL,Zx,Zq,Zk,Z5,Yu,Yh,Yb,Yf,Zt,Qh,Yw,Ys,Qd,Qe,X2,Ye,pureC,↓Jy,muC,↓Ji,Qi,Xj,tk28,tz28,dz28,tk38,tz38,dz38,kFails,kEndsF,kBack8,aAt,aBack,aPos,aMove,aMv,mBack,mNone,hm,cAskFn_decE,hr]
      exact ⟨hn, hf⟩

/-! ### In order -/
theorem less_trans {a b c : Int × Int} (h1 : less a b = true) (h2 : less b c = true) : less a c = true := by
  unfold less at *
  simp only [Kf,Qm,decide_eq_true_eq,beq_iff_eq] at *
  omega

theorem marksIn_sorted (g : List UInt8 → Nat → Bool) (l : Nat) (s : List UInt8) : ∀ (k : Nat), (marksIn g l s k).Pairwise (fun a b => less a b = true) ∧ ∀ q ∈ marksIn g l s k, q.1 = l ∧ 0 ≤ q.2 ∧ q.2 < k := by
  intro k
  induction k with
  | zero => exact ⟨by simp [marksIn], by simp [marksIn]⟩
  | succ k ih =>
    rw [marksIn_succ]
    split
    · refine ⟨List.pairwise_append.2 ⟨ih.1, by simp, fun a ha b hb => ?_⟩, fun q hq => ?_⟩
      · obtain ⟨h1, h2, h3⟩ := ih.2 a ha
        rw [List.mem_singleton] at hb
        subst hb
        unfold less
        simp only [Kf,Qm,decide_eq_true_eq,beq_iff_eq]
        omega
      · rcases List.mem_append.1 hq with hq | hq
        · obtain ⟨h1, h2, h3⟩ := ih.2 q hq
          exact ⟨h1, h2, by omega⟩
        · rw [List.mem_singleton] at hq
          subst hq
          exact ⟨rfl, by simp, by simp; omega⟩
    · exact ⟨ih.1, fun q hq => by obtain ⟨h1, h2, h3⟩ := ih.2 q hq; exact ⟨h1, h2, by omega⟩⟩

theorem lineMarks_sorted (e : Bool) (g : List UInt8 → Nat → Bool) (l : Nat) (s : List UInt8) : (lineMarks e g l s).Pairwise (fun a b => less a b = true) ∧ ∀ q ∈ lineMarks e g l s, q.1 = l ∧ 0 ≤ q.2 ∧ q.2 ≤ s.length := by
  unfold lineMarks
  have h := marksIn_sorted g l s s.length
  split
  · next hs =>
    have : s = [] := by simp only [Qm,beq_iff_eq] at hs; exact hs.2
    subst this
    simp [marksIn]
  · rw [List.nil_append]
    exact ⟨h.1, fun q hq => by obtain ⟨h1, h2, h3⟩ := h.2 q hq; exact ⟨h1, h2, by omega⟩⟩

theorem marksTo_sorted (e : Bool) (g : List UInt8 → Nat → Bool) (ls : Ls) : ∀ (n : Nat), (marksTo e g ls n).Pairwise (fun a b => less a b = true) ∧ ∀ q ∈ marksTo e g ls n, 0 ≤ q.1 ∧ q.1 < n ∧ 0 ≤ q.2 ∧ q.2 ≤ (ls.getD q.1.toNat []).length := by
  intro n
  induction n with
  | zero => exact ⟨by simp [marksTo], by simp [marksTo]⟩
  | succ n ih =>
    rw [marksTo_succ]
    have h := lineMarks_sorted e g n (ls.getD n [])
    refine ⟨List.pairwise_append.2 ⟨ih.1, h.1, fun a ha b hb => ?_⟩, fun q hq => ?_⟩
    · obtain ⟨h1, h2, h3⟩ := ih.2 a ha
      obtain ⟨h4, h5⟩ := h.2 b hb
      unfold less
      simp only [Kf,Qm,decide_eq_true_eq,beq_iff_eq]
      omega
    · rcases List.mem_append.1 hq with hq | hq
      · obtain ⟨h1, h2, h3⟩ := ih.2 q hq
        exact ⟨h1, by omega, h3⟩
      · obtain ⟨h1, h2, h3⟩ := h.2 q hq
        exact ⟨by omega, by omega, h2, by rw [h1]; simpa using h3⟩

end Go.Pg
