/- Searching: the document's n-th place. The word at a place: the document's. Keys of motions: the keys that a text names. Keys of motions: what they are, the document's. -/
import Derived.Test.YtkkcfkggfpoagaaPgFx8
import Derived.Test.YtkkcfkggfpoagaaPgFx4
import Derived.Test.YtkkcfkggfpoagaaPgFx6
open List renaming getElem?_cons_zero → Za, getElem?_cons_succ → Zc, contains_nil → Zd, length_nil → Ze, append_nil → Zf, foldl_nil → Zg, getElem?_toArray → Zh, toList_toArray → Zi, nil_append → Zj, length_cons → Zp, range'_zero → Zq, set_cons_zero → Zr, cons_append → Zz, map_cons → Z5, map_nil → Z9, all_cons → Yb, all_nil → Yh, getD_cons_zero → Yo, drop_succ_cons → Yp, take_succ_cons → Yq, set_cons_succ → Y0, drop_zero → Qt, take_zero → Qu, getD_nil → Qy, drop_nil → Qz, take_nil → Q0
open Bool renaming false_eq_true → Zb, not_true → Zw, and_self → Zx, not_false → Zy, true_eq_false → Yd, and_true → Qx
open Go.Pg renaming thenA_normal → Zk, bselH_false → Zm, gselH_plain → Zn, wpH_region → Zs, selC_false → Zt, closeQ_nil → Zu, diagQ_zero → Zv, runH_cons → Z0, regH_none → Z1, subV_succ → Z2, cselH_bool → Z6, length_ofBytes → Z7, runH_nil → Z8, iselH_false → Ye, look_stripE → Yf, wpH_seq → Yg, wpH_block → Yi, wpH_cond → Yj, res_succ → Yk, iselH_true → Yl, stepEv → Yr, ofLeaf → Ys, isNext → Yt, alives → Yu, pickOf → Yv, mergeable → Yw, optP_some → Yx, optV_some → Yy, optH_some → Yz, pickOK_nil → Y2, gselH_if → Y3, normArgs → Y4, lOne_dec → Y5, C1by_pre → Y6, wpA_H → Y8, justK → Y9, pureK → Qa, heapV → Qb, footV → Qc, nextF → Qd, nextG → Qe, ptrsE → Qf, subOs → Qg, subEv → Qh, pickOK_one → Qi, bytesOf_ofBytes → Qj, wpH_skip → Qn, kselH_1 → Qo, res8_eq → Qp, C1by_ns → Qq, C1by_it → Qr, C1by_mu → Qs, cByte_dec → Qv, blockA_normal → Qw, wpH_ret → Q2, mergeK → Q3, condsL → Q4, shiftR → Q5, shift1 → Q6, C1by_r → Q7, C1by_H → Q8, take_ofBytes → Q9, getD_ofBytes → Ja, cStr_dec → Jd, blockA_ret → Je
open Array renaming toList_append → Zl
open Option renaming bind_some → Zo, map_some → Z3, map_none → Z4, getD_some → Ym, isSome_none → Y1, toArray_some → Ql, toArray_none → Qm
open Nat renaming zero_add → Ya, lt_irrefl → Yn, zero_lt_succ → Y7, not_lt_zero → Qk, sub_zero → Jb, le_refl → Jc
open Int renaming cast_ofNat_Int → Yc, toNat_natCast → Q1
namespace Go.Pg
open Go Go.Proofs

end Go.Pg
namespace Go.Pg
open Go Go.Proofs

theorem findUp_first {g : Nat → Bool} : ∀ {k i j : Nat}, findUp g k i = some j → ∀ m, i ≤ m → m < j → g m = false
  | 0, _, _, h => by cases h
  | k + 1, i, j, h => by
    unfold findUp at h
    split at h
    · next hg => cases h; intro m h1 h2; omega
    · next hg =>
      intro m h1 h2
      by_cases hm : m = i
      · subst hm; exact Bool.eq_false_iff.2 hg
      · exact findUp_first h m (by omega) h2
end Go.Pg
namespace Go.Pg
open Go Go.Proofs

theorem nameF_pos (c : UInt8) : 0 < (nameF c).length := by
  unfold nameF
  repeat' split
  all_goals simp
def prefN (s : List UInt8) (c : Nat) : Bool := prefB s (nameF (UInt8.ofNat c))
def keyOf (s : List UInt8) : Option Nat := findUp (prefN s) 128 0
def parseF : Nat → List UInt8 → Option (List UInt8)
  | _, [] => some []
  | 0, _ :: _ => none
  | f + 1, b :: s => match keyOf (b :: s) with
    | none => none
    | some c => match parseF f ((b :: s).drop (nameF (UInt8.ofNat c)).length) with
      | none => none
      | some r => some (UInt8.ofNat c :: r)
theorem parse_step {f : Nat} {s r : List UInt8} (hs : s ≠ []) (h : parseF f s = some r) : ∃ f' c r', keyOf s = some c ∧ parseF f' (s.drop (nameF (UInt8.ofNat c)).length) = some r' ∧ r = UInt8.ofNat c :: r' := by
  cases s with
  | nil => exact absurd rfl hs
  | cons b s =>
    cases f with
    | zero => unfold parseF at h; cases h
    | succ f =>
      unfold parseF at h
      split at h
      · cases h
      · next c hc =>
        split at h
        · cases h
        · next r' hr =>
          cases h
          exact ⟨f, c, r', hc, hr, rfl⟩
theorem ofNat_small {i : Nat} (h : i < 128) : (UInt8.ofNat i).toNat = i := by
  rw [UInt8.toNat_ofNat']; omega

set_option maxRecDepth 20000 in
set_option maxHeartbeats 8000000 in
theorem calls_RParse (s : List UInt8) (f : Nat) (ks : List UInt8) (hs : s.length ≤ 65536) (hp : parseF f s = some ks) : CallsR Try.prog 38 [.str s] [] (.tuple [.sl 1 (ofBytes ks), .bool true]) [] := by
  refine callsR_of (mrg := true) (dyn := []) (CtrOK.cons ok_RName (CtrOK.nil _)) mixed Try.func38 rfl (by simp [Try.ntmps38]) (by kernel_rfl) ?_
  rw [show Try.f38.results.toList = [.tmp 2, .tmp 3] from by kernel_rfl]
  simp (maxSteps := 4000000) only [↓Y8,↓Yg,↓Yi,↓wpH_loop,↓Zs,Zm,Z8,Z0,gw,Zn,↓chk,Y9,↓oneK,↓Qa,envOf,↓Zk,↓Yr,opnd,Zb,implies_true,true_and,valV,Qb,Qc,ofV,Ys,Ze,ite_false,and_self,Zd,Z1,Yt,Qd,Qe,Zt]
  refine loopH_intro (α := List UInt8 × List UInt8) (fun x => ([(0, .str x.1), (2, .nls), (3, .bool false), (4, .own 0 1 x.2.length)], [.arr 5 1 (ofBytes x.2)]))
    (fun x => x.1.length ≤ s.length ∧ x.2.length + x.1.length ≤ s.length ∧ ∃ f r, parseF f x.1 = some r ∧ x.2 ++ r = ks) (fun x => x.1.length) (s, []) ⟨by dsimp only; omega, by simp, f, ks, hp, rfl⟩ ?_ ?_
  · simp (maxSteps := 4000000) only [Pg.look,true_and,and_true,Yu,aliveO,Zu,Zv,subA,subQ,Qf,pairsO,frzO,subF,subG,Yv,assocN,pairsE,pairsC,pairs0,frzE,frzC,frz0,frzH,Pg.freeze,Zg,Qg,subO,Qh,Z2,subM,Za,reduceCtorEq,Nat.reduceEqDiff,Zj,Zf,Ze,ite_true,ite_false,and_self,Qi,Yn]
    all_goals first | rfl | exact ⟨rfl, rfl⟩
  rintro ⟨t, out⟩ ⟨ht, hot, f1, r, hr, ho⟩
  dsimp only at ht hot hr ho
  by_cases hte : t = []
  · subst hte
    have c1 : (([] : List UInt8) != []) = false := rfl
    have hr2 : r = [] := by cases f1 <;> (unfold parseF at hr; cases hr; rfl)
    subst hr2
    rw [List.append_nil] at ho
    subst ho
    simp (maxSteps := 4000000) only [↓Y8,↓Q2,↓wpH_exit,↓Yg,↓Yj,↓Zs,↓Ye,Zm,Z8,Z0,gw,Zn,Z6,↓chk,Y9,↓oneK,↓Qa,↓Zk,↓thenA_exit,↓blockA_exit,↓Yr,opnd,Pg.look,binK,strOp,Zw,Zb,implies_true,valV,Qb,Qc,binV,strV,Yu,Zu,Zv,ofV,Ys,retA,resK,tupA,subA,subQ,Qf,frzO,subF,subG,Yv,frzE,frzC,frzL,frz0,frzH,Pg.freeze,Zg,List.foldl_cons,Qg,Qh,Z2,subM,subL,objAt,Yk,resM,frzAt,Za,reduceCtorEq,Nat.reduceEqDiff,Zf,Ze,Zr,ite_true,ite_false,Yb,Yh,Zx,and_self,Y2,Z7,pureB_bytes,resIn,List.contains_cons,Zd,Bool.or_false,beq_self_eq_true,Z1,Yt,Qd,Qe,Zt]
    all_goals first | rfl | exact ⟨rfl, rfl⟩
  · have c1 : (t == []) = false := beq_eq_false_iff_ne.2 hte
    obtain ⟨f2, c, r', hk, hr', rfl⟩ := parse_step hte hr
    have hk1 := findUp_some hk
    have hk2 := findUp_first hk
    obtain ⟨n, hn⟩ : ∃ n, n = nameF (UInt8.ofNat c) := ⟨_, rfl⟩
    have hnp := nameF_pos (UInt8.ofNat c)
    rw [← hn] at hr' hnp
    have hpc : prefB t n = true := by rw [hn]; exact hk1.2.2
    have hnl : n.length ≤ t.length := by
      unfold prefB at hpc
      rw [Bool.and_eq_true, decide_eq_true_eq] at hpc
      omega
    simp (maxSteps := 4000000) only [↓Y8,↓Qn,↓Yg,↓Yj,↓Yi,↓wpH_loop,↓Zs,↓Yl,Zm,Z8,Z0,gw,Zn,Z6,↓chk,Y9,↓oneK,↓Qa,↓Zk,↓Yr,opnd,Pg.look,binK,strOp,Zy,Zb,implies_true,true_and,valV,Qb,Qc,binV,strV,ofV,Ys,reduceCtorEq,Nat.reduceEqDiff,ite_true,ite_false,and_self,Zd,Z1,Yt,Qd,Qe,Zt,c1]
    refine loopH_intro (α := List UInt8 × List UInt8 × Bool × Nat) (fun x => ([(0, .str x.1), (2, .nls), (3, .bool false), (4, .own 0 1 x.2.1.length), (5, .bool x.2.2.1), (6, .int .i64 x.2.2.2)], [.arr 5 1 (ofBytes x.2.1)]))
      (fun x => (x.2.2.1 = false ∧ x.1 = t ∧ x.2.1 = out ∧ x.2.2.2 ≤ c) ∨ (x.2.2.1 = true ∧ x.1 = t.drop n.length ∧ x.2.1 = out ++ [UInt8.ofNat c] ∧ x.2.2.2 = c + 1)) (fun x => 256 - x.2.2.2) (t, out, false, 0) (.inl ⟨rfl, rfl, rfl, Nat.zero_le _⟩) ?_ ?_
    · simp (maxSteps := 4000000) only [Pg.look,true_and,and_true,Yu,aliveO,Zu,Zv,subA,subQ,Qf,pairsO,frzO,subF,subG,Yv,assocN,pairsE,pairsC,pairs0,frzE,frzC,frz0,frzH,Pg.freeze,Zg,Qg,subO,Qh,Z2,subM,Za,reduceCtorEq,Nat.reduceEqDiff,Zj,Zf,ite_true,ite_false,and_self,Qi,Yc,Yn]
      (repeat' first | exact subX_eq rfl rfl | exact subX_eq rfl (pureB_bytes _) | apply And.intro | rfl | omega)
    rintro ⟨u, o, fd, i⟩ hx
    dsimp only at hx
    rcases hx with ⟨rfl, rfl, rfl, hi⟩ | ⟨rfl, rfl, rfl, rfl⟩
    · have c2 : decide ((i : Int) < 256) = true := decide_eq_true (by omega)
      have w1 : IntKind.i64.wrap ((i : Int) + 1) = ((i + 1 : Nat) : Int) := by rw [wrap64 (by omega) (by omega)]; rfl
      have hin := ofNat_small (i := i) (by omega)
      have w2 : IntKind.u8.wrap (i : Int) = ((UInt8.ofNat i).toNat : Int) := by
        rw [hin]
        show (i : Int) % 256 = _
        omega
      obtain ⟨m, hm⟩ : ∃ m, m = nameF (UInt8.ofNat i) := ⟨_, rfl⟩
      have hpi : prefB u m = prefN u i := by rw [hm]; rfl
      by_cases hic : i = c
      · subst hic
        have hmn : m = n := by rw [hm, hn]
        subst hmn
        have e1 : decide ((u.length : Int) ≥ (m.length : Int)) = true := decide_eq_true (by omega)
        have e2 : (u.take m.length == m) = true := by
          unfold prefB at hpc
          rw [e1, Bool.true_and] at hpc
          exact hpc
        have hap := app1_ofBytes o (UInt8.ofNat i)
        simp (maxSteps := 4000000) only [↓Y8,↓Qn,↓Yg,↓Yj,↓Yi,↓Zs,↓Yl,Zm,Z8,Z0,gw,Zn,Y3,Qo,Z6,gkind,↓chk,Y9,noW,↓oneK,↓Qa,↓heapK,↓Zk,↓Qw,↓Yr,opnd,Pg.look,binK,intOp,strOp,dstOf,Zy,Zw,Zb,Yd,implies_true,true_and,and_true,forall_const,pickC,pickV,unc,gof,mux,Q3,Q4,valV,Qb,Qc,binV,intV,strV,cutV,Yu,aliveO,Zu,Zv,Yw,Yf,ofV,Ys,sameK,subA,subQ,Qf,pairsO,frzO,subF,subG,Yv,assocN,pairsE,pairsC,pairs0,frzE,frzC,frz0,frzH,Pg.freeze,Zg,Qg,subO,Qh,Z2,subM,srcV,srcE,appK,objAt,sliceS,↓callT,callC,callV,callH,Y4,normA,resL,Qp,Yk,resM,Q5,Q6,AV.cells,AV.definite,AV.leaf,AV.leafy,Op.operands,Call.operands,Zl,Zh,Zc,Za,Zo,Z3,Z4,reduceCtorEq,Nat.reduceEqDiff,Zj,Zf,Zz,Zp,Ze,Z5,Z9,Zr,Ya,ite_true,ite_false,Option.isSome_some,ne_eq,not_false_eq_true,Yb,Yh,Zx,and_self,Qi,Ql,Qm,Zi,rg1,Z7,Qv,Y5,Zd,beq_self_eq_true,Zq,Nat.reducePow,Qq,Y6,Q7,Q8,Yx,Yy,Yz,Q1,Nat.reduceLeDiff,Yn,Nat.mul_one,Qr,Z1,Yt,Qd,Qe,Zt,↓msel,muC,↓callP,Qs,tk3,tk5,eb5,tk9,tk24,kRName,c2,w1,w2,← hm,e1,e2,hap]
        refine ⟨by omega, ⟨by omega, by omega⟩, ⟨by decide, by omega⟩, ⟨by omega, by omega⟩, (u.drop m.length, o ++ [UInt8.ofNat i], true, i + 1), .inr ⟨rfl, rfl, rfl, rfl⟩, by dsimp only; omega, ?_⟩
        (repeat' first | exact subX_eq rfl rfl | exact subX_eq rfl (pureB_bytes _) | apply And.intro | rfl | (simp; done) | omega)
      · have hpf : prefB u m = false := by rw [hpi]; exact hk2 i (by omega) (by omega)
        by_cases hlm : m.length ≤ u.length
        · have e1 : decide ((u.length : Int) ≥ (m.length : Int)) = true := decide_eq_true (by omega)
          have e2 : (u.take m.length == m) = false := by
            unfold prefB at hpf
            rw [e1, Bool.true_and] at hpf
            exact hpf
          simp (maxSteps := 4000000) only [↓Y8,↓Qn,↓Yg,↓Yj,↓Yi,↓Zs,↓Yl,↓Ye,Zm,Z8,Z0,gw,Zn,Y3,Qo,Z6,gkind,↓chk,Y9,↓oneK,↓Qa,↓Zk,↓Qw,↓Yr,opnd,Pg.look,binK,intOp,strOp,dstOf,Zy,Zw,Zb,Yd,implies_true,true_and,and_true,forall_const,pickC,pickV,unc,gof,mux,Q3,Q4,valV,Qb,Qc,binV,intV,strV,cutV,Yu,aliveO,Zu,Zv,Yw,Yf,ofV,Ys,sameK,subA,subQ,Qf,pairsO,frzO,subF,subG,Yv,assocN,pairsE,pairsC,pairs0,frzE,frzC,frz0,frzH,Pg.freeze,Zg,Qg,subO,Qh,Z2,subM,sliceS,↓callT,callC,callV,callH,Y4,normA,resL,Qp,Yk,resM,Q5,Q6,Op.operands,Call.operands,Zl,Zh,Zc,Za,Zo,Z3,Z4,reduceCtorEq,Nat.reduceEqDiff,Zj,Zf,Zz,Zp,Ze,Z5,Z9,Ya,ite_true,ite_false,ne_eq,not_false_eq_true,Zx,and_self,Qi,Ql,Qm,Zi,Qv,Y5,Zd,Zq,Qq,Y6,Q7,Q8,Yx,Yy,Yz,Q1,Yn,Qr,Z1,Yt,Qd,Qe,Zt,↓msel,muC,↓callP,Qs,tk3,tk5,tk9,kRName,c2,w1,w2,← hm,e1,e2]
          refine ⟨by omega, ⟨by omega, by omega⟩, (u, o, false, i + 1), .inl ⟨rfl, rfl, rfl, by dsimp only; omega⟩, by dsimp only; omega, ?_⟩
          (repeat' first | exact subX_eq rfl rfl | exact subX_eq rfl (pureB_bytes _) | apply And.intro | rfl | (simp; done) | omega)
        · have e1 : decide ((u.length : Int) ≥ (m.length : Int)) = false := decide_eq_false (by omega)
          simp (maxSteps := 4000000) only [↓Y8,↓Qn,↓Yg,↓Yj,↓Yi,↓Zs,↓Yl,↓Ye,Zm,Z8,Z0,gw,Zn,Y3,Qo,Z6,gkind,↓chk,Y9,↓oneK,↓Qa,↓Zk,↓Qw,↓Yr,opnd,Pg.look,binK,intOp,strOp,dstOf,Zy,Zw,Zb,Yd,false_implies,implies_true,imp_self,true_and,and_true,pickC,pickV,unc,gof,mux,Q3,Q4,valV,Qb,Qc,binV,intV,strV,cutV,Yu,aliveO,Zu,Zv,Yw,Yf,ofV,Ys,sameK,subA,subQ,Qf,pairsO,frzO,subF,subG,Yv,assocN,pairsE,pairsC,pairs0,frzE,frzC,frz0,frzH,Pg.freeze,Zg,Qg,subO,Qh,Z2,subM,sliceS,↓callT,callC,callV,callH,Y4,normA,resL,Qp,Yk,resM,Q5,Q6,Op.operands,Call.operands,Zl,Zh,Zc,Za,Zo,Z3,Z4,reduceCtorEq,Nat.reduceEqDiff,Zj,Zf,Zz,Zp,Ze,Z5,Z9,Ya,ite_true,ite_false,ne_eq,not_false_eq_true,Zx,and_self,Qi,Ql,Qm,Zi,Qv,Y5,Zd,Zq,Qq,Y6,Q7,Q8,Yx,Yy,Yz,Q1,Yn,Qr,Z1,Yt,Qd,Qe,Zt,↓msel,muC,↓callP,Qs,tk3,tk5,tk9,kRName,c2,w1,w2,← hm,e1]
          refine ⟨by omega, (u, o, false, i + 1), .inl ⟨rfl, rfl, rfl, by dsimp only; omega⟩, by dsimp only; omega, ?_⟩
          (repeat' first | exact subX_eq rfl rfl | exact subX_eq rfl (pureB_bytes _) | apply And.intro | rfl | (simp; done) | omega)
    · have c2 : decide (((c + 1 : Nat) : Int) < 256) = true := decide_eq_true (by omega)
      simp (maxSteps := 4000000) only [↓Y8,↓Qn,↓Q2,↓wpH_exit,↓Yg,↓Yj,↓Zs,↓Ye,Zm,Z8,Z0,gw,Zn,Y3,Qo,Z6,gkind,↓chk,Y9,↓oneK,↓Qa,↓Zk,↓thenA_exit,↓Qw,↓blockA_exit,↓Yr,opnd,Pg.look,binK,intOp,dstOf,Zw,Zb,Yd,implies_true,true_and,and_true,pickC,pickV,unc,gof,mux,Q3,Q4,valV,Qb,Qc,binV,intV,Yu,aliveO,Zu,Zv,Yw,Yf,ofV,Ys,sameK,retA,resK,tupA,subA,subQ,Qf,pairsO,frzO,subF,subG,Yv,assocN,pairsE,pairsC,pairs0,frzE,frzC,frzL,frz0,frzH,Pg.freeze,Zg,List.foldl_cons,Qg,subO,Qh,Z2,subM,subL,objAt,Yk,resM,frzAt,Op.operands,Zh,Zc,Za,Zo,reduceCtorEq,Nat.reduceEqDiff,Zj,Zf,Zp,Ze,Zr,Ya,ite_true,ite_false,AV.sl.injEq,Yb,Yh,Zx,and_self,Y2,Qi,Zi,List.length_append,Z7,pureB_bytes,resIn,List.contains_cons,Zd,Bool.or_false,beq_self_eq_true,Yn,Z1,Yt,Qd,Qe,Zt,c2,pureB_bytes]
      refine ⟨(t.drop n.length, out ++ [UInt8.ofNat c]), ⟨by dsimp only; rw [List.length_drop]; omega, by dsimp only; rw [List.length_drop, List.length_append, List.length_singleton]; omega, f2, r', hr', by dsimp only; rw [List.append_assoc]; exact ho⟩, by dsimp only; rw [List.length_drop]; omega, ?_⟩
      (repeat' first | exact subX_eq rfl rfl | exact subX_eq rfl (pureB_bytes _) | apply And.intro | rfl | (simp; done) | omega)
def kRParse : C1 := C1.by [.id] (lOne cStr) (fun d => d.length ≤ 65536 ∧ (parseF d.length d).isSome = true) (fun d => .tuple [.sl 1 (ofBytes ((parseF d.length d).getD [])), .bool true]) (fun _ => [])
theorem ok_RParse : C1OK Try.prog 38 kRParse := C1OK.by (by kernel_rfl) (fun d h => by
  obtain ⟨ks, hk⟩ := Option.isSome_iff_exists.1 h.2
  rw [hk]
  exact calls_RParse d d.length ks h.1 hk) (fun _ => rfl) (fun _ => rfl)
theorem calls_Keys (s : List UInt8) (hs : s.length ≤ 65536) (hp : (parseF s.length s).isSome = true) : CallsR Try.prog 21 [.str s] [] (.sl 1 (ofBytes ((parseF s.length s).getD []))) [] := by
  refine callsR_of (mrg := true) (dyn := []) (CtrOK.cons ok_RParse (CtrOK.nil _)) mixed Try.func21 rfl (by simp [Try.ntmps21]) (by kernel_rfl) ?_
  rw [show Try.f21.results.toList = [.tmp 2] from by kernel_rfl]
  simp (maxSteps := 4000000) only [↓Y8,↓Q2,↓Yg,↓Zs,Zm,Z8,Z0,gw,Zn,↓chk,Y9,↓oneK,↓Qa,envOf,↓Zk,↓Yr,opnd,Pg.look,Zb,implies_true,true_and,and_true,valV,Qb,Qc,Yu,Zu,Zv,ofV,Ys,retA,resK,tupA,subA,subQ,Qf,frzO,subF,subG,Yv,frzE,frzC,frz0,frzH,Pg.freeze,Zg,Qg,Qh,Z2,subM,↓callT,callC,callV,callH,Y4,normA,resL,Qp,Yk,resM,Q5,Q6,Zc,Za,Ym,reduceCtorEq,Nat.reduceEqDiff,Zf,Ze,Z5,Z9,ite_true,ite_false,Option.some.injEq,and_self,exists_eq_left',Y2,Jd,Y5,Zd,Zq,Qq,Y6,Q7,Q8,Yx,Yy,Yz,Qr,Z1,Yt,Qd,Qe,Zt,↓msel,muC,↓callP,Qs,kRParse]
  exact ⟨hs, hp⟩
def kKeys : C1 := C1.by [.id] (lOne cStr) (fun d => d.length ≤ 65536 ∧ (parseF d.length d).isSome = true) (fun d => .sl 1 (ofBytes ((parseF d.length d).getD []))) (fun _ => [])
theorem ok_Keys : C1OK Try.prog 21 kKeys := C1OK.by (by kernel_rfl) (fun d h => calls_Keys d h.1 h.2) (fun _ => rfl) (fun _ => rfl)
end Go.Pg
namespace Go.Pg
open Go Go.Proofs

def simpleK : List UInt8 := [104, 106, 107, 108, 43, 45, 95, 48, 94, 36, 124, 119, 87, 98, 66, 101, 69, 59, 44, 71, 72, 77, 76, 37, 40, 41, 123, 125, 110, 78, 42, 35]
def argK : List UInt8 := [102, 70, 116, 84, 39, 96]
def restPre (m : List UInt8) : Bool :=
  decide (m.length ≤ 65536) && (decide (0 < m.length) && (simpleK.contains (m.getD 0 0) || (
    (m.getD 0 0 == 103 && (decide (2 ≤ m.length) && [103, 101, 69].contains (m.getD 1 0))) || (
    (argK.contains (m.getD 0 0) && (decide (2 ≤ m.length) && m.getD 1 0 != 27)) || (
    (m.getD 0 0 == 47 || m.getD 0 0 == 63) && patPre (m.drop 1))))))
def restC (m : List UInt8) (cn : Int) : Cm :=
  if simpleK.contains (m.getD 0 0) = true then (0, cn, [], m.take 1, 0, [])
  else if m.getD 0 0 = 103 then (0, cn, [], m.take 2, 0, [])
  else if argK.contains (m.getD 0 0) = true then (0, cn, [], m.take 1, m.getD 1 0, [])
  else (0, cn, [], m.take 1, 0, (m.drop 1).dropLast)
theorem not_in {l : List UInt8} {x c : UInt8} (h : l.contains x = true) (hc : l.contains c = false) : ¬ x = c := fun e => by rw [e, hc] at h; cases h

set_option maxRecDepth 20000 in
set_option maxHeartbeats 8000000 in
theorem calls_Rrest (m : List UInt8) (cn : Int) (h : restPre m = true) :
    CallsR Try.prog 19 [.sl 1 (ofBytes m), .agg (aCm (0, cn, [], [], 0, [])), .bool false] [] (.tuple [.int .i64 1, .agg (aCm (restC m cn))]) [] := by
  unfold restPre at h
  rw [Bool.and_eq_true, Bool.and_eq_true, decide_eq_true_eq, decide_eq_true_eq] at h
  obtain ⟨hml, hm0, h⟩ := h
  refine callsR_of (mrg := true) (dyn := []) (CtrOK.cons ok_has (CtrOK.cons ok_Rpattern (CtrOK.nil _))) mixed Try.func19 rfl (by simp [Try.ntmps19]) (by kernel_rfl) ?_
  rw [show Try.f19.results.toList = [.tmp 6, .cell 7 33] from by kernel_rfl]
  obtain ⟨x, hx⟩ : ∃ x, x = m.getD 0 0 := ⟨_, rfl⟩
  have hx0 : List.getD m (Int.toNat 0) 0 = x := hx.symm
  unfold restC
  rw [← hx] at h ⊢
  have m1 : (0 : Int) ≤ (m.length : Int) := by omega
  cases hs : simpleK.contains x with
  | true =>
    rw [if_pos rfl]
    have b1 := byte_lit x 105 105 rfl (not_in hs (by decide))
    have b2 := byte_lit x 97 97 rfl (not_in hs (by decide))
    unfold simpleK at hs
    simp (maxSteps := 4000000) only [↓Y8,↓Q2,↓Yg,↓Yj,↓Yi,↓Zs,↓Yl,↓Ye,Zm,Z8,Z0,gw,Zn,Y3,kselH_0,Qo,Z6,gkind,↓chk,pickO,Y9,noW,↓oneK,↓Qa,↓heapK,envOf,↓Zk,↓thenA_ret,↓Je,↓Yr,opnd,Pg.look,binK,intOp,strOp,dstOf,Qx,Zy,Zw,Zb,false_implies,implies_true,imp_self,true_and,and_true,forall_const,pickC,pickV,unc,gof,mux,Q3,Q4,valV,Qb,Qc,binV,intV,strV,cutV,Yu,Zu,Zv,Nat.reduceAdd,Yw,Yf,ofV,Ys,sameK,retA,resK,tupA,subA,subQ,Qf,frzO,subF,subG,Yv,frzE,frzC,frzL,frz0,frzH,Pg.freeze,Zg,Qg,Qh,Z2,subM,subL,srcV,srcL,ldCells,objAt,sliceL,↓callT,callC,callV,callH,Y4,normA,resL,Qp,Yk,resM,Q5,Q6,AV.cells,TK.cells,AV.definite,AV.leaf,AV.leafy,putCells,lay,Op.operands,Call.operands,Zl,Zh,Zc,Za,Zo,Z3,Z4,Ym,reduceCtorEq,Nat.reduceEqDiff,Nat.reduceAdd,Zj,Zf,Zz,Zp,Ze,Z5,Z9,Zr,Y0,Ya,Int.reduceToNat,ite_true,ite_false,Option.some.injEq,Y1,AV.str.injEq,Prod.mk.injEq,Yb,Yh,Zx,and_self,exists_eq_left',Y2,Zi,Z7,Q9,Ja,Qv,Int.reduceLE,Qj,Jd,Y5,lCons_dec,dec2_some,Zd,beq_self_eq_true,Yc,Zq,Qq,Y6,Q7,Q8,Yx,Yy,Yz,Yo,Qy,cutL,Qt,Yp,Yq,Qu,Jb,Nat.reduceLeDiff,Jc,Qz,Q0,Qk,Y7,Qr,Z1,Yt,Qd,Qe,selC_true,Zt,pureC,↓msel,muC,↓callP,Qs,mapAt,tk5,dz5,tk9,tk24,tk33,tz33,dz33,kHas,← hx,b1,b2,hs]
    (repeat' first | (show dynOrd _ _ = true; kernel_rfl) | exact subX_eq rfl rfl | exact trivial | apply And.intro | rfl | omega | decide)
  | false =>
    rw [if_neg (by simp)]
    rw [hs, Bool.false_or] at h
    unfold simpleK at hs
    by_cases hg : x = 103
    · rw [if_pos hg]
      subst hg
      have h2 : (((103 : UInt8) == 103) && (decide (2 ≤ m.length) && [103, 101, 69].contains (m.getD 1 0))) = true := by
        rw [Bool.or_eq_true] at h
        rcases h with h | h
        · exact h
        · exact absurd h (by simp [argK])
      rw [Bool.and_eq_true, Bool.and_eq_true, decide_eq_true_eq] at h2
      obtain ⟨_, h3, h4⟩ := h2
      have c1 : decide ((m.length : Int) < 2) = false := decide_eq_false (by omega)
      simp (maxSteps := 4000000) only [↓Y8,↓Qn,↓Q2,↓Yg,↓Yj,↓Yi,↓Zs,↓Yl,↓Ye,Zm,Z8,Z0,gw,Zn,Y3,kselH_0,Qo,Z6,gkind,↓chk,pickO,Y9,noW,↓oneK,↓Qa,↓heapK,envOf,↓Zk,↓thenA_ret,↓Je,↓Yr,opnd,Pg.look,binK,intOp,strOp,dstOf,Qx,Zy,Zw,Zb,false_implies,implies_true,imp_self,true_and,and_true,forall_const,pickC,pickV,unc,gof,mux,Q3,Q4,valV,Qb,Qc,binV,intV,strV,cutV,Yu,Zu,Zv,Nat.reduceAdd,Yw,Yf,ofV,Ys,sameK,retA,resK,tupA,subA,subQ,Qf,frzO,subF,subG,Yv,frzE,frzC,frzL,frz0,frzH,Pg.freeze,Zg,Qg,Qh,Z2,subM,subL,slen,srcV,srcL,ldCells,objAt,sliceL,↓callT,callC,callV,callH,Y4,normA,resL,Qp,Yk,resM,Q5,Q6,AV.cells,TK.cells,AV.definite,AV.leaf,AV.leafy,putCells,lay,Op.operands,Call.operands,Zl,Zh,Zc,Za,Zo,Z3,Z4,Ym,reduceCtorEq,Nat.reduceEqDiff,Nat.reduceAdd,Zj,Zf,Zz,Zp,Ze,Z5,Z9,Zr,Y0,Ya,Int.reduceToNat,ite_true,ite_false,Option.some.injEq,Y1,AV.int.injEq,AV.str.injEq,Prod.mk.injEq,Yb,Yh,Zx,and_self,exists_eq_left',Y2,Zi,Z7,Q9,Ja,Qv,cByte_lit,Int.reduceLE,Int.reduceLT,UInt8.reduceOfNat,Qj,Jd,Y5,lCons_dec,dec2_some,Zd,beq_self_eq_true,Yc,Int.reduceBEq,Zq,Qq,Y6,Q7,Q8,Yx,Yy,Yz,Yo,Qy,cutL,Qt,Yp,Yq,Qu,Jb,Nat.reduceLeDiff,Jc,Qz,Q0,Qk,Y7,Qr,Z1,Yt,Qd,Qe,selC_true,Zt,pureC,↓msel,muC,↓callP,Qs,mapAt,tk5,dz5,tk9,tk24,tk33,tz33,dz33,kHas,← hx,hs,UInt8.reduceToNat,c1,h4]
      (repeat' first | (show dynOrd _ _ = true; kernel_rfl) | exact subX_eq rfl rfl | exact trivial | apply And.intro | rfl | omega | decide)
    · rw [if_neg hg]
      have hg2 : (x == 103) = false := beq_eq_false_iff_ne.2 hg
      rw [hg2, Bool.false_and, Bool.false_or] at h
      have bg := byte_lit x 103 103 rfl hg
      cases ha : argK.contains x with
      | true =>
        rw [if_pos rfl]
        have h2 : (decide (2 ≤ m.length) && m.getD 1 0 != 27) = true := by
          rw [ha, Bool.true_and, Bool.or_eq_true] at h
          rcases h with h | h
          · exact h
          · rw [Bool.and_eq_true, Bool.or_eq_true, beq_iff_eq, beq_iff_eq] at h
            rcases h.1 with h | h
            · exact absurd h (not_in ha (by decide))
            · exact absurd h (not_in ha (by decide))
        rw [Bool.and_eq_true, decide_eq_true_eq, bne_iff_ne] at h2
        have b1 := byte_lit x 105 105 rfl (not_in ha (by decide))
        have b2 := byte_lit x 97 97 rfl (not_in ha (by decide))
        have b3 := byte_lit x 13 13 rfl (not_in ha (by decide))
        have c1 : decide ((m.length : Int) < 2) = false := decide_eq_false (by omega)
        have b4 := byte_lit (m.getD 1 0) 27 27 rfl h2.2
        unfold argK at ha
        simp (maxSteps := 4000000) only [↓Y8,↓Qn,↓Q2,↓Yg,↓Yj,↓Yi,↓Zs,↓Yl,↓Ye,Zm,Z8,Z0,gw,Zn,Y3,kselH_0,Qo,Z6,gkind,↓chk,pickO,Y9,noW,↓oneK,↓Qa,↓heapK,envOf,↓Zk,↓thenA_ret,↓Je,↓Yr,opnd,Pg.look,binK,intOp,strOp,dstOf,Qx,Zy,Zw,Zb,false_implies,implies_true,imp_self,true_and,and_true,forall_const,pickC,pickV,unc,gof,mux,Q3,Q4,valV,Qb,Qc,binV,intV,strV,cutV,Yu,Zu,Zv,Nat.reduceAdd,Yw,Yf,ofV,Ys,sameK,retA,resK,tupA,subA,subQ,Qf,frzO,subF,subG,Yv,frzE,frzC,frzL,frz0,frzH,Pg.freeze,Zg,Qg,Qh,Z2,subM,subL,slen,srcV,srcL,ldCells,objAt,sliceL,↓callT,callC,callV,callH,Y4,normA,resL,Qp,Yk,resM,Q5,Q6,AV.cells,TK.cells,AV.definite,AV.leaf,AV.leafy,putCells,lay,Op.operands,Call.operands,Zl,Zh,Zc,Za,Zo,Z3,Z4,Ym,reduceCtorEq,Nat.reduceEqDiff,Nat.reduceAdd,Zj,Zf,Zz,Zp,Ze,Z5,Z9,Zr,Y0,Ya,Int.reduceToNat,ite_true,ite_false,Option.some.injEq,Y1,AV.int.injEq,AV.str.injEq,Prod.mk.injEq,Yb,Yh,Zx,and_self,exists_eq_left',Y2,Zi,Z7,Q9,Ja,Qv,Int.reduceLE,Qj,Jd,Y5,lCons_dec,dec2_some,Zd,beq_self_eq_true,Yc,Zq,Qq,Y6,Q7,Q8,Yx,Yy,Yz,Yo,Qy,cutL,Qt,Yp,Yq,Qu,Jb,Nat.reduceLeDiff,Jc,Qz,Q0,Qk,Y7,Qr,Z1,Yt,Qd,Qe,selC_true,Zt,pureC,↓msel,muC,↓callP,Qs,mapAt,tk5,dz5,tk9,tk24,tk33,tz33,dz33,kHas,← hx,b1,b2,b3,b4,bg,hs,ha,c1]
        (repeat' first | (show dynOrd _ _ = true; kernel_rfl) | exact subX_eq rfl rfl | exact trivial | apply And.intro | rfl | omega | decide)
      | false =>
        rw [if_neg (by simp)]
        rw [ha, Bool.false_and, Bool.false_or, Bool.and_eq_true, Bool.or_eq_true, beq_iff_eq, beq_iff_eq] at h
        unfold argK at ha
        obtain ⟨h1, h2⟩ := h
        rcases h1 with rfl | rfl
        all_goals
          simp (maxSteps := 4000000) only [↓Y8,↓Q2,↓Yg,↓Yj,↓Yi,↓Zs,↓Yl,↓Ye,Zm,Z8,Z0,gw,Zn,Y3,kselH_0,Qo,Z6,gkind,↓chk,pickO,Y9,noW,↓oneK,↓Qa,↓heapK,envOf,↓Zk,↓thenA_ret,↓Je,↓Yr,opnd,Pg.look,binK,intOp,strOp,dstOf,Qx,Zy,Zw,Zb,Yd,false_implies,implies_true,imp_self,true_and,and_true,forall_const,pickC,pickV,unc,gof,mux,Q3,Q4,valV,Qb,Qc,binV,intV,strV,cutV,Yu,Zu,Zv,Nat.reduceAdd,Yw,Yf,ofV,Ys,sameK,retA,resK,tupA,subA,subQ,Qf,frzO,subF,subG,Yv,frzE,frzC,frzL,frz0,frzH,Pg.freeze,Zg,Qg,Qh,Z2,subM,subL,srcV,srcL,ldCells,objAt,sliceL,↓callT,callC,callV,callH,Y4,normA,normC,resL,Qp,Yk,resM,Q5,Q6,AV.cells,TK.cells,AV.definite,AV.leaf,AV.leafy,putCells,lay,Op.operands,Call.operands,Zl,Zh,Zc,Za,Zo,Z3,Z4,Ym,reduceCtorEq,Nat.reduceEqDiff,Nat.reduceAdd,Zj,Zf,Zz,Zp,Ze,Z5,Z9,Zr,Y0,Ya,Int.reduceToNat,ite_true,ite_false,Option.some.injEq,Y1,AV.str.injEq,Prod.mk.injEq,Yb,Yh,Zx,and_self,exists_eq_left',Y2,cInt_dec,Zi,Z7,Q9,drop_ofBytes,Ja,cByte_lit,Int.reduceLE,Int.reduceLT,UInt8.reduceOfNat,decL_byte,Qj,Jd,cSl_dec,cAgg_dec,Y5,lCons_dec,dec2_some,Zd,beq_self_eq_true,Yc,Int.reduceBEq,Zq,Qq,Y6,Q7,Q8,Yx,Yy,Yz,Yo,Qy,cutL,Qt,Yp,Yq,Qu,Jb,Nat.reduceLeDiff,Jc,Qz,Q0,Qk,Y7,Qr,Z1,Yt,Qd,Qe,selC_true,Zt,pureC,↓msel,muC,↓callP,Qs,mapAt,tk5,dz5,tk9,tk24,tk33,tz33,dz33,kHas,kRPattern,← hx,hs,ha,UInt8.reduceToNat]
          (repeat' first | exact h2 | (show dynOrd _ _ = true; kernel_rfl) | exact subX_eq rfl rfl | exact trivial | apply And.intro | rfl | omega | decide)
end Go.Pg
