/- Any script of marks and changes. -/
import Derived.Test.YtohpkjpipihdoaaPgFx7
namespace Go.Pg
open Go Go.Proofs

def fR (a o w : Int) (v : Int × Int) : Option (Int × Int) := if (shiftR13 v.1 a o w).2 = true then some ((shiftR13 v.1 a o w).1, v.2) else none
def fM (a o w : Int) (v : Int × Int) : Option (Int × Int) := if (shiftM v.1 a o w).2 = true then some ((shiftM v.1 a o w).1, v.2) else none
theorem adjM_sift (a o w : Int) (m : Mks) : adjM a o w m = sift (fM a o w) m := by
  unfold adjM sift
  congr 1
  funext x
  unfold stp fM
  split <;> rfl
theorem adj_sift (a o w : Int) (z : Mks) : adj a o w ((zN z).zip (zP z)) = sift (fR a o w) z := by
  have hz : (zN z).zip (zP z) = z := zip_self z
  rw [hz]
  unfold adj sift
  congr 1
  funext x
  unfold fR
  split <;> rfl
theorem sift_congr {ν : Type} {F G : ν → Option ν} (l : List (UInt8 × ν)) (h : ∀ x ∈ l, F x.2 = G x.2) : sift F l = sift G l := by
  induction l with
  | nil => rfl
  | cons x r ih => rw [sift_cons, sift_cons, h x List.mem_cons_self, ih fun y hy => h y (List.mem_cons_of_mem _ hy)]
/-! ### The script -/
theorem tmod_bd (x m : Int) (hm : 0 < m) : -m < x.tmod m ∧ x.tmod m < m := by
  have h1 := Int.tmod_lt_of_pos x hm
  have h2 := Int.tmod_lt_of_pos (-x) hm
  rw [Int.neg_tmod] at h2
  exact ⟨by omega, h1⟩
theorem shiftM_bd (x a o w B : Int) (hB : 0 ≤ B) (hB2 : B ≤ 10000) (hx : -B ≤ x ∧ x ≤ B) (ho : -8 < o ∧ o < 8) (hw : -8 < w ∧ w < 8) : -(B + 14) ≤ (shiftM x a o w).1 ∧ (shiftM x a o w).1 ≤ B + 14 := by
  unfold shiftM
  have e2 : w64 (w - o) = w - o := wrap64 (by omega) (by omega)
  have e3 : w64 (x + (w - o)) = x + (w - o) := wrap64 (by omega) (by omega)
  rw [e2, e3]
  split
  · show -(B + 14) ≤ x ∧ x ≤ B + 14; omega
  · split
    · show -(B + 14) ≤ x + (w - o) ∧ x + (w - o) ≤ B + 14; omega
    · split
      · show -(B + 14) ≤ x ∧ x ≤ B + 14; omega
      · show -(B + 14) ≤ 0 ∧ 0 ≤ B + 14; omega

theorem zSet_mem {ν : Type} {b : UInt8} {p : ν} : ∀ {l : List (UInt8 × ν)} {y}, y ∈ zSet b p l → y = (b, p) ∨ y ∈ l := by
  intro l
  induction l with
  | nil => intro y h; simp only [zSet, List.mem_singleton] at h; exact .inl h
  | cons x r ih =>
    intro y h
    simp only [zSet] at h
    split at h
    · rcases List.mem_cons.1 h with rfl | h
      · exact .inr List.mem_cons_self
      · exact (ih h).imp id (List.mem_cons_of_mem _)
    · split at h
      · rcases List.mem_cons.1 h with rfl | h
        · exact .inl rfl
        · exact .inr (List.mem_cons_of_mem _ h)
      · rcases List.mem_cons.1 h with rfl | h
        · exact .inl rfl
        · exact .inr h
/-- The name of an act. -/
def actName (b : UInt8) : UInt8 := if b.toNat % 4 > 0 then UInt8.ofNat (96 + b.toNat % 27) else b
abbrev Act13 := UInt8 × UInt8 × ((Int × Int × Unit) × Int × Int × Int × Unit)
def aAct (a : Act13) : AV := .agg [.int .u8 a.1.toNat, .int .u8 a.2.1.toNat, .int .i64 a.2.2.1.1, .int .i64 a.2.2.1.2.1, .int .i64 a.2.2.2.1, .int .i64 a.2.2.2.2.1, .int .i64 a.2.2.2.2.2.1]
theorem getD_acts (l : List Act13) (i : Nat) : (l.map aAct).getD i (.agg [.int .u8 0, .int .u8 0, .int .i64 0, .int .i64 0, .int .i64 0, .int .i64 0, .int .i64 0]) = aAct (l.getD i (0, 0, ((0, 0, ()), 0, 0, 0, ()))) := getD_map aAct l i (0, 0, ((0, 0, ()), 0, 0, 0, ()))

theorem cLawP : CtrOK Try.prog [(15, kKnown13), (18, kNew), (19, kSet), (20, kSet13), (23, kGet), (24, kGet13), (21, kAdjust), (22, kAdjust13), (25, kNamesB)] :=
  CtrOK.cons ok_known13 (CtrOK.cons ok_New (CtrOK.cons ok_Set (CtrOK.cons ok_Set13 (CtrOK.cons ok_Get (CtrOK.cons ok_Get13 (CtrOK.cons ok_Adjust (CtrOK.cons ok_Adjust13 (CtrOK.cons ok_NamesB (CtrOK.nil _)))))))))

set_option maxRecDepth 20000 in
set_option maxHeartbeats 40000000 in
theorem calls_MarksPlay (l : List Act13) (name : UInt8) (hbig : l.length ≤ 9223372036854775807) : CallsR Try.prog 4 [.sl 7 (l.map aAct), .int .u8 name.toNat] [] (.bool true) [] := by
  refine callsR_of (mrg := true) (dyn := [15, 27]) (cLawP) mixed Try.func4 rfl (by simp [Try.ntmps4]) (by kernel_rfl) ?_
  rw [show Try.f4.results.toList = [.tmp 4] from by kernel_rfl]
  by_cases hl : l.length > 50
  · have hc : decide ((l.length : Int) > 50) = true := decide_eq_true (by omega)
    simp (maxSteps := 4000000) only [↓wpA_H, ↓wpH_skip, ↓wpH_ret, ↓wpH_seq, ↓wpH_cond, ↓wpH_region, ↓iselH_true, ↓iselH_false, bselH_false, runH_nil, runH_cons, gw, gselH_plain, cselH_bool, ↓chk, justK, ↓oneK, ↓pureK, envOf, ↓thenA_normal, ↓thenA_ret, ↓stepEv, opnd, Pg.look, binK, intOp, Bool.not_true, Bool.false_eq_true, false_implies, implies_true, imp_self, true_and, and_true, valV, heapV, footV, binV, intV, alives, closeQ_nil, diagQ_zero, ofV, ofLeaf, retA, resK, tupA, subA, subQ, ptrsE, frzO, subF, subG, pickOf, frzE, frzC, frz0, frzH, Pg.freeze, List.foldl_nil, subOs, subEv, subV_succ, subM, slen, ↓callT, callC, callV, callH, normArgs, resL, shiftR, shift1, Option.getD_some, reduceCtorEq, Nat.reduceEqDiff, List.nil_append, List.append_nil, List.cons_append, List.length_nil, List.map_nil, Nat.zero_add, ite_true, ite_false, Option.some.injEq, AV.int.injEq, Prod.mk.injEq, and_self, exists_eq_left', pickOK_nil, List.length_map, lNil_dec, List.contains_cons, List.contains_nil, Nat.reduceBEq, Bool.or_self, List.range'_zero, C1by_ns, C1by_pre, C1by_r, C1by_H, optP_some, optV_some, optH_some, C1by_it, regH_none, isNext, nextF, nextG, selC_false, ↓msel, muC, ↓callP, C1by_mu, C1mby_mu, tk28, kKnown13, kNew, kSet, kSet13, kGet, kGet13, kAdjust, kAdjust13, kNamesB, List.length_map, hc]
  have hc : decide ((l.length : Int) > 50) = false := decide_eq_false (by omega)
  simp (maxSteps := 4000000) only [↓wpA_H, ↓wpH_skip, ↓wpH_seq, ↓wpH_cond, ↓wpH_block, ↓wpH_loop, ↓wpH_region, ↓iselH_false, bselH_false, runH_nil, runH_cons, gw, gselH_plain, cselH_bool, ↓chk, justK, noW, ↓oneK, ↓pureK, ↓heapK, envOf, ↓thenA_normal, ↓stepEv, opnd, Pg.look, binK, intOp, Bool.not_false, Bool.not_true, Bool.false_eq_true, false_implies, implies_true, imp_self, true_and, and_true, valV, heapV, footV, binV, intV, Nat.reduceAdd, ofV, ofLeaf, Pg.freeze, List.foldl_nil, slen, ↓callT, callC, callV, callH, normArgs, resL, shiftR, shift1, AV.cells, AV.definite, buildL, Option.getD_some, reduceCtorEq, Nat.reduceEqDiff, Nat.reduceAdd, List.nil_append, List.append_nil, List.cons_append, List.length_cons, List.length_nil, List.map_cons, List.map_nil, Nat.zero_add, ite_true, ite_false, Option.some.injEq, Option.isSome_some, AV.int.injEq, AV.agg.injEq, Prod.mk.injEq, List.all_cons, List.all_nil, Bool.and_self, and_self, exists_eq_left', List.length_map, lNil_dec, List.contains_cons, List.contains_nil, Nat.reduceBEq, Bool.or_self, List.range'_zero, C1by_ns, C1by_pre, C1by_r, C1by_H, optP_some, optV_some, optH_some, List.getD_cons_zero, List.getD_cons_succ, C1by_it, regH_none, isNext, nextF, nextG, selC_false, ↓msel, muC, ↓callP, ↓callU, ↓callUV, ↓callUH, ↓callUF, C1by_mu, C1mby_mu, runM_eq, mkM_some, hNil_dec, encE_nil, pickF, nodupB, somes, fresh, gids, gid, putO, ren, renL, renO, List.range'_succ, tk28, tk35, tz35, kKnown13, kNew, kSet, kSet13, kGet, kGet13, kAdjust, kAdjust13, kNamesB, List.length_map, hMarks, mkH, hc]
  refine loopH_intro (α := Nat × Mks × Mks) (fun x => ([(7, .int .i64 x.1), (0, .sl 7 (l.map aAct)), (1, .int .u8 name.toNat), (5, .ptr 0 1 1 0 0), (6, .ptr 2 2 1 0 0)], mkH x.2.1 ++ [.arr 35 2 [.agg [.own 3 1 x.2.2.length, .own 4 2 x.2.2.length]], .arr 5 1 (ofBytes (zN x.2.2)), .arr 37 2 (aPs (zP x.2.2))]))
    (fun x => x.1 ≤ l.length ∧ Rm x.2.1 x.2.2 ∧ (∀ k ∈ keysOf x.2.1, nameOk k = true) ∧ ∀ y ∈ x.2.2, -(60 + 14 * x.1 : Int) ≤ y.2.1 ∧ y.2.1 ≤ 60 + 14 * x.1) (fun x => l.length - x.1) (0, [], []) ⟨Nat.zero_le _, Rm.nil, fun k hk => by (cases hk), fun y hy => by (cases hy)⟩ ?_ ?_
  · simp (maxSteps := 4000000) only [Pg.look, Bool.and_true, Bool.false_eq_true, true_and, and_true, alives, aliveO, nxtQ, hdS, pairsA, frzA, closeQ_nil, closeQ_succ, diagQ_zero, Nat.reduceAdd, subA, subQ, ptrsE, pairsO, frzO, subF, subG, pickOf, assocN, pairsE, pairsC, pairsL, pairs0, frzE, frzC, frzL, frz0, frzH, Pg.freeze, List.foldl_nil, subOs, subO, subEv, subV_succ, subM, AV.cells, AV.pureLeaf, AV.pureB, List.getElem?_cons_succ, List.getElem?_cons_zero, reduceCtorEq, Nat.reduceEqDiff, Nat.reduceAdd, List.nil_append, List.append_nil, List.cons_append, List.length_nil, List.map_nil, Nat.zero_add, ite_true, ite_false, List.all_cons, List.all_nil, Bool.and_self, and_self, Int.cast_ofNat_Int, Nat.lt_irrefl, Nat.not_lt_zero, encE_nil, mkH]
    (repeat' first | exact rfl | apply And.intro | exact subX_eq rfl (pureB_bytes _) | exact subX_eq rfl (pureB_aPs _) | exact subX_eq rfl rfl | decide | omega | apply subX_one)
    all_goals try simp (maxSteps := 4000000) only [subL]
  rintro ⟨i, m, z⟩ ⟨gi, gR, gk, gb⟩
  have hi : i ≤ l.length := gi
  have hR : Rm m z := gR
  have hk : ∀ k ∈ keysOf m, nameOk k = true := gk
  have hb : ∀ y ∈ z, -(60 + 14 * i : Int) ≤ y.2.1 ∧ y.2.1 ≤ 60 + 14 * i := gb
  clear gi gR gk gb
  by_cases hlt : i < l.length
  · have hc1 : decide ((i : Int) < (l.length : Int)) = true := decide_eq_true (by omega)
    have w1 : IntKind.i64.wrap ((i : Int) + 1) = ((i + 1 : Nat) : Int) := by rw [wrap64 (by omega) (by omega)]; omega
    obtain ⟨act, hact⟩ : ∃ a, a = l.getD i (0, 0, ((0, 0, ()), 0, 0, 0, ())) := ⟨_, rfl⟩
    obtain ⟨what, nm, ⟨ln, cl, u1⟩, at_, old, now, u2⟩ := act
    have hget : (l.map aAct).getD i (.agg [.int .u8 0, .int .u8 0, .int .i64 0, .int .i64 0, .int .i64 0, .int .i64 0, .int .i64 0]) = .agg [.int .u8 what.toNat, .int .u8 nm.toNat, .int .i64 ln, .int .i64 cl, .int .i64 at_, .int .i64 old, .int .i64 now] := by
      rw [getD_acts, ← hact]; rfl
    have hnm := nm.toNat_lt
    have hwh := what.toNat_lt
    obtain ⟨ln', hln⟩ : ∃ x, x = ln.tmod 60 := ⟨_, rfl⟩
    have bln := tmod_bd ln 60 (by omega)
    rw [← hln] at bln
    obtain ⟨at', hat⟩ : ∃ x, x = at_.tmod 30 := ⟨_, rfl⟩
    have bat := tmod_bd at_ 30 (by omega)
    rw [← hat] at bat
    obtain ⟨old', hold⟩ : ∃ x, x = old.tmod 8 := ⟨_, rfl⟩
    have bold := tmod_bd old 8 (by omega)
    rw [← hold] at bold
    obtain ⟨now', hnow⟩ : ∃ x, x = now.tmod 8 := ⟨_, rfl⟩
    have bnow := tmod_bd now 8 (by omega)
    rw [← hnow] at bnow
    have hz27 : z.length ≤ 27 := asc_len 123 z 96 hR.asc fun x hx => nameOk_range (hk x.1 ((hR.mem x.1).1 (List.mem_map.2 ⟨x, hx, rfl⟩)))
    obtain ⟨c, hcd⟩ : ∃ c, c = actName nm := ⟨_, rfl⟩
    by_cases hn4 : nm.toNat % 4 > 0
    · have hcn : decide (((nm.toNat : Int).tmod 4) > 0) = true := decide_eq_true (by rw [show (nm.toNat : Int).tmod 4 = ((nm.toNat % 4 : Nat) : Int) from rfl]; omega)
      have hct : c.toNat = 96 + nm.toNat % 27 := by rw [hcd, actName, if_pos hn4, UInt8.toNat_ofNat', Nat.mod_eq_of_lt (by omega)]
      have wnm : IntKind.u8.wrap (96 + (nm.toNat : Int).tmod 27) = (c.toNat : Int) := by
        rw [show (nm.toNat : Int).tmod 27 = ((nm.toNat % 27 : Nat) : Int) from rfl, hct, show (96 : Int) + ((nm.toNat % 27 : Nat) : Int) = ((96 + nm.toNat % 27 : Nat) : Int) by omega]
        simp [IntKind.wrap, IntKind.bits, IntKind.signed]
        omega
      by_cases hw2 : what.toNat % 3 < 2
      · have hca : decide (((what.toNat : Int).tmod 3) < 2) = true := decide_eq_true (by rw [show (what.toNat : Int).tmod 3 = ((what.toNat % 3 : Nat) : Int) from rfl]; omega)
        obtain ⟨m', hm'⟩ : ∃ x, x = if nameOk c = true then upd c (ln', cl) m else m := ⟨_, rfl⟩
        obtain ⟨z', hz'⟩ : ∃ x, x = if nameOk c = true then zSet c (ln', cl) z else z := ⟨_, rfl⟩
        have hs : (if nameOk c = true then rSet (zN z) (zP z) c (ln', cl) else (zN z, zP z)) = (zN z', zP z') := by
          rw [hz']
          split
          · exact rSet_z c (ln', cl) z hR.asc
          · rfl
        have hR' : Rm m' z' := by
          rw [hm', hz']
          split
          · exact hR.set c _
          · exact hR
        have hk' : ∀ k ∈ keysOf m', nameOk k = true := by
          rw [hm']
          split
          · next hok =>
            intro k hkk
            rcases (keys_upd c _ m k).1 hkk with rfl | h
            · exact hok
            · exact hk k h
          · exact hk
        have hb' : ∀ y ∈ z', -(60 + 14 * (i + 1 : Nat) : Int) ≤ y.2.1 ∧ y.2.1 ≤ 60 + 14 * (i + 1 : Nat) := by
          intro y hy
          have hmem : y = (c, (ln', cl)) ∨ y ∈ z := by
            rw [hz'] at hy
            split at hy
            · exact zSet_mem hy
            · exact .inr hy
          rcases hmem with rfl | h
          · show -(60 + 14 * (i + 1 : Nat) : Int) ≤ ln' ∧ ln' ≤ 60 + 14 * (i + 1 : Nat)
            omega
          · have := hb y h
            omega
        simp (maxSteps := 4000000) only [↓wpA_H, ↓wpH_skip, ↓wpH_seq, ↓wpH_cond, ↓wpH_block, ↓wpH_loop, ↓wpH_region, bselH_true, ↓iselH_true, ↓iselH_false, bselH_false, runH_nil, runH_cons, gw, gselH_plain, cselH_bool, ↓chk, justK, noW, ↓oneK, ↓pureK, ↓heapK, ↓thenA_normal, ↓stepEv, opnd, Pg.look, binK, intOp, Bool.not_false, Bool.not_true, Bool.false_eq_true, implies_true, true_and, and_true, forall_const, valV, heapV, footV, binV, intV, Nat.reduceAdd, ofV, ofLeaf, Pg.freeze, List.foldl_nil, slen, ldCells, objAt, ↓callT, normA, resL, res8_eq, res_succ, resM, AV.cells, TK.cells, AV.definite, AV.leaf, AV.leafy, putCells, lay, buildL, List.getElem?_cons_succ, List.getElem?_cons_zero, Option.getD_some, reduceCtorEq, Nat.reduceEqDiff, Nat.reduceAdd, Nat.reduceSub, List.nil_append, List.append_nil, List.cons_append, List.length_cons, List.length_nil, List.map_cons, List.map_nil, List.set_cons_zero, List.set_cons_succ, Nat.zero_add, ite_true, ite_false, Option.some.injEq, Option.isSome_some, AV.int.injEq, AV.agg.injEq, ne_eq, List.all_cons, List.all_nil, Bool.and_self, and_self, exists_eq_left', List.length_map, rg4, length_ofBytes, cByte_dec, decL_byte, List.contains_cons, List.contains_nil, Nat.reduceBEq, Bool.or_self, Bool.or_false, beq_self_eq_true, Int.cast_ofNat_Int, List.range'_zero, Nat.reducePow, Int.toNat_natCast, List.getD_cons_zero, List.getD_cons_succ, cutL, List.drop_zero, List.drop_succ_cons, List.take_succ_cons, List.take_zero, Nat.add_zero, Nat.sub_zero, Nat.sub_self, Nat.reduceLeDiff, Nat.le_refl, Nat.mul_one, List.drop_nil, List.take_nil, Nat.zero_lt_succ, regH_none, isNext, nextF, nextG, selC_false, ↓msel, muC, ↓callU, ↓callUV, ↓callUH, ↓callUF, C1by_mu, C1mby_mu, runM_eq, mkM_some, hNil_dec, hCons_dec, app3_some, hP_dec, hP1_some, hP2_some, hO1_some, hO2_arr, hOwn_dec, hM1_mp, hMp_dec, hB1_some, hB2_arr, hBox_dec, hAgg_dec, encE_nil, pickF, nodupB, somes, fresh, gids, gid, putO, ren, renL, renO, List.range'_succ, tk3, tk4, tk5, eb5, tk28, tk32, tk37, tz37, dz37, tk39, tz39, dz39, kKnown13, kNew, kSet, kSet13, kGet, kGet13, kAdjust, kAdjust13, kNamesB, hMarks, hRef, mkH, rH', cPos_dec, decE_pos, decL_aPs, hc1, hget, length_aPs, renL_aPs, List.length_map, renL_bytes, ← hln, ← hm', hcn, hca, hs, wnm]
        repeat (first | refine And.intro ⟨by omega, by omega⟩ ?_ | refine And.intro (by omega) ?_ | refine And.intro (by decide) ?_ | refine And.intro hR.nd ?_ | refine And.intro (by kernel_rfl) ?_)
        have hmz := hR'.len
        have hz27' : z'.length ≤ 27 := asc_len 123 z' 96 hR'.asc fun x hx => nameOk_range (hk' x.1 ((hR'.mem x.1).1 (List.mem_map.2 ⟨x, hx, rfl⟩)))
        obtain ⟨L, hL⟩ : ∃ L : List UInt8, L = [c, name, 96, 97] := ⟨_, rfl⟩
        have hL4 : L.length = 4 := by rw [hL]; rfl
        refine loopH_intro (α := Nat) (fun k => ([(90, .int .i64 k), (89, .int .i64 4), (88, .own 5 1 4), (7, .int .i64 i), (0, .sl 7 (l.map aAct)), (1, .int .u8 name.toNat), (5, .ptr 0 1 1 0 0), (6, .ptr 2 2 1 0 0)], mkH m' ++ [.arr 35 2 [.agg [.own 3 1 z'.length, .own 4 2 z'.length]], .arr 5 1 (ofBytes (zN z')), .arr 37 2 (aPs (zP z')), .arr 5 1 (ofBytes L)]))
          (fun k => k ≤ 4) (fun k => 4 - k) 0 (Nat.zero_le _) ?_ ?_
        · rw [hL]
          simp (maxSteps := 4000000) only [Pg.look, Bool.and_true, Bool.false_eq_true, true_and, and_true, alives, aliveO, nxtQ, hdS, pairsA, frzA, closeQ_nil, closeQ_succ, diagQ_zero, Nat.reduceAdd, subA, subQ, ptrsE, pairsO, frzO, subF, subG, pickOf, assocN, pairsE, pairsC, pairsL, pairs0, frzE, frzC, frzL, frz0, frzH, Pg.freeze, List.foldl_nil, subOs, subO, subEv, subV_succ, subM, AV.cells, AV.pureLeaf, AV.pureB, List.getElem?_cons_succ, List.getElem?_cons_zero, reduceCtorEq, Nat.reduceEqDiff, Nat.reduceAdd, List.nil_append, List.append_nil, List.cons_append, Nat.zero_add, ite_true, ite_false, List.all_cons, List.all_nil, Bool.and_self, and_self, pureB_bytes, Int.cast_ofNat_Int, Nat.lt_irrefl, Nat.not_lt_zero, mkH, pureB_aPs]
          (repeat' first | exact rfl | apply And.intro | exact subX_eq rfl (pureB_bytes _) | exact subX_eq rfl (pureB_aPs _) | exact subX_eq rfl rfl | decide | omega | apply subX_one)
          all_goals try simp (maxSteps := 4000000) only [subL]
        intro k gk
        have hk4 : k ≤ 4 := gk
        clear gk
        by_cases hkl : k < 4
        · have hck : decide ((k : Int) < 4) = true := decide_eq_true (by omega)
          have wk : IntKind.i64.wrap ((k : Int) + 1) = ((k + 1 : Nat) : Int) := by rw [wrap64 (by omega) (by omega)]; omega
          have hg1 : rGet (L.getD k 0) (zN z') (zP z') = look1 (L.getD k 0) m' := by rw [rGet_z, hR'.get]
          simp (maxSteps := 4000000) only [↓wpA_H, ↓wpH_skip, ↓wpH_seq, ↓wpH_cond, ↓wpH_block, ↓wpH_region, ↓iselH_true, ↓iselH_false, bselH_false, runH_nil, runH_cons, gw, gselH_plain, gselH_if, kselH_1, cselH_bool, gkind, ↓chk, justK, noW, ↓oneK, ↓pureK, ↓heapK, ↓thenA_normal, ↓blockA_normal, ↓stepEv, opnd, Pg.look, binK, intOp, cellsEq, leafEq, dstOf, Bool.and_true, Bool.not_false, Bool.not_true, Bool.false_eq_true, implies_true, true_and, and_true, pickC, pickV, unc, gof, mux, mergeK, condsL, valV, heapV, footV, binV, intV, alives, aliveO, nxtQ, hdS, pairsA, frzA, closeQ_nil, closeQ_succ, diagQ_zero, Nat.reduceAdd, mergeable, look_stripE, ofV, ofLeaf, sameK, subA, subQ, ptrsE, pairsO, frzO, subF, subG, pickOf, assocN, pairsE, pairsC, pairsL, pairs0, frzE, frzC, frzL, frz0, frzH, Pg.freeze, List.foldl_nil, subOs, subO, subEv, subV_succ, subM, ldCells, objAt, ↓callT, normA, res8_eq, res_succ, resM, AV.cells, TK.cells, AV.definite, AV.leaf, AV.leafy, AV.pureLeaf, AV.pureB, putCells, lay, Op.operands, List.getElem?_toArray, List.getElem?_cons_succ, List.getElem?_cons_zero, Option.bind_some, Option.getD_some, reduceCtorEq, Nat.reduceEqDiff, Nat.reduceAdd, Nat.reduceSub, List.nil_append, List.append_nil, List.cons_append, List.length_cons, List.length_nil, List.map_cons, List.map_nil, List.set_cons_zero, List.set_cons_succ, Nat.zero_add, ite_true, ite_false, Option.some.injEq, List.all_cons, List.all_nil, Bool.and_self, and_self, exists_eq_left', List.length_map, List.toList_toArray, length_ofBytes, getD_ofBytes, cByte_dec, decL_byte, pureB_bytes, List.contains_cons, List.contains_nil, Nat.reduceBEq, Bool.or_self, beq_self_eq_true, Int.cast_ofNat_Int, List.range'_zero, Int.toNat_natCast, List.getD_cons_zero, List.getD_cons_succ, cutL, List.drop_zero, List.drop_succ_cons, List.take_succ_cons, List.take_zero, Nat.sub_zero, Nat.sub_self, Nat.le_refl, Nat.lt_irrefl, List.drop_nil, List.take_nil, Nat.not_lt_zero, Nat.zero_lt_succ, regH_none, isNext, nextF, nextG, selC_false, ↓msel, muC, ↓callU, ↓callUV, ↓callUH, ↓callUF, C1by_mu, C1mby_mu, runM_eq, mkM_some, hNil_dec, hCons_dec, app3_some, hP_dec, hP1_some, hP2_some, hO1_some, hO2_arr, hOwn_dec, hM1_mp, hMp_dec, hB1_some, hB2_arr, hBox_dec, hAgg_dec, encE_nil, pickF, nodupB, somes, fresh, gids, gid, putO, ren, renL, renO, tk4, tk5, dz5, tk32, tk37, tz37, dz37, eq37, kKnown13, kNew, kSet, kSet13, kGet, kGet13, kAdjust, kAdjust13, kNamesB, hMarks, hRef, mkH, rH', decE_pos, decL_aPs, length_aPs, pureB_aPs, renL_aPs, List.length_map, renL_bytes, hck, wk, hL4, hg1]
          repeat (first | refine And.intro ⟨by omega, by omega⟩ ?_ | refine And.intro (by omega) ?_)
          refine ⟨k + 1, by omega, by omega, ?_⟩
          (repeat' first | exact rfl | apply And.intro | exact subX_eq rfl (pureB_bytes _) | exact subX_eq rfl (pureB_aPs _) | exact subX_eq rfl rfl | decide | omega | apply subX_one)
          all_goals try simp (maxSteps := 4000000) only [subL]
        · have hck : decide ((k : Int) < 4) = false := decide_eq_false (by omega)
          have hsrt := names_srt hR'
          simp (maxSteps := 4000000) only [↓wpA_H, ↓wpH_skip, ↓wpH_ret, ↓wpH_exit, ↓wpH_seq, ↓wpH_cond, ↓wpH_region, bselH_true, ↓iselH_false, bselH_false, runH_nil, runH_cons, gw, gselH_plain, cselH_bool, ↓chk, justK, noW, ↓oneK, ↓pureK, ↓heapK, ↓thenA_normal, ↓thenA_exit, ↓blockA_normal, ↓blockA_exit, ↓stepEv, opnd, Pg.look, binK, intOp, strOp, Bool.and_true, Bool.not_false, Bool.not_true, Bool.false_eq_true, implies_true, true_and, and_true, forall_const, valV, heapV, footV, binV, intV, strV, alives, aliveO, nxtQ, hdS, pairsA, frzA, closeQ_nil, closeQ_succ, diagQ_zero, Nat.reduceAdd, ofV, ofLeaf, retA, resK, tupA, subA, subQ, ptrsE, pairsO, frzO, subF, subG, pickOf, assocN, pairsE, pairsC, pairsL, pairs0, frzE, frzC, frzL, frz0, frzH, Pg.freeze, List.foldl_nil, subOs, subO, subEv, subV_succ, subM, srcV, srcL, ldCells, objAt, ↓callT, AV.cells, TK.cells, AV.pureLeaf, AV.pureB, List.getElem?_cons_succ, List.getElem?_cons_zero, Option.getD_some, reduceCtorEq, Nat.reduceEqDiff, Nat.reduceAdd, Nat.reduceSub, List.nil_append, List.append_nil, List.cons_append, List.length_cons, List.length_nil, List.map_cons, List.map_nil, List.set_cons_zero, List.set_cons_succ, Nat.zero_add, ite_true, ite_false, Option.some.injEq, AV.str.injEq, List.all_cons, List.all_nil, Bool.and_self, and_self, exists_eq_left', pickOK_nil, List.length_map, length_ofBytes, bytesOf_ofBytes, pureB_bytes, List.contains_cons, List.contains_nil, Nat.reduceBEq, Bool.or_self, Bool.or_false, beq_self_eq_true, Bool.or_true, List.range'_zero, List.getD_cons_zero, List.getD_cons_succ, Nat.add_zero, Nat.lt_irrefl, Nat.not_lt_zero, Nat.zero_lt_succ, regH_none, isNext, nextF, nextG, selC_false, ↓msel, muC, ↓callU, ↓callUV, ↓callUH, ↓callUF, C1by_mu, C1mby_mu, runM_eq, mkM_some, hNil_dec, hCons_dec, app3_some, hO1_some, hM1_mp, hMp_dec, hB1_some, hB2_arr, hBox_dec, hAgg_dec, encE_nil, pickF, nodupB, somes, fresh, gids, gid, putO, ren, renL, renO, List.range'_succ, tk5, tk9, tk32, tk35, dz35, kKnown13, kNew, kSet, kSet13, kGet, kGet13, kAdjust, kAdjust13, kNamesB, hMarks, hRef, mkH, rH', decE_pos, w1, pureB_aPs, List.length_map, renL_bytes, hck, hsrt, hmz]
          refine ⟨by omega, by kernel_rfl, (i + 1, m', z'), ⟨by show i + 1 ≤ l.length; omega, hR', hk', hb'⟩, by show l.length - (i + 1) < l.length - i; omega, ?_⟩
          (repeat' first | exact rfl | apply And.intro | exact subX_eq rfl (pureB_bytes _) | exact subX_eq rfl (pureB_aPs _) | exact subX_eq rfl rfl | decide | omega | apply subX_one)
          all_goals try simp (maxSteps := 4000000) only [subL]
      · have hca : decide (((what.toNat : Int).tmod 3) < 2) = false := decide_eq_false (by rw [show (what.toNat : Int).tmod 3 = ((what.toNat % 3 : Nat) : Int) from rfl]; omega)
        obtain ⟨m', hm'⟩ : ∃ x, x = adjM at' old' now' m := ⟨_, rfl⟩
        obtain ⟨z', hz'⟩ : ∃ x, x = sift (fM at' old' now') z := ⟨_, rfl⟩
        have hs : adj at' old' now' ((zN z).zip (zP z)) = z' := by
          rw [adj_sift, hz']
          refine sift_congr z fun x hx => ?_
          have := hb x hx
          unfold fR fM
          rw [shift_same x.2.1 at' old' now' (by omega) (by omega)]
        have hR' : Rm m' z' := by
          rw [hm', hz', adjM_sift]
          exact hR.sift _
        have hk' : ∀ k ∈ keysOf m', nameOk k = true := by
          rw [hm', adjM_sift]
          intro k hkk
          obtain ⟨y, hy, rfl⟩ := List.mem_map.1 hkk
          obtain ⟨x, hx, h1, _⟩ := sift_mem hy
          rw [← h1]
          exact hk _ (List.mem_map.2 ⟨x, hx, rfl⟩)
        have hb' : ∀ y ∈ z', -(60 + 14 * (i + 1 : Nat) : Int) ≤ y.2.1 ∧ y.2.1 ≤ 60 + 14 * (i + 1 : Nat) := by
          intro y hy
          rw [hz'] at hy
          obtain ⟨x, hx, _, h2⟩ := sift_mem hy
          have h3 := hb x hx
          unfold fM at h2
          split at h2
          · simp only [Option.some.injEq] at h2
            rw [← h2]
            have := shiftM_bd x.2.1 at' old' now' (60 + 14 * i) (by omega) (by omega) h3 bold bnow
            show -(60 + 14 * (i + 1 : Nat) : Int) ≤ (shiftM x.2.1 at' old' now').1 ∧ (shiftM x.2.1 at' old' now').1 ≤ 60 + 14 * (i + 1 : Nat)
            omega
          · cases h2
        simp (maxSteps := 4000000) only [↓wpA_H, ↓wpH_skip, ↓wpH_seq, ↓wpH_cond, ↓wpH_block, ↓wpH_loop, ↓wpH_region, ↓iselH_true, ↓iselH_false, bselH_false, runH_nil, runH_cons, gw, gselH_plain, cselH_bool, ↓chk, justK, noW, ↓oneK, ↓pureK, ↓heapK, ↓thenA_normal, ↓stepEv, opnd, Pg.look, binK, intOp, Bool.not_false, Bool.false_eq_true, implies_true, true_and, and_true, valV, heapV, footV, binV, intV, Nat.reduceAdd, ofV, ofLeaf, Pg.freeze, List.foldl_nil, slen, ldCells, objAt, ↓callT, normA, res8_eq, res_succ, resM, AV.cells, TK.cells, AV.definite, AV.leaf, AV.leafy, putCells, lay, buildL, List.getElem?_cons_succ, List.getElem?_cons_zero, Option.getD_some, reduceCtorEq, Nat.reduceEqDiff, Nat.reduceAdd, Nat.reduceSub, List.nil_append, List.append_nil, List.cons_append, List.length_cons, List.length_nil, List.map_cons, List.map_nil, List.set_cons_zero, List.set_cons_succ, Nat.zero_add, ite_true, ite_false, Option.some.injEq, Option.isSome_some, AV.int.injEq, AV.agg.injEq, ne_eq, List.all_cons, List.all_nil, Bool.and_self, and_self, exists_eq_left', List.length_map, cInt_dec, rg4, length_ofBytes, decL_byte, List.contains_cons, List.contains_nil, Nat.reduceBEq, Bool.or_self, beq_self_eq_true, Int.cast_ofNat_Int, List.range'_zero, Nat.reducePow, Int.toNat_natCast, List.getD_cons_zero, List.getD_cons_succ, cutL, List.drop_zero, List.drop_succ_cons, List.take_succ_cons, List.take_zero, Nat.add_zero, Nat.sub_zero, Nat.sub_self, Nat.reduceLeDiff, Nat.le_refl, Nat.mul_one, List.drop_nil, List.take_nil, Nat.zero_lt_succ, regH_none, isNext, nextF, nextG, selC_false, ↓msel, muC, ↓callU, ↓callUV, ↓callUH, ↓callUF, C1by_mu, C1mby_mu, runM_eq, mkM_some, hNil_dec, hCons_dec, app3_some, hP_dec, hP1_some, hP2_some, hO1_some, hO2_arr, hOwn_dec, hM1_mp, hMp_dec, hB1_some, hB2_arr, hBox_dec, hAgg_dec, encE_nil, pickF, nodupB, somes, fresh, gids, gid, putO, ren, renL, renO, List.range'_succ, tk3, tk5, eb5, tk28, tk32, tk37, tz37, dz37, tk39, tz39, dz39, kKnown13, kNew, kSet, kSet13, kGet, kGet13, kAdjust, kAdjust13, kNamesB, hMarks, hRef, mkH, rH', decE_pos, decL_aPs, hc1, hget, length_aPs, renL_aPs, List.length_map, renL_bytes, ← hln, ← hat, ← hold, ← hnow, ← hm', hcn, hca, hs, wnm]
        repeat (first | refine And.intro ⟨by omega, by omega⟩ ?_ | refine And.intro (by omega) ?_ | refine And.intro (by decide) ?_ | refine And.intro hR.nd ?_ | refine And.intro (by kernel_rfl) ?_)
        have hmz := hR'.len
        have hz27' : z'.length ≤ 27 := asc_len 123 z' 96 hR'.asc fun x hx => nameOk_range (hk' x.1 ((hR'.mem x.1).1 (List.mem_map.2 ⟨x, hx, rfl⟩)))
        obtain ⟨L, hL⟩ : ∃ L : List UInt8, L = [c, name, 96, 97] := ⟨_, rfl⟩
        have hL4 : L.length = 4 := by rw [hL]; rfl
        refine loopH_intro (α := Nat) (fun k => ([(90, .int .i64 k), (89, .int .i64 4), (88, .own 5 1 4), (7, .int .i64 i), (0, .sl 7 (l.map aAct)), (1, .int .u8 name.toNat), (5, .ptr 0 1 1 0 0), (6, .ptr 2 2 1 0 0)], mkH m' ++ [.arr 35 2 [.agg [.own 3 1 z'.length, .own 4 2 z'.length]], .arr 5 1 (ofBytes (zN z')), .arr 37 2 (aPs (zP z')), .arr 5 1 (ofBytes L)]))
          (fun k => k ≤ 4) (fun k => 4 - k) 0 (Nat.zero_le _) ?_ ?_
        · rw [hL]
          simp (maxSteps := 4000000) only [Pg.look, Bool.and_true, Bool.false_eq_true, true_and, and_true, alives, aliveO, nxtQ, hdS, pairsA, frzA, closeQ_nil, closeQ_succ, diagQ_zero, Nat.reduceAdd, subA, subQ, ptrsE, pairsO, frzO, subF, subG, pickOf, assocN, pairsE, pairsC, pairsL, pairs0, frzE, frzC, frzL, frz0, frzH, Pg.freeze, List.foldl_nil, subOs, subO, subEv, subV_succ, subM, AV.cells, AV.pureLeaf, AV.pureB, List.getElem?_cons_succ, List.getElem?_cons_zero, reduceCtorEq, Nat.reduceEqDiff, Nat.reduceAdd, List.nil_append, List.append_nil, List.cons_append, Nat.zero_add, ite_true, ite_false, List.all_cons, List.all_nil, Bool.and_self, and_self, pureB_bytes, Int.cast_ofNat_Int, Nat.lt_irrefl, Nat.not_lt_zero, mkH, pureB_aPs]
          (repeat' first | exact rfl | apply And.intro | exact subX_eq rfl (pureB_bytes _) | exact subX_eq rfl (pureB_aPs _) | exact subX_eq rfl rfl | decide | omega | apply subX_one)
          all_goals try simp (maxSteps := 4000000) only [subL]
        intro k gk
        have hk4 : k ≤ 4 := gk
        clear gk
        by_cases hkl : k < 4
        · have hck : decide ((k : Int) < 4) = true := decide_eq_true (by omega)
          have wk : IntKind.i64.wrap ((k : Int) + 1) = ((k + 1 : Nat) : Int) := by rw [wrap64 (by omega) (by omega)]; omega
          have hg1 : rGet (L.getD k 0) (zN z') (zP z') = look1 (L.getD k 0) m' := by rw [rGet_z, hR'.get]
          simp (maxSteps := 4000000) only [↓wpA_H, ↓wpH_skip, ↓wpH_seq, ↓wpH_cond, ↓wpH_block, ↓wpH_region, ↓iselH_true, ↓iselH_false, bselH_false, runH_nil, runH_cons, gw, gselH_plain, gselH_if, kselH_1, cselH_bool, gkind, ↓chk, justK, noW, ↓oneK, ↓pureK, ↓heapK, ↓thenA_normal, ↓blockA_normal, ↓stepEv, opnd, Pg.look, binK, intOp, cellsEq, leafEq, dstOf, Bool.and_true, Bool.not_false, Bool.not_true, Bool.false_eq_true, implies_true, true_and, and_true, pickC, pickV, unc, gof, mux, mergeK, condsL, valV, heapV, footV, binV, intV, alives, aliveO, nxtQ, hdS, pairsA, frzA, closeQ_nil, closeQ_succ, diagQ_zero, Nat.reduceAdd, mergeable, look_stripE, ofV, ofLeaf, sameK, subA, subQ, ptrsE, pairsO, frzO, subF, subG, pickOf, assocN, pairsE, pairsC, pairsL, pairs0, frzE, frzC, frzL, frz0, frzH, Pg.freeze, List.foldl_nil, subOs, subO, subEv, subV_succ, subM, ldCells, objAt, ↓callT, normA, res8_eq, res_succ, resM, AV.cells, TK.cells, AV.definite, AV.leaf, AV.leafy, AV.pureLeaf, AV.pureB, putCells, lay, Op.operands, List.getElem?_toArray, List.getElem?_cons_succ, List.getElem?_cons_zero, Option.bind_some, Option.getD_some, reduceCtorEq, Nat.reduceEqDiff, Nat.reduceAdd, Nat.reduceSub, List.nil_append, List.append_nil, List.cons_append, List.length_cons, List.length_nil, List.map_cons, List.map_nil, List.set_cons_zero, List.set_cons_succ, Nat.zero_add, ite_true, ite_false, Option.some.injEq, List.all_cons, List.all_nil, Bool.and_self, and_self, exists_eq_left', List.length_map, List.toList_toArray, length_ofBytes, getD_ofBytes, cByte_dec, decL_byte, pureB_bytes, List.contains_cons, List.contains_nil, Nat.reduceBEq, Bool.or_self, beq_self_eq_true, Int.cast_ofNat_Int, List.range'_zero, Int.toNat_natCast, List.getD_cons_zero, List.getD_cons_succ, cutL, List.drop_zero, List.drop_succ_cons, List.take_succ_cons, List.take_zero, Nat.sub_zero, Nat.sub_self, Nat.le_refl, Nat.lt_irrefl, List.drop_nil, List.take_nil, Nat.not_lt_zero, Nat.zero_lt_succ, regH_none, isNext, nextF, nextG, selC_false, ↓msel, muC, ↓callU, ↓callUV, ↓callUH, ↓callUF, C1by_mu, C1mby_mu, runM_eq, mkM_some, hNil_dec, hCons_dec, app3_some, hP_dec, hP1_some, hP2_some, hO1_some, hO2_arr, hOwn_dec, hM1_mp, hMp_dec, hB1_some, hB2_arr, hBox_dec, hAgg_dec, encE_nil, pickF, nodupB, somes, fresh, gids, gid, putO, ren, renL, renO, tk4, tk5, dz5, tk32, tk37, tz37, dz37, eq37, kKnown13, kNew, kSet, kSet13, kGet, kGet13, kAdjust, kAdjust13, kNamesB, hMarks, hRef, mkH, rH', decE_pos, decL_aPs, length_aPs, pureB_aPs, renL_aPs, List.length_map, renL_bytes, hck, wk, hL4, hg1]
          repeat (first | refine And.intro ⟨by omega, by omega⟩ ?_ | refine And.intro (by omega) ?_)
          refine ⟨k + 1, by omega, by omega, ?_⟩
          (repeat' first | exact rfl | apply And.intro | exact subX_eq rfl (pureB_bytes _) | exact subX_eq rfl (pureB_aPs _) | exact subX_eq rfl rfl | decide | omega | apply subX_one)
          all_goals try simp (maxSteps := 4000000) only [subL]
        · have hck : decide ((k : Int) < 4) = false := decide_eq_false (by omega)
          have hsrt := names_srt hR'
          simp (maxSteps := 4000000) only [↓wpA_H, ↓wpH_skip, ↓wpH_ret, ↓wpH_exit, ↓wpH_seq, ↓wpH_cond, ↓wpH_region, bselH_true, ↓iselH_false, bselH_false, runH_nil, runH_cons, gw, gselH_plain, cselH_bool, ↓chk, justK, noW, ↓oneK, ↓pureK, ↓heapK, ↓thenA_normal, ↓thenA_exit, ↓blockA_normal, ↓blockA_exit, ↓stepEv, opnd, Pg.look, binK, intOp, strOp, Bool.and_true, Bool.not_false, Bool.not_true, Bool.false_eq_true, implies_true, true_and, and_true, forall_const, valV, heapV, footV, binV, intV, strV, alives, aliveO, nxtQ, hdS, pairsA, frzA, closeQ_nil, closeQ_succ, diagQ_zero, Nat.reduceAdd, ofV, ofLeaf, retA, resK, tupA, subA, subQ, ptrsE, pairsO, frzO, subF, subG, pickOf, assocN, pairsE, pairsC, pairsL, pairs0, frzE, frzC, frzL, frz0, frzH, Pg.freeze, List.foldl_nil, subOs, subO, subEv, subV_succ, subM, srcV, srcL, ldCells, objAt, ↓callT, AV.cells, TK.cells, AV.pureLeaf, AV.pureB, List.getElem?_cons_succ, List.getElem?_cons_zero, Option.getD_some, reduceCtorEq, Nat.reduceEqDiff, Nat.reduceAdd, Nat.reduceSub, List.nil_append, List.append_nil, List.cons_append, List.length_cons, List.length_nil, List.map_cons, List.map_nil, List.set_cons_zero, List.set_cons_succ, Nat.zero_add, ite_true, ite_false, Option.some.injEq, AV.str.injEq, List.all_cons, List.all_nil, Bool.and_self, and_self, exists_eq_left', pickOK_nil, List.length_map, length_ofBytes, bytesOf_ofBytes, pureB_bytes, List.contains_cons, List.contains_nil, Nat.reduceBEq, Bool.or_self, Bool.or_false, beq_self_eq_true, Bool.or_true, List.range'_zero, List.getD_cons_zero, List.getD_cons_succ, Nat.add_zero, Nat.lt_irrefl, Nat.not_lt_zero, Nat.zero_lt_succ, regH_none, isNext, nextF, nextG, selC_false, ↓msel, muC, ↓callU, ↓callUV, ↓callUH, ↓callUF, C1by_mu, C1mby_mu, runM_eq, mkM_some, hNil_dec, hCons_dec, app3_some, hO1_some, hM1_mp, hMp_dec, hB1_some, hB2_arr, hBox_dec, hAgg_dec, encE_nil, pickF, nodupB, somes, fresh, gids, gid, putO, ren, renL, renO, List.range'_succ, tk5, tk9, tk32, tk35, dz35, kKnown13, kNew, kSet, kSet13, kGet, kGet13, kAdjust, kAdjust13, kNamesB, hMarks, hRef, mkH, rH', decE_pos, w1, pureB_aPs, List.length_map, renL_bytes, hck, hsrt, hmz]
          refine ⟨by omega, by kernel_rfl, (i + 1, m', z'), ⟨by show i + 1 ≤ l.length; omega, hR', hk', hb'⟩, by show l.length - (i + 1) < l.length - i; omega, ?_⟩
          (repeat' first | exact rfl | apply And.intro | exact subX_eq rfl (pureB_bytes _) | exact subX_eq rfl (pureB_aPs _) | exact subX_eq rfl rfl | decide | omega | apply subX_one)
          all_goals try simp (maxSteps := 4000000) only [subL]
    · have hcn : decide (((nm.toNat : Int).tmod 4) > 0) = false := decide_eq_false (by rw [show (nm.toNat : Int).tmod 4 = ((nm.toNat % 4 : Nat) : Int) from rfl]; omega)
      have hct : c = nm := by rw [hcd, actName, if_neg hn4]
      subst hct
      by_cases hw2 : what.toNat % 3 < 2
      · have hca : decide (((what.toNat : Int).tmod 3) < 2) = true := decide_eq_true (by rw [show (what.toNat : Int).tmod 3 = ((what.toNat % 3 : Nat) : Int) from rfl]; omega)
        obtain ⟨m', hm'⟩ : ∃ x, x = if nameOk c = true then upd c (ln', cl) m else m := ⟨_, rfl⟩
        obtain ⟨z', hz'⟩ : ∃ x, x = if nameOk c = true then zSet c (ln', cl) z else z := ⟨_, rfl⟩
        have hs : (if nameOk c = true then rSet (zN z) (zP z) c (ln', cl) else (zN z, zP z)) = (zN z', zP z') := by
          rw [hz']
          split
          · exact rSet_z c (ln', cl) z hR.asc
          · rfl
        have hR' : Rm m' z' := by
          rw [hm', hz']
          split
          · exact hR.set c _
          · exact hR
        have hk' : ∀ k ∈ keysOf m', nameOk k = true := by
          rw [hm']
          split
          · next hok =>
            intro k hkk
            rcases (keys_upd c _ m k).1 hkk with rfl | h
            · exact hok
            · exact hk k h
          · exact hk
        have hb' : ∀ y ∈ z', -(60 + 14 * (i + 1 : Nat) : Int) ≤ y.2.1 ∧ y.2.1 ≤ 60 + 14 * (i + 1 : Nat) := by
          intro y hy
          have hmem : y = (c, (ln', cl)) ∨ y ∈ z := by
            rw [hz'] at hy
            split at hy
            · exact zSet_mem hy
            · exact .inr hy
          rcases hmem with rfl | h
          · show -(60 + 14 * (i + 1 : Nat) : Int) ≤ ln' ∧ ln' ≤ 60 + 14 * (i + 1 : Nat)
            omega
          · have := hb y h
            omega
        simp (maxSteps := 4000000) only [↓wpA_H, ↓wpH_skip, ↓wpH_seq, ↓wpH_cond, ↓wpH_block, ↓wpH_loop, ↓wpH_region, bselH_true, ↓iselH_true, ↓iselH_false, bselH_false, runH_nil, runH_cons, gw, gselH_plain, cselH_bool, ↓chk, justK, noW, ↓oneK, ↓pureK, ↓heapK, ↓thenA_normal, ↓stepEv, opnd, Pg.look, binK, intOp, Bool.not_false, Bool.not_true, Bool.false_eq_true, implies_true, true_and, and_true, forall_const, valV, heapV, footV, binV, intV, Nat.reduceAdd, ofV, ofLeaf, Pg.freeze, List.foldl_nil, slen, ldCells, objAt, ↓callT, normA, resL, res8_eq, res_succ, resM, AV.cells, TK.cells, AV.definite, AV.leaf, AV.leafy, putCells, lay, buildL, List.getElem?_cons_succ, List.getElem?_cons_zero, Option.getD_some, reduceCtorEq, Nat.reduceEqDiff, Nat.reduceAdd, Nat.reduceSub, List.nil_append, List.append_nil, List.cons_append, List.length_cons, List.length_nil, List.map_cons, List.map_nil, List.set_cons_zero, List.set_cons_succ, Nat.zero_add, ite_true, ite_false, Option.some.injEq, Option.isSome_some, AV.int.injEq, AV.agg.injEq, ne_eq, List.all_cons, List.all_nil, Bool.and_self, and_self, exists_eq_left', List.length_map, rg4, length_ofBytes, cByte_dec, decL_byte, List.contains_cons, List.contains_nil, Nat.reduceBEq, Bool.or_self, Bool.or_false, beq_self_eq_true, Int.cast_ofNat_Int, List.range'_zero, Nat.reducePow, Int.toNat_natCast, List.getD_cons_zero, List.getD_cons_succ, cutL, List.drop_zero, List.drop_succ_cons, List.take_succ_cons, List.take_zero, Nat.add_zero, Nat.sub_zero, Nat.sub_self, Nat.reduceLeDiff, Nat.le_refl, Nat.mul_one, List.drop_nil, List.take_nil, Nat.zero_lt_succ, regH_none, isNext, nextF, nextG, selC_false, ↓msel, muC, ↓callU, ↓callUV, ↓callUH, ↓callUF, C1by_mu, C1mby_mu, runM_eq, mkM_some, hNil_dec, hCons_dec, app3_some, hP_dec, hP1_some, hP2_some, hO1_some, hO2_arr, hOwn_dec, hM1_mp, hMp_dec, hB1_some, hB2_arr, hBox_dec, hAgg_dec, encE_nil, pickF, nodupB, somes, fresh, gids, gid, putO, ren, renL, renO, List.range'_succ, tk3, tk4, tk5, eb5, tk28, tk32, tk37, tz37, dz37, tk39, tz39, dz39, kKnown13, kNew, kSet, kSet13, kGet, kGet13, kAdjust, kAdjust13, kNamesB, hMarks, hRef, mkH, rH', cPos_dec, decE_pos, decL_aPs, hc1, hget, length_aPs, renL_aPs, List.length_map, renL_bytes, ← hln, ← hm', hcn, hca, hs]
        repeat (first | refine And.intro ⟨by omega, by omega⟩ ?_ | refine And.intro (by omega) ?_ | refine And.intro (by decide) ?_ | refine And.intro hR.nd ?_ | refine And.intro (by kernel_rfl) ?_)
        have hmz := hR'.len
        have hz27' : z'.length ≤ 27 := asc_len 123 z' 96 hR'.asc fun x hx => nameOk_range (hk' x.1 ((hR'.mem x.1).1 (List.mem_map.2 ⟨x, hx, rfl⟩)))
        obtain ⟨L, hL⟩ : ∃ L : List UInt8, L = [c, name, 96, 97] := ⟨_, rfl⟩
        have hL4 : L.length = 4 := by rw [hL]; rfl
        refine loopH_intro (α := Nat) (fun k => ([(90, .int .i64 k), (89, .int .i64 4), (88, .own 5 1 4), (7, .int .i64 i), (0, .sl 7 (l.map aAct)), (1, .int .u8 name.toNat), (5, .ptr 0 1 1 0 0), (6, .ptr 2 2 1 0 0)], mkH m' ++ [.arr 35 2 [.agg [.own 3 1 z'.length, .own 4 2 z'.length]], .arr 5 1 (ofBytes (zN z')), .arr 37 2 (aPs (zP z')), .arr 5 1 (ofBytes L)]))
          (fun k => k ≤ 4) (fun k => 4 - k) 0 (Nat.zero_le _) ?_ ?_
        · rw [hL]
          simp (maxSteps := 4000000) only [Pg.look, Bool.and_true, Bool.false_eq_true, true_and, and_true, alives, aliveO, nxtQ, hdS, pairsA, frzA, closeQ_nil, closeQ_succ, diagQ_zero, Nat.reduceAdd, subA, subQ, ptrsE, pairsO, frzO, subF, subG, pickOf, assocN, pairsE, pairsC, pairsL, pairs0, frzE, frzC, frzL, frz0, frzH, Pg.freeze, List.foldl_nil, subOs, subO, subEv, subV_succ, subM, AV.cells, AV.pureLeaf, AV.pureB, List.getElem?_cons_succ, List.getElem?_cons_zero, reduceCtorEq, Nat.reduceEqDiff, Nat.reduceAdd, List.nil_append, List.append_nil, List.cons_append, Nat.zero_add, ite_true, ite_false, List.all_cons, List.all_nil, Bool.and_self, and_self, pureB_bytes, Int.cast_ofNat_Int, Nat.lt_irrefl, Nat.not_lt_zero, mkH, pureB_aPs]
          (repeat' first | exact rfl | apply And.intro | exact subX_eq rfl (pureB_bytes _) | exact subX_eq rfl (pureB_aPs _) | exact subX_eq rfl rfl | decide | omega | apply subX_one)
          all_goals try simp (maxSteps := 4000000) only [subL]
        intro k gk
        have hk4 : k ≤ 4 := gk
        clear gk
        by_cases hkl : k < 4
        · have hck : decide ((k : Int) < 4) = true := decide_eq_true (by omega)
          have wk : IntKind.i64.wrap ((k : Int) + 1) = ((k + 1 : Nat) : Int) := by rw [wrap64 (by omega) (by omega)]; omega
          have hg1 : rGet (L.getD k 0) (zN z') (zP z') = look1 (L.getD k 0) m' := by rw [rGet_z, hR'.get]
          simp (maxSteps := 4000000) only [↓wpA_H, ↓wpH_skip, ↓wpH_seq, ↓wpH_cond, ↓wpH_block, ↓wpH_region, ↓iselH_true, ↓iselH_false, bselH_false, runH_nil, runH_cons, gw, gselH_plain, gselH_if, kselH_1, cselH_bool, gkind, ↓chk, justK, noW, ↓oneK, ↓pureK, ↓heapK, ↓thenA_normal, ↓blockA_normal, ↓stepEv, opnd, Pg.look, binK, intOp, cellsEq, leafEq, dstOf, Bool.and_true, Bool.not_false, Bool.not_true, Bool.false_eq_true, implies_true, true_and, and_true, pickC, pickV, unc, gof, mux, mergeK, condsL, valV, heapV, footV, binV, intV, alives, aliveO, nxtQ, hdS, pairsA, frzA, closeQ_nil, closeQ_succ, diagQ_zero, Nat.reduceAdd, mergeable, look_stripE, ofV, ofLeaf, sameK, subA, subQ, ptrsE, pairsO, frzO, subF, subG, pickOf, assocN, pairsE, pairsC, pairsL, pairs0, frzE, frzC, frzL, frz0, frzH, Pg.freeze, List.foldl_nil, subOs, subO, subEv, subV_succ, subM, ldCells, objAt, ↓callT, normA, res8_eq, res_succ, resM, AV.cells, TK.cells, AV.definite, AV.leaf, AV.leafy, AV.pureLeaf, AV.pureB, putCells, lay, Op.operands, List.getElem?_toArray, List.getElem?_cons_succ, List.getElem?_cons_zero, Option.bind_some, Option.getD_some, reduceCtorEq, Nat.reduceEqDiff, Nat.reduceAdd, Nat.reduceSub, List.nil_append, List.append_nil, List.cons_append, List.length_cons, List.length_nil, List.map_cons, List.map_nil, List.set_cons_zero, List.set_cons_succ, Nat.zero_add, ite_true, ite_false, Option.some.injEq, List.all_cons, List.all_nil, Bool.and_self, and_self, exists_eq_left', List.length_map, List.toList_toArray, length_ofBytes, getD_ofBytes, cByte_dec, decL_byte, pureB_bytes, List.contains_cons, List.contains_nil, Nat.reduceBEq, Bool.or_self, beq_self_eq_true, Int.cast_ofNat_Int, List.range'_zero, Int.toNat_natCast, List.getD_cons_zero, List.getD_cons_succ, cutL, List.drop_zero, List.drop_succ_cons, List.take_succ_cons, List.take_zero, Nat.sub_zero, Nat.sub_self, Nat.le_refl, Nat.lt_irrefl, List.drop_nil, List.take_nil, Nat.not_lt_zero, Nat.zero_lt_succ, regH_none, isNext, nextF, nextG, selC_false, ↓msel, muC, ↓callU, ↓callUV, ↓callUH, ↓callUF, C1by_mu, C1mby_mu, runM_eq, mkM_some, hNil_dec, hCons_dec, app3_some, hP_dec, hP1_some, hP2_some, hO1_some, hO2_arr, hOwn_dec, hM1_mp, hMp_dec, hB1_some, hB2_arr, hBox_dec, hAgg_dec, encE_nil, pickF, nodupB, somes, fresh, gids, gid, putO, ren, renL, renO, tk4, tk5, dz5, tk32, tk37, tz37, dz37, eq37, kKnown13, kNew, kSet, kSet13, kGet, kGet13, kAdjust, kAdjust13, kNamesB, hMarks, hRef, mkH, rH', decE_pos, decL_aPs, length_aPs, pureB_aPs, renL_aPs, List.length_map, renL_bytes, hck, wk, hL4, hg1]
          repeat (first | refine And.intro ⟨by omega, by omega⟩ ?_ | refine And.intro (by omega) ?_)
          refine ⟨k + 1, by omega, by omega, ?_⟩
          (repeat' first | exact rfl | apply And.intro | exact subX_eq rfl (pureB_bytes _) | exact subX_eq rfl (pureB_aPs _) | exact subX_eq rfl rfl | decide | omega | apply subX_one)
          all_goals try simp (maxSteps := 4000000) only [subL]
        · have hck : decide ((k : Int) < 4) = false := decide_eq_false (by omega)
          have hsrt := names_srt hR'
          simp (maxSteps := 4000000) only [↓wpA_H, ↓wpH_skip, ↓wpH_ret, ↓wpH_exit, ↓wpH_seq, ↓wpH_cond, ↓wpH_region, bselH_true, ↓iselH_false, bselH_false, runH_nil, runH_cons, gw, gselH_plain, cselH_bool, ↓chk, justK, noW, ↓oneK, ↓pureK, ↓heapK, ↓thenA_normal, ↓thenA_exit, ↓blockA_normal, ↓blockA_exit, ↓stepEv, opnd, Pg.look, binK, intOp, strOp, Bool.and_true, Bool.not_false, Bool.not_true, Bool.false_eq_true, implies_true, true_and, and_true, forall_const, valV, heapV, footV, binV, intV, strV, alives, aliveO, nxtQ, hdS, pairsA, frzA, closeQ_nil, closeQ_succ, diagQ_zero, Nat.reduceAdd, ofV, ofLeaf, retA, resK, tupA, subA, subQ, ptrsE, pairsO, frzO, subF, subG, pickOf, assocN, pairsE, pairsC, pairsL, pairs0, frzE, frzC, frzL, frz0, frzH, Pg.freeze, List.foldl_nil, subOs, subO, subEv, subV_succ, subM, srcV, srcL, ldCells, objAt, ↓callT, AV.cells, TK.cells, AV.pureLeaf, AV.pureB, List.getElem?_cons_succ, List.getElem?_cons_zero, Option.getD_some, reduceCtorEq, Nat.reduceEqDiff, Nat.reduceAdd, Nat.reduceSub, List.nil_append, List.append_nil, List.cons_append, List.length_cons, List.length_nil, List.map_cons, List.map_nil, List.set_cons_zero, List.set_cons_succ, Nat.zero_add, ite_true, ite_false, Option.some.injEq, AV.str.injEq, List.all_cons, List.all_nil, Bool.and_self, and_self, exists_eq_left', pickOK_nil, List.length_map, length_ofBytes, bytesOf_ofBytes, pureB_bytes, List.contains_cons, List.contains_nil, Nat.reduceBEq, Bool.or_self, Bool.or_false, beq_self_eq_true, Bool.or_true, List.range'_zero, List.getD_cons_zero, List.getD_cons_succ, Nat.add_zero, Nat.lt_irrefl, Nat.not_lt_zero, Nat.zero_lt_succ, regH_none, isNext, nextF, nextG, selC_false, ↓msel, muC, ↓callU, ↓callUV, ↓callUH, ↓callUF, C1by_mu, C1mby_mu, runM_eq, mkM_some, hNil_dec, hCons_dec, app3_some, hO1_some, hM1_mp, hMp_dec, hB1_some, hB2_arr, hBox_dec, hAgg_dec, encE_nil, pickF, nodupB, somes, fresh, gids, gid, putO, ren, renL, renO, List.range'_succ, tk5, tk9, tk32, tk35, dz35, kKnown13, kNew, kSet, kSet13, kGet, kGet13, kAdjust, kAdjust13, kNamesB, hMarks, hRef, mkH, rH', decE_pos, w1, pureB_aPs, List.length_map, renL_bytes, hck, hsrt, hmz]
          refine ⟨by omega, by kernel_rfl, (i + 1, m', z'), ⟨by show i + 1 ≤ l.length; omega, hR', hk', hb'⟩, by show l.length - (i + 1) < l.length - i; omega, ?_⟩
          (repeat' first | exact rfl | apply And.intro | exact subX_eq rfl (pureB_bytes _) | exact subX_eq rfl (pureB_aPs _) | exact subX_eq rfl rfl | decide | omega | apply subX_one)
          all_goals try simp (maxSteps := 4000000) only [subL]
      · have hca : decide (((what.toNat : Int).tmod 3) < 2) = false := decide_eq_false (by rw [show (what.toNat : Int).tmod 3 = ((what.toNat % 3 : Nat) : Int) from rfl]; omega)
        obtain ⟨m', hm'⟩ : ∃ x, x = adjM at' old' now' m := ⟨_, rfl⟩
        obtain ⟨z', hz'⟩ : ∃ x, x = sift (fM at' old' now') z := ⟨_, rfl⟩
        have hs : adj at' old' now' ((zN z).zip (zP z)) = z' := by
          rw [adj_sift, hz']
          refine sift_congr z fun x hx => ?_
          have := hb x hx
          unfold fR fM
          rw [shift_same x.2.1 at' old' now' (by omega) (by omega)]
        have hR' : Rm m' z' := by
          rw [hm', hz', adjM_sift]
          exact hR.sift _
        have hk' : ∀ k ∈ keysOf m', nameOk k = true := by
          rw [hm', adjM_sift]
          intro k hkk
          obtain ⟨y, hy, rfl⟩ := List.mem_map.1 hkk
          obtain ⟨x, hx, h1, _⟩ := sift_mem hy
          rw [← h1]
          exact hk _ (List.mem_map.2 ⟨x, hx, rfl⟩)
        have hb' : ∀ y ∈ z', -(60 + 14 * (i + 1 : Nat) : Int) ≤ y.2.1 ∧ y.2.1 ≤ 60 + 14 * (i + 1 : Nat) := by
          intro y hy
          rw [hz'] at hy
          obtain ⟨x, hx, _, h2⟩ := sift_mem hy
          have h3 := hb x hx
          unfold fM at h2
          split at h2
          · simp only [Option.some.injEq] at h2
            rw [← h2]
            have := shiftM_bd x.2.1 at' old' now' (60 + 14 * i) (by omega) (by omega) h3 bold bnow
            show -(60 + 14 * (i + 1 : Nat) : Int) ≤ (shiftM x.2.1 at' old' now').1 ∧ (shiftM x.2.1 at' old' now').1 ≤ 60 + 14 * (i + 1 : Nat)
            omega
          · cases h2
        simp (maxSteps := 4000000) only [↓wpA_H, ↓wpH_skip, ↓wpH_seq, ↓wpH_cond, ↓wpH_block, ↓wpH_loop, ↓wpH_region, ↓iselH_true, ↓iselH_false, bselH_false, runH_nil, runH_cons, gw, gselH_plain, cselH_bool, ↓chk, justK, noW, ↓oneK, ↓pureK, ↓heapK, ↓thenA_normal, ↓stepEv, opnd, Pg.look, binK, intOp, Bool.not_false, Bool.false_eq_true, implies_true, true_and, and_true, valV, heapV, footV, binV, intV, Nat.reduceAdd, ofV, ofLeaf, Pg.freeze, List.foldl_nil, slen, ldCells, objAt, ↓callT, normA, res8_eq, res_succ, resM, AV.cells, TK.cells, AV.definite, AV.leaf, AV.leafy, putCells, lay, buildL, List.getElem?_cons_succ, List.getElem?_cons_zero, Option.getD_some, reduceCtorEq, Nat.reduceEqDiff, Nat.reduceAdd, Nat.reduceSub, List.nil_append, List.append_nil, List.cons_append, List.length_cons, List.length_nil, List.map_cons, List.map_nil, List.set_cons_zero, List.set_cons_succ, Nat.zero_add, ite_true, ite_false, Option.some.injEq, Option.isSome_some, AV.int.injEq, AV.agg.injEq, ne_eq, List.all_cons, List.all_nil, Bool.and_self, and_self, exists_eq_left', List.length_map, cInt_dec, rg4, length_ofBytes, decL_byte, List.contains_cons, List.contains_nil, Nat.reduceBEq, Bool.or_self, beq_self_eq_true, Int.cast_ofNat_Int, List.range'_zero, Nat.reducePow, Int.toNat_natCast, List.getD_cons_zero, List.getD_cons_succ, cutL, List.drop_zero, List.drop_succ_cons, List.take_succ_cons, List.take_zero, Nat.add_zero, Nat.sub_zero, Nat.sub_self, Nat.reduceLeDiff, Nat.le_refl, Nat.mul_one, List.drop_nil, List.take_nil, Nat.zero_lt_succ, regH_none, isNext, nextF, nextG, selC_false, ↓msel, muC, ↓callU, ↓callUV, ↓callUH, ↓callUF, C1by_mu, C1mby_mu, runM_eq, mkM_some, hNil_dec, hCons_dec, app3_some, hP_dec, hP1_some, hP2_some, hO1_some, hO2_arr, hOwn_dec, hM1_mp, hMp_dec, hB1_some, hB2_arr, hBox_dec, hAgg_dec, encE_nil, pickF, nodupB, somes, fresh, gids, gid, putO, ren, renL, renO, List.range'_succ, tk3, tk5, eb5, tk28, tk32, tk37, tz37, dz37, tk39, tz39, dz39, kKnown13, kNew, kSet, kSet13, kGet, kGet13, kAdjust, kAdjust13, kNamesB, hMarks, hRef, mkH, rH', decE_pos, decL_aPs, hc1, hget, length_aPs, renL_aPs, List.length_map, renL_bytes, ← hln, ← hat, ← hold, ← hnow, ← hm', hcn, hca, hs]
        repeat (first | refine And.intro ⟨by omega, by omega⟩ ?_ | refine And.intro (by omega) ?_ | refine And.intro (by decide) ?_ | refine And.intro hR.nd ?_ | refine And.intro (by kernel_rfl) ?_)
        have hmz := hR'.len
        have hz27' : z'.length ≤ 27 := asc_len 123 z' 96 hR'.asc fun x hx => nameOk_range (hk' x.1 ((hR'.mem x.1).1 (List.mem_map.2 ⟨x, hx, rfl⟩)))
        obtain ⟨L, hL⟩ : ∃ L : List UInt8, L = [c, name, 96, 97] := ⟨_, rfl⟩
        have hL4 : L.length = 4 := by rw [hL]; rfl
        refine loopH_intro (α := Nat) (fun k => ([(90, .int .i64 k), (89, .int .i64 4), (88, .own 5 1 4), (7, .int .i64 i), (0, .sl 7 (l.map aAct)), (1, .int .u8 name.toNat), (5, .ptr 0 1 1 0 0), (6, .ptr 2 2 1 0 0)], mkH m' ++ [.arr 35 2 [.agg [.own 3 1 z'.length, .own 4 2 z'.length]], .arr 5 1 (ofBytes (zN z')), .arr 37 2 (aPs (zP z')), .arr 5 1 (ofBytes L)]))
          (fun k => k ≤ 4) (fun k => 4 - k) 0 (Nat.zero_le _) ?_ ?_
        · rw [hL]
          simp (maxSteps := 4000000) only [Pg.look, Bool.and_true, Bool.false_eq_true, true_and, and_true, alives, aliveO, nxtQ, hdS, pairsA, frzA, closeQ_nil, closeQ_succ, diagQ_zero, Nat.reduceAdd, subA, subQ, ptrsE, pairsO, frzO, subF, subG, pickOf, assocN, pairsE, pairsC, pairsL, pairs0, frzE, frzC, frzL, frz0, frzH, Pg.freeze, List.foldl_nil, subOs, subO, subEv, subV_succ, subM, AV.cells, AV.pureLeaf, AV.pureB, List.getElem?_cons_succ, List.getElem?_cons_zero, reduceCtorEq, Nat.reduceEqDiff, Nat.reduceAdd, List.nil_append, List.append_nil, List.cons_append, Nat.zero_add, ite_true, ite_false, List.all_cons, List.all_nil, Bool.and_self, and_self, pureB_bytes, Int.cast_ofNat_Int, Nat.lt_irrefl, Nat.not_lt_zero, mkH, pureB_aPs]
          (repeat' first | exact rfl | apply And.intro | exact subX_eq rfl (pureB_bytes _) | exact subX_eq rfl (pureB_aPs _) | exact subX_eq rfl rfl | decide | omega | apply subX_one)
          all_goals try simp (maxSteps := 4000000) only [subL]
        intro k gk
        have hk4 : k ≤ 4 := gk
        clear gk
        by_cases hkl : k < 4
        · have hck : decide ((k : Int) < 4) = true := decide_eq_true (by omega)
          have wk : IntKind.i64.wrap ((k : Int) + 1) = ((k + 1 : Nat) : Int) := by rw [wrap64 (by omega) (by omega)]; omega
          have hg1 : rGet (L.getD k 0) (zN z') (zP z') = look1 (L.getD k 0) m' := by rw [rGet_z, hR'.get]
          simp (maxSteps := 4000000) only [↓wpA_H, ↓wpH_skip, ↓wpH_seq, ↓wpH_cond, ↓wpH_block, ↓wpH_region, ↓iselH_true, ↓iselH_false, bselH_false, runH_nil, runH_cons, gw, gselH_plain, gselH_if, kselH_1, cselH_bool, gkind, ↓chk, justK, noW, ↓oneK, ↓pureK, ↓heapK, ↓thenA_normal, ↓blockA_normal, ↓stepEv, opnd, Pg.look, binK, intOp, cellsEq, leafEq, dstOf, Bool.and_true, Bool.not_false, Bool.not_true, Bool.false_eq_true, implies_true, true_and, and_true, pickC, pickV, unc, gof, mux, mergeK, condsL, valV, heapV, footV, binV, intV, alives, aliveO, nxtQ, hdS, pairsA, frzA, closeQ_nil, closeQ_succ, diagQ_zero, Nat.reduceAdd, mergeable, look_stripE, ofV, ofLeaf, sameK, subA, subQ, ptrsE, pairsO, frzO, subF, subG, pickOf, assocN, pairsE, pairsC, pairsL, pairs0, frzE, frzC, frzL, frz0, frzH, Pg.freeze, List.foldl_nil, subOs, subO, subEv, subV_succ, subM, ldCells, objAt, ↓callT, normA, res8_eq, res_succ, resM, AV.cells, TK.cells, AV.definite, AV.leaf, AV.leafy, AV.pureLeaf, AV.pureB, putCells, lay, Op.operands, List.getElem?_toArray, List.getElem?_cons_succ, List.getElem?_cons_zero, Option.bind_some, Option.getD_some, reduceCtorEq, Nat.reduceEqDiff, Nat.reduceAdd, Nat.reduceSub, List.nil_append, List.append_nil, List.cons_append, List.length_cons, List.length_nil, List.map_cons, List.map_nil, List.set_cons_zero, List.set_cons_succ, Nat.zero_add, ite_true, ite_false, Option.some.injEq, List.all_cons, List.all_nil, Bool.and_self, and_self, exists_eq_left', List.length_map, List.toList_toArray, length_ofBytes, getD_ofBytes, cByte_dec, decL_byte, pureB_bytes, List.contains_cons, List.contains_nil, Nat.reduceBEq, Bool.or_self, beq_self_eq_true, Int.cast_ofNat_Int, List.range'_zero, Int.toNat_natCast, List.getD_cons_zero, List.getD_cons_succ, cutL, List.drop_zero, List.drop_succ_cons, List.take_succ_cons, List.take_zero, Nat.sub_zero, Nat.sub_self, Nat.le_refl, Nat.lt_irrefl, List.drop_nil, List.take_nil, Nat.not_lt_zero, Nat.zero_lt_succ, regH_none, isNext, nextF, nextG, selC_false, ↓msel, muC, ↓callU, ↓callUV, ↓callUH, ↓callUF, C1by_mu, C1mby_mu, runM_eq, mkM_some, hNil_dec, hCons_dec, app3_some, hP_dec, hP1_some, hP2_some, hO1_some, hO2_arr, hOwn_dec, hM1_mp, hMp_dec, hB1_some, hB2_arr, hBox_dec, hAgg_dec, encE_nil, pickF, nodupB, somes, fresh, gids, gid, putO, ren, renL, renO, tk4, tk5, dz5, tk32, tk37, tz37, dz37, eq37, kKnown13, kNew, kSet, kSet13, kGet, kGet13, kAdjust, kAdjust13, kNamesB, hMarks, hRef, mkH, rH', decE_pos, decL_aPs, length_aPs, pureB_aPs, renL_aPs, List.length_map, renL_bytes, hck, wk, hL4, hg1]
          repeat (first | refine And.intro ⟨by omega, by omega⟩ ?_ | refine And.intro (by omega) ?_)
          refine ⟨k + 1, by omega, by omega, ?_⟩
          (repeat' first | exact rfl | apply And.intro | exact subX_eq rfl (pureB_bytes _) | exact subX_eq rfl (pureB_aPs _) | exact subX_eq rfl rfl | decide | omega | apply subX_one)
          all_goals try simp (maxSteps := 4000000) only [subL]
        · have hck : decide ((k : Int) < 4) = false := decide_eq_false (by omega)
          have hsrt := names_srt hR'
          simp (maxSteps := 4000000) only [↓wpA_H, ↓wpH_skip, ↓wpH_ret, ↓wpH_exit, ↓wpH_seq, ↓wpH_cond, ↓wpH_region, bselH_true, ↓iselH_false, bselH_false, runH_nil, runH_cons, gw, gselH_plain, cselH_bool, ↓chk, justK, noW, ↓oneK, ↓pureK, ↓heapK, ↓thenA_normal, ↓thenA_exit, ↓blockA_normal, ↓blockA_exit, ↓stepEv, opnd, Pg.look, binK, intOp, strOp, Bool.and_true, Bool.not_false, Bool.not_true, Bool.false_eq_true, implies_true, true_and, and_true, forall_const, valV, heapV, footV, binV, intV, strV, alives, aliveO, nxtQ, hdS, pairsA, frzA, closeQ_nil, closeQ_succ, diagQ_zero, Nat.reduceAdd, ofV, ofLeaf, retA, resK, tupA, subA, subQ, ptrsE, pairsO, frzO, subF, subG, pickOf, assocN, pairsE, pairsC, pairsL, pairs0, frzE, frzC, frzL, frz0, frzH, Pg.freeze, List.foldl_nil, subOs, subO, subEv, subV_succ, subM, srcV, srcL, ldCells, objAt, ↓callT, AV.cells, TK.cells, AV.pureLeaf, AV.pureB, List.getElem?_cons_succ, List.getElem?_cons_zero, Option.getD_some, reduceCtorEq, Nat.reduceEqDiff, Nat.reduceAdd, Nat.reduceSub, List.nil_append, List.append_nil, List.cons_append, List.length_cons, List.length_nil, List.map_cons, List.map_nil, List.set_cons_zero, List.set_cons_succ, Nat.zero_add, ite_true, ite_false, Option.some.injEq, AV.str.injEq, List.all_cons, List.all_nil, Bool.and_self, and_self, exists_eq_left', pickOK_nil, List.length_map, length_ofBytes, bytesOf_ofBytes, pureB_bytes, List.contains_cons, List.contains_nil, Nat.reduceBEq, Bool.or_self, Bool.or_false, beq_self_eq_true, Bool.or_true, List.range'_zero, List.getD_cons_zero, List.getD_cons_succ, Nat.add_zero, Nat.lt_irrefl, Nat.not_lt_zero, Nat.zero_lt_succ, regH_none, isNext, nextF, nextG, selC_false, ↓msel, muC, ↓callU, ↓callUV, ↓callUH, ↓callUF, C1by_mu, C1mby_mu, runM_eq, mkM_some, hNil_dec, hCons_dec, app3_some, hO1_some, hM1_mp, hMp_dec, hB1_some, hB2_arr, hBox_dec, hAgg_dec, encE_nil, pickF, nodupB, somes, fresh, gids, gid, putO, ren, renL, renO, List.range'_succ, tk5, tk9, tk32, tk35, dz35, kKnown13, kNew, kSet, kSet13, kGet, kGet13, kAdjust, kAdjust13, kNamesB, hMarks, hRef, mkH, rH', decE_pos, w1, pureB_aPs, List.length_map, renL_bytes, hck, hsrt, hmz]
          refine ⟨by omega, by kernel_rfl, (i + 1, m', z'), ⟨by show i + 1 ≤ l.length; omega, hR', hk', hb'⟩, by show l.length - (i + 1) < l.length - i; omega, ?_⟩
          (repeat' first | exact rfl | apply And.intro | exact subX_eq rfl (pureB_bytes _) | exact subX_eq rfl (pureB_aPs _) | exact subX_eq rfl rfl | decide | omega | apply subX_one)
          all_goals try simp (maxSteps := 4000000) only [subL]
  · obtain rfl : i = l.length := by omega
    have hc1 : decide ((l.length : Int) < (l.length : Int)) = false := decide_eq_false (by omega)
    simp (maxSteps := 4000000) only [↓wpA_H, ↓wpH_ret, ↓wpH_exit, ↓wpH_seq, ↓wpH_cond, ↓wpH_region, ↓iselH_false, bselH_false, runH_nil, runH_cons, gw, gselH_plain, cselH_bool, ↓chk, justK, ↓oneK, ↓pureK, ↓thenA_normal, ↓thenA_exit, ↓blockA_exit, ↓stepEv, opnd, Pg.look, binK, intOp, Bool.false_eq_true, implies_true, true_and, and_true, valV, heapV, footV, binV, intV, alives, closeQ_nil, diagQ_zero, ofV, ofLeaf, retA, resK, tupA, subA, subQ, ptrsE, frzO, subF, subG, pickOf, frzE, frzC, frz0, frzH, Pg.freeze, List.foldl_nil, subOs, subEv, subV_succ, subM, slen, Option.getD_some, reduceCtorEq, Nat.reduceEqDiff, List.nil_append, List.append_nil, List.cons_append, List.length_nil, ite_true, ite_false, Option.some.injEq, AV.int.injEq, and_self, exists_eq_left', pickOK_nil, List.length_map, List.contains_cons, List.contains_nil, Nat.reduceBEq, Bool.or_self, regH_none, isNext, nextF, nextG, selC_false, tk28, kKnown13, kNew, kSet, kSet13, kGet, kGet13, kAdjust, kAdjust13, kNamesB, List.length_map, hc1]
end Go.Pg
