/- maps.Clone; the marks are moved. The names of the marks: told in whatever order, sorted. Functions that hand on what others return: slices.Collect, slices.Sorted. Sorting of bytes: few of them. -/
import Derived.Test.YtohpkjpipihdoaaPgFx1
import Derived.Shelf.SlMaps.Clone
import Derived.Test.YtohpkjpipihdoaaPgNd
import Derived.WalkKit
import Derived.Sort.AssemblyPlain
namespace Go.Pg
open Go Go.Proofs Go.Shelf

theorem VRs.one {E : Env} {a : AV} {vals : Array Value} (h : VRs E [a] vals) : ∃ u, vals = #[u] ∧ VR E a u := by
  obtain ⟨hs, hv⟩ := h
  match vals, hs with
  | ⟨[u]⟩, _ => exact ⟨u, rfl, hv 0 a rfl⟩

theorem callsR_mapCopy {P : Program} {f : FuncId} {es : List (AV × AV)}
    (h : ∀ (W : World) (b cl : Nat) (a : Array MapEntry), W.heap[b]? = some (.map a cl) → Calls P f #[.map (some b)] W fun e w' => e = .returned (.map (some W.heap.size)) ∧ w' = W.alloc (.map a cl)) :
    CallsR P f [.mp 0] [.mp es] (.mp 1) [.mp es, .mp es] := by
  intro E vals hr hv
  obtain ⟨u, rfl, k1⟩ := hv.one
  obtain ⟨b, a, cl, rfl, hM, hb, hes, hs⟩ := mp_read hr k1 (es := es) rfl
  refine (h E.W b cl a hb).mono fun e W' ⟨he, hw⟩ => ?_
  have hle : AHle [.mp es] [.mp es, .mp es] := fun id o ho => by
    cases id with
    | zero => exact ⟨o, ho, .refl o⟩
    | succ n => simp at ho
  obtain ⟨E1, hr1, hW1, hM1, hst1⟩ := hr.le hle
  have hes1 : EntsAt E1 es a := hes.mono (hst1.ext hr)
  obtain ⟨E', hW, hr', hst, hMo, hMid, hhl⟩ := alloc_gen hr1 (id := 1) (by rw [hM1]; exact hr.dom 1 (Nat.le_refl _)) (o' := .mp es) rfl (by simp) (w' := W') (ob := .map a cl) (by rw [hw, hW1]; exact ⟨rfl, rfl, rfl⟩) (by rw [hw, hW1]; rfl)
    fun E' hx hE' => ⟨_, a, cl, rfl, by rw [hE', hw, hW1]; exact heap_alloc_new E.W _, hes1.mono hx, hs⟩
  rw [hW1] at hMid
  exact ⟨_, E', he, hW, .mp _ _ (by rw [hMid]; rfl) (fun _ => hMid), hr', hst1.trans hst⟩

def cloneRen : Ren := ⟨fun | 5 => 46 | 7 => 58 | n => n, fun | 4 => 4 | 20 => 20 | 23 => 81 | 25 => 5 | 3 => 37 | n => n, fun | n => n⟩
theorem cloneLays : SlLaysW.n5 Try.prog cloneRen := {
  mixed := by kernel_rfl
  f5 := ⟨Try.f46.name, by decide, Try.func46.trans (congrArg some (by kernel_rfl))⟩
  f7 := by kernel_rfl
  t4 := Try.underlying4
  a4 := Try.isAgg4
  z4 := Try.sizeOf4
  v4 := Try.zeroValue4
  t20 := Try.underlying20
  a20 := Try.isAgg20
  z20 := Try.sizeOf20
  v20 := Try.zeroValue20
  t23 := Try.underlying81
  a23 := Try.isAgg81
  z23 := Try.sizeOf81
  v23 := Try.zeroValue81 }

theorem calls_Clone (es : List (AV × AV)) : CallsR Try.prog 46 [.mp 0] [.mp es] (.mp 1) [.mp es, .mp es] :=
  callsR_mapCopy fun W b cl a hb => AnyW.maps_Clone cloneLays b a cl W hb
def kClone : C1 := C1.mby (hCons (hMp cByte cPos) hNil) (fun _ => True) (fun _ => .mp 1) (fun d => [.mp (encE cByte cPos d.1), .mp (encE cByte cPos d.1)])
theorem ok_Clone : C1OK Try.prog 46 kClone := C1OK.mby (by kernel_rfl) (fun d _ => calls_Clone _) (fun _ _ => by show 1 ≤ 2; omega)

/-! ### The marks move -/
def stp (at_ old now : Int) (x : UInt8 × (Int × Int)) : Option (UInt8 × (Int × Int)) :=
  if (shiftM x.2.1 at_ old now).2 = true then some (x.1, ((shiftM x.2.1 at_ old now).1, x.2.2)) else none
def adjM (at_ old now : Int) (l : Mks) : Mks := l.filterMap (stp at_ old now)
def keysOf (l : Mks) : List UInt8 := l.map (·.1)
/-- What the marks are while some are left. -/
def mid (at_ old now : Int) (left l : Mks) : Mks := l.filterMap fun x => if x.1 ∈ keysOf left then some x else stp at_ old now x

theorem cByte_enc (b : UInt8) : cByte.enc b = .int .u8 b.toNat := rfl
theorem stp_key {at_ old now : Int} {x y : UInt8 × (Int × Int)} (h : stp at_ old now x = some y) : y.1 = x.1 := by
  unfold stp at h
  split at h
  · cases h; rfl
  · cases h
theorem mid_all (at_ old now : Int) (l : Mks) : mid at_ old now l l = l := by
  have : ∀ m : Mks, (∀ x ∈ m, x ∈ l) → m.filterMap (fun x => if x.1 ∈ keysOf l then some x else stp at_ old now x) = m := by
    intro m
    induction m with
    | nil => intro _; rfl
    | cons x r ih =>
      intro h
      have hx : x.1 ∈ keysOf l := List.mem_map.2 ⟨x, h x (by simp), rfl⟩
      rw [List.filterMap_cons_some (by rw [if_pos hx]), ih fun y hy => h y (by simp [hy])]
  exact this l fun _ h => h
theorem mid_nil (at_ old now : Int) (l : Mks) : mid at_ old now [] l = adjM at_ old now l := by
  unfold mid adjM
  congr 1
theorem mid_congr (at_ old now : Int) {a b : Mks} (l : Mks) (h : ∀ x ∈ l, x.1 ∈ keysOf a ↔ x.1 ∈ keysOf b) : mid at_ old now a l = mid at_ old now b l := by
  unfold mid
  induction l with
  | nil => rfl
  | cons x r ih =>
    simp only [List.filterMap_cons, ih fun y hy => h y (by simp [hy]), h x (by simp)]
theorem mid_step (at_ old now : Int) {left left' : Mks} {k : UInt8} {v : Int × Int} (hk : k ∈ keysOf left) (hk' : k ∉ keysOf left') (hs : ∀ c, c ≠ k → (c ∈ keysOf left ↔ c ∈ keysOf left')) :
    ∀ l : Mks, (keysOf l).Nodup → (k, v) ∈ l → mid at_ old now left' l = if (shiftM v.1 at_ old now).2 = true then upd k ((shiftM v.1 at_ old now).1, v.2) (mid at_ old now left l) else del k (mid at_ old now left l) := by
  intro l
  induction l with
  | nil => intro _ h; cases h
  | cons x r ih =>
    intro hn hm
    obtain ⟨hx, hr⟩ := List.nodup_cons.1 hn
    by_cases hxk : x.1 = k
    · have hxe : x = (k, v) := by
        rcases List.mem_cons.1 hm with h | h
        · exact h.symm
        · exact (hx (List.mem_map.2 ⟨_, h, hxk.symm⟩)).elim
      subst hxe
      have hc : mid at_ old now left r = mid at_ old now left' r := mid_congr at_ old now r fun y hy => hs _ fun e => hx (List.mem_map.2 ⟨y, hy, e⟩)
      have e1 : mid at_ old now left ((k, v) :: r) = (k, v) :: mid at_ old now left r := by
        unfold mid; rw [List.filterMap_cons_some (by rw [if_pos hk])]
      have e2 : mid at_ old now left' ((k, v) :: r) = (if (shiftM v.1 at_ old now).2 = true then [(k, ((shiftM v.1 at_ old now).1, v.2))] else []) ++ mid at_ old now left' r := by
        unfold mid
        simp only [List.filterMap_cons, if_neg hk', stp]
        split <;> simp_all
      rw [e1, e2, hc]
      split
      · simp [upd]
      · simp [del]
    · have hmr : (k, v) ∈ r := by
        rcases List.mem_cons.1 hm with h | h
        · exact (hxk (by rw [← h])).elim
        · exact h
      have := ih hr hmr
      have hsx := hs x.1 hxk
      have hg : ∀ m : Mks, (keysOf m).Nodup → True := fun _ _ => trivial
      have e : ∀ q : Mks, (x.1 ∈ keysOf q ↔ x.1 ∈ keysOf left) → mid at_ old now q (x :: r) = ((if x.1 ∈ keysOf left then some x else stp at_ old now x).toList) ++ mid at_ old now q r := by
        intro q hq
        unfold mid
        simp only [List.filterMap_cons, hq]
        split <;> simp_all
      have hy : ∀ y ∈ (if x.1 ∈ keysOf left then some x else stp at_ old now x).toList, y.1 ≠ k := by
        intro y hy
        split at hy
        · simp only [Option.toList_some, List.mem_singleton] at hy; rw [hy]; exact hxk
        · have := stp_key (Option.mem_toList.1 hy); rw [this]; exact hxk
      rw [e left' hsx.symm, e left .rfl, this]
      generalize (if x.1 ∈ keysOf left then some x else stp at_ old now x) = o at hy
      cases o with
      | none => rfl
      | some y =>
        have := hy y (by simp)
        split
        · simp [upd, this]
        · simp [del, this]

theorem left_erase {left : Mks} (hn : (keysOf left).Nodup) {j : Nat} {p : UInt8 × (Int × Int)} (hj : left[j]? = some p) :
    p.1 ∈ keysOf left ∧ p.1 ∉ keysOf (left.eraseIdx j) ∧ (∀ c, c ≠ p.1 → (c ∈ keysOf left ↔ c ∈ keysOf (left.eraseIdx j))) ∧ (keysOf (left.eraseIdx j)).Nodup ∧ (left.eraseIdx j).length < left.length ∧ p ∈ left := by
  induction left generalizing j with
  | nil => simp at hj
  | cons x r ih =>
    obtain ⟨hx, hr⟩ := List.nodup_cons.1 hn
    cases j with
    | zero =>
      simp only [List.getElem?_cons_zero, Option.some.injEq] at hj
      subst hj
      refine ⟨by simp [keysOf], hx, fun c hc => by simp [keysOf, hc], hr, by simp, by simp⟩
    | succ j =>
      obtain ⟨h1, h2, h3, h4, h5, h6⟩ := ih hr (by simpa using hj)
      have hne : p.1 ≠ x.1 := fun e => hx (show x.1 ∈ keysOf r from e ▸ h1)
      simp only [keysOf, List.map_cons, List.eraseIdx_cons_succ, List.mem_cons, List.nodup_cons, List.length_cons] at h1 h2 h3 h4 hx ⊢
      refine ⟨.inr h1, fun h => h.elim hne h2, fun c hc => or_congr .rfl (h3 c hc), ⟨fun h => ?_, h4⟩, by omega, .inr h6⟩
      exact hx ((h3 x.1 (fun e => hne e.symm)).2 h)

set_option maxRecDepth 20000 in
set_option maxHeartbeats 4000000 in
theorem calls_Adjust (l : Mks) (at_ old now : Int) (hn : (keysOf l).Nodup) :
    CallsR Try.prog 21 [.ptr 0 1 1 0 0, .int .i64 at_, .int .i64 old, .int .i64 now] (mkH l)
      (.tuple []) (mkH (adjM at_ old now l)) := by
  refine callsR_of (mrg := true) (dyn := []) (CtrOK.cons ok_Clone (CtrOK.cons ok_Shift (CtrOK.nil _))) mixed Try.func21 rfl (by simp [Try.ntmps21]) (by kernel_rfl) ?_
  rw [show Try.f21.results.toList = [] from by kernel_rfl]
  simp (maxSteps := 4000000) only [↓wpA_H, ↓wpH_seq, ↓wpH_block, ↓wpH_loop, ↓wpH_region, bselH_false, runH_nil, runH_cons, gw, gselH_plain, ↓chk, justK, noW, ↓oneK, ↓pureK, ↓heapK, envOf, ↓thenA_normal, ↓stepEv, opnd, Pg.look, Bool.not_false, Bool.false_eq_true, implies_true, true_and, and_true, valV, heapV, footV, Nat.reduceAdd, Pg.freeze, List.foldl_nil, ldCells, objAt, ↓callT, AV.cells, TK.cells, frzAt, List.getElem?_cons_succ, List.getElem?_cons_zero, Option.getD_some, reduceCtorEq, Nat.reduceEqDiff, Nat.reduceAdd, Nat.reduceSub, List.nil_append, List.append_nil, List.cons_append, List.length_cons, List.length_nil, List.map_cons, List.map_nil, List.set_cons_zero, List.set_cons_succ, Nat.zero_add, ite_true, ite_false, Option.some.injEq, List.all_cons, List.all_nil, Bool.and_self, and_self, exists_eq_left', List.contains_nil, List.range'_zero, List.getD_cons_zero, List.getD_cons_succ, Nat.add_zero, Nat.zero_lt_succ, regH_none, isNext, nextF, nextG, selC_false, ↓msel, muC, ↓callU, ↓callUV, ↓callUH, ↓callUF, C1by_mu, C1mby_mu, runM_eq, mkM_some, hNil_dec, hCons_dec, app3_some, hO1_some, hM1_mp, hMp_dec, pickF, nodupB, somes, fresh, gids, gid, putO, ren, renO, ↓mapK, mapAt, List.range'_succ, tk81, mt81, tk83, dz83, mkH, kClone, kShift, decE_pos]
  refine loopH_intro (α := Option (AV × AV) × Mks) (fun x => ([(17, .it 3), (16, .mp 2), (0, .ptr 0 1 1 0 0), (1, .int .i64 at_), (2, .int .i64 old), (3, .int .i64 now)], [.arr 83 1 [.agg [.mp 1]],   .mp (encE cByte cPos (mid at_ old now x.2 l)), .dead, .it x.1 (encE cByte cPos x.2)]))
      (fun x => (∀ y ∈ x.2, y ∈ l) ∧ (keysOf x.2).Nodup) (fun x => x.2.length) (none, l) ⟨fun _ h => h, hn⟩ ?_ ?_
  · rw [mid_all]
    simp (maxSteps := 4000000) only [Pg.look, Bool.and_true, Bool.false_eq_true, true_and, and_true, alives, aliveO, nxtQ, hdS, pairsA, frzA, closeQ_nil, closeQ_succ, diagQ_zero, diagQ_succ, Nat.reduceAdd, subA, subQ, ptrsE, pairsO, frzO, subF, subG, pickOf, assocN, pairsE, pairsC, pairsL, pairs0, frzE, frzC, frzL, frz0, frzH, Pg.freeze, List.foldl_nil, subOs, subO, subEv, subV_succ, subM, AV.cells, AV.pureLeaf, AV.pureB, List.getElem?_cons_succ, List.getElem?_cons_zero, reduceCtorEq, Nat.reduceEqDiff, Nat.reduceAdd, Nat.reduceLT, List.nil_append, List.append_nil, List.cons_append, Nat.zero_add, ite_true, ite_false, List.all_cons, List.all_nil, and_self, Nat.lt_irrefl, Nat.zero_lt_succ]
    (repeat' first | exact rfl | apply And.intro | exact subX_eq rfl (pureB_bytes _) | exact subX_eq rfl (pureB_aPs _) | exact subX_eq rfl rfl | decide | omega | apply subX_one)
    all_goals try simp (maxSteps := 4000000) only [subL]
  rintro ⟨c, left⟩ ⟨hs, hnl⟩
  simp (maxSteps := 4000000) only [↓wpA_H, ↓wpH_skip, ↓wpH_exit, ↓wpH_seq, ↓wpH_cond, ↓wpH_block, ↓wpH_region, ↓iselH_true, ↓iselH_false, iselH_if, bselH_false, runH_nil, runH_cons, gw, gselH_plain, cselH_bool, ↓chk, justK, noW, ↓oneK, ↓pureK, ↓heapK, ↓thenA_normal, ↓thenA_exit, ↓blockA_normal, ↓blockA_exit, ↓stepEv, opnd, Pg.look, Bool.and_true, Bool.false_eq_true, false_implies, implies_true, imp_self, true_and, and_true, valV, heapV, footV, alives, aliveO, nxtQ, hdS, pairsA, frzA, closeQ_nil, closeQ_succ, diagQ_zero, diagQ_succ, Nat.reduceAdd, retA, resK, tupA, subA, subQ, ptrsE, pairsO, frzO, subF, subG, pickOf, assocN, pairsE, pairsC, pairsL, pairs0, frzE, frzC, frzL, frz0, frzH, Pg.freeze, List.foldl_nil, subOs, subO, subEv, subV_succ, subM, subL, ldCells, objAt, ↓callT, callC, callV, callH, normArgs, normA, resL, res8_eq, res_succ, resM, shiftR, shift1, AV.cells, TK.cells, AV.definite, AV.leaf, AV.leafy, AV.pureLeaf, AV.pureB, putCells, lay, List.getElem?_cons_succ, List.getElem?_cons_zero, Option.getD_some, reduceCtorEq, Nat.reduceEqDiff, Nat.reduceAdd, Nat.reduceLT, List.nil_append, List.append_nil, List.cons_append, List.length_cons, List.length_nil, List.map_cons, List.map_nil, List.set_cons_zero, List.set_cons_succ, Nat.zero_add, ite_true, ite_false, Option.some.injEq, Option.isSome_none, Prod.mk.injEq, List.all_cons, List.all_nil, Bool.and_self, and_self, Bool.not_eq_true', exists_eq_left', cInt_dec, lOne_dec, lCons_dec, dec2_some, List.contains_nil, beq_self_eq_true, List.range'_zero, C1by_ns, C1by_pre, C1by_r, C1by_H, optP_some, optV_some, optH_some, List.getD_cons_zero, cutL, List.drop_zero, List.drop_succ_cons, List.take_succ_cons, List.take_zero, Nat.add_zero, Nat.sub_zero, Nat.reduceLeDiff, Nat.le_refl, Nat.lt_irrefl, List.drop_nil, List.take_nil, Nat.zero_lt_succ, C1by_it, regH_none, regH_some, nextA_it, nextM_enc, isNext, nextF, nextG, selC_true, selC_false, pureC, ↓msel, muC, ↓callP, C1by_mu, delE_byte, keys_byte, ↓mapK, isKeyA, kdT, List.append_assoc, tk3, tk37, tz37, dz37, tk81, mt81, tk83, dz83, kShift, cPos_enc, cByte_enc, setE_pos]
  refine ⟨fun he => ?_, fun j p hj => ?_⟩
  · subst he
    rw [mid_nil]
    (repeat' first | exact rfl | apply And.intro | exact subX_eq rfl (pureB_bytes _) | exact subX_eq rfl (pureB_aPs _) | exact subX_eq rfl rfl | decide | omega | apply subX_one)
    all_goals try simp (maxSteps := 4000000) only [subL]
  · obtain ⟨h1, h2, h3, h4, h5, h6⟩ := left_erase hnl hj
    have hst := mid_step at_ old now (v := p.2) h1 h2 h3 l hn (hs _ h6)
    refine ⟨fun h => ⟨(some (cByte.enc p.1, cPos.enc p.2), left.eraseIdx j), ⟨fun y hy => hs y (List.mem_of_mem_eraseIdx hy), h4⟩, h5, ?_⟩, fun h => ⟨(some (cByte.enc p.1, cPos.enc p.2), left.eraseIdx j), ⟨fun y hy => hs y (List.mem_of_mem_eraseIdx hy), h4⟩, h5, ?_⟩⟩
    · rw [if_neg (by rw [h]; decide)] at hst
      rw [hst]
      (repeat' first | exact rfl | apply And.intro | exact subX_eq rfl (pureB_bytes _) | exact subX_eq rfl (pureB_aPs _) | exact subX_eq rfl rfl | decide | omega | apply subX_one)
      all_goals try simp (maxSteps := 4000000) only [subL]
    · rw [if_pos (by simpa using h)] at hst
      rw [hst]
      (repeat' first | exact rfl | apply And.intro | exact subX_eq rfl (pureB_bytes _) | exact subX_eq rfl (pureB_aPs _) | exact subX_eq rfl rfl | decide | omega | apply subX_one)
      all_goals try simp (maxSteps := 4000000) only [subL]
def kAdjust : C1 := C1.mby (hCons hMarks (hCons (hP .id (cInt .i64)) (hCons (hP .id (cInt .i64)) (hCons (hP .id (cInt .i64)) hNil)))) (fun d => (keysOf d.1.1).Nodup) (fun _ => .tuple []) (fun d => mkH (adjM d.2.1 d.2.2.1 d.2.2.2.1 d.1.1))
theorem ok_Adjust : C1OK Try.prog 21 kAdjust := C1OK.mby (by kernel_rfl) (fun d h => calls_Adjust d.1.1 d.2.1 d.2.2.1 d.2.2.2.1 h) (fun _ _ => Nat.le_refl _)
end Go.Pg
namespace Go.Pg
open Go Go.Proofs

def cFm {κ ν : Type} (ck : Cd κ) (cv : Cd ν) : Cd (List (κ × ν)) where
  enc l := .fm (encE ck cv l)
  dec
    | .fm es => decE ck cv es
    | _ => none
  ok v a h := by
    split at h
    · rw [decE_ok _ _ _ _ h]
    · cases h
theorem cFm_dec {κ ν : Type} (ck : Cd κ) (cv : Cd ν) (es : List (AV × AV)) : (cFm ck cv).dec (.fm es) = decE ck cv es := rfl

theorem subX_nls' {H : AH} {F : List Nat} {pick : List (Option Nat)} {i sz : Nat} (h : pick[i]? = some none) : subX H F pick [.nls] [.own i sz 0] := .inr ⟨⟨⟨h, rfl⟩, trivial⟩, trivial⟩
theorem subX_own' {H : AH} {F : List Nat} {pick : List (Option Nat)} {i j sz n n' : Nat} (h : pick[i]? = some (some j)) (hn : n = n') : subX H F pick [.own j sz n] [.own i sz n'] := .inr ⟨⟨⟨h, rfl, hn⟩, trivial⟩, trivial⟩

/-- Keys, each once, in whatever order. -/
def keysR (ks : List UInt8) : List UInt8 → List AV → List UInt8 → Prop := fun t x t' => ∃ c left, x = [.int .u8 c.toNat] ∧ t' = t ++ [c] ∧ (t ++ c :: left).Perm ks
def keysD (ks : List UInt8) : List UInt8 → Prop := fun t => t.Perm ks
def keysT (ks : List UInt8) : Tell := ⟨List UInt8, [], keysR ks, keysD ks⟩

theorem erase_perm {left : Mks} {j : Nat} {p : UInt8 × (Int × Int)} (hj : left[j]? = some p) : (keysOf left).Perm (p.1 :: keysOf (left.eraseIdx j)) := by
  induction left generalizing j with
  | nil => simp at hj
  | cons x r ih =>
    cases j with
    | zero => simp only [List.getElem?_cons_zero, Option.some.injEq] at hj; subst hj; exact List.Perm.refl _
    | succ j =>
      have := ih (j := j) (by simpa using hj)
      exact (this.cons x.1).trans (List.Perm.swap _ _ _)

set_option maxRecDepth 20000 in
set_option maxHeartbeats 4000000 in
theorem it_Keys (l : Mks) : ItR Try.prog 61 [.rp [.fm (encE cByte cPos l)]] ⟨List UInt8, [], keysR (keysOf l), keysD (keysOf l)⟩ := by
  refine itV_of (mrg := true) (dyn := []) (CtrOK.nil _) mixed Try.func61 rfl (by simp [Try.ntmps61]) (by kernel_rfl) (by kernel_rfl) ?_
  intro y
  simp (maxSteps := 4000000) only [↓wpY_H, ↓wpYH_seq, ↓wpYH_block, ↓wpYH_loop, ↓wpYH_region0, regYH_none, runYH_nil, runYH_cons, ↓oneYH_eq, yarg, yselH_none, ↓thenY_normal, gw, gselH_plain, ↓chk, justK, noW, ↓oneK, ↓heapK, envOf, ↓stepEv, opnd, Pg.look, Bool.false_eq_true, implies_true, true_and, and_true, valV, heapV, footV, ldCells, TK.cells, List.getElem?_cons_zero, Option.getD_some, reduceCtorEq, Nat.reduceEqDiff, List.nil_append, List.length_nil, Nat.zero_add, ite_true, ite_false, Option.some.injEq, and_self, exists_eq_left', isNext, nextF, nextG, ↓mapK, tk81, mt81]
  refine loopYH_intro (ι := List UInt8) (α := Option (AV × AV) × List UInt8 × Mks) (fun x => (some x.2.1, [(5, .it 0), (0, .yld y)], [.it x.1 (encE cByte cPos x.2.2)]))
    (fun x => (x.2.1 ++ keysOf x.2.2).Perm (keysOf l)) (fun x => x.2.2.length) (none, [], l) (List.Perm.refl _) rfl ?_ ?_
  · simp (maxSteps := 4000000) only [Pg.look, alives, aliveO, closeQ_nil, diagQ_zero, subA, subQ, ptrsE, pairsO, frzO, subF, subG, pickOf, assocN, pairsE, pairsC, pairs0, frzE, frzC, frz0, frzH, Pg.freeze, List.foldl_nil, subOs, subO, subEv, subV_succ, subM, List.getElem?_cons_zero, reduceCtorEq, Nat.reduceEqDiff, List.append_nil, ite_true, ite_false, and_self, pickOK_one, Nat.lt_irrefl]
  rintro ⟨c, t, left⟩ hp
  simp (maxSteps := 4000000) only [↓wpY_H, ↓wpYH_skip, ↓wpYH_ret, ↓wpYH_exit, ↓wpYH_seq, ↓wpYH_cond, ↓wpYH_block, ↓wpYH_region0, regYH_none, regYH_some, runYH_nil, runYH_cons, ↓oneYH_eq, yarg, yselH_none, yselH_some, ↓thenY_normal, ↓thenY_ret, ↓thenY_exit, ↓blockY_normal, ↓blockY_ret, ↓blockY_exit, ↓endY_normal, ↓endY_ret, endT_none, endT_some, ↓iselH_true, ↓iselH_false, gw, gselH_plain, cselH_bool, ↓chk, justK, ↓oneK, ↓pureK, ↓stepEv, opnd, Pg.look, Bool.and_true, Bool.not_false, Bool.not_true, Bool.false_eq_true, implies_true, imp_self, true_and, and_true, valV, heapV, footV, alives, aliveO, closeQ_nil, diagQ_zero, subA, subQ, ptrsE, pairsO, frzO, subF, subG, pickOf, assocN, pairsE, pairsC, pairs0, frzE, frzC, frz0, frzH, Pg.freeze, List.foldl_nil, subOs, subO, subEv, subV_succ, subM, List.getElem?_cons_zero, Option.getD_some, reduceCtorEq, Nat.reduceEqDiff, List.append_nil, List.map_cons, List.map_nil, List.set_cons_zero, ite_true, ite_false, Option.some.injEq, List.all_cons, List.all_nil, and_self, exists_eq_left', pickOK_one, Nat.lt_irrefl, nextA_it, nextM_enc, isNext, nextF, nextG, ↓mapK, yieldU_some, cPos_enc, cByte_enc]
  refine ⟨fun he => ?_, fun j p hj => ⟨rfl, t ++ [p.1], ⟨p.1, keysOf (left.eraseIdx j), rfl, rfl, ((erase_perm hj).symm.append_left t).trans hp⟩, (some (cByte.enc p.1, cPos.enc p.2), t ++ [p.1], left.eraseIdx j), ?_, ?_, rfl, rfl, rfl⟩⟩
  · subst he
    simpa [keysOf, keysD] using hp
  · rw [List.append_assoc]
    exact ((erase_perm hj).symm.append_left t).trans hp
  · have := (List.getElem?_eq_some_iff.1 hj).1
    show (left.eraseIdx j).length < left.length
    rw [List.length_eraseIdx_of_lt this]; omega

def lKeys : CdL Mks := lOne (cRp (lOne (cFm cByte cPos)))
theorem lKeys_dec (l : Mks) : lKeys.dec [.rp [.fm (encE cByte cPos l)]] = some l := decE_pos l
def kKeys1 : C1 := C1.itU lKeys (fun _ => True) (fun d => keysT (keysOf d))
theorem ok_Keys1 : C1OK Try.prog 61 kKeys1 := C1OK.itU (by kernel_rfl) (fun d _ => it_Keys d)

/-- The iterator, as a value. -/
def aKeys (l : Mks) : AV := .fn 61 [.rp [.fm (encE cByte cPos l)]]

set_option maxHeartbeats 4000000 in
theorem calls_Keys (l : Mks) : CallsR Try.prog 48 [.fm (encE cByte cPos l)] [] (aKeys l) [] := by
  refine callsR_of (mrg := true) (dyn := []) (CtrOK.nil _) mixed Try.func48 rfl (by simp [Try.ntmps48]) (by kernel_rfl) ?_
  rw [show Try.f48.results.toList = [.tmp 2] from by kernel_rfl]
  simp (maxSteps := 4000000) only [↓wpA_H, ↓wpH_ret, ↓wpH_seq, ↓wpH_region, bselH_false, runH_nil, runH_cons, gw, gselH_plain, ↓chk, justK, noW, ↓oneK, ↓pureK, ↓heapK, envOf, ↓thenA_normal, ↓stepEv, opnd, Pg.look, Bool.false_eq_true, implies_true, valV, heapV, footV, alives, closeQ_nil, diagQ_zero, ofV, ofLeaf, retA, resK, tupA, subA, subQ, ptrsE, frzO, subF, subG, pickOf, frzE, frzC, frzL, frz0, frzH, Pg.freeze, List.foldl_nil, List.foldl_cons, subOs, subEv, subV_succ, subM, subL, objAt, resL, res_succ, resM, AV.cells, AV.definite, frzAt, List.getElem?_cons_zero, reduceCtorEq, Nat.reduceEqDiff, List.nil_append, List.append_nil, List.length_cons, List.length_nil, List.map_cons, List.map_nil, List.set_cons_zero, Nat.zero_add, ite_true, ite_false, List.all_cons, List.all_nil, Bool.and_self, and_self, pickOK_nil, resIn, List.contains_cons, List.contains_nil, Bool.or_false, beq_self_eq_true, List.getD_cons_zero, List.drop_zero, Nat.zero_lt_succ, regH_none, isNext, nextF, nextG, selC_false, aKeys]

set_option maxRecDepth 20000 in
set_option maxHeartbeats 4000000 in
theorem calls_AppendSeq (l : Mks) (hl : l.length ≤ 256) : CallsE Try.prog 65 [.nls, aKeys l] [] (fun t : List UInt8 => t.Perm (keysOf l)) (fun t => .own 0 1 t.length) (fun t => [.arr 5 1 (ofBytes t)]) := by
  refine callsE_of (mrg := true) (dyn := []) (CtrOK.cons ok_Keys1 (CtrOK.nil _)) mixed Try.func65 rfl (by simp [Try.ntmps65]) (by kernel_rfl) ?_
  rw [show Try.f65.results.toList = [.tmp 4] from by kernel_rfl]
  unfold aKeys
  simp (maxSteps := 4000000) only [↓wpA_H, ↓wpH_seq, ↓wpH_block, ↓wpH_region, bselH_false, runH_nil, runH_cons, gw, gselH_plain, ↓chk, justK, noW, ↓oneK, ↓pureK, ↓heapK, envOf, ↓thenA_normal, ↓stepEv, opnd, Pg.look, Bool.false_eq_true, implies_true, true_and, valV, heapV, footV, ofV, ofLeaf, Pg.freeze, List.foldl_nil, resL, res8_eq, res_succ, resM, AV.cells, AV.definite, reduceCtorEq, Nat.reduceEqDiff, List.nil_append, List.append_nil, List.length_cons, List.length_nil, Nat.zero_add, ite_true, ite_false, and_self, List.contains_nil, optP_some, ↓wpH_range, rangH_fn, rangR_some, iterC, regH_none, isNext, nextF, nextG, selC_false, C1itU_mu, C1itU_it, C1itU_pre, C1itU_xs, optU_some, kKeys1, lKeys_dec]
  rw [mark_eq]
  have hkl : (keysOf l).length ≤ 256 := by simpa [keysOf] using hl
  refine rangU_intro (X := ⟨List UInt8, [], keysR (keysOf l), keysD (keysOf l)⟩) [(2, .ptr 0 1 1 0 0)] [.arr 32 1 [.nls]]
    (fun t => ([(2, .ptr 0 1 1 0 0)], [.arr 32 1 [.own 1 1 t.length], .arr 5 1 (ofBytes t)])) (fun t => t.length ≤ 256) ?_ ?_ (Nat.zero_le _) ?_ ?_ ?_
  · simp (maxSteps := 4000000) only [Pg.look, true_and, and_true, alives, aliveO, nxtQ, hdS, pairsA, frzA, closeQ_nil, closeQ_succ, diagQ_zero, subA, subQ, ptrsE, pairsO, frzO, subF, subG, pickOf, assocN, pairsE, pairsC, pairs0, frzE, frzC, frz0, frzH, Pg.freeze, List.foldl_nil, subOs, subO, subEv, subV_succ, subM, AV.cells, AV.pureLeaf, AV.pureB, List.getElem?_cons_zero, reduceCtorEq, Nat.reduceEqDiff, List.append_nil, ite_true, ite_false, List.all_cons, List.all_nil, Bool.and_self, and_self, pickOK_one, Nat.lt_irrefl]
    exact subX_eq rfl rfl
  · simp (maxSteps := 4000000) only [Pg.look, true_and, and_true, alives, aliveO, nxtQ, hdS, pairsA, frzA, closeQ_nil, closeQ_succ, diagQ_zero, diagQ_succ, subA, subQ, ptrsE, pairsO, frzO, subF, subG, pickOf, assocN, pairsE, pairsC, pairs0, frzE, frzC, frz0, frzH, Pg.freeze, List.foldl_nil, subOs, subO, subEv, subV_succ, subM, AV.cells, AV.pureLeaf, AV.pureB, List.getElem?_cons_zero, reduceCtorEq, List.nil_append, List.append_nil, List.cons_append, List.length_cons, List.length_nil, Nat.zero_add, ite_true, ite_false, List.all_cons, List.all_nil, Bool.and_self, and_self, Nat.lt_irrefl, Nat.zero_lt_succ]
    exact ⟨by decide, subX_nls' rfl, rfl⟩
  · rintro t x t' ⟨c, left, rfl, rfl, hp⟩
    rfl
  · rintro t x t' ⟨c, left, rfl, rfl, hp⟩ ht
    have h1 := hp.length_eq
    rw [List.length_append, List.length_cons] at h1
    simp (maxSteps := 4000000) only [↓wpA_H, ↓wpH_block, ↓wpH_region, bselH_false, runH_nil, runH_cons, gw, gselH_plain, ↓chk, justK, noW, ↓oneK, ↓pureK, ↓heapK, ↓thenA_normal, ↓blockA_normal, ↓stepEv, opnd, Pg.look, Bool.and_true, Bool.false_eq_true, implies_true, true_and, and_true, valV, heapV, footV, alives, aliveO, nxtQ, hdS, pairsA, frzA, closeQ_nil, closeQ_succ, diagQ_zero, diagQ_succ, Nat.reduceAdd, ofV, ofLeaf, subA, subQ, ptrsE, pairsO, frzO, subF, subG, pickOf, assocN, pairsE, pairsC, pairs0, frzE, frzC, frz0, frzH, Pg.freeze, List.foldl_nil, subOs, subO, subEv, subV_succ, subM, srcV, srcE, appK, ldCells, objAt, AV.cells, TK.cells, AV.definite, AV.leaf, AV.leafy, AV.pureLeaf, AV.pureB, putCells, List.getElem?_cons_succ, List.getElem?_cons_zero, Option.getD_some, reduceCtorEq, Nat.reduceEqDiff, Nat.reduceAdd, List.nil_append, List.append_nil, List.cons_append, List.length_cons, List.length_nil, List.map_cons, List.map_nil, List.set_cons_zero, List.set_cons_succ, Nat.zero_add, ite_true, ite_false, Option.some.injEq, Option.isSome_some, List.all_cons, List.all_nil, Bool.and_self, and_self, exists_eq_left', List.length_append, rg1, length_ofBytes, app1_ofBytes, pureB_bytes, List.contains_nil, beq_self_eq_true, Nat.reducePow, List.getD_cons_zero, Nat.reduceLeDiff, Nat.le_refl, Nat.lt_irrefl, Nat.mul_one, Nat.zero_lt_succ, parE_cons, parE_nil, rqH_normal, regH_none, isNext, nextF, nextG, selC_false, eb5, tk32, dz32]
    exact ⟨⟨by decide, by omega⟩, by omega, by decide, subX_own' rfl rfl, subX_eq rfl (pureB_bytes _)⟩
  · intro t hD ht
    simp (maxSteps := 4000000) only [↓wpA_H, ↓wpH_ret, ↓wpH_seq, ↓wpH_region, bselH_false, runH_nil, runH_cons, gw, gselH_plain, ↓chk, justK, noW, ↓oneK, ↓pureK, ↓heapK, ↓thenA_normal, ↓blockA_normal, ↓stepEv, opnd, Pg.look, Bool.false_eq_true, implies_true, true_and, and_true, valV, heapV, footV, alives, aliveO, closeQ_nil, diagQ_zero, resK, tupA, subA, subQ, ptrsE, pairsO, frzO, subF, subG, pickOf, assocN, pairsE, pairsC, pairs0, frzE, frzC, frz0, frzH, Pg.freeze, List.foldl_nil, subOs, subO, subEv, subV_succ, subM, ldCells, objAt, AV.cells, TK.cells, List.getElem?_cons_succ, List.getElem?_cons_zero, Option.getD_some, Nat.reduceEqDiff, List.append_nil, List.length_cons, List.length_nil, Nat.zero_add, ite_true, ite_false, Option.some.injEq, and_self, exists_eq_left', pickOK_one, List.contains_nil, List.getD_cons_zero, Nat.lt_irrefl, Nat.zero_lt_succ, regH_none, isNext, nextF, nextG, selC_false, tk32, dz32, retE, kKeys1]
    exact ⟨t, hD, subX_eq rfl (pureB_bytes _), rfl⟩
end Go.Pg
namespace Go.Pg
open Go Go.Proofs Go.RowKit

set_option maxHeartbeats 4000000 in
theorem pass_Collect (w : World) (g : Value) (R : Value → World → Prop) (h : Calls Try.prog 65 #[.slice none 0 0, g] w fun e w' => ∃ v, e = .returned v ∧ R v w') :
    Calls Try.prog 59 #[g] w fun e w' => ∃ v, e = .returned v ∧ R v w' := by
  go_enter Try.func59, Try.ntmps59
  go_wp2_with (go_at_call 65; refine h.mono ?_; rintro e w' ⟨v, rfl, hR⟩)
  go_ret
  exact ⟨v, rfl, hR⟩

set_option maxHeartbeats 4000000 in
theorem pass_Sorted (w : World) (g : Value) (R : Value → World → Prop) (h : Calls Try.prog 59 #[g] w fun e w' => ∃ v, e = .returned v ∧ Calls Try.prog 60 #[v] w' fun e w'' => (∃ u, e = .returned u) ∧ R v w'') :
    Calls Try.prog 47 #[g] w fun e w' => ∃ v, e = .returned v ∧ R v w' := by
  go_enter Try.func47, Try.ntmps47
  go_wp2_with (first
    | (go_at_call 59; refine h.mono ?_; rintro e w' ⟨v, rfl, h2⟩)
    | (go_at_call 60; refine h2.mono ?_; rintro e w' ⟨⟨u, rfl⟩, hR⟩))
  go_ret
  exact ⟨v, rfl, hR⟩
end Go.Pg
namespace Go.Pg
open Go Go.Proofs

theorem renL_bytes (g : Nat → Nat) (l : List UInt8) : renL g (ofBytes l) = ofBytes l := renL_pure g _ (pureB_bytes l)

def ltB (x y : UInt8) : Bool := decide (x.toNat < y.toNat)

set_option maxHeartbeats 4000000 in
theorem calls_isNaN (x : UInt8) : CallsR Try.prog 85 [.int .u8 x.toNat] [] (.bool false) [] := by
  refine callsR_of (mrg := true) (dyn := []) (CtrOK.nil _) mixed Try.func85 rfl (by simp [Try.ntmps85]) (by kernel_rfl) ?_
  rw [show Try.f85.results.toList = [.tmp 2] from by kernel_rfl]
  simp (maxSteps := 4000000) only [↓wpA_H, ↓wpH_ret, ↓wpH_seq, ↓wpH_region, bselH_false, runH_nil, runH_cons, gw, gselH_plain, ↓chk, justK, ↓oneK, ↓pureK, envOf, ↓thenA_normal, ↓stepEv, opnd, Pg.look, binK, intOp, Bool.false_eq_true, implies_true, valV, heapV, footV, binV, intV, alives, closeQ_nil, diagQ_zero, ofV, ofLeaf, retA, resK, tupA, subA, subQ, ptrsE, frzO, subF, subG, pickOf, frzE, frzC, frz0, frzH, Pg.freeze, List.foldl_nil, subOs, subEv, subV_succ, subM, reduceCtorEq, Nat.reduceEqDiff, List.append_nil, List.length_nil, ite_true, ite_false, and_self, pickOK_nil, List.contains_nil, bne_self_eq_false, regH_none, isNext, nextF, nextG, selC_false]
def kIsNaN : C1 := C1.by [.id] (lOne cByte) (fun _ => True) (fun _ => .bool false) (fun _ => [])
theorem ok_isNaN : C1OK Try.prog 85 kIsNaN := C1OK.by (by kernel_rfl) (fun d _ => calls_isNaN d) (fun _ => rfl) (fun _ => rfl)

set_option maxHeartbeats 4000000 in
theorem calls_Less (x y : UInt8) : CallsR Try.prog 75 [.int .u8 x.toNat, .int .u8 y.toNat] [] (.bool (ltB x y)) [] := by
  refine callsR_of (mrg := true) (dyn := []) (CtrOK.cons ok_isNaN (CtrOK.nil _)) mixed Try.func75 rfl (by simp [Try.ntmps75]) (by kernel_rfl) ?_
  rw [show Try.f75.results.toList = [.tmp 4] from by kernel_rfl]
  simp (maxSteps := 4000000) only [↓wpA_H, ↓wpH_ret, ↓wpH_seq, ↓wpH_region, bselH_false, runH_nil, runH_cons, gw, gselH_plain, gselH_if, kselH_1, gkind, ↓chk, justK, ↓oneK, ↓pureK, envOf, ↓thenA_normal, ↓stepEv, opnd, Pg.look, binK, intOp, dstOf, Bool.not_false, Bool.false_eq_true, implies_true, imp_self, true_and, and_true, pickC, pickV, unc, gof, mux, mergeK, condsL, valV, heapV, footV, binV, intV, alives, closeQ_nil, diagQ_zero, mergeable, look_stripE, ofV, ofLeaf, sameK, retA, resK, tupA, subA, subQ, ptrsE, frzO, subF, subG, pickOf, frzE, frzC, frz0, frzH, Pg.freeze, List.foldl_nil, subOs, subEv, subV_succ, subM, ↓callT, callC, callV, callH, normArgs, normA, resL, res8_eq, res_succ, resM, shiftR, shift1, Op.operands, Call.operands, Array.toList_append, List.getElem?_toArray, List.getElem?_cons_succ, List.getElem?_cons_zero, Option.bind_some, reduceCtorEq, Nat.reduceEqDiff, List.nil_append, List.append_nil, List.cons_append, List.length_nil, List.map_cons, List.map_nil, Nat.zero_add, ite_true, ite_false, Bool.and_self, and_self, pickOK_nil, List.toList_toArray, cByte_dec, lOne_dec, List.contains_nil, List.range'_zero, C1by_ns, C1by_pre, C1by_r, C1by_H, optP_some, optV_some, optH_some, C1by_it, regH_none, isNext, nextF, nextG, selC_false, ↓msel, muC, ↓callP, C1by_mu, kIsNaN, ltB]
  rw [Bool.eq_iff_iff]; simp
def kLess : C1 := C1.by [.id, .id] (lCons cByte (lOne cByte)) (fun _ => True) (fun d => .bool (ltB d.1 d.2)) (fun _ => [])
theorem ok_Less : C1OK Try.prog 75 kLess := C1OK.by (by kernel_rfl) (fun d _ => calls_Less d.1 d.2) (fun _ => rfl) (fun _ => rfl)

def swpL (l : List UInt8) (i j : Nat) : List UInt8 := (l.set i (l.getD j 0)).set j (l.getD i 0)
theorem swpL_eq (l : List UInt8) (i j : Nat) : Sort.swp l.toArray i j = (swpL l i j).toArray := by
  simp [Sort.swp, swpL, List.getD_eq_getElem?_getD, getElem!_def]
  cases l[j]? <;> cases l[i]? <;> rfl
theorem swpL_len (l : List UInt8) (i j : Nat) : (swpL l i j).length = l.length := by simp [swpL]
theorem getA (l : List UInt8) (i : Nat) : l.toArray[i]! = l.getD i 0 := by
  simp only [getElem!_def, List.getElem?_toArray, List.getD_eq_getElem?_getD]
  cases l[i]? <;> rfl

/-- One is moved down to its place. -/
def insI (a j : Nat) (l : List UInt8) : List UInt8 := (Sort.insInner ltB a j l.toArray).toList
theorem insI_zero (a : Nat) (l : List UInt8) : insI a 0 l = l := rfl
theorem insI_succ (a j : Nat) (l : List UInt8) : insI a (j + 1) l = if (decide (j + 1 > a) && ltB (l.getD (j + 1) 0) (l.getD j 0)) = true then insI a j (swpL l (j + 1) j) else l := by
  unfold insI
  rw [Sort.insInner, getA, getA, swpL_eq]
  split <;> rfl
theorem insI_len (a : Nat) : ∀ (j : Nat) (l : List UInt8), (insI a j l).length = l.length := by
  intro j
  induction j with
  | zero => intro l; rfl
  | succ j ih =>
    intro l
    rw [insI_succ]
    split
    · rw [ih, swpL_len]
    · rfl
def insO (a b i : Nat) (l : List UInt8) : List UInt8 := (Sort.insOuter ltB a b i l.toArray).toList
theorem insO_lt {a b i : Nat} (l : List UInt8) (h : i < b) : insO a b i l = insO a b (i + 1) (insI a i l) := by
  unfold insO insI
  rw [Sort.insOuter, if_pos h]
theorem insO_ge {a b i : Nat} (l : List UInt8) (h : b ≤ i) : insO a b i l = l := by
  unfold insO
  rw [Sort.insOuter, if_neg (by omega)]
def insS (a b : Nat) (l : List UInt8) : List UInt8 := insO a b (a + 1) l
theorem insS_eq (a b : Nat) (l : List UInt8) : insS a b l = (Sort.insertionSort ltB l.toArray a b).toList := rfl

set_option maxRecDepth 20000 in
set_option maxHeartbeats 4000000 in
theorem calls_insertion (l : List UInt8) (a b : Nat) (hab : a ≤ b) (hb : b ≤ l.length) (hl : l.length ≤ 1000) :
    CallsR Try.prog 69 [.own 0 1 l.length, .int .i64 a, .int .i64 b] [.arr 5 1 (ofBytes l)] (.tuple []) [.arr 5 1 (ofBytes (insS a b l))] := by
  refine callsR_of (mrg := true) (dyn := []) (CtrOK.cons ok_Less (CtrOK.nil _)) mixed Try.func69 rfl (by simp [Try.ntmps69]) (by kernel_rfl) ?_
  rw [show Try.f69.results.toList = [] from by kernel_rfl]
  have w0 : IntKind.i64.wrap ((a : Int) + 1) = ((a + 1 : Nat) : Int) := by rw [wrap64 (by omega) (by omega)]; omega
  simp (maxSteps := 4000000) only [↓wpA_H, ↓wpH_seq, ↓wpH_block, ↓wpH_loop, ↓wpH_region, bselH_false, runH_nil, runH_cons, gw, gselH_plain, ↓chk, justK, ↓oneK, ↓pureK, envOf, ↓thenA_normal, ↓stepEv, opnd, Pg.look, binK, intOp, Bool.false_eq_true, implies_true, true_and, valV, heapV, footV, binV, intV, Nat.reduceAdd, ofV, ofLeaf, reduceCtorEq, Nat.reduceEqDiff, Nat.reduceAdd, List.length_cons, List.length_nil, Nat.zero_add, ite_true, ite_false, and_self, List.contains_nil, regH_none, isNext, nextF, nextG, selC_false, kLess, w0]
  refine loopH_intro (α := Nat × List UInt8) (fun x => ([(0, .own 0 1 l.length), (1, .int .i64 a), (2, .int .i64 b), (6, .int .i64 x.1)], [.arr 5 1 (ofBytes x.2)])) (fun x => x.2.length = l.length ∧ x.1 ≤ b + 1 ∧ a + 1 ≤ x.1 ∧ insO a b x.1 x.2 = insS a b l) (fun x => b + 1 - x.1) (a + 1, l) ⟨rfl, by omega, Nat.le_refl _, rfl⟩ ?_ ?_
  · simp (maxSteps := 4000000) only [Pg.look, true_and, and_true, alives, aliveO, nxtQ, hdS, pairsA, frzA, closeQ_nil, closeQ_succ, diagQ_zero, diagQ_succ, subA, subQ, ptrsE, pairsO, frzO, subF, subG, pickOf, assocN, pairsE, pairsC, pairs0, frzE, frzC, frz0, frzH, Pg.freeze, List.foldl_nil, subOs, subO, subEv, subV_succ, subM, List.getElem?_cons_zero, reduceCtorEq, Nat.reduceEqDiff, List.nil_append, List.append_nil, ite_true, ite_false, and_self, pureB_bytes, Nat.zero_lt_succ]
    exact ⟨by decide, subX_eq rfl (pureB_bytes _)⟩
  rintro ⟨i, m⟩ ⟨hm, hi, hai, hO⟩
  have hm : m.length = l.length := hm
  have hi : i ≤ b + 1 := hi
  have hai : a + 1 ≤ i := hai
  have hO : insO a b i m = insS a b l := hO
  by_cases hlt : i < b
  · have hc : decide ((i : Int) < (b : Int)) = true := decide_eq_true (by omega)
    simp (maxSteps := 4000000) only [↓wpA_H, ↓wpH_skip, ↓wpH_seq, ↓wpH_cond, ↓wpH_block, ↓wpH_loop, ↓wpH_region, ↓iselH_true, bselH_false, runH_nil, runH_cons, gw, gselH_plain, cselH_bool, ↓chk, justK, ↓oneK, ↓pureK, ↓thenA_normal, ↓stepEv, opnd, Pg.look, binK, intOp, Bool.false_eq_true, implies_true, true_and, valV, heapV, footV, binV, intV, reduceCtorEq, Nat.reduceEqDiff, ite_true, ite_false, and_self, List.contains_nil, regH_none, isNext, nextF, nextG, selC_false, kLess, hc]
    refine loopH_intro (α := Nat × List UInt8) (fun x => ([(0, .own 0 1 l.length), (1, .int .i64 a), (2, .int .i64 b), (6, .int .i64 i), (7, .int .i64 x.1)], [.arr 5 1 (ofBytes x.2)])) (fun x => x.2.length = l.length ∧ x.1 ≤ i ∧ a ≤ x.1 ∧ insI a x.1 x.2 = insI a i m) (fun x => x.1) (i, m) ⟨hm, Nat.le_refl _, by omega, rfl⟩ ?_ ?_
    · simp (maxSteps := 4000000) only [Pg.look, true_and, and_true, alives, aliveO, nxtQ, hdS, pairsA, frzA, closeQ_nil, closeQ_succ, diagQ_zero, diagQ_succ, subA, subQ, ptrsE, pairsO, frzO, subF, subG, pickOf, assocN, pairsE, pairsC, pairs0, frzE, frzC, frz0, frzH, Pg.freeze, List.foldl_nil, subOs, subO, subEv, subV_succ, subM, List.getElem?_cons_zero, reduceCtorEq, Nat.reduceEqDiff, List.nil_append, List.append_nil, ite_true, ite_false, and_self, pureB_bytes, Nat.zero_lt_succ]
      exact ⟨by decide, subX_eq rfl (pureB_bytes _)⟩
    rintro ⟨j, q⟩ ⟨hq, hj, haj, hI⟩
    have hq : q.length = l.length := hq
    have hj : j ≤ i := hj
    have haj : a ≤ j := haj
    have hI : insI a j q = insI a i m := hI
    have hO2 := insO_lt (a := a) m hlt
    by_cases hja : a < j
    · obtain ⟨k, rfl⟩ : ∃ k, j = k + 1 := ⟨j - 1, by omega⟩
      have hcj : decide (((k + 1 : Nat) : Int) > (a : Int)) = true := decide_eq_true (by omega)
      have w1 : IntKind.i64.wrap (((k + 1 : Nat) : Int) - 1) = (k : Int) := by rw [wrap64 (by omega) (by omega)]; omega
      have hst := insI_succ a k q
      rw [show decide (k + 1 > a) = true from decide_eq_true hja, Bool.true_and] at hst
      cases hL : ltB (q.getD (k + 1) 0) (q.getD k 0) with
      | true =>
        rw [hL, if_pos rfl] at hst
        simp (maxSteps := 4000000) only [↓wpA_H, ↓wpH_skip, ↓wpH_seq, ↓wpH_cond, ↓wpH_block, ↓wpH_region, ↓iselH_true, bselH_false, runH_nil, runH_cons, gw, gselH_plain, gselH_if, kselH_1, cselH_bool, gkind, ↓chk, justK, noW, ↓oneK, ↓pureK, ↓heapK, ↓thenA_normal, ↓blockA_normal, ↓stepEv, opnd, Pg.look, binK, intOp, dstOf, Bool.not_true, Bool.false_eq_true, Bool.true_eq_false, implies_true, true_and, and_true, forall_const, pickC, pickV, unc, gof, mux, mergeK, condsL, valV, heapV, footV, binV, intV, alives, aliveO, nxtQ, hdS, pairsA, frzA, closeQ_nil, closeQ_succ, diagQ_zero, diagQ_succ, mergeable, look_stripE, ofV, ofLeaf, sameK, subA, subQ, ptrsE, pairsO, frzO, subF, subG, pickOf, assocN, pairsE, pairsC, pairs0, frzE, frzC, frz0, frzH, Pg.freeze, List.foldl_nil, subOs, subO, subEv, subV_succ, subM, ldCells, objAt, ↓callT, callC, callV, normArgs, normA, resL, res8_eq, res_succ, resM, shiftR, shift1, AV.cells, TK.cells, AV.leaf, AV.leafy, putCells, Op.operands, Call.operands, Array.toList_append, List.getElem?_toArray, List.getElem?_cons_succ, List.getElem?_cons_zero, Option.bind_some, Option.getD_some, reduceCtorEq, Nat.reduceEqDiff, List.nil_append, List.append_nil, List.cons_append, List.length_cons, List.length_nil, List.map_cons, List.map_nil, List.set_cons_zero, Nat.zero_add, ite_true, ite_false, Option.some.injEq, Option.isSome_none, List.all_cons, List.all_nil, Bool.and_self, and_self, exists_eq_left', List.toList_toArray, length_ofBytes, getD_ofBytes, set_ofBytes, cByte_dec, lOne_dec, lCons_dec, dec2_some, List.length_set, pureB_bytes, List.contains_nil, List.range'_zero, C1by_ns, C1by_pre, C1by_r, C1by_H, optP_some, optV_some, optH_some, Int.toNat_natCast, Nat.le_refl, Nat.zero_lt_succ, C1by_it, regH_none, isNext, nextF, nextG, selC_true, selC_false, pureC, ↓msel, muC, ↓callP, C1by_mu, tk5, dz5, tk32, kLess, hcj, w1, hL]
        have hq : q.length = l.length := hq
        refine ⟨⟨by omega, by omega⟩, ⟨by omega, by omega⟩, ⟨by omega, by omega⟩, ⟨by omega, by omega⟩, ⟨by omega, by omega⟩, ⟨by omega, by omega⟩, ⟨by omega, by omega⟩, ⟨by omega, by omega⟩, ⟨by omega, by omega⟩, ⟨by omega, by omega⟩, ⟨by omega, by omega⟩, ⟨by omega, by omega⟩, (k, swpL q (k + 1) k), ⟨by rw [swpL_len]; exact hq, by omega, by omega, by rw [← hst]; exact hI⟩, by omega, by decide, subX_eq rfl (pureB_bytes _), rfl⟩
      | false =>
        rw [hL, if_neg (by simp)] at hst
        simp (maxSteps := 4000000) only [↓wpA_H, ↓wpH_exit, ↓wpH_seq, ↓wpH_cond, ↓wpH_region, ↓iselH_false, bselH_false, runH_nil, runH_cons, gw, gselH_plain, gselH_if, kselH_1, cselH_bool, gkind, ↓chk, justK, noW, ↓oneK, ↓pureK, ↓heapK, ↓thenA_normal, ↓thenA_exit, ↓blockA_normal, ↓blockA_exit, ↓stepEv, opnd, Pg.look, binK, intOp, dstOf, Bool.not_true, Bool.false_eq_true, Bool.true_eq_false, implies_true, true_and, and_true, forall_const, pickC, pickV, unc, gof, mux, mergeK, condsL, valV, heapV, footV, binV, intV, alives, aliveO, nxtQ, hdS, pairsA, frzA, closeQ_nil, closeQ_succ, diagQ_zero, diagQ_succ, mergeable, look_stripE, ofV, ofLeaf, sameK, retA, resK, tupA, subA, subQ, ptrsE, pairsO, frzO, subF, subG, pickOf, assocN, pairsE, pairsC, pairsL, pairs0, frzE, frzC, frzL, frz0, frzH, Pg.freeze, List.foldl_nil, subOs, subO, subEv, subV_succ, subM, subL, ldCells, objAt, ↓callT, callC, callV, normArgs, normA, resL, res8_eq, res_succ, resM, shiftR, shift1, AV.cells, TK.cells, Op.operands, Call.operands, Array.toList_append, List.getElem?_toArray, List.getElem?_cons_succ, List.getElem?_cons_zero, Option.bind_some, Option.getD_some, reduceCtorEq, Nat.reduceEqDiff, List.nil_append, List.append_nil, List.cons_append, List.length_cons, List.length_nil, List.map_cons, List.map_nil, Nat.zero_add, ite_true, ite_false, Option.some.injEq, Option.isSome_none, Bool.and_self, and_self, exists_eq_left', List.toList_toArray, length_ofBytes, getD_ofBytes, cByte_dec, lOne_dec, lCons_dec, dec2_some, pureB_bytes, List.contains_nil, List.range'_zero, C1by_ns, C1by_pre, C1by_r, C1by_H, optP_some, optV_some, optH_some, Int.toNat_natCast, Nat.zero_lt_succ, C1by_it, regH_none, isNext, nextF, nextG, selC_true, selC_false, pureC, ↓msel, muC, ↓callP, C1by_mu, tk5, dz5, tk32, kLess, hcj, w1, hL]
        have hq : q.length = l.length := hq
        refine ⟨⟨by omega, by omega⟩, ⟨by omega, by omega⟩, ⟨by omega, by omega⟩, ⟨by omega, by omega⟩, (i + 1, q), ⟨hq, by omega, by omega, ?_⟩, by omega, by decide, subX_eq rfl (pureB_bytes _), by rw [wrap64 (by omega) (by omega)]; rfl⟩
        rw [← hO, hO2, ← hI, hst]
    · have hcj : decide ((j : Int) > (a : Int)) = false := decide_eq_false (by omega)
      have hst : insI a j q = q := by
        cases j with
        | zero => rfl
        | succ k => rw [insI_succ, show decide (k + 1 > a) = false from decide_eq_false (by omega)]; rfl
      simp (maxSteps := 4000000) only [↓wpA_H, ↓wpH_exit, ↓wpH_seq, ↓wpH_cond, ↓wpH_region, ↓iselH_false, bselH_false, runH_nil, runH_cons, gw, gselH_plain, gselH_if, kselH_1, cselH_bool, gkind, ↓chk, justK, noW, ↓oneK, ↓pureK, ↓heapK, ↓thenA_normal, ↓thenA_exit, ↓blockA_normal, ↓blockA_exit, ↓stepEv, opnd, Pg.look, binK, intOp, dstOf, Bool.not_false, Bool.false_eq_true, false_implies, implies_true, imp_self, true_and, and_true, pickC, pickV, unc, gof, mux, mergeK, condsL, valV, heapV, footV, binV, intV, alives, aliveO, nxtQ, hdS, pairsA, frzA, closeQ_nil, closeQ_succ, diagQ_zero, diagQ_succ, mergeable, look_stripE, ofV, ofLeaf, sameK, retA, resK, tupA, subA, subQ, ptrsE, pairsO, frzO, subF, subG, pickOf, assocN, pairsE, pairsC, pairsL, pairs0, frzE, frzC, frzL, frz0, frzH, Pg.freeze, List.foldl_nil, subOs, subO, subEv, subV_succ, subM, subL, ldCells, objAt, ↓callT, callC, callV, normArgs, normA, resL, res8_eq, res_succ, resM, shiftR, shift1, AV.cells, TK.cells, Op.operands, Call.operands, Array.toList_append, List.getElem?_toArray, List.getElem?_cons_succ, List.getElem?_cons_zero, Option.bind_some, Option.getD_some, reduceCtorEq, Nat.reduceEqDiff, List.nil_append, List.append_nil, List.cons_append, List.length_cons, List.length_nil, List.map_cons, List.map_nil, Nat.zero_add, ite_true, ite_false, Option.some.injEq, Option.isSome_none, Bool.and_self, and_self, exists_eq_left', List.toList_toArray, length_ofBytes, getD_ofBytes, cByte_dec, lOne_dec, lCons_dec, dec2_some, pureB_bytes, List.contains_nil, List.range'_zero, C1by_ns, C1by_pre, C1by_r, C1by_H, optP_some, optV_some, optH_some, Int.toNat_natCast, Nat.zero_lt_succ, C1by_it, regH_none, isNext, nextF, nextG, selC_true, selC_false, pureC, ↓msel, muC, ↓callP, C1by_mu, tk5, dz5, tk32, kLess, hcj]
      refine ⟨(i + 1, q), ⟨hq, by omega, by omega, ?_⟩, by omega, by decide, subX_eq rfl (pureB_bytes _), by rw [wrap64 (by omega) (by omega)]; rfl⟩
      rw [← hO, hO2, ← hI, hst]
  · have hc : decide ((i : Int) < (b : Int)) = false := decide_eq_false (by omega)
    simp (maxSteps := 4000000) only [↓wpA_H, ↓wpH_exit, ↓wpH_seq, ↓wpH_cond, ↓wpH_region, ↓iselH_false, bselH_false, runH_nil, runH_cons, gw, gselH_plain, cselH_bool, ↓chk, justK, ↓oneK, ↓pureK, ↓thenA_normal, ↓thenA_exit, ↓blockA_exit, ↓stepEv, opnd, Pg.look, binK, intOp, Bool.false_eq_true, implies_true, true_and, and_true, valV, heapV, footV, binV, intV, alives, aliveO, nxtQ, hdS, pairsA, frzA, closeQ_nil, closeQ_succ, diagQ_zero, diagQ_succ, retA, resK, tupA, subA, subQ, ptrsE, pairsO, frzO, subF, subG, pickOf, assocN, pairsE, pairsC, pairsL, frzE, frzC, frzL, frzH, Pg.freeze, List.foldl_nil, subOs, subO, subEv, subV_succ, subM, subL, List.getElem?_cons_zero, reduceCtorEq, Nat.reduceEqDiff, List.nil_append, List.append_nil, List.length_cons, List.length_nil, Nat.zero_add, ite_true, ite_false, and_self, pureB_bytes, List.contains_nil, Nat.zero_lt_succ, regH_none, isNext, nextF, nextG, selC_false, kLess, hc]
    rw [insO_ge m (by omega)] at hO
    rw [hO]
    exact ⟨by decide, subX_eq rfl (pureB_bytes _)⟩
abbrev hBys : HC (List UInt8) := hOwn 5 1 cByte cByte_pure
def kInsertion : C1 := C1.mby (hCons hBys (hCons (hP .id (cInt .i64)) (hCons (hP .id (cInt .i64)) hNil))) (fun d => 0 ≤ d.2.1 ∧ d.2.1 ≤ d.2.2.1 ∧ d.2.2.1 ≤ d.1.length ∧ d.1.length ≤ 1000) (fun _ => .tuple []) (fun d => [.arr 5 1 (ofBytes (insS d.2.1.toNat d.2.2.1.toNat d.1))])
theorem ok_insertion : C1OK Try.prog 69 kInsertion := C1OK.mby (by kernel_rfl) (fun d h => by
  obtain ⟨l, a, b, u⟩ := d
  obtain ⟨h1, h2, h3, h4⟩ := h
  have h1 : 0 ≤ a := h1
  have h2 : a ≤ b := h2
  have h3 : b ≤ l.length := h3
  have h4 : l.length ≤ 1000 := h4
  have := calls_insertion l a.toNat b.toNat (by omega) (by omega) h4
  rw [show ((a.toNat : Nat) : Int) = a by omega, show ((b.toNat : Nat) : Int) = b by omega] at this
  exact this) (fun _ _ => Nat.le_refl _)

set_option maxRecDepth 20000 in
set_option maxHeartbeats 4000000 in
theorem calls_pdqShort (l : List UInt8) (lim : Int) (hl : l.length ≤ 12) :
    CallsR Try.prog 66 [.own 0 1 l.length, .int .i64 0, .int .i64 l.length, .int .i64 lim] [.arr 5 1 (ofBytes l)] (.tuple []) [.arr 5 1 (ofBytes (insS 0 l.length l))] := by
  refine callsR_of (mrg := true) (dyn := []) (CtrOK.cons ok_insertion (CtrOK.nil _)) mixed Try.func66 rfl (by simp [Try.ntmps66]) (by kernel_rfl) ?_
  rw [show Try.f66.results.toList = [] from by kernel_rfl]
  simp (maxSteps := 4000000) only [↓wpA_H, ↓wpH_seq, ↓wpH_block, ↓wpH_loop, ↓wpH_region, bselH_false, runH_nil, runH_cons, gw, gselH_plain, ↓chk, justK, ↓oneK, ↓pureK, envOf, ↓thenA_normal, ↓stepEv, opnd, Bool.false_eq_true, implies_true, true_and, valV, heapV, footV, Nat.reduceAdd, ofV, ofLeaf, Nat.reduceAdd, List.length_cons, List.length_nil, Nat.zero_add, ite_false, and_self, List.contains_nil, regH_none, isNext, nextF, nextG, selC_false, kInsertion]
  have w0 : IntKind.i64.wrap ((l.length : Int) - 0) = (l.length : Int) := by rw [wrap64 (by omega) (by omega)]; omega
  have hc : decide ((l.length : Int) ≤ 12) = true := decide_eq_true (by omega)
  refine loopH_intro (α := Unit) (fun _ => ([(9, .bool true), (8, .bool true), (0, .own 0 1 l.length), (1, .int .i64 0), (2, .int .i64 l.length), (3, .int .i64 lim)], [.arr 5 1 (ofBytes l)])) (fun _ => True) (fun _ => 0) () trivial ?_ ?_
  · simp (maxSteps := 4000000) only [Pg.look, true_and, and_true, alives, aliveO, nxtQ, hdS, pairsA, frzA, closeQ_nil, closeQ_succ, diagQ_zero, diagQ_succ, subA, subQ, ptrsE, pairsO, frzO, subF, subG, pickOf, assocN, pairsE, pairsC, pairs0, frzE, frzC, frz0, frzH, Pg.freeze, List.foldl_nil, subOs, subO, subEv, subV_succ, subM, List.getElem?_cons_zero, reduceCtorEq, Nat.reduceEqDiff, List.nil_append, List.append_nil, ite_true, ite_false, and_self, pureB_bytes, Nat.zero_lt_succ]
    exact ⟨by decide, subX_eq rfl (pureB_bytes _)⟩
  intro _ _
  simp (maxSteps := 4000000) only [↓wpA_H, ↓wpH_ret, ↓wpH_seq, ↓wpH_cond, ↓wpH_block, ↓wpH_region, ↓iselH_true, bselH_false, runH_nil, runH_cons, gw, gselH_plain, cselH_bool, ↓chk, justK, ↓oneK, ↓pureK, ↓thenA_normal, ↓thenA_ret, ↓blockA_ret, ↓stepEv, opnd, Pg.look, binK, intOp, Bool.not_false, Bool.false_eq_true, implies_true, true_and, and_true, valV, heapV, footV, binV, intV, alives, aliveO, nxtQ, hdS, pairsA, frzA, closeQ_nil, closeQ_succ, diagQ_zero, diagQ_succ, ofV, ofLeaf, retA, resK, tupA, subA, subQ, ptrsE, pairsO, frzO, subF, subG, pickOf, assocN, pairsE, pairsC, pairsL, frzE, frzC, frzL, frzH, Pg.freeze, List.foldl_nil, subOs, subO, subEv, subV_succ, subM, subL, ↓callT, normA, res8_eq, res_succ, resM, List.getElem?_cons_zero, reduceCtorEq, Nat.reduceEqDiff, List.nil_append, List.append_nil, List.length_cons, List.length_nil, List.map_cons, List.map_nil, List.set_cons_zero, Nat.zero_add, Int.reduceToNat, ite_true, ite_false, List.all_cons, List.all_nil, Bool.and_self, and_self, cInt_dec, length_ofBytes, Int.reduceLE, decL_byte, pureB_bytes, List.contains_nil, List.range'_zero, Int.toNat_natCast, Nat.sub_self, Nat.zero_lt_succ, regH_none, isNext, nextF, nextG, selC_false, ↓msel, muC, ↓callU, ↓callUV, ↓callUH, ↓callUF, C1mby_mu, runM_eq, mkM_some, hNil_dec, hCons_dec, app3_some, hP_dec, hP1_some, hP2_some, hO1_some, hO2_arr, hOwn_dec, pickF, nodupB, somes, fresh, gids, putO, ren, renL, renO, kInsertion, w0, hc, renL_bytes]
  exact ⟨⟨by omega, by omega, by omega⟩, by decide, subX_eq rfl (pureB_bytes _)⟩
def kPdqS : C1 := C1.mby (hCons hBys (hCons (hP .id (cInt .i64)) (hCons (hP .id (cInt .i64)) (hCons (hP .id (cInt .i64)) hNil)))) (fun d => d.2.1 = 0 ∧ d.2.2.1 = d.1.length ∧ d.1.length ≤ 12) (fun _ => .tuple []) (fun d => [.arr 5 1 (ofBytes (insS 0 d.1.length d.1))])
theorem ok_pdqS : C1OK Try.prog 66 kPdqS := C1OK.mby (by kernel_rfl) (fun d h => by
  obtain ⟨l, a, b, lim, u⟩ := d
  obtain ⟨h1, h2, h3⟩ := h
  have h1 : a = 0 := h1
  have h2 : b = l.length := h2
  have h := calls_pdqShort l lim h3
  rw [← (show b = (l.length : Int) from h2), ← (show (a : Int) = 0 from h1)] at h
  exact h) (fun _ _ => Nat.le_refl _)
end Go.Pg
