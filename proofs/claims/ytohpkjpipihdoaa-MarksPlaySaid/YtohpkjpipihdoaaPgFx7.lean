/- Bytes are sorted, fewer than 50; the marks' names. A map by bytes held against a list of names, in order, and what they have: plain. The example of chapter 13. The names of the marks. Where a line is behind a change: both tell the same. -/
import Derived.Test.YtohpkjpipihdoaaPgFx6
import Derived.Test.YtohpkjpipihdoaaPgFx0
import Derived.Test.YtohpkjpipihdoaaPgHcd
import Derived.Test.YtohpkjpipihdoaaPgLst
import Derived.Test.YtohpkjpipihdoaaPgFx4
namespace Go.Pg
open Go Go.Proofs

theorem pdqL_srt (l : List UInt8) (lim : Nat) : pdqL 0 l.length lim true true l = srt l := by
  have h := Sort.pdq_sorts ltB swoB l.toArray 0 l.length lim true true (Nat.zero_le _) (by simp) (Or.inl rfl)
  have e : l.toArray.size = l.length := by simp
  unfold pdqL
  rw [← e] at h ⊢
  exact Sort.sorted_unique_holds swoB (fun x y h1 h2 => by simp only [ltB, decide_eq_false_iff_not] at h1 h2; exact UInt8.toNat_inj.1 (by omega)) l.toArray _ h.1 h.2

set_option maxRecDepth 20000 in
set_option maxHeartbeats 4000000 in
theorem calls_SortB (l : List UInt8) (hl : l.length < 50) :
    CallsR Try.prog 60 [.own 0 1 l.length] [.arr 5 1 (ofBytes l)] (.tuple []) [.arr 5 1 (ofBytes (srt l))] := by
  refine callsR_of (mrg := true) (dyn := []) (CtrOK.cons ok_Len (CtrOK.cons (ok_pdq 50) (CtrOK.nil _))) mixed Try.func60 rfl (by simp [Try.ntmps60]) (by kernel_rfl) ?_
  rw [show Try.f60.results.toList = [] from by kernel_rfl]
  have e : IntKind.u64.wrap (l.length : Int) = (l.length : Int) := by rw [IntKind.wrap_u64]; omega
  have hb : Lib.bitLen l.length ≤ 6 := by
    rw [bitLen64 _ (by omega)]
    exact (Sort.bitsLen_le_iff _ 6).2 (by omega)
  simp (maxSteps := 4000000) only [↓wpA_H, ↓wpH_seq, ↓wpH_region, bselH_false, runH_nil, runH_cons, gw, gselH_plain, ↓chk, justK, ↓oneK, ↓pureK, envOf, ↓thenA_normal, ↓stepEv, opnd, Pg.look, Bool.not_false, Bool.false_eq_true, false_implies, implies_true, true_and, and_true, valV, heapV, footV, alives, aliveO, nxtQ, hdS, pairsA, frzA, closeQ_nil, closeQ_succ, diagQ_zero, diagQ_succ, ofV, ofLeaf, retA, resK, tupA, subA, subQ, ptrsE, pairsO, frzO, subF, subG, pickOf, assocN, pairsE, pairsC, pairsL, frzE, frzC, frzL, frzH, Pg.freeze, List.foldl_nil, subOs, subO, subEv, subV_succ, subM, subL, slen, ↓callT, callC, callV, callH, normArgs, normA, resL, res8_eq, res_succ, resM, shiftR, shift1, List.getElem?_cons_zero, Option.getD_some, reduceCtorEq, Nat.reduceEqDiff, List.nil_append, List.append_nil, List.cons_append, List.length_cons, List.length_nil, List.map_cons, List.map_nil, List.set_cons_zero, Nat.zero_add, Int.reduceToNat, ite_true, ite_false, Option.some.injEq, AV.int.injEq, Prod.mk.injEq, ne_eq, not_false_eq_true, List.all_cons, List.all_nil, Bool.and_self, and_self, exists_eq_left', cInt_dec, length_ofBytes, Int.reduceLE, decL_byte, lOne_dec, pureB_bytes, List.contains_nil, Int.cast_ofNat_Int, List.range'_zero, C1by_ns, C1by_pre, C1by_r, C1by_H, optP_some, optV_some, optH_some, Int.toNat_natCast, Nat.sub_self, Nat.zero_lt_succ, C1by_it, regH_none, isNext, nextF, nextG, selC_false, ↓msel, muC, ↓callP, ↓callU, ↓callUV, ↓callUH, ↓callUF, C1by_mu, C1mby_mu, runM_eq, mkM_some, hNil_dec, hCons_dec, app3_some, hP_dec, hP1_some, hP2_some, hO1_some, hO2_arr, hOwn_dec, pickF, nodupB, somes, fresh, gids, putO, ren, renL, renO, tk3, tk32, tk108, kLen, kPdq, renL_bytes, e]
  rw [pdqL_srt]
  exact ⟨⟨by omega, by omega⟩, ⟨by omega, by omega, by omega, by omega, by omega⟩, by decide, subX_eq rfl (pureB_bytes _)⟩

theorem calls_SortedB (l : Mks) (hl : l.length < 50) : CallsR Try.prog 47 [aKeys l] [] (.own 0 1 l.length) [.arr 5 1 (ofBytes (srt (keysOf l)))] := by
  intro E vals hr hv
  obtain ⟨g, rfl, kg⟩ := hv.one
  refine (pass_Sorted E.W g (fun v w'' => ∃ E', E'.W = w'' ∧ VR E' (.own 0 1 l.length) v ∧ Rel [.arr 5 1 (ofBytes (srt (keysOf l)))] E' ∧ Step [] E [.arr 5 1 (ofBytes (srt (keysOf l)))] E') ?_).mono fun e W' ⟨v, he, E', h1, h2, h3, h4⟩ => ⟨v, E', he, h1, h2, h3, h4⟩
  refine pass_Collect E.W g _ ?_
  refine (calls_AppendSeq l (by omega) E #[.slice none 0 0, g] hr ⟨rfl, fun i c hc => ?_⟩).mono fun e W' ⟨t, v, E1, hx, he, hW, hvr, hr1, hst⟩ => ⟨v, he, ?_⟩
  · match i, hc with
    | 0, hc => cases hc; exact .nls
    | 1, hc => cases hc; exact kg
    | i + 2, hc => simp at hc
  · subst hW
    have htl : t.length = l.length := by rw [hx.length_eq]; simp [keysOf]
    refine (calls_SortB t (by omega) E1 #[v] hr1 ⟨rfl, fun i c hc => ?_⟩).mono fun e W'' ⟨u, E2, he, hW, _, hr2, hst2⟩ => ⟨⟨u, he⟩, E2, hW, ?_, ?_, ?_⟩
    · match i, hc with
      | 0, hc => cases hc; exact hvr
      | i + 1, hc => simp at hc
    · rw [← htl]; exact hvr.mono (hst2.ext hr1)
    · rw [srt_perm hx] at hr2; exact hr2
    · rw [srt_perm hx] at hst2; exact hst.trans hst2
def kSortedB : C1 := C1.by [.id] lSorted (fun d => d.length < 50) (fun d => .own 0 1 d.length) (fun d => [.arr 5 1 (ofBytes (srt (keysOf d)))])
theorem ok_SortedB : C1OK Try.prog 47 kSortedB := C1OK.by (by kernel_rfl) (fun d h => calls_SortedB d h) (fun _ => rfl) (fun d => by simp [okObj, pureB_bytes])

set_option maxRecDepth 20000 in
set_option maxHeartbeats 4000000 in
theorem calls_NamesFB (l : Mks) (hl : l.length < 50) : CallsR Try.prog 25 [.ptr 0 1 1 0 0] (mkF l) (.own 2 1 l.length) (mkF l ++ [.arr 5 1 (ofBytes (srt (keysOf l)))]) := by
  refine callsR_of (mrg := true) (dyn := []) (CtrOK.cons ok_Keys (CtrOK.cons ok_SortedB (CtrOK.nil _))) mixed Try.func25 rfl (by simp [Try.ntmps25]) (by kernel_rfl) ?_
  rw [show Try.f25.results.toList = [.tmp 2] from by kernel_rfl]
  simp (maxSteps := 4000000) only [↓wpA_H, ↓wpH_ret, ↓wpH_seq, ↓wpH_region, bselH_false, runH_nil, runH_cons, gw, gselH_plain, ↓chk, justK, noW, ↓oneK, ↓pureK, ↓heapK, envOf, ↓thenA_normal, ↓stepEv, opnd, Pg.look, Bool.and_true, Bool.false_eq_true, false_implies, implies_true, true_and, and_true, valV, heapV, footV, alives, aliveO, nxtQ, hdS, pairsA, frzA, closeQ_nil, closeQ_succ, diagQ_zero, diagQ_succ, Nat.reduceAdd, ofV, ofLeaf, retA, resK, tupA, subA, subQ, ptrsE, pairsO, frzO, subF, subG, pickOf, assocN, pairsE, pairsC, pairsL, pairs0, frzE, frzC, frzL, frz0, frzH, Pg.freeze, List.foldl_nil, List.foldl_cons, subOs, subO, subEv, subV_succ, subM, ldCells, objAt, ↓callT, callC, callV, callH, normArgs, normA, resL, res8_eq, res_succ, resM, shiftR, shift1, AV.cells, TK.cells, AV.pureLeaf, AV.pureB, frzAt, List.getElem?_cons_succ, List.getElem?_cons_zero, Option.getD_some, reduceCtorEq, Nat.reduceEqDiff, Nat.reduceAdd, Nat.reduceLT, List.nil_append, List.append_nil, List.cons_append, List.length_cons, List.length_nil, List.map_cons, List.map_nil, Nat.zero_add, ite_true, ite_false, Option.some.injEq, Prod.mk.injEq, List.all_cons, List.all_nil, and_self, exists_eq_left', lOne_dec, List.contains_nil, List.range'_zero, C1by_ns, C1by_pre, C1by_r, C1by_H, optP_some, optV_some, optH_some, List.getD_cons_zero, Nat.add_zero, Nat.lt_irrefl, Nat.zero_lt_succ, C1by_it, regH_none, isNext, nextF, nextG, selC_false, ↓msel, muC, ↓callP, C1by_mu, mapAt, List.range'_succ, tk81, tk83, dz83, kKeys, kSortedB, aKeys, lSorted_dec, cFmPos_dec, mkF]
  refine ⟨hl, by decide, subX_one ?_, subX_eq rfl (pureB_bytes _)⟩
  simp (maxSteps := 4000000) only [subV_succ, subM, subL, AV.cells, List.getElem?_cons_succ, List.getElem?_cons_zero, and_self]
theorem calls_NamesB (l : Mks) (hl : l.length < 50) : CallsR Try.prog 25 [.ptr 0 1 1 0 0] (mkH l) (.own 2 1 l.length) (mkH l ++ [.arr 5 1 (ofBytes (srt (keysOf l)))]) := by
  refine callsR_thaw (id := 1) (es := encE cByte cPos l) rfl rfl rfl ?_ ?_ (calls_NamesFB l hl)
  · simp only [mkH, List.cons_append, List.nil_append, List.all_cons, List.all_nil, Bool.and_true, Bool.and_eq_true]
    exact ⟨rfl, frs_entE l, frs_bytes _⟩
  · intro E vals hr hv
    obtain ⟨u, rfl, k⟩ := hv.one
    cases k with
    | ptr _ _ _ _ _ v hm hl =>
      obtain ⟨b, hb, _⟩ := (hl 1 (by rw [hr.hl]; rfl)).2 rfl
      have ho := hr.orow 0 _ _ rfl hb
      rcases ho with ⟨h, _⟩ | ⟨b', c, fz, h1, h2, h3, h4, h5⟩
      · cases h
      · obtain ⟨u, _, h6⟩ := (h5 0 _ rfl).2 0 (.mp 1) rfl
        cases h6 with
        | mp _ b hm' _ => exact hm'
def kNamesB : C1 := C1.mby (hCons hMarks hNil) (fun d => d.1.1.length < 50) (fun d => .own 2 1 d.1.1.length) (fun d => mkH d.1.1 ++ [.arr 5 1 (ofBytes (srt (keysOf d.1.1)))])
theorem ok_NamesB : C1OK Try.prog 25 kNamesB := C1OK.mby (by kernel_rfl) (fun d h => calls_NamesB d.1.1 h) (fun _ _ => by show 2 ≤ 3; omega)
end Go.Pg
namespace Go.Pg
open Go Go.Proofs

def ltU (x y : UInt8) : Bool := decide (x.toNat < y.toNat)
/-- Put into a list that is in order. -/
def zSet {ν : Type} (b : UInt8) (p : ν) : List (UInt8 × ν) → List (UInt8 × ν)
  | [] => [(b, p)]
  | x :: r => if x.1.toNat < b.toNat then x :: zSet b p r else if x.1 = b then (b, p) :: r else (b, p) :: x :: r

theorem look1_mem {ν : Type} {k : UInt8} {v : ν} : ∀ {l : List (UInt8 × ν)}, look1 k l = some v → (k, v) ∈ l := by
  intro l
  induction l with
  | nil => intro h; cases h
  | cons x r ih =>
    intro h
    simp only [look1] at h
    split at h
    · next hk => cases h; rw [← hk]; exact List.mem_cons_self
    · exact List.mem_cons_of_mem _ (ih h)
theorem look1_isSome {ν : Type} (k : UInt8) : ∀ l : List (UInt8 × ν), (look1 k l).isSome = true ↔ k ∈ l.map (·.1) := by
  intro l
  induction l with
  | nil => simp [look1]
  | cons x r ih =>
    simp only [look1, List.map_cons, List.mem_cons]
    split
    · next hk => simp [hk]
    · next hk => rw [ih]; exact ⟨.inr, fun h => h.resolve_left (fun e => hk e.symm)⟩
theorem look1_upd {ν : Type} (k b : UInt8) (p : ν) : ∀ l : List (UInt8 × ν), look1 k (upd b p l) = if b = k then some p else look1 k l := by
  intro l
  induction l with
  | nil => simp only [upd, look1]
  | cons x r ih =>
    simp only [upd]
    split
    · next hx =>
      simp only [look1]
      split
      · rfl
      · next hb => rw [if_neg (fun e => hb (hx ▸ e))]
    · next hx =>
      simp only [look1, ih]
      split
      · next hk => rw [if_neg (fun e => hx (hk.trans e.symm))]
      · rfl
theorem upd_keys {ν : Type} (b : UInt8) (p : ν) : ∀ l : List (UInt8 × ν), (l.map (·.1)).Nodup → ((upd b p l).map (·.1)).Nodup := by
  intro l
  have mem : ∀ (l : List (UInt8 × ν)) k, k ∈ (upd b p l).map (·.1) → k = b ∨ k ∈ l.map (·.1) := by
    intro l k hk
    have := (look1_isSome k (upd b p l)).2 hk
    rw [look1_upd] at this
    split at this
    · next h => exact .inl h.symm
    · exact .inr ((look1_isSome k l).1 this)
  induction l with
  | nil => intro _; simp [upd]
  | cons x r ih =>
    intro h
    obtain ⟨hx, hr⟩ := List.nodup_cons.1 h
    simp only [upd]
    split
    · next hb =>
      refine List.nodup_cons.2 ⟨?_, hr⟩
      rw [← hb]; exact hx
    · next hb =>
      refine List.nodup_cons.2 ⟨fun hm => ?_, ih hr⟩
      rcases mem r x.1 hm with h | h
      · exact hb h
      · exact hx h
theorem look1_zSet {ν : Type} (k b : UInt8) (p : ν) : ∀ l : List (UInt8 × ν), l.Pairwise (fun x y => x.1.toNat < y.1.toNat) → look1 k (zSet b p l) = if b = k then some p else look1 k l := by
  intro l
  induction l with
  | nil => intro _; simp only [zSet, look1]
  | cons x r ih =>
    intro hp
    obtain ⟨hx, hr⟩ := List.pairwise_cons.1 hp
    simp only [zSet]
    split
    · next hlt =>
      simp only [look1, ih hr]
      split
      · next hk =>
        rw [if_neg (fun e => by rw [e, ← hk] at hlt; omega)]
      · rfl
    · next hlt =>
      split
      · next he =>
        simp only [look1]
        split
        · rfl
        · next hb => rw [if_neg (fun e => hb (he ▸ e))]
      · next he => simp only [look1]
theorem zSet_asc {ν : Type} (b : UInt8) (p : ν) : ∀ l : List (UInt8 × ν), l.Pairwise (fun x y => x.1.toNat < y.1.toNat) → (zSet b p l).Pairwise (fun x y => x.1.toNat < y.1.toNat) := by
  intro l
  have all : ∀ (l : List (UInt8 × ν)) (n : Nat), n < b.toNat → (∀ y ∈ l, n < y.1.toNat) → ∀ y ∈ zSet b p l, n < y.1.toNat := by
    intro l n hn
    induction l with
    | nil => intro _ y hy; simp only [zSet, List.mem_singleton] at hy; subst hy; exact hn
    | cons x r ih =>
      intro h y hy
      simp only [zSet] at hy
      split at hy
      · rcases List.mem_cons.1 hy with rfl | hy
        · exact h _ List.mem_cons_self
        · exact ih (fun y hy => h y (List.mem_cons_of_mem _ hy)) y hy
      · split at hy
        · rcases List.mem_cons.1 hy with rfl | hy
          · exact hn
          · exact h y (List.mem_cons_of_mem _ hy)
        · rcases List.mem_cons.1 hy with rfl | hy
          · exact hn
          · exact h y hy
  induction l with
  | nil => intro _; simp [zSet]
  | cons x r ih =>
    intro hp
    obtain ⟨hx, hr⟩ := List.pairwise_cons.1 hp
    simp only [zSet]
    split
    · next hlt => exact List.pairwise_cons.2 ⟨all r _ hlt hx, ih hr⟩
    · next hlt =>
      split
      · next he => exact List.pairwise_cons.2 ⟨fun y hy => by have := hx y hy; rw [he] at this; exact this, hr⟩
      · next he =>
        have hne : b.toNat ≠ x.1.toNat := fun e => he (UInt8.toNat_inj.1 e.symm)
        refine List.pairwise_cons.2 ⟨fun y hy => ?_, hp⟩
        rcases List.mem_cons.1 hy with rfl | hy
        · show b.toNat < _; omega
        · have := hx y hy; show b.toNat < _; omega

/-- The map and the list say the same. -/
structure Rm {ν : Type} (m z : List (UInt8 × ν)) : Prop where
  nd : (m.map (·.1)).Nodup
  asc : z.Pairwise (fun x y => x.1.toNat < y.1.toNat)
  get : ∀ k, look1 k z = look1 k m
theorem Rm.nil {ν : Type} : Rm ([] : List (UInt8 × ν)) [] := ⟨List.nodup_nil, List.Pairwise.nil, fun _ => rfl⟩
theorem Rm.set {ν : Type} {m z : List (UInt8 × ν)} (h : Rm m z) (b : UInt8) (p : ν) : Rm (upd b p m) (zSet b p z) :=
  ⟨upd_keys b p m h.nd, zSet_asc b p z h.asc, fun k => by rw [look1_zSet k b p z h.asc, look1_upd, h.get]⟩
theorem Rm.mem {ν : Type} {m z : List (UInt8 × ν)} (h : Rm m z) (k : UInt8) : k ∈ z.map (·.1) ↔ k ∈ m.map (·.1) := by
  rw [← look1_isSome, ← look1_isSome, h.get]
theorem Rm.znd {ν : Type} {m z : List (UInt8 × ν)} (h : Rm m z) : (z.map (·.1)).Nodup := by
  refine (List.Pairwise.map _ (fun x y hxy => ?_) h.asc : (z.map (·.1)).Pairwise (· ≠ ·))
  intro e
  rw [e] at hxy
  omega
theorem Rm.perm {ν : Type} {m z : List (UInt8 × ν)} (h : Rm m z) : (m.map (·.1)).Perm (z.map (·.1)) :=
  (List.perm_ext_iff_of_nodup h.nd h.znd).2 fun k => (h.mem k).symm
theorem Rm.len {ν : Type} {m z : List (UInt8 × ν)} (h : Rm m z) : m.length = z.length := by
  have := h.perm.length_eq
  simpa using this
/-- What is left by a test of what a name has. -/
def sift {ν : Type} (F : ν → Option ν) (l : List (UInt8 × ν)) : List (UInt8 × ν) := l.filterMap fun x => (F x.2).map (Prod.mk x.1)
theorem sift_cons {ν : Type} (F : ν → Option ν) (x : UInt8 × ν) (l : List (UInt8 × ν)) : sift F (x :: l) = ((F x.2).map (Prod.mk x.1)).toList ++ sift F l := by
  unfold sift
  rw [List.filterMap_cons]
  cases F x.2 <;> rfl
theorem sift_mem {ν : Type} {F : ν → Option ν} {l : List (UInt8 × ν)} {y : UInt8 × ν} (h : y ∈ sift F l) : ∃ x ∈ l, x.1 = y.1 ∧ F x.2 = some y.2 := by
  obtain ⟨x, hx, hF⟩ := List.mem_filterMap.1 h
  obtain ⟨v, hv, rfl⟩ := Option.map_eq_some_iff.1 hF
  exact ⟨x, hx, rfl, hv⟩
theorem look1_sift {ν : Type} (F : ν → Option ν) (k : UInt8) : ∀ l : List (UInt8 × ν), (l.map (·.1)).Nodup → look1 k (sift F l) = (look1 k l).bind F := by
  intro l
  induction l with
  | nil => intro _; rfl
  | cons x r ih =>
    intro h
    obtain ⟨hx, hr⟩ := List.nodup_cons.1 h
    rw [sift_cons]
    have hn : x.1 = k → look1 k (sift F r) = none := by
      intro hk
      cases he : look1 k (sift F r) with
      | none => rfl
      | some v =>
        obtain ⟨y, hy, h1, _⟩ := sift_mem (look1_mem he)
        have h1 : y.1 = k := h1
        exact (hx (List.mem_map.2 ⟨y, hy, h1.trans hk.symm⟩)).elim
    cases hF : F x.2 with
    | none =>
      simp only [Option.map_none, Option.toList_none, List.nil_append, look1]
      split
      · next hk => rw [hn hk]; simp [hF]
      · exact ih hr
    | some v =>
      simp only [Option.map_some, Option.toList_some, List.cons_append, List.nil_append, look1]
      split
      · simp [hF]
      · exact ih hr
theorem Rm.sift {ν : Type} {m z : List (UInt8 × ν)} (h : Rm m z) (F : ν → Option ν) : Rm (Go.Pg.sift F m) (Go.Pg.sift F z) := by
  have keys : ∀ l : List (UInt8 × ν), ((Go.Pg.sift F l).map (·.1)).Sublist (l.map (·.1)) := by
    intro l
    induction l with
    | nil => exact List.Sublist.refl _
    | cons x r ih =>
      rw [sift_cons]
      cases F x.2 with
      | none => exact List.Sublist.cons _ ih
      | some v => exact List.Sublist.cons_cons _ ih
  refine ⟨h.nd.sublist (keys m), ?_, fun k => ?_⟩
  · have h1 : (z.map (·.1)).Pairwise (fun a b => a.toNat < b.toNat) := List.pairwise_map.2 h.asc
    exact (List.pairwise_map (f := fun x : UInt8 × ν => x.1) (R := fun a b : UInt8 => a.toNat < b.toNat)).1 (h1.sublist (keys z))
  · rw [look1_sift F k z h.znd, look1_sift F k m h.nd, h.get]
theorem asc_len {ν : Type} (hi : Nat) : ∀ (z : List (UInt8 × ν)) (lo : Nat), z.Pairwise (fun x y => x.1.toNat < y.1.toNat) → (∀ x ∈ z, lo ≤ x.1.toNat ∧ x.1.toNat < hi) → z.length ≤ hi - lo := by
  intro z
  induction z with
  | nil => intro lo _ _; exact Nat.zero_le _
  | cons x r ih =>
    intro lo hp ha
    obtain ⟨hx, hr⟩ := List.pairwise_cons.1 hp
    have h0 := ha x List.mem_cons_self
    have := ih (lo + 1) hr (fun y hy => ⟨by have := hx y hy; omega, (ha y (List.mem_cons_of_mem _ hy)).2⟩)
    rw [List.length_cons]
    omega
theorem zip_self {α β : Type} (z : List (α × β)) : (z.map (fun x => x.1)).zip (z.map (fun x => x.2)) = z := by
  induction z with
  | nil => rfl
  | cons x r ih => simp [ih]
theorem asc_getD {ν : Type} (z : List (UInt8 × ν)) (h : z.Pairwise (fun x y => x.1.toNat < y.1.toNat)) (i : Nat) (hi : i + 1 < z.length) : ((z.map (fun x : UInt8 × ν => x.1)).getD i 0).toNat < ((z.map (fun x : UInt8 × ν => x.1)).getD (i + 1) 0).toNat := by
  have h1 := List.pairwise_iff_getElem.1 h i (i + 1) (by omega) hi (by omega)
  have e1 : (z.map (fun x : UInt8 × ν => x.1)).getD i 0 = z[i].1 := by
    rw [List.getD_eq_getElem?_getD, List.getElem?_map, List.getElem?_eq_getElem (by omega)]; rfl
  have e2 : (z.map (fun x : UInt8 × ν => x.1)).getD (i + 1) 0 = z[i + 1].1 := by
    rw [List.getD_eq_getElem?_getD, List.getElem?_map, List.getElem?_eq_getElem hi]; rfl
  rw [e1, e2]
  exact h1
theorem keys_upd {ν : Type} (b : UInt8) (p : ν) (m : List (UInt8 × ν)) (k : UInt8) : k ∈ (upd b p m).map (·.1) ↔ k = b ∨ k ∈ m.map (·.1) := by
  rw [← look1_isSome, look1_upd]
  split
  · next h => simp [h]
  · next h => rw [look1_isSome]; exact ⟨.inr, fun e => e.resolve_left (fun e => h e.symm)⟩

end Go.Pg
namespace Go.Pg
open Go Go.Proofs

theorem cMarks : CtrOK Try.prog [(18, kNew), (19, kSet), (23, kGet), (21, kAdjust), (25, kNames), (16, kShift)] :=
  CtrOK.cons ok_New (CtrOK.cons ok_Set (CtrOK.cons ok_Get (CtrOK.cons ok_Adjust (CtrOK.cons ok_Names (CtrOK.cons ok_Shift (CtrOK.nil _))))))
set_option maxRecDepth 20000 in
set_option maxHeartbeats 4000000 in
theorem calls_known13 : CallsR Try.prog 15 [] [] (.bool true) [] := by
  refine callsR_of (mrg := false) (dyn := []) (cMarks) mixed Try.func15 rfl (by simp [Try.ntmps15]) (by kernel_rfl) ?_
  rw [show Try.f15.results.toList = [.tmp 0] from by kernel_rfl]
  have n1 : nameOk 98 = true := rfl
  have n2 : nameOk 97 = true := rfl
  have n3 : nameOk 65 = false := rfl
  have s1 : shiftM 5 2 1 3 = (7, true) := rfl
  have s2 : shiftM 3 2 4 1 = (0, false) := rfl
  have hN : (keysOf (upd 97 (1, 0) (upd 98 (4, 0) []))).Nodup := by decide
  have hA : look1 98 (adjM 2 0 1 (upd 97 (1, 0) (upd 98 (4, 0) []))) = some (5, 0) := rfl
  have hB : (adjM 2 0 1 (upd 97 (1, 0) (upd 98 (4, 0) []))).length = 2 := rfl
  have hS : srt (keysOf (adjM 2 0 1 (upd 97 (1, 0) (upd 98 (4, 0) [])))) = [97, 98] := (srt_perm (List.Perm.swap 97 98 [])).trans (List.mergeSort_of_pairwise (by decide))
  simp (maxSteps := 4000000) only [↓wpA_H, ↓wpH_skip, ↓wpH_ret, ↓wpH_seq, ↓wpH_cond, ↓wpH_region, ↓iselH_true, ↓iselH_false, bselH_false, runH_nil, runH_cons, ↓fixG, setG, gw, gselH_plain, gselH_if, kselH_2, cselH_bool, gkind, ↓chk, justK, noW, ↓oneK, ↓pureK, ↓heapK, envOf, ↓thenA_normal, ↓stepEv, opnd, Pg.look, binK, intOp, strOp, dstOf, Bool.and_true, Bool.not_false, Bool.not_true, Bool.false_eq_true, Bool.true_eq_false, false_implies, implies_true, true_and, and_true, pickC, pickV, unc, gof, mux, valV, heapV, footV, binV, intV, strV, alives, closeQ_nil, diagQ_zero, Nat.reduceAdd, mergeable, ofV, ofLeaf, retA, resK, tupA, subA, subQ, ptrsE, frzO, subF, subG, pickOf, frzE, frzC, frz0, frzH, Pg.freeze, List.foldl_nil, subOs, subEv, subV_succ, subM, srcV, srcL, ldCells, objAt, ↓callT, callC, callV, callH, normArgs, normA, resL, res8_eq, res_succ, resM, shiftR, shift1, AV.cells, TK.cells, AV.definite, AV.leaf, AV.leafy, putCells, lay, buildL, List.getElem?_toArray, List.getElem?_cons_succ, List.getElem?_cons_zero, Option.bind_some, Option.getD_some, reduceCtorEq, Nat.reduceEqDiff, Nat.reduceAdd, Nat.reduceSub, List.nil_append, List.append_nil, List.cons_append, List.length_cons, List.length_nil, List.map_cons, List.map_nil, List.set_cons_zero, List.set_cons_succ, Nat.zero_add, Int.reduceToNat, ite_true, ite_false, Option.some.injEq, Option.isSome_some, AV.str.injEq, AV.agg.injEq, Prod.mk.injEq, List.all_cons, List.all_nil, Bool.and_self, and_self, exists_eq_left', pickOK_nil, cInt_dec, length_ofBytes, cByte_lit, Int.reduceLE, Int.reduceLT, UInt8.reduceOfNat, bytesOf_ofBytes, lOne_dec, lCons_dec, dec2_some, List.contains_cons, List.contains_nil, Nat.reduceBEq, Bool.or_self, beq_self_eq_true, List.range'_zero, C1by_ns, C1by_pre, C1by_r, C1by_H, optP_some, optV_some, optH_some, List.getD_cons_zero, List.getD_cons_succ, List.drop_zero, List.drop_succ_cons, List.take_zero, Nat.add_zero, Nat.sub_self, Nat.reduceLeDiff, Nat.le_refl, List.drop_nil, Nat.zero_lt_succ, C1by_it, regH_none, isNext, nextF, nextG, selC_false, ↓msel, muC, ↓callP, ↓callU, ↓callUV, ↓callUH, ↓callUF, C1by_mu, C1mby_mu, runM_eq, mkM_some, hNil_dec, hCons_dec, app3_some, hP_dec, hP1_some, hP2_some, hO1_some, hM1_mp, hMp_dec, hB1_some, hB2_arr, hBox_dec, hAgg_dec, decE_nil, encE_nil, pickF, nodupB, somes, fresh, gids, gid, putO, ren, renL, renO, List.range'_succ, tk3, tk5, tk9, pt29, tk32, tk37, tz37, dz37, kNew, kSet, kGet, kAdjust, kNames, kShift, hMarks, cPos_dec, decE_pos, mkH, n1, n2, n3, s1, s2, hA, hB, hS, renL_bytes, length_ofBytes]
  exact hN
def kKnown13 : C1 := C1.by [] lNil (fun _ => True) (fun _ => .bool true) (fun _ => [])
theorem ok_known13 : C1OK Try.prog 15 kKnown13 := C1OK.by (by kernel_rfl) (fun _ _ => calls_known13) (fun _ => rfl) (fun _ => rfl)
end Go.Pg
namespace Go.Pg
open Go Go.Proofs

abbrev zN (z : Mks) : List UInt8 := z.map (·.1)
abbrev zP (z : Mks) : List (Int × Int) := z.map (·.2)
theorem rSet_z (b : UInt8) (p : Int × Int) (z : Mks) (hz : z.Pairwise (fun x y => x.1.toNat < y.1.toNat)) : rSet (zN z) (zP z) b p = (zN (zSet b p z), zP (zSet b p z)) := by
  induction z with
  | nil => simp [rSet, zN, zP, zSet, lead]
  | cons x r ih =>
    obtain ⟨hx, hr⟩ := List.pairwise_cons.1 hz
    have ih := ih hr
    unfold rSet at ih ⊢
    by_cases hlt : x.1.toNat < b.toNat
    · have hl : lead b (zN (x :: r)) = lead b (zN r) + 1 := by simp [lead, zN, hlt]
      have hzs : zSet b p (x :: r) = x :: zSet b p r := by simp only [zSet, if_pos hlt]
      rw [hl, hzs]
      simp only [zN, zP, List.map_cons, List.getD_cons_succ, List.length_cons, List.set_cons_succ, List.take_succ_cons, List.drop_succ_cons, List.cons_append] at ih ⊢
      by_cases hc : (r.map (·.1)).getD (lead b (r.map (·.1))) 0 = b ∧ lead b (r.map (·.1)) < (r.map (·.1)).length
      · rw [if_pos hc] at ih
        rw [if_pos ⟨hc.1, by omega⟩]
        simp only [Prod.mk.injEq] at ih ⊢
        rw [← ih.1, ← ih.2]
        exact ⟨rfl, rfl⟩
      · rw [if_neg hc] at ih
        rw [if_neg (fun h => hc ⟨h.1, by omega⟩)]
        simp only [Prod.mk.injEq] at ih ⊢
        rw [← ih.1, ← ih.2]
        exact ⟨rfl, rfl⟩
    · have hl : lead b (zN (x :: r)) = 0 := by simp [lead, zN, hlt]
      rw [hl]
      by_cases he : x.1 = b
      · have hzs : zSet b p (x :: r) = (b, p) :: r := by simp only [zSet, if_neg hlt, if_pos he]
        rw [if_pos ⟨he, by simp⟩, hzs]
        simp [zN, zP, he]
      · have hzs : zSet b p (x :: r) = (b, p) :: x :: r := by simp only [zSet, if_neg hlt, if_neg he]
        rw [if_neg (fun h => he h.1), hzs]
        simp [zN, zP]
theorem rGet_z (b : UInt8) (z : Mks) : rGet b (zN z) (zP z) = look1 b z := by
  induction z with
  | nil => rfl
  | cons x r ih => simp only [zN, zP, List.map_cons, rGet, look1] at ih ⊢; rw [ih]
theorem names_srt {m z : Mks} (h : Rm m z) : srt (keysOf m) = zN z := by
  have h1 := srt_perm h.perm
  have h2 : srt (z.map (·.1)) = z.map (·.1) := by
    refine List.mergeSort_of_pairwise ?_
    refine List.pairwise_map.2 (h.asc.imp fun hxy => ?_)
    rw [leU_iff]; omega
  exact h1.trans h2
theorem renL_aPs (g : Nat → Nat) (l : List (Int × Int)) : renL g (aPs l) = aPs l := renL_pure g _ (pureB_aPs l)
theorem nameOk_range {b : UInt8} (h : nameOk b = true) : 96 ≤ b.toNat ∧ b.toNat < 123 := by
  simp only [nameOk, Bool.or_eq_true, Bool.and_eq_true, decide_eq_true_eq, beq_iff_eq] at h
  rcases h with h | h
  · subst h; decide
  · omega

theorem cLawN : CtrOK Try.prog [(15, kKnown13), (18, kNew), (19, kSet), (20, kSet13), (23, kGet), (25, kNamesB)] :=
  CtrOK.cons ok_known13 (CtrOK.cons ok_New (CtrOK.cons ok_Set (CtrOK.cons ok_Set13 (CtrOK.cons ok_Get (CtrOK.cons ok_NamesB (CtrOK.nil _))))))

set_option maxRecDepth 20000 in
set_option maxHeartbeats 8000000 in
theorem calls_MarksNames (l : List UInt8) (hbig : l.length ≤ 9223372036854775807) : CallsR Try.prog 7 [.sl 1 (ofBytes l)] [] (.bool true) [] := by
  refine callsR_of (mrg := true) (dyn := []) (cLawN) mixed Try.func7 rfl (by simp [Try.ntmps7]) (by kernel_rfl) ?_
  rw [show Try.f7.results.toList = [.tmp 2] from by kernel_rfl]
  by_cases hl : l.length > 60
  · have hc : decide ((l.length : Int) > 60) = true := decide_eq_true (by omega)
    simp (maxSteps := 4000000) only [↓wpA_H, ↓wpH_skip, ↓wpH_ret, ↓wpH_seq, ↓wpH_cond, ↓wpH_region, ↓iselH_true, ↓iselH_false, bselH_false, runH_nil, runH_cons, gw, gselH_plain, cselH_bool, ↓chk, justK, ↓oneK, ↓pureK, envOf, ↓thenA_normal, ↓thenA_ret, ↓stepEv, opnd, Pg.look, binK, intOp, Bool.not_true, Bool.false_eq_true, false_implies, implies_true, imp_self, true_and, and_true, valV, heapV, footV, binV, intV, alives, closeQ_nil, diagQ_zero, ofV, ofLeaf, retA, resK, tupA, subA, subQ, ptrsE, frzO, subF, subG, pickOf, frzE, frzC, frz0, frzH, Pg.freeze, List.foldl_nil, subOs, subEv, subV_succ, subM, slen, ↓callT, callC, callV, callH, normArgs, resL, shiftR, shift1, Option.getD_some, reduceCtorEq, Nat.reduceEqDiff, List.nil_append, List.append_nil, List.cons_append, List.length_nil, List.map_nil, Nat.zero_add, ite_true, ite_false, Option.some.injEq, AV.int.injEq, Prod.mk.injEq, and_self, exists_eq_left', pickOK_nil, length_ofBytes, lNil_dec, List.contains_nil, List.range'_zero, C1by_ns, C1by_pre, C1by_r, C1by_H, optP_some, optV_some, optH_some, C1by_it, regH_none, isNext, nextF, nextG, selC_false, ↓msel, muC, ↓callP, C1by_mu, C1mby_mu, tk32, kKnown13, kNew, kSet, kSet13, kGet, kNamesB, hc]
  have hc : decide ((l.length : Int) > 60) = false := decide_eq_false (by omega)
  simp (maxSteps := 4000000) only [↓wpA_H, ↓wpH_skip, ↓wpH_seq, ↓wpH_cond, ↓wpH_block, ↓wpH_loop, ↓wpH_region, ↓iselH_false, bselH_false, runH_nil, runH_cons, gw, gselH_plain, cselH_bool, ↓chk, justK, noW, ↓oneK, ↓pureK, ↓heapK, envOf, ↓thenA_normal, ↓stepEv, opnd, Pg.look, binK, intOp, Bool.not_false, Bool.not_true, Bool.false_eq_true, false_implies, implies_true, imp_self, true_and, and_true, valV, heapV, footV, binV, intV, Nat.reduceAdd, ofV, ofLeaf, Pg.freeze, List.foldl_nil, slen, ↓callT, callC, callV, callH, normArgs, resL, shiftR, shift1, AV.cells, AV.definite, buildL, Option.getD_some, reduceCtorEq, Nat.reduceEqDiff, Nat.reduceAdd, List.nil_append, List.append_nil, List.cons_append, List.length_cons, List.length_nil, List.map_cons, List.map_nil, Nat.zero_add, ite_true, ite_false, Option.some.injEq, Option.isSome_some, AV.int.injEq, AV.agg.injEq, Prod.mk.injEq, List.all_cons, List.all_nil, Bool.and_self, and_self, exists_eq_left', length_ofBytes, lNil_dec, List.contains_nil, List.range'_zero, C1by_ns, C1by_pre, C1by_r, C1by_H, optP_some, optV_some, optH_some, List.getD_cons_zero, List.getD_cons_succ, C1by_it, regH_none, isNext, nextF, nextG, selC_false, ↓msel, muC, ↓callP, ↓callU, ↓callUV, ↓callUH, ↓callUF, C1by_mu, C1mby_mu, runM_eq, mkM_some, hNil_dec, encE_nil, pickF, nodupB, somes, fresh, gids, gid, putO, ren, renL, renO, List.range'_succ, tk32, tk35, tz35, kKnown13, kNew, kSet, kSet13, kGet, kNamesB, hMarks, mkH, hc]
  refine loopH_intro (α := Nat × Mks × Mks) (fun x => ([(5, .int .i64 x.1), (0, .sl 1 (ofBytes l)), (3, .ptr 0 1 1 0 0), (4, .ptr 2 2 1 0 0)], mkH x.2.1 ++ [.arr 35 2 [.agg [.own 3 1 x.2.2.length, .own 4 2 x.2.2.length]], .arr 5 1 (ofBytes (zN x.2.2)), .arr 37 2 (aPs (zP x.2.2))]))
    (fun x => x.1 ≤ l.length ∧ Rm x.2.1 x.2.2 ∧ ∀ k ∈ keysOf x.2.1, nameOk k = true) (fun x => l.length - x.1) (0, [], []) ⟨Nat.zero_le _, Rm.nil, fun k hk => by cases hk⟩ ?_ ?_
  · simp (maxSteps := 4000000) only [Pg.look, Bool.and_true, Bool.false_eq_true, true_and, and_true, alives, aliveO, nxtQ, hdS, pairsA, frzA, closeQ_nil, closeQ_succ, diagQ_zero, Nat.reduceAdd, subA, subQ, ptrsE, pairsO, frzO, subF, subG, pickOf, assocN, pairsE, pairsC, pairsL, pairs0, frzE, frzC, frzL, frz0, frzH, Pg.freeze, List.foldl_nil, subOs, subO, subEv, subV_succ, subM, AV.cells, AV.pureLeaf, AV.pureB, List.getElem?_cons_succ, List.getElem?_cons_zero, reduceCtorEq, Nat.reduceEqDiff, Nat.reduceAdd, List.nil_append, List.append_nil, List.cons_append, List.length_nil, List.map_nil, Nat.zero_add, ite_true, ite_false, List.all_cons, List.all_nil, Bool.and_self, and_self, Int.cast_ofNat_Int, Nat.lt_irrefl, Nat.not_lt_zero, encE_nil, mkH]
    (repeat' first | exact rfl | apply And.intro | exact subX_eq rfl (pureB_bytes _) | exact subX_eq rfl (pureB_aPs _) | exact subX_eq rfl rfl | decide | omega | apply subX_one)
    all_goals try simp (maxSteps := 4000000) only [subL]
  rintro ⟨i, m, z⟩ ⟨gi, gR, gk⟩
  have hi : i ≤ l.length := gi
  have hR : Rm m z := gR
  have hk : ∀ k ∈ keysOf m, nameOk k = true := gk
  clear gi gR gk
  have hmz := hR.len
  have hz27 : z.length ≤ 27 := by
    refine asc_len 123 z 96 hR.asc fun x hx => nameOk_range (hk x.1 ((hR.mem x.1).1 (List.mem_map.2 ⟨x, hx, rfl⟩)))
  by_cases hlt : i < l.length
  · have hc1 : decide ((i : Int) < (l.length : Int)) = true := decide_eq_true (by omega)
    have w1 : IntKind.i64.wrap ((i : Int) + 1) = ((i + 1 : Nat) : Int) := by rw [wrap64 (by omega) (by omega)]; omega
    obtain ⟨b, hb⟩ : ∃ b, b = l.getD i 0 := ⟨_, rfl⟩
    cases hok : nameOk b with
    | true =>
      have hs := rSet_z b ((i : Int), 0) z hR.asc
      have hlook : look1 b (upd b ((i : Int), (0 : Int)) m) = some ((i : Int), (0 : Int)) := by rw [look1_upd, if_pos rfl]
      simp (maxSteps := 4000000) only [↓wpA_H, ↓wpH_skip, ↓wpH_seq, ↓wpH_cond, ↓wpH_block, ↓wpH_region, ↓iselH_true, ↓iselH_false, bselH_false, runH_nil, runH_cons, gw, gselH_plain, gselH_if, kselH_0, kselH_1, cselH_bool, gkind, ↓chk, pickO, justK, noW, ↓oneK, ↓pureK, ↓heapK, ↓thenA_normal, ↓blockA_normal, ↓stepEv, opnd, Pg.look, binK, intOp, dstOf, Bool.and_true, Bool.not_false, Bool.not_true, Bool.false_eq_true, Bool.true_eq_false, implies_true, imp_self, true_and, and_true, pickC, pickV, unc, gof, mux, mergeK, condsL, valV, heapV, footV, binV, intV, alives, aliveO, nxtQ, hdS, pairsA, frzA, closeQ_nil, closeQ_succ, diagQ_zero, Nat.reduceAdd, mergeable, look_stripE, ofV, ofLeaf, sameK, subA, subQ, ptrsE, pairsO, frzO, subF, subG, pickOf, assocN, pairsE, pairsC, pairsL, pairs0, frzE, frzC, frzL, frz0, frzH, Pg.freeze, List.foldl_nil, subOs, subO, subEv, subV_succ, subM, slen, ldCells, objAt, ↓callT, normA, resL, res8_eq, res_succ, resM, AV.cells, TK.cells, AV.definite, AV.leaf, AV.leafy, AV.pureLeaf, AV.pureB, putCells, lay, buildL, Op.operands, List.getElem?_toArray, List.getElem?_cons_succ, List.getElem?_cons_zero, Option.bind_some, Option.getD_some, reduceCtorEq, Nat.reduceEqDiff, Nat.reduceAdd, Nat.reduceSub, List.nil_append, List.append_nil, List.cons_append, List.length_cons, List.length_nil, List.map_cons, List.map_nil, List.set_cons_zero, List.set_cons_succ, Nat.zero_add, ite_true, ite_false, Option.some.injEq, Option.isSome_some, AV.int.injEq, AV.agg.injEq, Bool.if_false_right, Bool.if_true_left, Bool.decide_eq_true, decide_eq_true_eq, decide_eq_false_iff_not, Int.not_le, List.all_cons, List.all_nil, Bool.and_self, and_self, Bool.not_eq_true', exists_eq_left', List.length_map, List.toList_toArray, length_ofBytes, getD_ofBytes, cByte_dec, decL_byte, pureB_bytes, List.contains_cons, List.contains_nil, Nat.reduceBEq, Bool.or_self, beq_self_eq_true, List.range'_zero, bne_self_eq_false, Int.toNat_natCast, List.getD_cons_zero, List.getD_cons_succ, List.drop_zero, List.drop_succ_cons, List.take_zero, Nat.add_zero, Nat.sub_self, Nat.reduceLeDiff, Nat.le_refl, Nat.lt_irrefl, List.drop_nil, Nat.not_lt_zero, Nat.zero_lt_succ, regH_none, isNext, nextF, nextG, selC_false, ↓msel, muC, ↓callU, ↓callUV, ↓callUH, ↓callUF, C1by_mu, C1mby_mu, runM_eq, mkM_some, hNil_dec, hCons_dec, app3_some, hP_dec, hP1_some, hP2_some, hO1_some, hO2_arr, hOwn_dec, hM1_mp, hMp_dec, hB1_some, hB2_arr, hBox_dec, hAgg_dec, encE_nil, pickF, nodupB, somes, fresh, gids, gid, putO, ren, renL, renO, List.range'_succ, tk3, tk4, tk5, dz5, tk32, tk37, tz37, dz37, kKnown13, kNew, kSet, kSet13, kGet, kNamesB, hMarks, hRef, mkH, rH', cPos_dec, decE_pos, decL_aPs, hc1, w1, ← hb, hok, nameOk13_eq, hs, hlook, length_aPs, pureB_aPs, renL_aPs, List.length_map, renL_bytes]
      refine ⟨⟨by omega, hlt⟩, fun h => ⟨h, by omega, hlt⟩, fun h => ⟨h, by omega, hlt⟩, ⟨by omega, hlt⟩, ⟨by omega, hlt⟩, by omega, ⟨by omega, hlt⟩, (i + 1, upd b ((i : Int), (0 : Int)) m, zSet b ((i : Int), (0 : Int)) z), ⟨by show i + 1 ≤ l.length; omega, hR.set b _, fun k hk1 => ?_⟩, by show l.length - (i + 1) < l.length - i; omega, ?_⟩
      · rcases (keys_upd b _ m k).1 hk1 with rfl | h
        · exact hok
        · exact hk k h
      (repeat' first | exact rfl | apply And.intro | exact subX_eq rfl (pureB_bytes _) | exact subX_eq rfl (pureB_aPs _) | exact subX_eq rfl rfl | decide | omega | apply subX_one)
      all_goals try simp (maxSteps := 4000000) only [subL]
    | false =>
      have hlook : look1 b m = none := by
        cases h : look1 b m with
        | none => rfl
        | some v =>
          have := hk b ((look1_isSome b m).1 (by rw [h]; rfl))
          rw [hok] at this
          cases this
      simp (maxSteps := 4000000) only [↓wpA_H, ↓wpH_skip, ↓wpH_seq, ↓wpH_cond, ↓wpH_block, ↓wpH_region, ↓iselH_true, ↓iselH_false, bselH_false, runH_nil, runH_cons, gw, gselH_plain, gselH_if, kselH_0, kselH_1, cselH_bool, gkind, ↓chk, pickO, justK, noW, ↓oneK, ↓pureK, ↓heapK, ↓thenA_normal, ↓blockA_normal, ↓stepEv, opnd, Pg.look, binK, intOp, dstOf, Bool.and_false, Bool.and_true, Bool.not_false, Bool.not_true, Bool.false_eq_true, implies_true, imp_self, true_and, and_true, pickC, pickV, unc, gof, mux, mergeK, condsL, valV, heapV, footV, binV, intV, alives, aliveO, nxtQ, hdS, pairsA, frzA, closeQ_nil, closeQ_succ, diagQ_zero, Nat.reduceAdd, mergeable, look_stripE, ofV, ofLeaf, sameK, subA, subQ, ptrsE, pairsO, frzO, subF, subG, pickOf, assocN, pairsE, pairsC, pairsL, pairs0, frzE, frzC, frzL, frz0, frzH, Pg.freeze, List.foldl_nil, subOs, subO, subEv, subV_succ, subM, slen, ldCells, objAt, ↓callT, normA, resL, res8_eq, res_succ, resM, AV.cells, TK.cells, AV.definite, AV.leaf, AV.leafy, AV.pureLeaf, AV.pureB, putCells, lay, buildL, Op.operands, List.getElem?_toArray, List.getElem?_cons_succ, List.getElem?_cons_zero, Option.bind_some, Option.getD_some, Option.getD_none, reduceCtorEq, Nat.reduceEqDiff, Nat.reduceAdd, Nat.reduceSub, List.nil_append, List.append_nil, List.cons_append, List.length_cons, List.length_nil, List.map_cons, List.map_nil, List.set_cons_zero, List.set_cons_succ, Nat.zero_add, ite_true, ite_false, Option.some.injEq, Option.isSome_some, Option.isSome_none, AV.int.injEq, AV.agg.injEq, Bool.if_false_right, Bool.if_true_left, Bool.decide_eq_true, decide_eq_true_eq, decide_eq_false_iff_not, Int.not_le, List.all_cons, List.all_nil, Bool.and_self, and_self, Bool.not_eq_true', exists_eq_left', List.length_map, List.toList_toArray, length_ofBytes, getD_ofBytes, cByte_dec, decL_byte, pureB_bytes, List.contains_cons, List.contains_nil, Nat.reduceBEq, Bool.or_self, beq_self_eq_true, List.range'_zero, Int.toNat_natCast, List.getD_cons_zero, List.getD_cons_succ, List.drop_zero, List.drop_succ_cons, List.take_zero, Nat.add_zero, Nat.sub_self, Nat.reduceLeDiff, Nat.le_refl, Nat.lt_irrefl, List.drop_nil, Nat.not_lt_zero, Nat.zero_lt_succ, regH_none, isNext, nextF, nextG, selC_false, ↓msel, muC, ↓callU, ↓callUV, ↓callUH, ↓callUF, C1by_mu, C1mby_mu, runM_eq, mkM_some, hNil_dec, hCons_dec, app3_some, hP_dec, hP1_some, hP2_some, hO1_some, hO2_arr, hOwn_dec, hM1_mp, hMp_dec, hB1_some, hB2_arr, hBox_dec, hAgg_dec, encE_nil, pickF, nodupB, somes, fresh, gids, gid, putO, ren, renL, renO, List.range'_succ, tk3, tk4, tk5, dz5, tk32, tk37, tz37, dz37, kKnown13, kNew, kSet, kSet13, kGet, kNamesB, hMarks, hRef, mkH, rH', cPos_dec, decE_pos, decL_aPs, hc1, w1, ← hb, hok, nameOk13_eq, hlook, length_aPs, pureB_aPs, renL_aPs, List.length_map, renL_bytes]
      refine ⟨⟨by omega, hlt⟩, fun h => ⟨h, by omega, hlt⟩, fun h => ⟨h, by omega, hlt⟩, ⟨by omega, hlt⟩, ⟨by omega, hlt⟩, by omega, ⟨by omega, hlt⟩, (i + 1, m, z), ⟨by show i + 1 ≤ l.length; omega, hR, hk⟩, by show l.length - (i + 1) < l.length - i; omega, ?_⟩
      (repeat' first | exact rfl | apply And.intro | exact subX_eq rfl (pureB_bytes _) | exact subX_eq rfl (pureB_aPs _) | exact subX_eq rfl rfl | decide | omega | apply subX_one)
      all_goals try simp (maxSteps := 4000000) only [subL]
  · obtain rfl : i = l.length := by omega
    have hc1 : decide ((l.length : Int) < (l.length : Int)) = false := decide_eq_false (by omega)
    have hsrt := names_srt hR
    simp (maxSteps := 4000000) only [↓wpA_H, ↓wpH_exit, ↓wpH_seq, ↓wpH_cond, ↓wpH_block, ↓wpH_loop, ↓wpH_region, ↓iselH_false, bselH_false, runH_nil, runH_cons, gw, gselH_plain, cselH_bool, ↓chk, justK, ↓oneK, ↓pureK, ↓thenA_normal, ↓thenA_exit, ↓blockA_exit, ↓stepEv, opnd, Pg.look, binK, intOp, Bool.not_false, Bool.false_eq_true, implies_true, true_and, and_true, valV, heapV, footV, binV, intV, Nat.reduceAdd, ofV, ofLeaf, retA, Pg.freeze, List.foldl_nil, slen, ↓callT, List.getElem?_cons_succ, List.getElem?_cons_zero, Option.getD_some, reduceCtorEq, Nat.reduceEqDiff, Nat.reduceAdd, Nat.reduceSub, List.nil_append, List.append_nil, List.cons_append, List.length_cons, List.length_nil, List.map_cons, List.map_nil, List.set_cons_zero, List.set_cons_succ, Nat.zero_add, ite_true, ite_false, Option.some.injEq, AV.int.injEq, List.all_cons, List.all_nil, Bool.and_self, and_self, exists_eq_left', length_ofBytes, List.contains_cons, List.contains_nil, Nat.reduceBEq, Bool.or_self, List.range'_zero, List.getD_cons_zero, List.getD_cons_succ, regH_none, isNext, nextF, nextG, selC_false, ↓msel, muC, ↓callU, ↓callUV, ↓callUH, ↓callUF, C1by_mu, C1mby_mu, runM_eq, mkM_some, hNil_dec, hCons_dec, app3_some, hO1_some, hM1_mp, hMp_dec, hB1_some, hB2_arr, hBox_dec, hAgg_dec, encE_nil, pickF, nodupB, somes, fresh, gids, gid, putO, ren, renL, renO, List.range'_succ, tk32, kKnown13, kNew, kSet, kSet13, kGet, kNamesB, hMarks, hRef, mkH, rH', decE_pos, hc1, hsrt, hmz, renL_bytes]
    refine ⟨by omega, ?_⟩
    refine loopH_intro (α := Nat) (fun k => ([(10, .int .i64 k), (9, .own 5 1 z.length), (3, .ptr 0 1 1 0 0), (4, .ptr 2 2 1 0 0)], [.arr 83 1 [.agg [.mp 1]], .mp (encE cByte cPos m), .arr 35 2 [.agg [.own 3 1 z.length, .own 4 2 z.length]], .arr 5 1 (ofBytes (zN z)), .arr 37 2 (aPs (zP z)), .arr 5 1 (ofBytes (zN z))]))
      (fun k => 1 ≤ k ∧ k ≤ z.length + 1) (fun k => z.length + 1 - k) 1 ⟨Nat.le_refl _, by omega⟩ ?_ ?_
    · simp (maxSteps := 4000000) only [Pg.look, Bool.and_true, Bool.false_eq_true, true_and, and_true, alives, aliveO, nxtQ, hdS, pairsA, frzA, closeQ_nil, closeQ_succ, diagQ_zero, Nat.reduceAdd, subA, subQ, ptrsE, pairsO, frzO, subF, subG, pickOf, assocN, pairsE, pairsC, pairsL, pairs0, frzE, frzC, frzL, frz0, frzH, Pg.freeze, List.foldl_nil, subOs, subO, subEv, subV_succ, subM, AV.cells, AV.pureLeaf, AV.pureB, List.getElem?_cons_succ, List.getElem?_cons_zero, reduceCtorEq, Nat.reduceEqDiff, Nat.reduceAdd, List.nil_append, List.append_nil, List.cons_append, Nat.zero_add, ite_true, ite_false, List.all_cons, List.all_nil, Bool.and_self, and_self, pureB_bytes, Int.cast_ofNat_Int, Nat.lt_irrefl, Nat.not_lt_zero, pureB_aPs]
      (repeat' first | exact rfl | apply And.intro | exact subX_eq rfl (pureB_bytes _) | exact subX_eq rfl (pureB_aPs _) | exact subX_eq rfl rfl | decide | omega | apply subX_one)
      all_goals try simp (maxSteps := 4000000) only [subL]
    rintro k ⟨gk1, gk2⟩
    have hk1 : 1 ≤ k := gk1
    have hk2 : k ≤ z.length + 1 := gk2
    clear gk1 gk2
    by_cases hlt : k < z.length
    · have hc2 : decide ((k : Int) < (z.length : Int)) = true := decide_eq_true (by omega)
      have w1 : IntKind.i64.wrap ((k : Int) - 1) = ((k - 1 : Nat) : Int) := by rw [wrap64 (by omega) (by omega)]; omega
      have w2 : IntKind.i64.wrap ((k : Int) + 1) = ((k + 1 : Nat) : Int) := by rw [wrap64 (by omega) (by omega)]; omega
      have ha := asc_getD z hR.asc (k - 1) (by omega)
      rw [show k - 1 + 1 = k by omega] at ha
      have ha : ((zN z).getD (k - 1) 0).toNat < ((zN z).getD k 0).toNat := ha
      have hc3 : decide ((((zN z).getD (k - 1) 0).toNat : Int) ≥ (((zN z).getD k 0).toNat : Int)) = false := decide_eq_false (by omega)
      simp (maxSteps := 4000000) only [↓wpA_H, ↓wpH_skip, ↓wpH_seq, ↓wpH_cond, ↓wpH_block, ↓wpH_region, ↓iselH_true, ↓iselH_false, bselH_false, runH_nil, runH_cons, gw, gselH_plain, cselH_bool, ↓chk, justK, noW, ↓oneK, ↓pureK, ↓heapK, ↓thenA_normal, ↓blockA_normal, ↓stepEv, opnd, Pg.look, binK, intOp, Bool.and_true, Bool.false_eq_true, implies_true, true_and, and_true, valV, heapV, footV, binV, intV, alives, aliveO, nxtQ, hdS, pairsA, frzA, closeQ_nil, closeQ_succ, diagQ_zero, Nat.reduceAdd, ofV, ofLeaf, subA, subQ, ptrsE, pairsO, frzO, subF, subG, pickOf, assocN, pairsE, pairsC, pairsL, pairs0, frzE, frzC, frzL, frz0, frzH, Pg.freeze, List.foldl_nil, subOs, subO, subEv, subV_succ, subM, slen, ldCells, objAt, AV.cells, TK.cells, AV.pureLeaf, AV.pureB, List.getElem?_cons_succ, List.getElem?_cons_zero, Option.getD_some, reduceCtorEq, Nat.reduceEqDiff, Nat.reduceAdd, List.nil_append, List.append_nil, List.cons_append, Nat.zero_add, ite_true, ite_false, Option.some.injEq, AV.int.injEq, List.all_cons, List.all_nil, Bool.and_self, and_self, exists_eq_left', List.length_map, length_ofBytes, getD_ofBytes, pureB_bytes, List.contains_nil, Int.toNat_natCast, Nat.lt_irrefl, Nat.not_lt_zero, regH_none, isNext, nextF, nextG, selC_true, selC_false, pureC, tk5, dz5, tk32, pureB_aPs, List.length_map, hc2, hc3, w1, w2]
      repeat (first | refine And.intro ⟨by omega, by omega⟩ ?_ | refine And.intro (by omega) ?_)
      refine ⟨k + 1, ⟨by omega, by omega⟩, by omega, ?_⟩
      (repeat' first | exact rfl | apply And.intro | exact subX_eq rfl (pureB_bytes _) | exact subX_eq rfl (pureB_aPs _) | exact subX_eq rfl rfl | decide | omega | apply subX_one)
      all_goals try simp (maxSteps := 4000000) only [subL]
    · have hc2 : decide ((k : Int) < (z.length : Int)) = false := decide_eq_false (by omega)
      simp (maxSteps := 4000000) only [↓wpA_H, ↓wpH_ret, ↓wpH_exit, ↓wpH_seq, ↓wpH_cond, ↓wpH_region, ↓iselH_false, bselH_false, runH_nil, runH_cons, gw, gselH_plain, cselH_bool, ↓chk, justK, noW, ↓oneK, ↓pureK, ↓heapK, ↓thenA_normal, ↓thenA_exit, ↓blockA_exit, ↓stepEv, opnd, Pg.look, binK, intOp, strOp, Bool.false_eq_true, implies_true, true_and, and_true, valV, heapV, footV, binV, intV, strV, alives, closeQ_nil, diagQ_zero, retA, resK, tupA, subA, subQ, ptrsE, frzO, subF, subG, pickOf, frzE, frzC, frz0, frzH, Pg.freeze, List.foldl_nil, subOs, subEv, subV_succ, subM, slen, srcV, srcL, ldCells, objAt, AV.cells, TK.cells, List.getElem?_cons_succ, List.getElem?_cons_zero, Option.getD_some, Nat.reduceEqDiff, List.append_nil, List.length_cons, List.length_nil, Nat.zero_add, ite_true, ite_false, Option.some.injEq, AV.int.injEq, AV.str.injEq, and_self, exists_eq_left', pickOK_nil, List.length_map, length_ofBytes, bytesOf_ofBytes, List.contains_nil, beq_self_eq_true, List.getD_cons_zero, Nat.add_zero, Nat.zero_lt_succ, regH_none, isNext, nextF, nextG, selC_true, selC_false, pureC, tk5, tk9, tk32, tk35, dz35, List.length_map, hc2]
end Go.Pg
namespace Go.Pg
open Go Go.Proofs

theorem shift_same (x a o w : Int) (hx : -1073741824 < x ∧ x < 1073741824) (ha : -9223372036854775808 ≤ a ∧ a ≤ 9223372036854775807) : shiftM x a o w = shiftR13 x a o w := by
  unfold shiftM shiftR13
  by_cases h : (wrong a || wrong o || wrong w || decide (x < a)) = true
  · rw [if_pos h, if_pos h]
  · rw [if_neg h, if_neg h]
    simp only [Bool.not_eq_true, Bool.or_eq_false_iff, wrong, decide_eq_false_iff_not] at h
    obtain ⟨⟨⟨⟨h1, h2⟩, h3, h4⟩, h5, h6⟩, h7⟩ := h
    have e1 : w64 (x - a) = x - a := wrap64 (by omega) (by omega)
    have e2 : w64 (w - o) = w - o := wrap64 (by omega) (by omega)
    have e3 : w64 (x + (w - o)) = x + (w - o) := wrap64 (by omega) (by omega)
    have e4 : w64 (x - o) = x - o := wrap64 (by omega) (by omega)
    have e5 : w64 (x - o + w) = x - o + w := wrap64 (by omega) (by omega)
    rw [e1, e2, e3, e4, e5]
    by_cases c : x - a ≥ o
    · rw [if_pos c, if_neg (by omega), show x + (w - o) = x - o + w by omega]
    · have c' : x - a < o := by omega
      rw [if_neg c, if_pos c']

set_option maxRecDepth 20000 in
set_option maxHeartbeats 4000000 in
theorem calls_MarksShift (x a o w : Int) (hx : -9223372036854775808 ≤ x ∧ x ≤ 9223372036854775807) (ha : -9223372036854775808 ≤ a ∧ a ≤ 9223372036854775807) (ho : -9223372036854775808 ≤ o ∧ o ≤ 9223372036854775807) (hw : -9223372036854775808 ≤ w ∧ w ≤ 9223372036854775807) :
    CallsR Try.prog 3 [.int .i64 x, .int .i64 a, .int .i64 o, .int .i64 w] [] (.bool true) [] := by
  refine callsR_of (mrg := false) (dyn := []) (CtrOK.cons ok_known13 (CtrOK.cons ok_Shift (CtrOK.cons ok_Shift13 (CtrOK.nil _)))) mixed Try.func3 rfl (by simp [Try.ntmps3]) (by kernel_rfl) ?_
  rw [show Try.f3.results.toList = [.tmp 8] from by kernel_rfl]
  have r4 : List.range 4 = [0, 1, 2, 3] := rfl
  simp (maxSteps := 4000000) only [↓wpA_H, ↓wpH_skip, ↓wpH_seq, ↓wpH_cond, ↓wpH_block, ↓wpH_loop, ↓wpH_region, ↓iselH_false, bselH_false, runH_nil, runH_cons, gw, gselH_plain, cselH_bool, ↓chk, justK, noW, ↓oneK, ↓pureK, ↓heapK, envOf, ↓thenA_normal, ↓stepEv, opnd, Pg.look, binK, intOp, Bool.not_true, Bool.false_eq_true, false_implies, implies_true, true_and, and_true, valV, heapV, footV, binV, intV, Nat.reduceAdd, ofV, ofLeaf, Pg.freeze, List.foldl_nil, slen, ↓callT, callC, callV, callH, normArgs, resL, shiftR, shift1, AV.cells, AV.definite, lay, buildL, arrPlaces, List.getElem?_cons_succ, List.getElem?_cons_zero, Option.getD_some, reduceCtorEq, Nat.reduceEqDiff, Nat.reduceAdd, Nat.reduceMul, List.nil_append, List.append_nil, List.cons_append, List.length_cons, List.length_nil, List.map_cons, List.map_nil, Nat.zero_add, ite_true, ite_false, Option.some.injEq, Option.isSome_some, AV.int.injEq, AV.agg.injEq, Prod.mk.injEq, ne_eq, List.all_cons, List.all_nil, Bool.and_self, and_self, exists_eq_left', rg2, lNil_dec, List.contains_nil, beq_self_eq_true, Int.cast_ofNat_Int, List.range'_zero, Nat.reducePow, C1by_ns, C1by_pre, C1by_r, C1by_H, optP_some, optV_some, optH_some, List.drop_zero, List.drop_succ_cons, List.take_succ_cons, List.take_zero, Nat.reduceLeDiff, Nat.le_refl, Nat.mul_one, List.drop_nil, C1by_it, regH_none, isNext, nextF, nextG, selC_false, ↓msel, muC, ↓callP, C1by_mu, tk23, tz23, eb23, tk24, kKnown13, kShift, kShift13, r4]
  have tm : ∀ (z m : Int), 0 < m → -m < z.tmod m ∧ z.tmod m < m := fun z m hm => by
    have h1 := Int.tmod_lt_of_pos z hm
    have h2 := Int.tmod_lt_of_pos (-z) hm
    rw [Int.neg_tmod] at h2
    exact ⟨by omega, h1⟩
  have t1 := tm x 1073741824 (by omega)
  have t2 := tm (x.tmod 1073741824) 40 (by omega)
  have t3 := tm a 20 (by omega)
  generalize (x.tmod 1073741824).tmod 40 = x2 at *
  generalize x.tmod 1073741824 = x1 at *
  generalize a.tmod 20 = a2 at *
  generalize o.tmod 10 = o2 at *
  generalize w.tmod 10 = w2 at *
  have s1 := shift_same x1 a o w (by omega) ha
  have s2 := shift_same x2 a2 o2 w2 (by omega) (by omega)
  refine ⟨by decide, by decide, by decide, by decide, by decide, ?_⟩
  refine loopH_intro (α := Nat) (fun k => ([(33, .own 0 4 2), (34, .int .i64 2), (35, .int .i64 k)], [.arr 23 4 [.agg [.int .i64 x1, .int .i64 a, .int .i64 o, .int .i64 w], .agg [.int .i64 x2, .int .i64 a2, .int .i64 o2, .int .i64 w2]]])) (fun k => k ≤ 2) (fun k => 2 - k) 0 (by omega) ?_ ?_
  · simp (maxSteps := 4000000) only [Pg.look, true_and, and_true, alives, aliveO, closeQ_nil, diagQ_zero, subA, subQ, ptrsE, pairsO, frzO, subF, subG, pickOf, assocN, pairsE, pairsC, pairs0, frzE, frzC, frz0, frzH, Pg.freeze, List.foldl_nil, subOs, subO, subEv, subV_succ, subM, List.getElem?_cons_zero, reduceCtorEq, Nat.reduceEqDiff, List.append_nil, ite_true, ite_false, and_self, pickOK_one, Int.cast_ofNat_Int, Nat.lt_irrefl]
    exact subX_eq rfl rfl
  intro k hk
  obtain rfl | rfl | rfl : k = 0 ∨ k = 1 ∨ k = 2 := by omega
  · simp (maxSteps := 4000000) only [↓wpA_H, ↓wpH_skip, ↓wpH_ret, ↓wpH_exit, ↓wpH_seq, ↓wpH_cond, ↓wpH_block, ↓wpH_region, ↓iselH_true, ↓iselH_false, iselH_if, bselH_false, runH_nil, runH_cons, ↓fixG, setG, gw, gselH_plain, gselH_if, kselH_2, cselH_bool, gkind, ↓chk, justK, noW, ↓oneK, ↓pureK, ↓heapK, ↓thenA_normal, ↓thenA_exit, ↓blockA_normal, ↓blockA_exit, ↓stepEv, opnd, Pg.look, binK, intOp, dstOf, Bool.and_true, Bool.not_false, Bool.not_true, Bool.false_eq_true, false_implies, implies_true, true_and, and_true, forall_const, pickC, pickV, unc, gof, mux, valV, heapV, footV, binV, intV, alives, aliveO, closeQ_nil, diagQ_zero, Nat.reduceAdd, mergeable, ofV, ofLeaf, retA, resK, tupA, subA, subQ, ptrsE, pairsO, frzO, subF, subG, pickOf, assocN, pairsE, pairsC, pairs0, frzE, frzC, frz0, frzH, Pg.freeze, List.foldl_nil, subOs, subO, subEv, subV_succ, subM, ldCells, objAt, ↓callT, callC, callV, callH, normArgs, normA, resL, res8_eq, res_succ, resM, shiftR, shift1, AV.cells, TK.cells, AV.definite, AV.leaf, AV.leafy, putCells, lay, List.getElem?_toArray, List.getElem?_cons_succ, List.getElem?_cons_zero, Option.bind_some, Option.getD_some, Nat.reduceEqDiff, Nat.reduceAdd, List.nil_append, List.append_nil, List.cons_append, List.length_cons, List.length_nil, List.map_cons, List.map_nil, List.set_cons_zero, List.set_cons_succ, Nat.zero_add, Int.reduceToNat, ite_true, ite_false, Option.some.injEq, Prod.mk.injEq, decide_eq_true_eq, decide_eq_false_iff_not, not_true_eq_false, List.all_cons, List.all_nil, Bool.and_self, and_self, exists_eq_left', pickOK_nil, pickOK_one, cInt_dec, Int.reduceLE, Int.reduceLT, lOne_dec, lCons_dec, dec2_some, List.contains_nil, beq_self_eq_true, Int.cast_ofNat_Int, List.range'_zero, bne_self_eq_false, C1by_ns, C1by_pre, C1by_r, C1by_H, optP_some, optV_some, optH_some, List.getD_cons_zero, cutL, List.drop_zero, List.drop_succ_cons, List.take_succ_cons, List.take_zero, Nat.add_zero, Nat.sub_zero, Nat.le_refl, Nat.lt_irrefl, Nat.mul_one, List.drop_nil, List.take_nil, Nat.zero_lt_succ, C1by_it, regH_none, isNext, nextF, nextG, selC_false, ↓msel, muC, ↓callP, C1by_mu, tk3, tk4, tk23, tz23, dz23, tk24, kShift, kShift13, s1]
    exact ⟨1, by omega, by omega, subX_eq rfl rfl, by rw [wrap64 (by omega) (by omega)]; rfl⟩
  · simp (maxSteps := 4000000) only [↓wpA_H, ↓wpH_skip, ↓wpH_ret, ↓wpH_exit, ↓wpH_seq, ↓wpH_cond, ↓wpH_block, ↓wpH_region, ↓iselH_true, ↓iselH_false, iselH_if, bselH_false, runH_nil, runH_cons, ↓fixG, setG, gw, gselH_plain, gselH_if, kselH_2, cselH_bool, gkind, ↓chk, justK, noW, ↓oneK, ↓pureK, ↓heapK, ↓thenA_normal, ↓thenA_exit, ↓blockA_normal, ↓blockA_exit, ↓stepEv, opnd, Pg.look, binK, intOp, dstOf, Bool.and_true, Bool.not_false, Bool.not_true, Bool.false_eq_true, false_implies, implies_true, true_and, and_true, forall_const, pickC, pickV, unc, gof, mux, valV, heapV, footV, binV, intV, alives, aliveO, closeQ_nil, diagQ_zero, Nat.reduceAdd, mergeable, ofV, ofLeaf, retA, resK, tupA, subA, subQ, ptrsE, pairsO, frzO, subF, subG, pickOf, assocN, pairsE, pairsC, pairs0, frzE, frzC, frz0, frzH, Pg.freeze, List.foldl_nil, subOs, subO, subEv, subV_succ, subM, ldCells, objAt, ↓callT, callC, callV, callH, normArgs, normA, resL, res8_eq, res_succ, resM, shiftR, shift1, AV.cells, TK.cells, AV.definite, AV.leaf, AV.leafy, putCells, lay, List.getElem?_toArray, List.getElem?_cons_succ, List.getElem?_cons_zero, Option.bind_some, Option.getD_some, Nat.reduceEqDiff, Nat.reduceAdd, Nat.reduceLT, Nat.reduceSub, List.nil_append, List.append_nil, List.cons_append, List.length_cons, List.length_nil, List.map_cons, List.map_nil, List.set_cons_zero, List.set_cons_succ, Nat.zero_add, Int.reduceToNat, ite_true, ite_false, Option.some.injEq, Prod.mk.injEq, decide_eq_true_eq, decide_eq_false_iff_not, not_true_eq_false, List.all_cons, List.all_nil, Bool.and_self, and_self, exists_eq_left', pickOK_nil, pickOK_one, cInt_dec, Int.reduceLE, Int.reduceLT, lOne_dec, lCons_dec, dec2_some, List.contains_nil, beq_self_eq_true, Int.cast_ofNat_Int, List.range'_zero, bne_self_eq_false, C1by_ns, C1by_pre, C1by_r, C1by_H, optP_some, optV_some, optH_some, List.getD_cons_zero, List.getD_cons_succ, cutL, List.drop_zero, List.drop_succ_cons, List.take_succ_cons, List.take_zero, Nat.add_zero, Nat.sub_zero, Nat.le_refl, Nat.lt_irrefl, Nat.mul_one, List.drop_nil, List.take_nil, Nat.zero_lt_succ, C1by_it, regH_none, isNext, nextF, nextG, selC_false, ↓msel, muC, ↓callP, C1by_mu, tk3, tk4, tk23, tz23, dz23, tk24, kShift, kShift13, s2]
    exact ⟨2, by omega, by omega, subX_eq rfl rfl, by rw [wrap64 (by omega) (by omega)]; rfl⟩
  · simp (maxSteps := 4000000) only [↓wpA_H, ↓wpH_skip, ↓wpH_ret, ↓wpH_exit, ↓wpH_seq, ↓wpH_cond, ↓wpH_block, ↓wpH_region, ↓iselH_true, ↓iselH_false, iselH_if, bselH_false, runH_nil, runH_cons, ↓fixG, setG, gw, gselH_plain, gselH_if, kselH_2, cselH_bool, gkind, ↓chk, justK, noW, ↓oneK, ↓pureK, ↓heapK, ↓thenA_normal, ↓thenA_ret, ↓thenA_exit, ↓blockA_normal, ↓blockA_ret, ↓blockA_exit, ↓stepEv, opnd, Pg.look, binK, intOp, dstOf, Bool.and_true, Bool.not_false, Bool.not_true, Bool.false_eq_true, Bool.true_eq_false, false_implies, implies_true, true_and, and_true, pickC, pickV, unc, gof, mux, valV, heapV, footV, binV, intV, alives, aliveO, closeQ_nil, diagQ_zero, Nat.reduceAdd, mergeable, ofV, ofLeaf, retA, resK, tupA, subA, subQ, ptrsE, pairsO, frzO, subF, subG, pickOf, assocN, pairsE, pairsC, pairs0, frzE, frzC, frz0, frzH, Pg.freeze, List.foldl_nil, subOs, subO, subEv, subV_succ, subM, ldCells, objAt, ↓callT, callC, callV, callH, normArgs, normA, resL, res8_eq, res_succ, resM, shiftR, shift1, AV.cells, TK.cells, AV.definite, AV.leaf, AV.leafy, putCells, lay, List.getElem?_toArray, List.getElem?_cons_succ, List.getElem?_cons_zero, Option.bind_some, Option.getD_some, Nat.reduceEqDiff, Nat.reduceAdd, List.nil_append, List.append_nil, List.cons_append, List.length_cons, List.length_nil, List.map_cons, List.map_nil, List.set_cons_zero, List.set_cons_succ, Nat.zero_add, Int.reduceToNat, ite_true, ite_false, Option.some.injEq, Prod.mk.injEq, decide_eq_true_eq, decide_eq_false_iff_not, not_false_eq_true, List.all_cons, List.all_nil, Bool.and_self, and_self, Bool.not_eq_true', exists_eq_left', pickOK_nil, pickOK_one, cInt_dec, Int.reduceLE, Int.reduceLT, lOne_dec, lCons_dec, dec2_some, List.contains_nil, Int.cast_ofNat_Int, List.range'_zero, C1by_ns, C1by_pre, C1by_r, C1by_H, optP_some, optV_some, optH_some, List.getD_cons_zero, List.getD_cons_succ, List.getD_nil, cutL, List.drop_zero, List.drop_succ_cons, List.take_succ_cons, List.take_zero, Nat.add_zero, Nat.sub_zero, Nat.sub_self, Nat.le_refl, Nat.lt_irrefl, Nat.mul_one, List.drop_nil, List.take_nil, Nat.not_lt_zero, Nat.zero_lt_succ, C1by_it, regH_none, isNext, nextF, nextG, selC_false, ↓msel, muC, ↓callP, C1by_mu, tk3, tk4, tk23, tz23, dz23, tk24, kShift, kShift13]
end Go.Pg
