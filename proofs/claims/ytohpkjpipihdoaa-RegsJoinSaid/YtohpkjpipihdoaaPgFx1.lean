/- A map by bytes held against a list of names, in order, and what they have: plain. The document's marks: set, asked, moved. -/
import Derived.Test.YtohpkjpipihdoaaPgFx0
import Derived.Test.YtohpkjpipihdoaaPgHcd
import Derived.Test.YtohpkjpipihdoaaPgLst
namespace Go.Pg
open Go Go.Proofs

def ltU (x y : UInt8) : Bool := decide (x.toNat < y.toNat)
/-- Put into a list that is in order. -/
def zSet {ν : Type} (b : UInt8) (p : ν) : List (UInt8 × ν) → List (UInt8 × ν)
  | [] => [(b, p)]
  | x :: r => if x.1.toNat < b.toNat then x :: zSet b p r else if x.1 = b then (b, p) :: r else (b, p) :: x :: r

theorem look1_mem {ν : Type} {k : UInt8} {v : ν} : ∀ {l : List (UInt8 × ν)}, look1 k l = some v → (k, v) ∈ l := by
  intro l
  induction l with
  | nil => intro h; cases h
  | cons x r ih =>
    intro h
    simp only [look1] at h
    split at h
    · next hk => cases h; rw [← hk]; exact List.mem_cons_self
    · exact List.mem_cons_of_mem _ (ih h)
theorem look1_isSome {ν : Type} (k : UInt8) : ∀ l : List (UInt8 × ν), (look1 k l).isSome = true ↔ k ∈ l.map (·.1) := by
  intro l
  induction l with
  | nil => simp [look1]
  | cons x r ih =>
    simp only [look1, List.map_cons, List.mem_cons]
    split
    · next hk => simp [hk]
    · next hk => rw [ih]; exact ⟨.inr, fun h => h.resolve_left (fun e => hk e.symm)⟩
theorem look1_upd {ν : Type} (k b : UInt8) (p : ν) : ∀ l : List (UInt8 × ν), look1 k (upd b p l) = if b = k then some p else look1 k l := by
  intro l
  induction l with
  | nil => simp only [upd, look1]
  | cons x r ih =>
    simp only [upd]
    split
    · next hx =>
      simp only [look1]
      split
      · rfl
      · next hb => rw [if_neg (fun e => hb (hx ▸ e))]
    · next hx =>
      simp only [look1, ih]
      split
      · next hk => rw [if_neg (fun e => hx (hk.trans e.symm))]
      · rfl
theorem upd_keys {ν : Type} (b : UInt8) (p : ν) : ∀ l : List (UInt8 × ν), (l.map (·.1)).Nodup → ((upd b p l).map (·.1)).Nodup := by
  intro l
  have mem : ∀ (l : List (UInt8 × ν)) k, k ∈ (upd b p l).map (·.1) → k = b ∨ k ∈ l.map (·.1) := by
    intro l k hk
    have := (look1_isSome k (upd b p l)).2 hk
    rw [look1_upd] at this
    split at this
    · next h => exact .inl h.symm
    · exact .inr ((look1_isSome k l).1 this)
  induction l with
  | nil => intro _; simp [upd]
  | cons x r ih =>
    intro h
    obtain ⟨hx, hr⟩ := List.nodup_cons.1 h
    simp only [upd]
    split
    · next hb =>
      refine List.nodup_cons.2 ⟨?_, hr⟩
      rw [← hb]; exact hx
    · next hb =>
      refine List.nodup_cons.2 ⟨fun hm => ?_, ih hr⟩
      rcases mem r x.1 hm with h | h
      · exact hb h
      · exact hx h
theorem look1_zSet {ν : Type} (k b : UInt8) (p : ν) : ∀ l : List (UInt8 × ν), l.Pairwise (fun x y => x.1.toNat < y.1.toNat) → look1 k (zSet b p l) = if b = k then some p else look1 k l := by
  intro l
  induction l with
  | nil => intro _; simp only [zSet, look1]
  | cons x r ih =>
    intro hp
    obtain ⟨hx, hr⟩ := List.pairwise_cons.1 hp
    simp only [zSet]
    split
    · next hlt =>
      simp only [look1, ih hr]
      split
      · next hk =>
        rw [if_neg (fun e => by rw [e, ← hk] at hlt; omega)]
      · rfl
    · next hlt =>
      split
      · next he =>
        simp only [look1]
        split
        · rfl
        · next hb => rw [if_neg (fun e => hb (he ▸ e))]
      · next he => simp only [look1]
theorem zSet_asc {ν : Type} (b : UInt8) (p : ν) : ∀ l : List (UInt8 × ν), l.Pairwise (fun x y => x.1.toNat < y.1.toNat) → (zSet b p l).Pairwise (fun x y => x.1.toNat < y.1.toNat) := by
  intro l
  have all : ∀ (l : List (UInt8 × ν)) (n : Nat), n < b.toNat → (∀ y ∈ l, n < y.1.toNat) → ∀ y ∈ zSet b p l, n < y.1.toNat := by
    intro l n hn
    induction l with
    | nil => intro _ y hy; simp only [zSet, List.mem_singleton] at hy; subst hy; exact hn
    | cons x r ih =>
      intro h y hy
      simp only [zSet] at hy
      split at hy
      · rcases List.mem_cons.1 hy with rfl | hy
        · exact h _ List.mem_cons_self
        · exact ih (fun y hy => h y (List.mem_cons_of_mem _ hy)) y hy
      · split at hy
        · rcases List.mem_cons.1 hy with rfl | hy
          · exact hn
          · exact h y (List.mem_cons_of_mem _ hy)
        · rcases List.mem_cons.1 hy with rfl | hy
          · exact hn
          · exact h y hy
  induction l with
  | nil => intro _; simp [zSet]
  | cons x r ih =>
    intro hp
    obtain ⟨hx, hr⟩ := List.pairwise_cons.1 hp
    simp only [zSet]
    split
    · next hlt => exact List.pairwise_cons.2 ⟨all r _ hlt hx, ih hr⟩
    · next hlt =>
      split
      · next he => exact List.pairwise_cons.2 ⟨fun y hy => by have := hx y hy; rw [he] at this; exact this, hr⟩
      · next he =>
        have hne : b.toNat ≠ x.1.toNat := fun e => he (UInt8.toNat_inj.1 e.symm)
        refine List.pairwise_cons.2 ⟨fun y hy => ?_, hp⟩
        rcases List.mem_cons.1 hy with rfl | hy
        · show b.toNat < _; omega
        · have := hx y hy; show b.toNat < _; omega

/-- The map and the list say the same. -/
structure Rm {ν : Type} (m z : List (UInt8 × ν)) : Prop where
  nd : (m.map (·.1)).Nodup
  asc : z.Pairwise (fun x y => x.1.toNat < y.1.toNat)
  get : ∀ k, look1 k z = look1 k m
theorem Rm.nil {ν : Type} : Rm ([] : List (UInt8 × ν)) [] := ⟨List.nodup_nil, List.Pairwise.nil, fun _ => rfl⟩
theorem Rm.set {ν : Type} {m z : List (UInt8 × ν)} (h : Rm m z) (b : UInt8) (p : ν) : Rm (upd b p m) (zSet b p z) :=
  ⟨upd_keys b p m h.nd, zSet_asc b p z h.asc, fun k => by rw [look1_zSet k b p z h.asc, look1_upd, h.get]⟩
theorem Rm.mem {ν : Type} {m z : List (UInt8 × ν)} (h : Rm m z) (k : UInt8) : k ∈ z.map (·.1) ↔ k ∈ m.map (·.1) := by
  rw [← look1_isSome, ← look1_isSome, h.get]
theorem Rm.znd {ν : Type} {m z : List (UInt8 × ν)} (h : Rm m z) : (z.map (·.1)).Nodup := by
  refine (List.Pairwise.map _ (fun x y hxy => ?_) h.asc : (z.map (·.1)).Pairwise (· ≠ ·))
  intro e
  rw [e] at hxy
  omega
theorem Rm.perm {ν : Type} {m z : List (UInt8 × ν)} (h : Rm m z) : (m.map (·.1)).Perm (z.map (·.1)) :=
  (List.perm_ext_iff_of_nodup h.nd h.znd).2 fun k => (h.mem k).symm
theorem Rm.len {ν : Type} {m z : List (UInt8 × ν)} (h : Rm m z) : m.length = z.length := by
  have := h.perm.length_eq
  simpa using this
/-- What is left by a test of what a name has. -/
def sift {ν : Type} (F : ν → Option ν) (l : List (UInt8 × ν)) : List (UInt8 × ν) := l.filterMap fun x => (F x.2).map (Prod.mk x.1)
theorem sift_cons {ν : Type} (F : ν → Option ν) (x : UInt8 × ν) (l : List (UInt8 × ν)) : sift F (x :: l) = ((F x.2).map (Prod.mk x.1)).toList ++ sift F l := by
  unfold sift
  rw [List.filterMap_cons]
  cases F x.2 <;> rfl
theorem sift_mem {ν : Type} {F : ν → Option ν} {l : List (UInt8 × ν)} {y : UInt8 × ν} (h : y ∈ sift F l) : ∃ x ∈ l, x.1 = y.1 ∧ F x.2 = some y.2 := by
  obtain ⟨x, hx, hF⟩ := List.mem_filterMap.1 h
  obtain ⟨v, hv, rfl⟩ := Option.map_eq_some_iff.1 hF
  exact ⟨x, hx, rfl, hv⟩
theorem look1_sift {ν : Type} (F : ν → Option ν) (k : UInt8) : ∀ l : List (UInt8 × ν), (l.map (·.1)).Nodup → look1 k (sift F l) = (look1 k l).bind F := by
  intro l
  induction l with
  | nil => intro _; rfl
  | cons x r ih =>
    intro h
    obtain ⟨hx, hr⟩ := List.nodup_cons.1 h
    rw [sift_cons]
    have hn : x.1 = k → look1 k (sift F r) = none := by
      intro hk
      cases he : look1 k (sift F r) with
      | none => rfl
      | some v =>
        obtain ⟨y, hy, h1, _⟩ := sift_mem (look1_mem he)
        have h1 : y.1 = k := h1
        exact (hx (List.mem_map.2 ⟨y, hy, h1.trans hk.symm⟩)).elim
    cases hF : F x.2 with
    | none =>
      simp only [Option.map_none, Option.toList_none, List.nil_append, look1]
      split
      · next hk => rw [hn hk]; simp [hF]
      · exact ih hr
    | some v =>
      simp only [Option.map_some, Option.toList_some, List.cons_append, List.nil_append, look1]
      split
      · simp [hF]
      · exact ih hr
theorem Rm.sift {ν : Type} {m z : List (UInt8 × ν)} (h : Rm m z) (F : ν → Option ν) : Rm (Go.Pg.sift F m) (Go.Pg.sift F z) := by
  have keys : ∀ l : List (UInt8 × ν), ((Go.Pg.sift F l).map (·.1)).Sublist (l.map (·.1)) := by
    intro l
    induction l with
    | nil => exact List.Sublist.refl _
    | cons x r ih =>
      rw [sift_cons]
      cases F x.2 with
      | none => exact List.Sublist.cons _ ih
      | some v => exact List.Sublist.cons_cons _ ih
  refine ⟨h.nd.sublist (keys m), ?_, fun k => ?_⟩
  · have h1 : (z.map (·.1)).Pairwise (fun a b => a.toNat < b.toNat) := List.pairwise_map.2 h.asc
    exact (List.pairwise_map (f := fun x : UInt8 × ν => x.1) (R := fun a b : UInt8 => a.toNat < b.toNat)).1 (h1.sublist (keys z))
  · rw [look1_sift F k z h.znd, look1_sift F k m h.nd, h.get]
theorem asc_len {ν : Type} (hi : Nat) : ∀ (z : List (UInt8 × ν)) (lo : Nat), z.Pairwise (fun x y => x.1.toNat < y.1.toNat) → (∀ x ∈ z, lo ≤ x.1.toNat ∧ x.1.toNat < hi) → z.length ≤ hi - lo := by
  intro z
  induction z with
  | nil => intro lo _ _; exact Nat.zero_le _
  | cons x r ih =>
    intro lo hp ha
    obtain ⟨hx, hr⟩ := List.pairwise_cons.1 hp
    have h0 := ha x List.mem_cons_self
    have := ih (lo + 1) hr (fun y hy => ⟨by have := hx y hy; omega, (ha y (List.mem_cons_of_mem _ hy)).2⟩)
    rw [List.length_cons]
    omega
theorem zip_self {α β : Type} (z : List (α × β)) : (z.map (fun x => x.1)).zip (z.map (fun x => x.2)) = z := by
  induction z with
  | nil => rfl
  | cons x r ih => simp [ih]
theorem asc_getD {ν : Type} (z : List (UInt8 × ν)) (h : z.Pairwise (fun x y => x.1.toNat < y.1.toNat)) (i : Nat) (hi : i + 1 < z.length) : ((z.map (fun x : UInt8 × ν => x.1)).getD i 0).toNat < ((z.map (fun x : UInt8 × ν => x.1)).getD (i + 1) 0).toNat := by
  have h1 := List.pairwise_iff_getElem.1 h i (i + 1) (by omega) hi (by omega)
  have e1 : (z.map (fun x : UInt8 × ν => x.1)).getD i 0 = z[i].1 := by
    rw [List.getD_eq_getElem?_getD, List.getElem?_map, List.getElem?_eq_getElem (by omega)]; rfl
  have e2 : (z.map (fun x : UInt8 × ν => x.1)).getD (i + 1) 0 = z[i + 1].1 := by
    rw [List.getD_eq_getElem?_getD, List.getElem?_map, List.getElem?_eq_getElem hi]; rfl
  rw [e1, e2]
  exact h1
theorem keys_upd {ν : Type} (b : UInt8) (p : ν) (m : List (UInt8 × ν)) (k : UInt8) : k ∈ (upd b p m).map (·.1) ↔ k = b ∨ k ∈ m.map (·.1) := by
  rw [← look1_isSome, look1_upd]
  split
  · next h => simp [h]
  · next h => rw [look1_isSome]; exact ⟨.inr, fun e => e.resolve_left (fun e => h e.symm)⟩

end Go.Pg
namespace Go.Pg
open Go Go.Proofs

def aPs (l : List (Int × Int)) : List AV := l.map fun p => .agg [.int .i64 p.1, .int .i64 p.2]
theorem length_aPs (l : List (Int × Int)) : (aPs l).length = l.length := by simp [aPs]
theorem take_aPs (l : List (Int × Int)) (n : Nat) : (aPs l).take n = aPs (l.take n) := by simp [aPs, List.map_take]
theorem drop_aPs (l : List (Int × Int)) (n : Nat) : (aPs l).drop n = aPs (l.drop n) := by simp [aPs, List.map_drop]
theorem app_aPs (l m : List (Int × Int)) : aPs l ++ aPs m = aPs (l ++ m) := by simp [aPs]
theorem app1_aPs (l : List (Int × Int)) (a b : Int) : aPs l ++ [.agg [.int .i64 a, .int .i64 b]] = aPs (l ++ [(a, b)]) := by simp [aPs]
theorem cons_aPs (l : List (Int × Int)) (a b : Int) : .agg [.int .i64 a, .int .i64 b] :: aPs l = aPs ((a, b) :: l) := by simp [aPs]
theorem set_aPs (l : List (Int × Int)) (i : Nat) (a b : Int) : (aPs l).set i (.agg [.int .i64 a, .int .i64 b]) = aPs (l.set i (a, b)) := by simp [aPs, List.map_set]
theorem getD_aPs (l : List (Int × Int)) (i : Nat) : (aPs l).getD i (.agg [.int .i64 0, .int .i64 0]) = .agg [.int .i64 (l.getD i (0, 0)).1, .int .i64 (l.getD i (0, 0)).2] := getD_map (fun p : Int × Int => AV.agg [.int .i64 p.1, .int .i64 p.2]) l i (0, 0)
theorem pureB_aPs (l : List (Int × Int)) : (aPs l).all AV.pureB = true := by simp [aPs, AV.pureB, AV.cells, AV.pureLeaf]
theorem leafy_aPs (l : List (Int × Int)) : (aPs l).all AV.leafy = true := by simp [aPs, AV.leafy, AV.cells, AV.leaf]
theorem decL_aPs (l : List (Int × Int)) : decL cPos.dec (aPs l) = some l := decL_enc cPos cPos_ed l
theorem cons_ofBytes (b : UInt8) (l : List UInt8) : .int .u8 b.toNat :: ofBytes l = ofBytes (b :: l) := by simp [ofBytes]
theorem cByte_pure (b : UInt8) : (cByte.enc b).pureB = true := rfl
theorem cPos_pure (p : Int × Int) : (cPos.enc p).pureB = true := rfl

theorem neL_bytes (b : UInt8) (l : List UInt8) : neL (ofBytes (b :: l)) = true := rfl
theorem neL_aPs (p : Int × Int) (l : List (Int × Int)) : neL (aPs (p :: l)) = true := rfl
theorem one_add' (n : Nat) : 1 + n = n + 1 := Nat.add_comm 1 n

def hRef : HC (List UInt8 × List (Int × Int) × Unit) := hPtr 35 2 (hCons (hOwn 5 1 cByte cByte_pure) (hCons (hOwn 37 2 cPos cPos_pure) hNil))
abbrev rH (n : List UInt8) (p : List (Int × Int)) : AH := [.arr 35 2 [.agg [.own 1 1 n.length, .own 2 2 p.length]], .arr 5 1 (ofBytes n), .arr 37 2 (aPs p)]
/-- The same behind a change: the lists are new ones. -/
abbrev rH' (n : List UInt8) (p : List (Int × Int)) : AH := [.arr 35 2 [.agg [.own 3 1 n.length, .own 4 2 p.length]], .dead, .dead, .arr 5 1 (ofBytes n), .arr 37 2 (aPs p)]

/-- How many names stand ahead of one. -/
def lead (b : UInt8) (n : List UInt8) : Nat := (n.takeWhile (fun c => decide (c.toNat < b.toNat))).length
def rSet (n : List UInt8) (ps : List (Int × Int)) (b : UInt8) (p : Int × Int) : List UInt8 × List (Int × Int) :=
  if n.getD (lead b n) 0 = b ∧ lead b n < n.length then (n, ps.set (lead b n) p) else (n.take (lead b n) ++ b :: n.drop (lead b n), ps.take (lead b n) ++ p :: ps.drop (lead b n))

theorem nameOk13_eq (b : UInt8) : (decide ((b.toNat : Int) ≥ 97) && decide ((b.toNat : Int) ≤ 122) || (b.toNat : Int) == 96) = nameOk b := by
  have h1 : ((b.toNat : Int) == 96) = (b == 96) := by
    rw [Bool.eq_iff_iff]
    simp only [beq_iff_eq]
    constructor
    · intro h; exact UInt8.toNat_inj.1 (by have : b.toNat = 96 := by omega
                                           rw [this]; rfl)
    · intro h; subst h; rfl
  have h2 : decide ((b.toNat : Int) ≥ 97) = decide (97 ≤ b.toNat) := by rw [Bool.eq_iff_iff]; simp; omega
  have h3 : decide ((b.toNat : Int) ≤ 122) = decide (b.toNat ≤ 122) := by rw [Bool.eq_iff_iff]; simp; omega
  rw [h1, h2, h3, nameOk, Bool.or_comm]

theorem lead_le (b : UInt8) (n : List UInt8) : lead b n ≤ n.length := (List.takeWhile_sublist _).length_le
theorem lead_lt (b : UInt8) (n : List UInt8) (k : Nat) (h : k < lead b n) : (n.getD k 0).toNat < b.toNat := by
  induction n generalizing k with
  | nil => simp [lead] at h
  | cons c n ih =>
    simp only [lead, List.takeWhile_cons] at h ih
    split at h
    · next hc =>
      cases k with
      | zero => simpa using hc
      | succ k => simpa using ih k (by simpa using h)
    · simp at h
theorem lead_at (b : UInt8) (n : List UInt8) (h : lead b n < n.length) : ¬ (n.getD (lead b n) 0).toNat < b.toNat := by
  induction n with
  | nil => simp at h
  | cons c n ih =>
    simp only [lead, List.takeWhile_cons] at h ih ⊢
    split at h
    · next hc => rw [if_pos hc]; simpa using ih (by simpa using h)
    · next hc => rw [if_neg hc]; simpa using hc

set_option maxRecDepth 20000 in
set_option maxHeartbeats 4000000 in
theorem calls_Set13 (n : List UInt8) (ps : List (Int × Int)) (b : UInt8) (p : Int × Int) (hl : n.length = ps.length) (hn : n.length ≤ 1000) :
    CallsR Try.prog 20 [.ptr 0 2 1 0 0, .int .u8 b.toNat, .agg [.int .i64 p.1, .int .i64 p.2]] (rH n ps)
      (.bool (nameOk b)) (rH' (if nameOk b = true then rSet n ps b p else (n, ps)).1 (if nameOk b = true then rSet n ps b p else (n, ps)).2) := by
  refine callsR_of (mrg := true) (dyn := [9, 10]) (CtrOK.nil _) mixed Try.func20 rfl (by simp [Try.ntmps20]) (by kernel_rfl) ?_
  rw [show Try.f20.results.toList = [.tmp 6] from by kernel_rfl]
  cases hb : nameOk b with
  | false =>
    simp (maxSteps := 4000000) only [↓wpA_H, ↓wpH_ret, ↓wpH_seq, ↓wpH_cond, ↓wpH_region, ↓iselH_true, bselH_false, runH_nil, runH_cons, gw, gselH_plain, gselH_if, kselH_1, cselH_bool, gkind, ↓chk, justK, noW, ↓oneK, ↓pureK, ↓heapK, envOf, ↓thenA_normal, ↓thenA_ret, ↓stepEv, opnd, Pg.look, binK, intOp, dstOf, Bool.and_true, Bool.not_false, Bool.false_eq_true, implies_true, imp_self, true_and, and_true, pickC, pickV, unc, gof, mux, mergeK, condsL, valV, heapV, footV, binV, intV, alives, aliveO, nxtQ, hdS, pairsA, frzA, closeQ_nil, closeQ_succ, diagQ_zero, diagQ_succ, Nat.reduceAdd, mergeable, look_stripE, ofV, ofLeaf, sameK, retA, resK, tupA, subA, subQ, ptrsE, pairsO, frzO, subF, subG, pickOf, assocN, pairsE, pairsC, pairsL, pairs0, frzE, frzC, frzL, frz0, frzH, Pg.freeze, List.foldl_nil, subOs, subO, subEv, subV_succ, subM, AV.cells, AV.definite, AV.pureLeaf, AV.pureB, Op.operands, List.getElem?_toArray, List.getElem?_cons_succ, List.getElem?_cons_zero, Option.bind_some, reduceCtorEq, Nat.reduceEqDiff, Nat.reduceAdd, Nat.reduceLT, List.nil_append, List.append_nil, List.cons_append, List.length_cons, List.length_nil, Nat.zero_add, ite_true, ite_false, Bool.if_false_right, Bool.if_true_left, Bool.decide_eq_true, decide_eq_true_eq, decide_eq_false_iff_not, Int.not_le, List.all_cons, List.all_nil, Bool.and_self, and_self, Bool.not_eq_true', List.toList_toArray, pureB_bytes, List.contains_cons, List.contains_nil, Nat.reduceBEq, Bool.or_self, Nat.lt_irrefl, Nat.zero_lt_succ, regH_none, isNext, nextF, nextG, selC_false, nameOk13_eq, hb, pureB_aPs, rH, rH']
    refine ⟨by decide, subX_one ?_, subX_eq rfl (pureB_bytes _), subX_eq rfl (pureB_aPs _)⟩
    simp (maxSteps := 4000000) only [subV_succ, subM, subL, AV.cells, List.getElem?_cons_succ, List.getElem?_cons_zero, and_self]
  | true =>
    simp (maxSteps := 4000000) only [↓wpA_H, ↓wpH_skip, ↓wpH_seq, ↓wpH_cond, ↓wpH_block, ↓wpH_loop, ↓wpH_region, ↓iselH_false, bselH_false, runH_nil, runH_cons, gw, gselH_plain, gselH_if, kselH_1, cselH_bool, gkind, ↓chk, justK, noW, ↓oneK, ↓pureK, ↓heapK, envOf, ↓thenA_normal, ↓stepEv, opnd, Pg.look, binK, intOp, dstOf, Bool.not_true, Bool.false_eq_true, implies_true, imp_self, true_and, and_true, pickC, pickV, unc, gof, mux, mergeK, condsL, valV, heapV, footV, binV, intV, Nat.reduceAdd, mergeable, look_stripE, ofV, ofLeaf, sameK, AV.cells, AV.definite, Op.operands, List.getElem?_toArray, List.getElem?_cons_succ, List.getElem?_cons_zero, Option.bind_some, reduceCtorEq, Nat.reduceEqDiff, Nat.reduceAdd, List.nil_append, List.cons_append, List.length_cons, List.length_nil, Nat.zero_add, ite_true, ite_false, Bool.if_false_right, Bool.if_true_left, Bool.decide_eq_true, decide_eq_true_eq, decide_eq_false_iff_not, Int.not_le, Bool.and_self, and_self, Bool.not_eq_true', List.toList_toArray, List.contains_cons, List.contains_nil, Nat.reduceBEq, Bool.or_self, regH_none, isNext, nextF, nextG, selC_false, nameOk13_eq, hb, rH]
    have hlead := lead_le b n
    refine loopH_intro (α := Nat) (fun k => ([(7, .int .i64 k), (6, .bool false), (5, .ptr 3 2 1 0 0), (0, .ptr 0 2 1 0 0), (1, .int .u8 b.toNat)], [.arr 35 2 [.agg [.own 1 1 n.length, .own 2 2 ps.length]], .arr 5 1 (ofBytes n), .arr 37 2 (aPs ps), .arr 37 2 [.agg [.int .i64 p.1, .int .i64 p.2]]]))
      (fun k => k ≤ lead b n) (fun k => lead b n - k) 0 (by omega) ?_ ?_
    · simp (maxSteps := 4000000) only [Pg.look, Bool.and_true, Bool.false_eq_true, true_and, and_true, alives, aliveO, nxtQ, hdS, pairsA, frzA, closeQ_nil, closeQ_succ, diagQ_zero, diagQ_succ, Nat.reduceAdd, subA, subQ, ptrsE, pairsO, frzO, subF, subG, pickOf, assocN, pairsE, pairsC, pairsL, pairs0, frzE, frzC, frzL, frz0, frzH, Pg.freeze, List.foldl_nil, subOs, subO, subEv, subV_succ, subM, AV.cells, AV.pureLeaf, AV.pureB, List.getElem?_cons_succ, List.getElem?_cons_zero, reduceCtorEq, Nat.reduceEqDiff, Nat.reduceAdd, Nat.reduceLT, List.nil_append, List.append_nil, List.cons_append, Nat.zero_add, ite_true, ite_false, List.all_cons, List.all_nil, Bool.and_self, and_self, pureB_bytes, Int.cast_ofNat_Int, Nat.lt_irrefl, Nat.zero_lt_succ, pureB_aPs]
      refine ⟨by decide, subX_one ?_, subX_eq rfl (pureB_bytes _), subX_eq rfl (pureB_aPs _), subX_one ?_⟩
      all_goals simp (maxSteps := 4000000) only [subV_succ, subM, subL, AV.cells, List.getElem?_cons_succ, List.getElem?_cons_zero, and_self]
    intro k hk
    by_cases hlt : k < lead b n
    · have h1 := lead_lt b n k hlt
      have hc1 : decide ((k : Int) < (n.length : Int)) = true := decide_eq_true (by omega)
      have hc2 : decide (((n.getD k 0).toNat : Int) < (b.toNat : Int)) = true := decide_eq_true (by omega)
      have w1 : IntKind.i64.wrap ((k : Int) + 1) = ((k + 1 : Nat) : Int) := by rw [wrap64 (by omega) (by omega)]; omega
      simp (maxSteps := 4000000) only [↓wpA_H, ↓wpH_skip, ↓wpH_seq, ↓wpH_cond, ↓wpH_block, ↓wpH_region, ↓iselH_true, bselH_false, runH_nil, runH_cons, gw, gselH_plain, gselH_if, kselH_1, cselH_bool, gkind, ↓chk, justK, noW, ↓oneK, ↓pureK, ↓heapK, ↓thenA_normal, ↓blockA_normal, ↓stepEv, opnd, Pg.look, binK, intOp, dstOf, Bool.and_true, Bool.not_true, Bool.false_eq_true, Bool.true_eq_false, implies_true, true_and, and_true, forall_const, pickC, pickV, unc, gof, mux, mergeK, condsL, valV, heapV, footV, binV, intV, alives, aliveO, nxtQ, hdS, pairsA, frzA, closeQ_nil, closeQ_succ, diagQ_zero, diagQ_succ, Nat.reduceAdd, mergeable, look_stripE, ofV, ofLeaf, sameK, subA, subQ, ptrsE, pairsO, frzO, subF, subG, pickOf, assocN, pairsE, pairsC, pairsL, pairs0, frzE, frzC, frzL, frz0, frzH, Pg.freeze, List.foldl_nil, subOs, subO, subEv, subV_succ, subM, slen, ldCells, objAt, AV.cells, TK.cells, AV.pureLeaf, AV.pureB, Op.operands, List.getElem?_toArray, List.getElem?_cons_succ, List.getElem?_cons_zero, Option.bind_some, Option.getD_some, reduceCtorEq, Nat.reduceEqDiff, Nat.reduceAdd, Nat.reduceLT, List.nil_append, List.append_nil, List.cons_append, List.length_cons, List.length_nil, Nat.zero_add, ite_true, ite_false, Option.some.injEq, AV.int.injEq, List.all_cons, List.all_nil, Bool.and_self, and_self, exists_eq_left', List.toList_toArray, length_ofBytes, getD_ofBytes, pureB_bytes, List.contains_cons, List.contains_nil, Nat.reduceBEq, Bool.or_self, Int.toNat_natCast, List.getD_cons_zero, Nat.add_zero, Nat.lt_irrefl, Nat.zero_lt_succ, regH_none, isNext, nextF, nextG, selC_false, tk5, dz5, tk32, tk35, dz35, pureB_aPs, hc1, hc2, w1]
      refine ⟨⟨by omega, by omega⟩, by omega, k + 1, by omega, by omega, by decide, ⟨subX_one ?_, subX_eq rfl (pureB_bytes _), subX_eq rfl (pureB_aPs _), subX_one ?_⟩, rfl⟩
      all_goals simp (maxSteps := 4000000) only [subV_succ, subM, subL, AV.cells, List.getElem?_cons_succ, List.getElem?_cons_zero, and_self]
    · obtain rfl : k = lead b n := by omega
      by_cases hend : lead b n < n.length
      · have h1 := lead_at b n hend
        have hc1 : decide ((lead b n : Int) < (n.length : Int)) = true := decide_eq_true (by omega)
        have hc2 : decide (((n.getD (lead b n) 0).toNat : Int) < (b.toNat : Int)) = false := decide_eq_false (by omega)
        have hc3 : (((n.getD (lead b n) 0).toNat : Int) == (b.toNat : Int)) = decide (n.getD (lead b n) 0 = b) := by
          rw [Bool.eq_iff_iff]
          simp only [beq_iff_eq, decide_eq_true_eq]
          exact ⟨fun h => UInt8.toNat_inj.1 (by omega), fun h => by rw [h]⟩
        simp (maxSteps := 4000000) only [↓wpA_H, ↓wpH_skip, ↓wpH_ret, ↓wpH_exit, ↓wpH_seq, ↓wpH_cond, ↓wpH_region, bselH_true, ↓iselH_false, iselH_if, bselH_false, runH_nil, runH_cons, gw, gselH_plain, gselH_if, kselH_1, cselH_bool, gkind, ↓chk, justK, noW, ↓oneK, ↓pureK, ↓heapK, ↓thenA_normal, ↓thenA_ret, ↓thenA_exit, ↓blockA_exit, ↓stepEv, opnd, Pg.look, binK, intOp, dstOf, Bool.and_true, Bool.not_true, Bool.false_eq_true, Bool.true_eq_false, implies_true, true_and, and_true, forall_const, pickC, pickV, unc, gof, mux, mergeK, condsL, valV, heapV, footV, binV, intV, cutV, cutM, alives, aliveO, nxtQ, nsel_true, hdS, pairsA, frzA, closeQ_nil, closeQ_succ, diagQ_zero, diagQ_succ, Nat.reduceAdd, mergeable, look_stripE, ofV, ofLeaf, sameK, retA, resK, tupA, subA, subQ, ptrsE, pairsO, frzO, subF, subG, pickOf, assocN, pairsE, pairsC, pairsL, pairs0, frzE, frzC, frzL, frz0, frzH, Pg.freeze, List.foldl_nil, List.foldl_cons, subOs, subO, subEv, subV_succ, subM, slen, srcV, srcL, srcE, appK, ldCells, objAt, sliceL, ↓sliceOwn, AV.cells, TK.cells, AV.definite, AV.leaf, AV.leafy, AV.pureLeaf, AV.pureB, putCells, lay, frzAt, Op.operands, List.getElem?_toArray, List.getElem?_cons_succ, List.getElem?_cons_zero, Option.bind_some, Option.map_some, Option.map_none, Option.getD_some, reduceCtorEq, Nat.reduceEqDiff, Nat.reduceAdd, Nat.reduceLT, List.nil_append, List.append_nil, List.cons_append, List.length_cons, List.length_nil, List.map_cons, List.map_nil, List.set_cons_zero, List.set_cons_succ, Nat.zero_add, ite_true, ite_false, Option.some.injEq, Option.isSome_some, AV.int.injEq, Prod.mk.injEq, decide_eq_true_eq, decide_eq_false_iff_not, not_false_eq_true, List.all_cons, List.all_nil, Bool.and_self, and_self, exists_eq_left', List.toList_toArray, rg1, not_mem_nil, length_ofBytes, take_ofBytes, drop_ofBytes, getD_ofBytes, app_ofBytes, pureB_bytes, leafy_bytes, List.contains_cons, List.contains_nil, Nat.reduceBEq, Bool.or_self, Bool.or_false, beq_self_eq_true, Bool.or_true, Nat.reducePow, Int.toNat_natCast, List.getD_cons_zero, cutL, List.drop_zero, List.drop_succ_cons, List.take_succ_cons, List.take_zero, Nat.add_zero, Nat.sub_zero, Nat.reduceLeDiff, Nat.le_refl, Nat.lt_irrefl, Nat.mul_one, Nat.one_mul, List.drop_nil, List.take_nil, Nat.zero_lt_succ, regH_none, isNext, nextF, nextG, selC_true, selC_false, pureC, tk5, dz5, eb5, tk32, tk33, tk35, dz35, tk37, dz37, eb37, length_aPs, pureB_aPs, leafy_aPs, hc1, hc2, hc3, set_aPs, getD_aPs, take_aPs, drop_aPs, app_aPs, cons_ofBytes, cons_aPs, neL_bytes, neL_aPs, one_add']
        refine ⟨⟨by omega, by omega⟩, by omega, ⟨by omega, by omega⟩, by omega, fun he => ?_, fun he => ?_⟩
        · have hr : rSet n ps b p = (n, ps.set (lead b n) p) := if_pos ⟨he, hend⟩
          rw [hr]
          refine ⟨⟨by omega, by omega⟩, by omega, by decide, subX_one ?_, subX_eq rfl (pureB_bytes _), subX_eq rfl (pureB_aPs _)⟩
          simp (maxSteps := 4000000) only [subV_succ, subM, subL, AV.cells, List.getElem?_cons_succ, List.getElem?_cons_zero, and_self, List.length_set]
        · have hr : rSet n ps b p = (n.take (lead b n) ++ b :: n.drop (lead b n), ps.take (lead b n) ++ p :: ps.drop (lead b n)) := if_neg (fun h => he h.1)
          rw [hr]
          simp only [List.length_drop, List.length_take]
          refine ⟨⟨by omega, by omega⟩, ⟨by omega, by omega⟩, by omega, by omega, by kernel_rfl, ⟨by omega, by omega⟩, ⟨by omega, by omega⟩, by omega, by omega, by kernel_rfl, by decide, subX_one ?_, subX_eq rfl (pureB_bytes _), subX_eq rfl (pureB_aPs _)⟩
          simp (maxSteps := 4000000) only [subV_succ, subM, subL, AV.cells, List.getElem?_cons_succ, List.getElem?_cons_zero, List.length_cons, and_self, List.length_append, List.length_drop, List.length_take]
          done
      · have hc1 : decide ((lead b n : Int) < (n.length : Int)) = false := decide_eq_false (by omega)
        simp (maxSteps := 4000000) only [↓wpA_H, ↓wpH_skip, ↓wpH_ret, ↓wpH_exit, ↓wpH_seq, ↓wpH_cond, ↓wpH_region, bselH_true, ↓iselH_false, bselH_false, runH_nil, runH_cons, gw, gselH_plain, gselH_if, kselH_1, cselH_bool, gkind, ↓chk, justK, noW, ↓oneK, ↓pureK, ↓heapK, ↓thenA_normal, ↓thenA_exit, ↓blockA_exit, ↓stepEv, opnd, Pg.look, binK, intOp, dstOf, Bool.and_true, Bool.not_false, Bool.false_eq_true, false_implies, implies_true, imp_self, true_and, and_true, forall_const, pickC, pickV, unc, gof, mux, mergeK, condsL, valV, heapV, footV, binV, intV, cutV, cutM, alives, aliveO, nxtQ, nsel_true, hdS, pairsA, frzA, closeQ_nil, closeQ_succ, diagQ_zero, diagQ_succ, Nat.reduceAdd, mergeable, look_stripE, ofV, ofLeaf, sameK, retA, resK, tupA, subA, subQ, ptrsE, pairsO, frzO, subF, subG, pickOf, assocN, pairsE, pairsC, pairsL, pairs0, frzE, frzC, frzL, frz0, frzH, Pg.freeze, List.foldl_nil, List.foldl_cons, subOs, subO, subEv, subV_succ, subM, slen, srcV, srcL, srcE, appK, ldCells, objAt, sliceL, ↓sliceOwn, AV.cells, TK.cells, AV.definite, AV.leaf, AV.leafy, AV.pureLeaf, AV.pureB, putCells, lay, frzAt, Op.operands, List.getElem?_toArray, List.getElem?_cons_succ, List.getElem?_cons_zero, Option.bind_some, Option.map_some, Option.map_none, Option.getD_some, reduceCtorEq, Nat.reduceEqDiff, Nat.reduceAdd, Nat.reduceLT, List.nil_append, List.append_nil, List.cons_append, List.length_cons, List.length_nil, List.map_cons, List.map_nil, List.set_cons_zero, List.set_cons_succ, Nat.zero_add, ite_true, ite_false, Option.some.injEq, Option.isSome_some, AV.int.injEq, Prod.mk.injEq, not_false_eq_true, List.all_cons, List.all_nil, Bool.and_self, and_self, exists_eq_left', List.toList_toArray, rg1, not_mem_nil, length_ofBytes, take_ofBytes, drop_ofBytes, getD_ofBytes, app_ofBytes, pureB_bytes, leafy_bytes, List.contains_cons, List.contains_nil, Nat.reduceBEq, Bool.or_self, Bool.or_false, beq_self_eq_true, Bool.or_true, Nat.reducePow, Int.toNat_natCast, List.getD_cons_zero, cutL, List.drop_zero, List.drop_succ_cons, List.take_succ_cons, List.take_zero, Nat.add_zero, Nat.sub_zero, Nat.reduceLeDiff, Nat.le_refl, Nat.lt_irrefl, Nat.mul_one, Nat.one_mul, List.drop_nil, List.take_nil, Nat.zero_lt_succ, regH_none, isNext, nextF, nextG, selC_false, tk5, dz5, eb5, tk32, tk33, tk35, dz35, tk37, dz37, eb37, length_aPs, pureB_aPs, leafy_aPs, hc1, take_aPs, drop_aPs, app_aPs, cons_ofBytes, cons_aPs, neL_bytes, neL_aPs, one_add']
        have hr : rSet n ps b p = (n.take (lead b n) ++ b :: n.drop (lead b n), ps.take (lead b n) ++ p :: ps.drop (lead b n)) := if_neg (fun h => hend h.2)
        rw [hr]
        simp only [List.length_drop, List.length_take]
        refine ⟨⟨by omega, by omega⟩, ⟨by omega, by omega⟩, by omega, by omega, by kernel_rfl, ⟨by omega, by omega⟩, ⟨by omega, by omega⟩, by omega, by omega, by kernel_rfl, by decide, subX_one ?_, subX_eq rfl (pureB_bytes _), subX_eq rfl (pureB_aPs _)⟩
        simp (maxSteps := 4000000) only [subV_succ, subM, subL, AV.cells, List.getElem?_cons_succ, List.getElem?_cons_zero, List.length_cons, and_self, List.length_append, List.length_drop, List.length_take]
        done

def kSet13 : C1 := C1.mby (hCons hRef (hCons (hP .id cByte) (hCons (hP .id cPos) hNil))) (fun d => d.1.1.length = d.1.2.1.length ∧ d.1.1.length ≤ 1000) (fun d => .bool (nameOk d.2.1))
  (fun d => rH' (if nameOk d.2.1 = true then rSet d.1.1 d.1.2.1 d.2.1 d.2.2.1 else (d.1.1, d.1.2.1)).1 (if nameOk d.2.1 = true then rSet d.1.1 d.1.2.1 d.2.1 d.2.2.1 else (d.1.1, d.1.2.1)).2)
theorem ok_Set13 : C1OK Try.prog 20 kSet13 := C1OK.mby (by kernel_rfl) (fun d h => calls_Set13 d.1.1 d.1.2.1 d.2.1 d.2.2.1 h.1 h.2) (fun _ _ => by show 3 ≤ 5; omega)

def rGet (b : UInt8) : List UInt8 → List (Int × Int) → Option (Int × Int)
  | c :: n, p :: ps => if c = b then some p else rGet b n ps
  | _, _ => none
theorem rGet_drop (b : UInt8) : ∀ (n : List UInt8) (ps : List (Int × Int)) (k : Nat), n.length = ps.length → k < n.length → rGet b (n.drop k) (ps.drop k) = if n.getD k 0 = b then some (ps.getD k (0, 0)) else rGet b (n.drop (k + 1)) (ps.drop (k + 1)) := by
  intro n
  induction n with
  | nil => intro ps k _ h; simp at h
  | cons c n ih =>
    intro ps k hl hk
    cases ps with
    | nil => simp at hl
    | cons p ps =>
      cases k with
      | zero => rfl
      | succ k => simpa using ih ps k (by simpa using hl) (by simpa using hk)
theorem rGet_end (b : UInt8) (n : List UInt8) (ps : List (Int × Int)) (k : Nat) (h : n.length ≤ k) : rGet b (n.drop k) (ps.drop k) = none := by
  rw [List.drop_eq_nil_of_le h]; rfl

set_option maxRecDepth 20000 in
set_option maxHeartbeats 4000000 in
theorem calls_Get13 (n : List UInt8) (ps : List (Int × Int)) (b : UInt8) (hl : n.length = ps.length) (hn : n.length ≤ 1000) :
    CallsR Try.prog 24 [.ptr 0 2 1 0 0, .int .u8 b.toNat] (rH n ps)
      (.tuple [.agg [.int .i64 ((rGet b n ps).getD (0, 0)).1, .int .i64 ((rGet b n ps).getD (0, 0)).2], .bool (rGet b n ps).isSome]) (rH n ps) := by
  refine callsR_of (mrg := true) (dyn := []) (CtrOK.nil _) mixed Try.func24 rfl (by simp [Try.ntmps24]) (by kernel_rfl) ?_
  rw [show Try.f24.results.toList = [.cell 4 37, .tmp 5] from by kernel_rfl]
  simp (maxSteps := 4000000) only [↓wpA_H, ↓wpH_seq, ↓wpH_block, ↓wpH_loop, ↓wpH_region, bselH_false, runH_nil, runH_cons, gw, gselH_plain, ↓chk, justK, noW, ↓oneK, ↓pureK, ↓heapK, envOf, ↓thenA_normal, ↓stepEv, opnd, Bool.false_eq_true, implies_true, true_and, valV, heapV, footV, Nat.reduceAdd, ofV, ofLeaf, AV.cells, AV.definite, Nat.reduceAdd, List.nil_append, List.cons_append, List.length_cons, List.length_nil, Nat.zero_add, ite_false, and_self, List.contains_nil, regH_none, isNext, nextF, nextG, selC_false, tz37, rH]
  refine loopH_intro (α := Nat) (fun k => ([(6, .int .i64 k), (5, .bool false), (4, .ptr 3 2 1 0 0), (0, .ptr 0 2 1 0 0), (1, .int .u8 b.toNat)], [.arr 35 2 [.agg [.own 1 1 n.length, .own 2 2 ps.length]], .arr 5 1 (ofBytes n), .arr 37 2 (aPs ps), .arr 37 2 [.agg [.int .i64 0, .int .i64 0]]]))
      (fun k => k ≤ n.length ∧ rGet b (n.drop k) (ps.drop k) = rGet b n ps) (fun k => n.length - k) 0 ⟨by omega, rfl⟩ ?_ ?_
  · simp (maxSteps := 4000000) only [Pg.look, Bool.and_true, Bool.false_eq_true, true_and, and_true, alives, aliveO, nxtQ, hdS, pairsA, frzA, closeQ_nil, closeQ_succ, diagQ_zero, diagQ_succ, Nat.reduceAdd, subA, subQ, ptrsE, pairsO, frzO, subF, subG, pickOf, assocN, pairsE, pairsC, pairsL, pairs0, frzE, frzC, frzL, frz0, frzH, Pg.freeze, List.foldl_nil, subOs, subO, subEv, subV_succ, subM, AV.cells, AV.pureLeaf, AV.pureB, List.getElem?_cons_succ, List.getElem?_cons_zero, reduceCtorEq, Nat.reduceEqDiff, Nat.reduceAdd, Nat.reduceLT, List.nil_append, List.append_nil, List.cons_append, Nat.zero_add, ite_true, ite_false, List.all_cons, List.all_nil, Bool.and_self, and_self, pureB_bytes, Int.cast_ofNat_Int, Nat.lt_irrefl, Nat.zero_lt_succ, pureB_aPs]
    (repeat' first | exact rfl | apply And.intro | exact subX_eq rfl (pureB_bytes _) | exact subX_eq rfl (pureB_aPs _) | exact subX_eq rfl rfl | decide | omega | apply subX_one)
    all_goals try simp (maxSteps := 4000000) only [subL]
  rintro k ⟨hk, hg⟩
  by_cases hlt : k < n.length
  · have hc1 : decide ((k : Int) < (n.length : Int)) = true := decide_eq_true (by omega)
    have hc3 : (((n.getD k 0).toNat : Int) == (b.toNat : Int)) = decide (n.getD k 0 = b) := by
      rw [Bool.eq_iff_iff]
      simp only [beq_iff_eq, decide_eq_true_eq]
      exact ⟨fun h => UInt8.toNat_inj.1 (by omega), fun h => by rw [h]⟩
    have w1 : IntKind.i64.wrap ((k : Int) + 1) = ((k + 1 : Nat) : Int) := by rw [wrap64 (by omega) (by omega)]; omega
    have hd := rGet_drop b n ps k hl hlt
    simp (maxSteps := 4000000) only [↓wpA_H, ↓wpH_skip, ↓wpH_ret, ↓wpH_seq, ↓wpH_cond, ↓wpH_block, ↓wpH_region, ↓iselH_true, iselH_if, bselH_false, runH_nil, runH_cons, gw, gselH_plain, cselH_bool, ↓chk, justK, noW, ↓oneK, ↓pureK, ↓heapK, ↓thenA_normal, ↓thenA_ret, ↓blockA_normal, ↓blockA_ret, ↓stepEv, opnd, Pg.look, binK, intOp, Bool.and_true, Bool.false_eq_true, implies_true, true_and, and_true, valV, heapV, footV, binV, intV, alives, aliveO, nxtQ, hdS, pairsA, frzA, closeQ_nil, closeQ_succ, diagQ_zero, diagQ_succ, Nat.reduceAdd, ofV, ofLeaf, retA, resK, tupA, subA, subQ, ptrsE, pairsO, frzO, subF, subG, pickOf, assocN, pairsE, pairsC, pairsL, pairs0, frzE, frzC, frzL, frz0, frzH, Pg.freeze, List.foldl_nil, subOs, subO, subEv, subV_succ, subM, subL, slen, ldCells, objAt, res_succ, resM, AV.cells, TK.cells, AV.leaf, AV.leafy, AV.pureLeaf, AV.pureB, putCells, lay, List.getElem?_cons_succ, List.getElem?_cons_zero, Option.getD_some, reduceCtorEq, Nat.reduceEqDiff, Nat.reduceAdd, Nat.reduceLT, List.nil_append, List.append_nil, List.cons_append, List.length_cons, List.length_nil, List.set_cons_zero, List.set_cons_succ, Nat.zero_add, ite_true, ite_false, Option.some.injEq, AV.int.injEq, decide_eq_true_eq, decide_eq_false_iff_not, List.all_cons, List.all_nil, Bool.and_self, and_self, exists_eq_left', length_ofBytes, getD_ofBytes, pureB_bytes, List.contains_nil, Int.toNat_natCast, List.getD_cons_zero, cutL, List.drop_zero, List.drop_succ_cons, List.take_succ_cons, List.take_zero, Nat.add_zero, Nat.sub_zero, Nat.le_refl, Nat.lt_irrefl, List.drop_nil, List.take_nil, Nat.zero_lt_succ, regH_none, isNext, nextF, nextG, selC_false, mapAt, tk5, dz5, tk32, tk33, tk35, dz35, tk37, dz37, length_aPs, pureB_aPs, hc1, hc3, w1, getD_aPs]
    refine ⟨⟨by omega, by omega⟩, by omega, fun he => ?_, fun he => ?_⟩
    · rw [if_pos he, hg] at hd
      rw [hd]
      (repeat' first | exact rfl | apply And.intro | exact subX_eq rfl (pureB_bytes _) | exact subX_eq rfl (pureB_aPs _) | exact subX_eq rfl rfl | decide | omega | apply subX_one)
      all_goals try simp (maxSteps := 4000000) only [subL]
    · rw [if_neg he, hg] at hd
      refine ⟨k + 1, ⟨by omega, hd.symm⟩, by omega, ?_⟩
      (repeat' first | exact rfl | apply And.intro | exact subX_eq rfl (pureB_bytes _) | exact subX_eq rfl (pureB_aPs _) | exact subX_eq rfl rfl | decide | omega | apply subX_one)
      all_goals try simp (maxSteps := 4000000) only [subL]
  · have hc1 : decide ((k : Int) < (n.length : Int)) = false := decide_eq_false (by omega)
    have he : rGet b n ps = none := by rw [← hg]; exact rGet_end b n ps k (by omega)
    simp (maxSteps := 4000000) only [↓wpA_H, ↓wpH_ret, ↓wpH_exit, ↓wpH_seq, ↓wpH_cond, ↓wpH_region, ↓iselH_false, bselH_false, runH_nil, runH_cons, gw, gselH_plain, cselH_bool, ↓chk, justK, noW, ↓oneK, ↓pureK, ↓heapK, ↓thenA_normal, ↓thenA_exit, ↓blockA_exit, ↓stepEv, opnd, Pg.look, binK, intOp, Bool.and_true, Bool.false_eq_true, implies_true, true_and, and_true, valV, heapV, footV, binV, intV, alives, aliveO, nxtQ, hdS, pairsA, frzA, closeQ_nil, closeQ_succ, diagQ_zero, diagQ_succ, Nat.reduceAdd, ofV, ofLeaf, retA, resK, tupA, subA, subQ, ptrsE, pairsO, frzO, subF, subG, pickOf, pairsE, pairsC, pairsL, pairs0, frzE, frzC, frzL, frz0, frzH, Pg.freeze, List.foldl_nil, subOs, subO, subEv, subV_succ, subM, subL, slen, ldCells, objAt, res_succ, resM, AV.cells, TK.cells, AV.leaf, AV.leafy, AV.pureLeaf, AV.pureB, putCells, lay, buildL, List.getElem?_cons_succ, List.getElem?_cons_zero, Option.getD_some, Option.getD_none, reduceCtorEq, Nat.reduceEqDiff, Nat.reduceAdd, Nat.reduceLT, List.nil_append, List.append_nil, List.cons_append, List.length_cons, List.length_nil, List.map_nil, List.set_cons_zero, List.set_cons_succ, Nat.zero_add, ite_true, ite_false, Option.some.injEq, Option.isSome_some, Option.isSome_none, AV.int.injEq, AV.agg.injEq, List.all_cons, List.all_nil, Bool.and_self, and_self, exists_eq_left', pureB_bytes, List.contains_nil, List.getD_cons_zero, cutL, List.drop_zero, List.drop_succ_cons, List.take_succ_cons, List.take_zero, Nat.add_zero, Nat.sub_zero, Nat.le_refl, List.drop_nil, List.take_nil, Nat.zero_lt_succ, regH_none, isNext, nextF, nextG, selC_false, mapAt, tk32, tk35, dz35, tk37, tz37, dz37, pureB_aPs, hc1, he]
    (repeat' first | exact rfl | apply And.intro | exact subX_eq rfl (pureB_bytes _) | exact subX_eq rfl (pureB_aPs _) | exact subX_eq rfl rfl | decide | omega | apply subX_one)
    all_goals try simp (maxSteps := 4000000) only [subL]

def kGet13 : C1 := C1.mby (hCons hRef (hCons (hP .id cByte) hNil)) (fun d => d.1.1.length = d.1.2.1.length ∧ d.1.1.length ≤ 1000)
  (fun d => .tuple [.agg [.int .i64 ((rGet d.2.1 d.1.1 d.1.2.1).getD (0, 0)).1, .int .i64 ((rGet d.2.1 d.1.1 d.1.2.1).getD (0, 0)).2], .bool (rGet d.2.1 d.1.1 d.1.2.1).isSome]) (fun d => rH d.1.1 d.1.2.1)
theorem ok_Get13 : C1OK Try.prog 24 kGet13 := C1OK.mby (by kernel_rfl) (fun d h => calls_Get13 d.1.1 d.1.2.1 d.2.1 h.1 h.2) (fun _ _ => Nat.le_refl _)

/-- What is left of marks behind a change. -/
def adj (at_ old now : Int) (l : List (UInt8 × (Int × Int))) : List (UInt8 × (Int × Int)) :=
  l.filterMap fun x => if (shiftR13 x.2.1 at_ old now).2 = true then some (x.1, ((shiftR13 x.2.1 at_ old now).1, x.2.2)) else none
theorem adj_len (at_ old now : Int) (l : List (UInt8 × (Int × Int))) : (adj at_ old now l).length ≤ l.length := List.length_filterMap_le _ _
theorem take_succ' {α : Type} (l : List α) (k : Nat) (d : α) (h : k < l.length) : l.take (k + 1) = l.take k ++ [l.getD k d] := by
  rw [List.take_add_one, List.getD_eq_getElem?_getD, List.getElem?_eq_getElem h]; rfl
theorem adj_succ (at_ old now : Int) (n : List UInt8) (ps : List (Int × Int)) (k : Nat) (hl : n.length = ps.length) (hk : k < n.length) :
    adj at_ old now ((n.zip ps).take (k + 1)) = adj at_ old now ((n.zip ps).take k) ++
      if (shiftR13 (ps.getD k (0, 0)).1 at_ old now).2 = true then [(n.getD k 0, ((shiftR13 (ps.getD k (0, 0)).1 at_ old now).1, (ps.getD k (0, 0)).2))] else [] := by
  rw [take_succ' _ k (0, (0, 0)) (by simp; omega), adj, List.filterMap_append]
  have e : (n.zip ps).getD k (0, (0, 0)) = (n.getD k 0, ps.getD k (0, 0)) := by
    have h1 : k < ps.length := by omega
    have h2 : k < (n.zip ps).length := by simp; omega
    simp [List.getD_eq_getElem?_getD, hk, h1, List.getElem?_eq_getElem h2]
  rw [e]
  simp only [adj, List.filterMap_cons, List.filterMap_nil]
  congr 1
  split <;> simp_all

set_option maxRecDepth 20000 in
set_option maxHeartbeats 4000000 in
theorem calls_Adjust13 (n : List UInt8) (ps : List (Int × Int)) (at_ old now : Int) (hl : n.length = ps.length) (hn : n.length ≤ 1000) :
    CallsR Try.prog 22 [.ptr 0 2 1 0 0, .int .i64 at_, .int .i64 old, .int .i64 now] (rH n ps)
      (.tuple []) (rH' ((adj at_ old now (n.zip ps)).map (·.1)) ((adj at_ old now (n.zip ps)).map (·.2))) := by
  refine callsR_of (mrg := true) (dyn := [9]) (CtrOK.cons ok_Shift13 (CtrOK.nil _)) mixed Try.func22 rfl (by simp [Try.ntmps22]) (by kernel_rfl) ?_
  rw [show Try.f22.results.toList = [] from by kernel_rfl]
  simp (maxSteps := 4000000) only [↓wpA_H, ↓wpH_seq, ↓wpH_block, ↓wpH_loop, ↓wpH_region, bselH_false, runH_nil, runH_cons, gw, gselH_plain, ↓chk, justK, ↓oneK, ↓pureK, envOf, ↓thenA_normal, ↓stepEv, opnd, Bool.false_eq_true, implies_true, true_and, valV, heapV, footV, Nat.reduceAdd, ofV, ofLeaf, Nat.reduceAdd, List.length_cons, List.length_nil, Nat.zero_add, ite_false, and_self, List.contains_cons, List.contains_nil, Nat.reduceBEq, Bool.or_self, regH_none, isNext, nextF, nextG, selC_false, rH]
  refine loopH_intro (α := Nat) (fun k => ([(8, .own 3 1 ((adj at_ old now ((n.zip ps).take k)).map (·.1)).length), (9, .own 4 2 ((adj at_ old now ((n.zip ps).take k)).map (·.2)).length), (10, .int .i64 k), (0, .ptr 0 2 1 0 0), (1, .int .i64 at_), (2, .int .i64 old), (3, .int .i64 now)], [.arr 35 2 [.agg [.own 1 1 n.length, .own 2 2 ps.length]], .arr 5 1 (ofBytes n), .arr 37 2 (aPs ps), .arr 5 1 (ofBytes ((adj at_ old now ((n.zip ps).take k)).map (·.1))), .arr 37 2 (aPs ((adj at_ old now ((n.zip ps).take k)).map (·.2)))]))
      (fun k => k ≤ n.length) (fun k => n.length - k) 0 (by omega) ?_ ?_
  · simp (maxSteps := 4000000) only [Pg.look, Bool.and_true, Bool.false_eq_true, true_and, and_true, alives, aliveO, nxtQ, hdS, pairsA, frzA, closeQ_nil, closeQ_succ, diagQ_zero, diagQ_succ, Nat.reduceAdd, subA, subQ, ptrsE, pairsO, frzO, subF, subG, pickOf, assocN, pairsE, pairsC, pairsL, pairs0, frzE, frzC, frzL, frz0, frzH, Pg.freeze, List.foldl_nil, subOs, subO, subEv, subV_succ, subM, AV.cells, AV.pureLeaf, AV.pureB, List.getElem?_cons_succ, List.getElem?_cons_zero, reduceCtorEq, Nat.reduceEqDiff, Nat.reduceAdd, Nat.reduceLT, List.nil_append, List.append_nil, List.cons_append, Nat.zero_add, ite_true, ite_false, List.all_cons, List.all_nil, Bool.and_self, and_self, List.length_map, pureB_bytes, Int.cast_ofNat_Int, List.take_zero, Nat.lt_irrefl, Nat.zero_lt_succ, pureB_aPs]
    (repeat' first | exact rfl | apply And.intro | exact subX_eq rfl (pureB_bytes _) | exact subX_eq rfl (pureB_aPs _) | exact subX_eq rfl rfl | decide | omega | apply subX_one)
    all_goals try simp (maxSteps := 4000000) only [subL]
  intro k hk
  by_cases hlt : k < n.length
  · have hc1 : decide ((k : Int) < (n.length : Int)) = true := decide_eq_true (by omega)
    have w1 : IntKind.i64.wrap ((k : Int) + 1) = ((k + 1 : Nat) : Int) := by rw [wrap64 (by omega) (by omega)]; omega
    have hs := adj_succ at_ old now n ps k hl hlt
    simp (maxSteps := 4000000) only [↓wpA_H, ↓wpH_skip, ↓wpH_seq, ↓wpH_cond, ↓wpH_block, ↓wpH_region, bselH_true, ↓iselH_true, iselH_if, bselH_false, runH_nil, runH_cons, gw, gselH_plain, cselH_bool, ↓chk, justK, noW, ↓oneK, ↓pureK, ↓heapK, ↓thenA_normal, ↓blockA_normal, ↓stepEv, opnd, Pg.look, binK, intOp, Bool.and_true, Bool.false_eq_true, implies_true, true_and, and_true, forall_const, valV, heapV, footV, binV, intV, alives, aliveO, nxtQ, hdS, pairsA, frzA, closeQ_nil, closeQ_succ, diagQ_zero, diagQ_succ, Nat.reduceAdd, ofV, ofLeaf, subA, subQ, ptrsE, pairsO, frzO, subF, subG, pickOf, assocN, pairsE, pairsC, pairsL, pairs0, frzE, frzC, frzL, frz0, frzH, Pg.freeze, List.foldl_nil, subOs, subO, subEv, subV_succ, subM, slen, srcV, srcE, appK, ldCells, objAt, ↓callT, callC, callV, callH, normArgs, normA, resL, res8_eq, res_succ, resM, shiftR, shift1, AV.cells, TK.cells, AV.definite, AV.leaf, AV.leafy, AV.pureLeaf, AV.pureB, putCells, lay, List.getElem?_cons_succ, List.getElem?_cons_zero, Option.getD_some, reduceCtorEq, Nat.reduceEqDiff, Nat.reduceAdd, Nat.reduceLT, List.nil_append, List.append_nil, List.cons_append, List.length_cons, List.length_nil, List.map_cons, List.map_nil, List.set_cons_zero, List.set_cons_succ, Nat.zero_add, ite_true, ite_false, Option.some.injEq, Option.isSome_some, AV.int.injEq, List.all_cons, List.all_nil, Bool.and_self, and_self, exists_eq_left', List.length_map, cInt_dec, rg1, length_ofBytes, getD_ofBytes, app1_ofBytes, lOne_dec, lCons_dec, dec2_some, pureB_bytes, List.contains_cons, List.contains_nil, Nat.reduceBEq, Bool.or_self, Bool.or_false, beq_self_eq_true, List.range'_zero, Nat.reducePow, C1by_ns, C1by_pre, C1by_r, C1by_H, optP_some, optV_some, optH_some, Int.toNat_natCast, List.getD_cons_zero, cutL, List.drop_zero, List.drop_succ_cons, List.take_succ_cons, List.take_zero, Nat.add_zero, Nat.sub_zero, Nat.reduceLeDiff, Nat.le_refl, Nat.lt_irrefl, Nat.mul_one, Nat.one_mul, List.drop_nil, List.take_nil, Nat.zero_lt_succ, C1by_it, regH_none, isNext, nextF, nextG, selC_false, ↓msel, muC, ↓callP, C1by_mu, tk3, tk5, dz5, eb5, tk32, tk33, tk35, dz35, tk37, tz37, dz37, eb37, length_aPs, pureB_aPs, hc1, w1, getD_aPs, app1_aPs, kShift13]
    have hal := adj_len at_ old now ((n.zip ps).take k)
    have hzl : ((n.zip ps).take k).length ≤ 1000 := by simp; omega
    refine ⟨⟨by omega, by omega⟩, by omega, fun h => ?_, fun h => ?_⟩
    · rw [if_pos h] at hs
      refine ⟨⟨by omega, by omega⟩, by omega, ⟨by decide, by omega⟩, ⟨by decide, by omega⟩, by kernel_rfl, k + 1, by omega, by omega, ?_⟩
      rw [hs]
      simp only [List.map_append, List.map_cons, List.map_nil, List.length_append, List.length_cons, List.length_nil]
      (repeat' first | exact rfl | apply And.intro | exact subX_eq rfl (pureB_bytes _) | exact subX_eq rfl (pureB_aPs _) | exact subX_eq rfl rfl | decide | omega | apply subX_one)
      all_goals try simp (maxSteps := 4000000) only [subL]
    · rw [if_neg (by rw [h]; decide), List.append_nil] at hs
      refine ⟨k + 1, by omega, by omega, ?_⟩
      rw [hs]
      (repeat' first | exact rfl | apply And.intro | exact subX_eq rfl (pureB_bytes _) | exact subX_eq rfl (pureB_aPs _) | exact subX_eq rfl rfl | decide | omega | apply subX_one)
      all_goals try simp (maxSteps := 4000000) only [subL]
  · have hc1 : decide ((k : Int) < (n.length : Int)) = false := decide_eq_false (by omega)
    have he : (n.zip ps).take k = n.zip ps := List.take_of_length_le (by simp; omega)
    simp (maxSteps := 4000000) only [↓wpA_H, ↓wpH_exit, ↓wpH_seq, ↓wpH_cond, ↓wpH_region, ↓iselH_false, bselH_false, runH_nil, runH_cons, gw, gselH_plain, cselH_bool, ↓chk, justK, noW, ↓oneK, ↓pureK, ↓heapK, ↓thenA_normal, ↓thenA_exit, ↓blockA_exit, ↓stepEv, opnd, Pg.look, binK, intOp, Bool.and_true, Bool.false_eq_true, implies_true, true_and, and_true, valV, heapV, footV, binV, intV, alives, aliveO, nxtQ, hdS, pairsA, frzA, closeQ_nil, closeQ_succ, diagQ_zero, diagQ_succ, Nat.reduceAdd, retA, resK, tupA, subA, subQ, ptrsE, pairsO, frzO, subF, subG, pickOf, assocN, pairsE, pairsC, pairsL, pairs0, frzE, frzC, frzL, frz0, frzH, Pg.freeze, List.foldl_nil, subOs, subO, subEv, subV_succ, subM, subL, slen, ldCells, objAt, AV.cells, TK.cells, AV.leaf, AV.leafy, AV.pureLeaf, AV.pureB, putCells, lay, List.getElem?_cons_succ, List.getElem?_cons_zero, Option.getD_some, reduceCtorEq, Nat.reduceEqDiff, Nat.reduceAdd, Nat.reduceLT, List.nil_append, List.append_nil, List.cons_append, List.length_cons, List.length_nil, List.set_cons_zero, Nat.zero_add, ite_true, ite_false, Option.some.injEq, AV.int.injEq, List.all_cons, List.all_nil, Bool.and_self, and_self, exists_eq_left', List.length_map, pureB_bytes, List.contains_cons, List.contains_nil, Nat.reduceBEq, Bool.or_self, List.getD_cons_zero, List.drop_zero, List.drop_succ_cons, List.take_succ_cons, List.take_zero, Nat.add_zero, Nat.reduceLeDiff, Nat.le_refl, Nat.lt_irrefl, List.drop_nil, Nat.zero_lt_succ, regH_none, isNext, nextF, nextG, selC_false, tk32, tk33, tk35, dz35, pureB_aPs, hc1, he]
    (repeat' first | exact rfl | apply And.intro | exact subX_eq rfl (pureB_bytes _) | exact subX_eq rfl (pureB_aPs _) | exact subX_eq rfl rfl | decide | omega | apply subX_one)
    all_goals try simp (maxSteps := 4000000) only [subL]
def kAdjust13 : C1 := C1.mby (hCons hRef (hCons (hP .id (cInt .i64)) (hCons (hP .id (cInt .i64)) (hCons (hP .id (cInt .i64)) hNil)))) (fun d => d.1.1.length = d.1.2.1.length ∧ d.1.1.length ≤ 1000) (fun _ => .tuple [])
  (fun d => rH' ((adj d.2.1 d.2.2.1 d.2.2.2.1 (d.1.1.zip d.1.2.1)).map (·.1)) ((adj d.2.1 d.2.2.1 d.2.2.2.1 (d.1.1.zip d.1.2.1)).map (·.2)))
theorem ok_Adjust13 : C1OK Try.prog 22 kAdjust13 := C1OK.mby (by kernel_rfl) (fun d h => calls_Adjust13 d.1.1 d.1.2.1 d.2.1 d.2.2.1 d.2.2.2.1 h.1 h.2) (fun _ _ => by show 3 ≤ 5; omega)
end Go.Pg
