/- A map by bytes held against a list of names, in order, and what they have: plain. Marks, a map and a list in order. The document's motions by their names. -/
import Derived.Test.YtkkcfkggfpoagaaGreatPgBs
import Derived.Test.YtkkcfkggfpoagaaGreatPgFx0
import Derived.Test.YtkkcfkggfpoagaaGreatPgHcd
import Derived.Test.YtkkcfkggfpoagaaGreatPgLst
import Derived.Test.YtkkcfkggfpoagaaGreatPgFx13
import Derived.Test.YtkkcfkggfpoagaaGreatPgFx15
import Derived.Test.YtkkcfkggfpoagaaGreatPgFx10
import Derived.Test.YtkkcfkggfpoagaaGreatPgFx16
set_option linter.unusedVariables false
set_option linter.unusedSimpArgs false
namespace Go.Pg
open Go Go.Proofs

/-- Put into a list that is in order. -/
def zSet {ν : Type} (b : UInt8) (p : ν) : List (UInt8 × ν) → List (UInt8 × ν)
  | [] => [(b, p)]
  | x :: r => if x.1.toNat < b.toNat then x :: zSet b p r else if x.1 = b then (b, p) :: r else (b, p) :: x :: r

theorem look1_isSome {ν : Type} (k : UInt8) : ∀ l : List (UInt8 × ν), (look1 k l).isSome = true ↔ k ∈ l.map (·.1) := by
  intro l
  induction l with
  | nil => simp [look1]
  | cons x r ih =>
    simp only [look1, List.map_cons, List.mem_cons]
    split
    · next hk => simp [hk]
    · next hk => rw [ih]; exact ⟨.inr, fun h => h.resolve_left (fun e => hk e.symm)⟩
theorem look1_upd {ν : Type} (k b : UInt8) (p : ν) : ∀ l : List (UInt8 × ν), look1 k (upd b p l) = if b = k then some p else look1 k l := by
  intro l
  induction l with
  | nil => simp only [upd, look1]
  | cons x r ih =>
    simp only [upd]
    split
    · next hx =>
      simp only [look1]
      split
      · rfl
      · next hb => rw [if_neg (fun e => hb (hx ▸ e))]
    · next hx =>
      simp only [look1, ih]
      split
      · next hk => rw [if_neg (fun e => hx (hk.trans e.symm))]
      · rfl
theorem upd_keys {ν : Type} (b : UInt8) (p : ν) : ∀ l : List (UInt8 × ν), (l.map (·.1)).Nodup → ((upd b p l).map (·.1)).Nodup := by
  intro l
  have mem : ∀ (l : List (UInt8 × ν)) k, k ∈ (upd b p l).map (·.1) → k = b ∨ k ∈ l.map (·.1) := by
    intro l k hk
    have := (look1_isSome k (upd b p l)).2 hk
    rw [look1_upd] at this
    split at this
    · next h => exact .inl h.symm
    · exact .inr ((look1_isSome k l).1 this)
  induction l with
  | nil => intro _; simp [upd]
  | cons x r ih =>
    intro h
    obtain ⟨hx, hr⟩ := List.nodup_cons.1 h
    simp only [upd]
    split
    · next hb =>
      refine List.nodup_cons.2 ⟨?_, hr⟩
      rw [← hb]; exact hx
    · next hb =>
      refine List.nodup_cons.2 ⟨fun hm => ?_, ih hr⟩
      rcases mem r x.1 hm with h | h
      · exact hb h
      · exact hx h
theorem look1_zSet {ν : Type} (k b : UInt8) (p : ν) : ∀ l : List (UInt8 × ν), l.Pairwise (fun x y => x.1.toNat < y.1.toNat) → look1 k (zSet b p l) = if b = k then some p else look1 k l := by
  intro l
  induction l with
  | nil => intro _; simp only [zSet, look1]
  | cons x r ih =>
    intro hp
    obtain ⟨hx, hr⟩ := List.pairwise_cons.1 hp
    simp only [zSet]
    split
    · next hlt =>
      simp only [look1, ih hr]
      split
      · next hk =>
        rw [if_neg (fun e => by rw [e, ← hk] at hlt; omega)]
      · rfl
    · next hlt =>
      split
      · next he =>
        simp only [look1]
        split
        · rfl
        · next hb => rw [if_neg (fun e => hb (he ▸ e))]
      · next he => simp only [look1]
theorem zSet_asc {ν : Type} (b : UInt8) (p : ν) : ∀ l : List (UInt8 × ν), l.Pairwise (fun x y => x.1.toNat < y.1.toNat) → (zSet b p l).Pairwise (fun x y => x.1.toNat < y.1.toNat) := by
  intro l
  have all : ∀ (l : List (UInt8 × ν)) (n : Nat), n < b.toNat → (∀ y ∈ l, n < y.1.toNat) → ∀ y ∈ zSet b p l, n < y.1.toNat := by
    intro l n hn
    induction l with
    | nil => intro _ y hy; simp only [zSet, List.mem_singleton] at hy; subst hy; exact hn
    | cons x r ih =>
      intro h y hy
      simp only [zSet] at hy
      split at hy
      · rcases List.mem_cons.1 hy with rfl | hy
        · exact h _ List.mem_cons_self
        · exact ih (fun y hy => h y (List.mem_cons_of_mem _ hy)) y hy
      · split at hy
        · rcases List.mem_cons.1 hy with rfl | hy
          · exact hn
          · exact h y (List.mem_cons_of_mem _ hy)
        · rcases List.mem_cons.1 hy with rfl | hy
          · exact hn
          · exact h y hy
  induction l with
  | nil => intro _; simp [zSet]
  | cons x r ih =>
    intro hp
    obtain ⟨hx, hr⟩ := List.pairwise_cons.1 hp
    simp only [zSet]
    split
    · next hlt => exact List.pairwise_cons.2 ⟨all r _ hlt hx, ih hr⟩
    · next hlt =>
      split
      · next he => exact List.pairwise_cons.2 ⟨fun y hy => by have := hx y hy; rw [he] at this; exact this, hr⟩
      · next he =>
        have hne : b.toNat ≠ x.1.toNat := fun e => he (UInt8.toNat_inj.1 e.symm)
        refine List.pairwise_cons.2 ⟨fun y hy => ?_, hp⟩
        rcases List.mem_cons.1 hy with rfl | hy
        · show b.toNat < _; omega
        · have := hx y hy; show b.toNat < _; omega

/-- The map and the list say the same. -/
structure Rm {ν : Type} (m z : List (UInt8 × ν)) : Prop where
  nd : (m.map (·.1)).Nodup
  asc : z.Pairwise (fun x y => x.1.toNat < y.1.toNat)
  get : ∀ k, look1 k z = look1 k m
theorem Rm.nil {ν : Type} : Rm ([] : List (UInt8 × ν)) [] := ⟨List.nodup_nil, List.Pairwise.nil, fun _ => rfl⟩
theorem Rm.set {ν : Type} {m z : List (UInt8 × ν)} (h : Rm m z) (b : UInt8) (p : ν) : Rm (upd b p m) (zSet b p z) :=
  ⟨upd_keys b p m h.nd, zSet_asc b p z h.asc, fun k => by rw [look1_zSet k b p z h.asc, look1_upd, h.get]⟩
theorem Rm.mem {ν : Type} {m z : List (UInt8 × ν)} (h : Rm m z) (k : UInt8) : k ∈ z.map (·.1) ↔ k ∈ m.map (·.1) := by
  rw [← look1_isSome, ← look1_isSome, h.get]
theorem Rm.znd {ν : Type} {m z : List (UInt8 × ν)} (h : Rm m z) : (z.map (·.1)).Nodup := by
  refine (List.Pairwise.map _ (fun x y hxy => ?_) h.asc : (z.map (·.1)).Pairwise (· ≠ ·))
  intro e
  rw [e] at hxy
  omega
theorem Rm.perm {ν : Type} {m z : List (UInt8 × ν)} (h : Rm m z) : (m.map (·.1)).Perm (z.map (·.1)) :=
  (List.perm_ext_iff_of_nodup h.nd h.znd).2 fun k => (h.mem k).symm
theorem Rm.len {ν : Type} {m z : List (UInt8 × ν)} (h : Rm m z) : m.length = z.length := by
  have := h.perm.length_eq
  simpa using this
end Go.Pg
namespace Go.Pg
open Go Go.Proofs

abbrev zN (z : Mks) : List UInt8 := z.map (·.1)
abbrev zP (z : Mks) : List (Int × Int) := z.map (·.2)
theorem rSet_z (b : UInt8) (p : Int × Int) (z : Mks) (hz : z.Pairwise (fun x y => x.1.toNat < y.1.toNat)) : rSet (zN z) (zP z) b p = (zN (zSet b p z), zP (zSet b p z)) := by
  induction z with
  | nil => simp [rSet, zN, zP, zSet, lead]
  | cons x r ih =>
    obtain ⟨hx, hr⟩ := List.pairwise_cons.1 hz
    have ih := ih hr
    unfold rSet at ih ⊢
    by_cases hlt : x.1.toNat < b.toNat
    · have hl : lead b (zN (x :: r)) = lead b (zN r) + 1 := by simp [lead, zN, hlt]
      have hzs : zSet b p (x :: r) = x :: zSet b p r := by simp only [zSet, if_pos hlt]
      rw [hl, hzs]
      simp only [zN, zP, List.map_cons, List.getD_cons_succ, List.length_cons, List.set_cons_succ, List.take_succ_cons, List.drop_succ_cons, List.cons_append] at ih ⊢
      by_cases hc : (r.map (·.1)).getD (lead b (r.map (·.1))) 0 = b ∧ lead b (r.map (·.1)) < (r.map (·.1)).length
      · rw [if_pos hc] at ih
        rw [if_pos ⟨hc.1, by omega⟩]
        simp only [Prod.mk.injEq] at ih ⊢
        rw [← ih.1, ← ih.2]
        exact ⟨rfl, rfl⟩
      · rw [if_neg hc] at ih
        rw [if_neg (fun h => hc ⟨h.1, by omega⟩)]
        simp only [Prod.mk.injEq] at ih ⊢
        rw [← ih.1, ← ih.2]
        exact ⟨rfl, rfl⟩
    · have hl : lead b (zN (x :: r)) = 0 := by simp [lead, zN, hlt]
      rw [hl]
      by_cases he : x.1 = b
      · have hzs : zSet b p (x :: r) = (b, p) :: r := by simp only [zSet, if_neg hlt, if_pos he]
        rw [if_pos ⟨he, by simp⟩, hzs]
        simp [zN, zP, he]
      · have hzs : zSet b p (x :: r) = (b, p) :: x :: r := by simp only [zSet, if_neg hlt, if_neg he]
        rw [if_neg (fun h => he h.1), hzs]
        simp [zN, zP]
theorem rGet_z (b : UInt8) (z : Mks) : rGet b (zN z) (zP z) = look1 b z := by
  induction z with
  | nil => rfl
  | cons x r ih => simp only [zN, zP, List.map_cons, rGet, look1] at ih ⊢; rw [ih]
theorem renL_bytes (g : Nat → Nat) (l : List UInt8) : renL g (ofBytes l) = ofBytes l := renL_pure g _ (pureB_bytes l)
theorem renL_aPs (g : Nat → Nat) (l : List (Int × Int)) : renL g (aPs l) = aPs l := renL_pure g _ (pureB_aPs l)
theorem zSet_len {ν : Type} (b : UInt8) (p : ν) : ∀ z : List (UInt8 × ν), (zSet b p z).length ≤ z.length + 1
  | [] => by simp [zSet]
  | x :: r => by
    unfold zSet
    split
    · have := zSet_len b p r
      simp only [List.length_cons]; omega
    · split
      · simp
      · simp
end Go.Pg
namespace Go.Pg
open Go Go.Proofs

theorem ok_RNext : C1OK Tryz.prog 52 kNext := C1OK.by (by kernel_rfl) (fun d h => calls_RNext d.1 d.2.1 d.2.2.1 d.2.2.2.1 d.2.2.2.2 h.1 h.2) (fun _ => rfl) (fun _ => rfl)
theorem ok_RTail : C1OK Tryz.prog 54 kTail := C1OK.by (by kernel_rfl) (fun d h => calls_RTail d.1 d.2.1 d.2.2.1 d.2.2.2.1 d.2.2.2.2 h.1) (fun _ => rfl) (fun _ => rfl)
theorem ok_RBack : C1OK Tryz.prog 53 kBackS := C1OK.by (by kernel_rfl) (fun d h => calls_RBack d.1 d.2.1 d.2.2.1 d.2.2.2 h) (fun _ => rfl) (fun _ => rfl)
theorem ok_RBackTail : C1OK Tryz.prog 55 kBackE := C1OK.by (by kernel_rfl) (fun d h => calls_RBackTail d.1 d.2.1 d.2.2.1 d.2.2.2 h) (fun _ => rfl) (fun _ => rfl)
def kClampD : C1 := C1.by [.sl 1 [], .id, .id] (lCons cStrs (lCons cPos2 (lOne cBool))) (fun d => small d.1) (fun d => aPos (clampP d.1 d.2.1 d.2.2)) (fun _ => [])
theorem ok_RClampD : C1OK Tryz.prog 27 kClampD := C1OK.by (by kernel_rfl) (fun d h => calls_RClamp d.1 d.2.1 d.2.2 h) (fun _ => rfl) (fun _ => rfl)
set_option maxHeartbeats 4000000 in
theorem calls_opposite (key : UInt8) : CallsR Tryz.prog 51 [byteA key] [] (byteA (otherK key)) [] := by
  refine callsR_of (mrg := true) (dyn := []) (CtrOK.nil _) mixed Tryz.func51 rfl (by simp [Tryz.ntmps51]) (by kernel_rfl) ?_
  rw [show Tryz.f51.results.toList = [.tmp 2] from by kernel_rfl]
  unfold otherK
  by_cases k1 : key = 102
  · have b1 := byte_lit0 key 102 102 rfl k1
    rw [if_pos k1]
    simp (maxSteps := 4000000) only [go_sem, reduceCtorEq, Nat.reduceEqDiff, byteA, UInt8.reduceToNat, b1]
    all_goals first | rfl | decide
  have b1 := byte_lit key 102 102 rfl k1
  rw [if_neg k1]
  by_cases k2 : key = 70
  · have b2 := byte_lit0 key 70 70 rfl k2
    rw [if_pos k2]
    simp (maxSteps := 4000000) only [go_sem, reduceCtorEq, Nat.reduceEqDiff, byteA, UInt8.reduceToNat, b1, b2]
    all_goals first | rfl | decide
  have b2 := byte_lit key 70 70 rfl k2
  rw [if_neg k2]
  by_cases k3 : key = 116
  · have b3 := byte_lit0 key 116 116 rfl k3
    rw [if_pos k3]
    simp (maxSteps := 4000000) only [go_sem, reduceCtorEq, Nat.reduceEqDiff, byteA, UInt8.reduceToNat, b1, b2, b3]
    all_goals first | rfl | decide
  have b3 := byte_lit key 116 116 rfl k3
  rw [if_neg k3]
  by_cases k4 : key = 84
  · have b4 := byte_lit0 key 84 84 rfl k4
    rw [if_pos k4]
    simp (maxSteps := 4000000) only [go_sem, reduceCtorEq, Nat.reduceEqDiff, byteA, UInt8.reduceToNat, b1, b2, b3, b4]
    all_goals first | rfl | decide
  have b4 := byte_lit key 84 84 rfl k4
  rw [if_neg k4]
  simp (maxSteps := 4000000) only [go_sem, reduceCtorEq, Nat.reduceEqDiff, byteA, UInt8.reduceToNat, b1, b2, b3, b4]
  all_goals first | rfl | decide
def kOpposite : C1 := C1.by [.id] (lOne cByte) (fun _ => True) (fun d => byteA (otherK d)) (fun _ => [])
theorem ok_opposite : C1OK Tryz.prog 51 kOpposite := C1OK.by (by kernel_rfl) (fun d _ => calls_opposite d) (fun _ => rfl) (fun _ => rfl)
theorem cons_beq8 (a b : UInt8) (s t : List UInt8) : ((a :: s) == (b :: t)) = ((a.toNat == b.toNat) && (s == t)) := by
  rw [List.cons_beq_cons]
  congr 1
  rw [Bool.eq_iff_iff, beq_iff_eq, beq_iff_eq, UInt8.toNat_inj]
theorem beqT (b : Bool) : (b == true) = b := by cases b <;> rfl
theorem beqF (b : Bool) : (b == false) = !b := by cases b <;> rfl
theorem cons_nil8 (a : UInt8) (s : List UInt8) : ((a :: s) == []) = false := rfl
theorem nil_cons8 (a : UInt8) (s : List UInt8) : (([] : List UInt8) == (a :: s)) = false := rfl
theorem clamp_in' (ls : Ls) (p : Int × Int) (past : Bool) (h : 0 < ls.length) : 0 ≤ (clampP ls p past).1 ∧ (clampP ls p past).1.toNat < ls.length := by
  unfold clampP
  rw [if_neg (by omega)]
  dsimp only
  omega
abbrev cxR (x : Cx) (n : List UInt8) (ps : List (Int × Int)) : AH := [.arr 44 8 [aCx x], .arr 39 2 [.agg [.own 2 1 n.length, .own 3 2 ps.length]], .arr 5 1 (ofBytes n), .arr 25 2 (aPs ps)]
end Go.Pg
