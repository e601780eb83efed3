/- Pg, part 19c: a method's arguments of which the last is a closure that holds the receiver too. -/
import Derived.Test.YtohpkjpipihdoaaPgHcd
namespace Go.Pg
open Go

/-- The same pointer. -/
def ptrB : AV → AV → Bool
  | .ptr a b c d e, .ptr a' b' c' d' e' => a == a' && b == b' && c == c' && d == d' && e == e'
  | _, _ => false
theorem ptrB_eq {x y : AV} (h : ptrB x y = true) : x = y := by
  unfold ptrB at h
  split at h
  · simp only [Bool.and_eq_true, beq_iff_eq] at h
    obtain ⟨⟨⟨⟨rfl, rfl⟩, rfl⟩, rfl⟩, rfl⟩ := h
    rfl
  · cases h

def selfB {δ : Type} (e : TypeId) (x0 : AV) (id : Nat) : Option (δ × List (Option Nat) × List Nat) → Option AO → Option (δ × List (Option Nat) × List Nat)
  | some (d, p, F), some (.arr e' z' [y]) => if e' = e ∧ z' = 1 ∧ ptrB y x0 = true then some (d, p ++ [some id], F) else none
  | _, _ => none

/-- Receiver, two more, and a closure that has captured a box of its own and one of the receiver. -/
def hSelf {α β₁ β₂ γ : Type} (f : FuncId) (e : TypeId) (c : HC α) (p₁ : HC β₁) (p₂ : HC β₂) (q : HC γ) : HL (α × β₁ × β₂ × γ × Unit) where
  sz d := (hCons c (hCons p₁ (hCons p₂ (hCons q hNil)))).sz d + 1
  enc n d := [c.enc n d.1, p₁.enc (n + c.sz d.1) d.2.1, p₂.enc (n + c.sz d.1 + p₁.sz d.2.1) d.2.2.1, .fn f [q.enc (n + c.sz d.1 + p₁.sz d.2.1 + p₂.sz d.2.2.1) d.2.2.2.1, .ptr (n + (hCons c (hCons p₁ (hCons p₂ (hCons q hNil)))).sz d) 1 1 0 0]]
  K n d := (hCons c (hCons p₁ (hCons p₂ (hCons q hNil)))).K n d ++ [.arr e 1 [c.enc n d.1]]
  dec H xs := match xs with
    | [x0, x1, x2, .fn g [b0, .ptr id z len idx off]] => if g = f ∧ z = 1 ∧ len = 1 ∧ idx = 0 ∧ off = 0 then selfB e x0 id ((hCons c (hCons p₁ (hCons p₂ (hCons q hNil)))).dec H [x0, x1, x2, b0]) H[id]? else none
    | _ => none
  len n d := by rw [List.length_append, (hCons c (hCons p₁ (hCons p₂ (hCons q hNil)))).len]; rfl
  ok H xs d p F h := by
    split at h
    · next x0 x1 x2 g b0 id z len idx off =>
      split at h
      · next hg =>
        obtain ⟨rfl, rfl, rfl, rfl, rfl⟩ := hg
        unfold selfB at h
        split at h
        · next d1 p1 F1 e' z' y hM hO =>
          split at h
          · next hy =>
            obtain ⟨rfl, rfl, hy⟩ := hy
            cases ptrB_eq hy
            simp only [Option.some.injEq, Prod.mk.injEq] at h
            obtain ⟨rfl, rfl, rfl⟩ := h
            obtain ⟨k1, k0, k2, k3⟩ := (hCons c (hCons p₁ (hCons p₂ (hCons q hNil)))).ok H _ _ _ _ hM
            refine ⟨by rw [List.length_append, k1]; rfl, fun n => rfl, fun n pick F' hp hF => ?_, fun HD E hr ha f hv a ha' => ?_⟩
            · have hlast : pick[n + (hCons c (hCons p₁ (hCons p₂ (hCons q hNil)))).sz d1]? = some (some id) := by
                refine hp _ _ ?_
                rw [List.getElem?_append_right (by omega), k1, Nat.sub_self]; rfl
              obtain ⟨m1, m2⟩ := k2 n pick F' (fun i s hs => hp i s (by rw [List.getElem?_append_left (List.getElem?_eq_some_iff.1 hs).1]; exact hs)) hF
              have a0 : Mt H F' pick x0 (c.enc n d1.1) := m1 0 _ _ rfl rfl
              refine ⟨fun i x w hx hw => ?_, fun i s w hq hw => ?_⟩
              · match i, hx, hw with
                | 0, hx, hw => cases hx; cases hw; exact a0
                | 1, hx, hw => cases hx; cases hw; exact m1 1 _ _ rfl rfl
                | 2, hx, hw => cases hx; cases hw; exact m1 2 _ _ rfl rfl
                | 3, hx, hw =>
                  cases hx; cases hw
                  refine .fn _ _ _ rfl fun j u v hu hv => ?_
                  match j, hu, hv with
                  | 0, hu, hv => cases hu; cases hv; exact m1 3 _ _ rfl rfl
                  | 1, hu, hv => cases hu; cases hv; exact .ptr _ _ _ _ _ _ hlast
                  | j + 2, hu, _ => simp at hu
                | i + 4, hx, _ => simp at hx
              · have hkl := (hCons c (hCons p₁ (hCons p₂ (hCons q hNil)))).len n d1
                by_cases hi : i < p1.length
                · rw [List.getElem?_append_left hi] at hq
                  rw [List.getElem?_append_left (by omega)] at hw
                  exact m2 i s w hq hw
                · rw [List.getElem?_append_right (by omega)] at hq
                  rw [List.getElem?_append_right (by omega)] at hw
                  have hi0 : i - p1.length = 0 := by
                    have := (List.getElem?_eq_some_iff.1 hq).1
                    simp at this; omega
                  rw [hi0] at hq
                  rw [show i - ((hCons c (hCons p₁ (hCons p₂ (hCons q hNil)))).K n d1).length = 0 by omega] at hw
                  cases hq; cases hw
                  refine ⟨_, hO, .inr ⟨rfl, fun j v w hv hw => ?_⟩⟩
                  cases j with
                  | zero => cases hv; cases hw; exact mt_cells a0
                  | succ j => simp at hv
            · have h3 := hv 3 _ rfl
              obtain ⟨us, hus, hsz, hcap⟩ := h3.fn_inv
              rcases List.mem_append.1 ha' with h5 | h5
              · refine k3 HD E hr (fun a h => ha a (List.mem_append_left _ h)) (fun i => if i = 3 then us.getD 0 Go.undef else f i) (fun i x hx => ?_) a h5
                match i, hx with
                | 0, hx => exact hv 0 x hx
                | 1, hx => exact hv 1 x hx
                | 2, hx => exact hv 2 x hx
                | 3, hx => cases hx; exact hcap 0 _ rfl
                | i + 4, hx => simp at hx
              · simp only [List.mem_singleton, Option.some.injEq] at h5
                subst h5
                have h6 := hcap 1 _ rfl
                generalize us.getD 1 Go.undef = v6 at h6
                cases h6 with
                | ptr _ _ _ _ _ _ hm _ => exact hm
          · cases h
        · cases h
      · cases h
    · cases h

/-! ### For the evaluation -/
theorem hSelf_dec {α β₁ β₂ γ : Type} {f g : FuncId} {e : TypeId} {c : HC α} {p₁ : HC β₁} {p₂ : HC β₂} {q : HC γ} {H : AH} {x0 x1 x2 b0 : AV} {id z len idx off : Nat} :
    (hSelf f e c p₁ p₂ q).dec H [x0, x1, x2, .fn g [b0, .ptr id z len idx off]] = if g = f ∧ z = 1 ∧ len = 1 ∧ idx = 0 ∧ off = 0 then selfB e x0 id ((hCons c (hCons p₁ (hCons p₂ (hCons q hNil)))).dec H [x0, x1, x2, b0]) H[id]? else none := (rfl)
theorem selfB_some {δ : Type} {e e' : TypeId} {x0 y : AV} {id z' : Nat} {d : δ} {p : List (Option Nat)} {F : List Nat} :
    selfB e x0 id (some (d, p, F)) (some (.arr e' z' [y])) = if e' = e ∧ z' = 1 ∧ ptrB y x0 = true then some (d, p ++ [some id], F) else none := (rfl)
theorem ptrB_ptr {a b c d e a' b' c' d' e' : Nat} : ptrB (.ptr a b c d e) (.ptr a' b' c' d' e') = (a == a' && b == b' && c == c' && d == d' && e == e') := (rfl)
end Go.Pg
