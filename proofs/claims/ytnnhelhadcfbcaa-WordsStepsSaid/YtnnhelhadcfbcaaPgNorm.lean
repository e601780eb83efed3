/- Pg, part 13: contracts by table; arguments are brought to one form (nil slices are slices of nothing). -/
import Derived.Test.YtnnhelhadcfbcaaPgItr
namespace Go.Pg
open Go

inductive NS where
  | id
  | sl (z : Nat) (l : List (Option Nat))
  | ag (l : List (Option Nat))

def normC : Option Nat → AV → AV
  | some z, .nls => .sl z []
  | some _, .slc z vs => .sl z vs
  | _, x => x

def normL : List (Option Nat) → List AV → List AV
  | o :: os, x :: xs => normC o x :: normL os xs
  | _, xs => xs

def normE (l : List (Option Nat)) : AV → AV
  | .agg cs => .agg (normL l cs)
  | x => match l with
    | [o] => normC o x
    | _ => x

def normA : NS → AV → AV
  | .id, x => x
  | .sl z l, x => match l, normC (some z) x with
    | [], y => y
    | _, .sl z' vs => .sl z' (vs.map (normE l))
    | _, y => y
  | .ag l, .agg cs => .agg (normL l cs)
  | .ag _, x => x

theorem sl_nil (W : World) (st : Nat → Prop) (z : Nat) : VP W st (.sl z []) (.slice none 0 0) :=
  .sl z [] none 0 (fun _ _ => Go.undef) (by simp) (fun i v h => by simp at h) (fun i v j c h => by simp at h)

theorem normC_VP {W : World} {st : Nat → Prop} {o : Option Nat} {x : AV} {v : Value} (h : VP W st x v) : VP W st (normC o x) v := by
  unfold normC
  split
  · cases h; exact sl_nil W st _
  · cases h with | slc _ _ a f h2 h3 => exact .sl _ _ a _ f (Nat.le_refl _) h2 h3
  · exact h

theorem normC_VR {E : Env} {o : Option Nat} {x : AV} {v : Value} (h : VR E x v) : VR E (normC o x) v := by
  unfold normC
  split
  · cases h; exact (sl_nil E.W E.st _).vr
  · cases h with | slc _ _ a f h2 h3 => exact .sl _ _ a _ f (Nat.le_refl _) h2 h3
  · exact h

theorem normC_cells {o : Option Nat} {x : AV} (h : x.cells = [x]) : (normC o x).cells = [normC o x] := by
  unfold normC
  split
  · rfl
  · rfl
  · exact h

theorem normL_get : ∀ (l : List (Option Nat)) (xs : List AV), (normL l xs).length = xs.length ∧ ∀ (i : Nat) y, (normL l xs)[i]? = some y → ∃ o x, xs[i]? = some x ∧ y = normC o x := by
  intro l
  induction l with
  | nil => intro xs; exact ⟨by simp [normL], fun i y h => ⟨none, y, by simpa [normL] using h, rfl⟩⟩
  | cons o l ih =>
    intro xs
    cases xs with
    | nil => exact ⟨rfl, fun i y h => by simp [normL] at h⟩
    | cons x xs =>
      obtain ⟨h1, h2⟩ := ih xs
      refine ⟨by simp [normL, h1], fun i y h => ?_⟩
      cases i with
      | zero => simp [normL] at h; exact ⟨o, x, rfl, h.symm⟩
      | succ i => simp only [normL, List.getElem?_cons_succ] at h ⊢; exact h2 i y h

theorem normE_cells (l : List (Option Nat)) (x : AV) : (normE l x).cells.length = x.cells.length ∧ ∀ (i : Nat) y, (normE l x).cells[i]? = some y → ∃ o c, x.cells[i]? = some c ∧ y = normC o c := by
  have leaf : x.cells = [x] → ∀ o, (normC o x).cells.length = x.cells.length ∧ ∀ (i : Nat) y, (normC o x).cells[i]? = some y → ∃ o c, x.cells[i]? = some c ∧ y = normC o c := by
    intro h o
    rw [normC_cells h, h]
    refine ⟨rfl, fun i y hy => ?_⟩
    cases i with
    | zero => simp at hy; exact ⟨o, x, rfl, hy.symm⟩
    | succ i => simp at hy
  have same : ∀ {x : AV}, x.cells.length = x.cells.length ∧ ∀ (i : Nat) y, x.cells[i]? = some y → ∃ o c, x.cells[i]? = some c ∧ y = normC o c :=
    fun {x} => ⟨rfl, fun i y hy => ⟨none, y, hy, rfl⟩⟩
  unfold normE
  split
  · exact normL_get l _
  · next hx =>
    split
    · next o => exact leaf (by cases x <;> first | rfl | exact absurd rfl (hx _)) o
    · exact same

theorem normSl_VP {W : World} {st : Nat → Prop} {l : List (Option Nat)} {z : Nat} {vs : List AV} {v : Value} (h : VP W st (.sl z vs) v) : VP W st (.sl z (vs.map (normE l))) v := by
  cases h with
  | sl _ _ a cap f h1 h2 h3 =>
  have := VP.sl (W := W) (st := st) z (vs.map (normE l)) a cap f (by simpa using h1) (fun i y hy => by
    simp only [List.getElem?_map, Option.map_eq_some_iff] at hy
    obtain ⟨x, hx, rfl⟩ := hy
    obtain ⟨k1, k2⟩ := h2 i x hx
    exact ⟨by rw [(normE_cells l x).1]; exact k1, k2⟩) (fun i y j c hy hc => by
    simp only [List.getElem?_map, Option.map_eq_some_iff] at hy
    obtain ⟨x, hx, rfl⟩ := hy
    obtain ⟨o, c0, hc0, rfl⟩ := (normE_cells l x).2 j c hc
    exact normC_VP (h3 i x j c0 hx hc0))
  simpa using this

theorem normA_VR {E : Env} {n : NS} {x : AV} {v : Value} (h : VR E x v) : VR E (normA n x) v := by
  cases n with
  | id => exact h
  | sl z l =>
    have h1 := normC_VR (o := some z) h
    simp only [normA]
    split
    · exact h1
    · next z' vs hx =>
      rw [hx] at h1
      cases h1 with
      | sl _ _ a cap f k1 k2 k3 => exact (normSl_VP (W := E.W) (st := E.st) (.sl _ _ a cap f k1 k2 k3)).vr
    · exact h1
  | ag l =>
    cases x with
    | agg cs =>
      obtain ⟨us, rfl, h1, h2⟩ := h.agg_inv
      obtain ⟨k1, k2⟩ := normL_get l cs
      refine .agg _ us (by rw [h1, k1]) fun i c hc => ?_
      obtain ⟨o, x, hx, rfl⟩ := k2 i c hc
      exact normC_VR (h2 i x hx)
    | _ => exact h

def normArgs : List NS → List AV → List AV
  | n :: ns, a :: as => normA n a :: normArgs ns as
  | _, as => as

theorem normArgs_get : ∀ (ns : List NS) (xs : List AV), (normArgs ns xs).length = xs.length ∧ ∀ (i : Nat) y, (normArgs ns xs)[i]? = some y → ∃ n x, xs[i]? = some x ∧ y = normA n x := by
  intro l
  induction l with
  | nil => intro xs; exact ⟨by simp [normArgs], fun i y h => ⟨.id, y, by simpa [normArgs] using h, rfl⟩⟩
  | cons o l ih =>
    intro xs
    cases xs with
    | nil => exact ⟨rfl, fun i y h => by simp [normArgs] at h⟩
    | cons x xs =>
      obtain ⟨h1, h2⟩ := ih xs
      refine ⟨by simp [normArgs, h1], fun i y h => ?_⟩
      cases i with
      | zero => simp [normArgs] at h; exact ⟨o, x, rfl, h.symm⟩
      | succ i => simp only [normArgs, List.getElem?_cons_succ] at h ⊢; exact h2 i y h

theorem CallsR.norm {P : Program} {f : FuncId} {ns : List NS} {as : List AV} {H H' : AH} {r : AV} (h : CallsR P f (normArgs ns as) H r H') : CallsR P f as H r H' := by
  intro E vals hr hv
  obtain ⟨k1, k2⟩ := normArgs_get ns as
  refine h E vals hr ⟨by rw [hv.1, k1], fun i c hc => ?_⟩
  obtain ⟨n, x, hx, rfl⟩ := k2 i c hc
  exact normA_VR (hv.2 i x hx)

/-- A contract: what the arguments must be, what comes back, which objects that makes; or (`it`) what an iterator tells. -/
structure C1 where
  ns : List NS
  pre : List AV → Prop
  r : List AV → AV
  H : List AV → AH
  it : Bool := false
  xs : List AV → List (List AV) := fun _ => []

abbrev Ctr := List (FuncId × C1)

def C1OK (P : Program) (f : FuncId) (c : C1) : Prop :=
  cal P f = true ∧ ∀ as, c.pre as → match c.it with
    | true => ItR P f as (c.xs as)
    | false => CallsR P f as [] (c.r as) (c.H as) ∧ okRet (c.r as) = true ∧ (c.H as).all okObj = true

def CtrOK (P : Program) (C : Ctr) : Prop := ∀ p ∈ C, C1OK P p.1 p.2

theorem CtrOK.nil (P : Program) : CtrOK P [] := fun p h => by simp at h
theorem CtrOK.cons {P : Program} {f : FuncId} {c : C1} {C : Ctr} (h : C1OK P f c) (k : CtrOK P C) : CtrOK P ((f, c) :: C) := by
  intro p hp
  rcases List.mem_cons.1 hp with rfl | hp
  · exact h
  · exact k p hp

def callC (f : FuncId) (as : List AV) (K : AV → AH → Prop) : Ctr → Prop
  | [] => False
  | p :: r => if f = p.1 then p.2.it = false ∧ p.2.pre (normArgs p.2.ns as) ∧ K (p.2.r (normArgs p.2.ns as)) (p.2.H (normArgs p.2.ns as)) else callC f as K r

/-- What a call comes back with. -/
def callV (f : FuncId) (as : List AV) : Ctr → AV
  | [] => .top
  | p :: r => if f = p.1 then p.2.r (normArgs p.2.ns as) else callV f as r

/-- Which objects a call makes. -/
def callH (f : FuncId) (as : List AV) : Ctr → AH
  | [] => []
  | p :: r => if f = p.1 then p.2.H (normArgs p.2.ns as) else callH f as r

theorem callC_sound {P : Program} {f : FuncId} {as : List AV} {K : AV → AH → Prop} : ∀ {C : Ctr}, CtrOK P C → callC f as K C →
    cal P f = true ∧ ∃ r Hr, CallsR P f as [] r Hr ∧ okRet r = true ∧ Hr.all okObj = true ∧ K r Hr := by
  intro C
  induction C with
  | nil => intro _ h; exact h.elim
  | cons p r ih =>
    intro hC h
    simp only [callC] at h
    split at h
    · next e =>
      obtain ⟨h1, h2⟩ := hC p (by simp)
      rw [e]
      have h2 := h2 _ h.2.1
      rw [h.1] at h2
      obtain ⟨h3, h4, h5⟩ := h2
      exact ⟨h1, _, _, h3.norm, h4, h5, h.2.2⟩
    · exact ih (fun q hq => hC q (List.mem_cons_of_mem _ hq)) h

/-- What a range over a function's closure goes through. -/
def iterC (f : FuncId) (as : List AV) (K : List (List AV) → Prop) : Ctr → Prop
  | [] => False
  | p :: r => if f = p.1 then p.2.it = true ∧ p.2.pre as ∧ K (p.2.xs as) else iterC f as K r

theorem iterC_sound {P : Program} {f : FuncId} {as : List AV} {K : List (List AV) → Prop} : ∀ {C : Ctr}, CtrOK P C → iterC f as K C → cal P f = true ∧ ∃ xs, ItR P f as xs ∧ K xs := by
  intro C
  induction C with
  | nil => intro _ h; exact h.elim
  | cons p r ih =>
    intro hC h
    simp only [iterC] at h
    split at h
    · next e =>
      obtain ⟨h1, h2⟩ := hC p (by simp)
      rw [e]
      have h2 := h2 _ h.2.1
      rw [h.1] at h2
      exact ⟨h1, _, h2, h.2.2⟩
    · exact ih (fun q hq => hC q (List.mem_cons_of_mem _ hq)) h

def callT (C : Ctr) (ev : AEnv) (H : AH) (f : Operand) (args : Array Operand) (K : HK) : Prop :=
  match opnd ev f with
  | .fn fid cap => match resL (res8 H) (args.toList.map (opnd ev) ++ cap) with
    | some (as, ids) => callC fid as (fun r Hr => K (shiftR H.length r) (freeze ids H ++ Hr) (List.range' H.length Hr.length) ids []) C
    | none => False
  | _ => False

theorem callT_sound {P : Program} {C : Ctr} (hC : CtrOK P C) {ev : AEnv} {H : AH} {o : Oper} {f : Operand} {args : Array Operand} {ats : Array TypeId} {K : HK}
    (ho : o.op = .call { callee := .value f, args, argTypes := ats }) (h : callT C ev H f args K) : HSnd P ev H o K := by
  apply callK_sound
  unfold callK
  rw [ho]
  unfold callT at h
  simp only
  split at h
  · next fid cap hf =>
    rw [hf]
    simp only
    split at h
    · next as ids hr =>
      rw [hr]
      obtain ⟨h1, r, Hr, h2, h3, h4, h5⟩ := callC_sound hC h
      exact ⟨h1, r, Hr, h2, h3, h4, h5⟩
    · exact h.elim
  · exact h.elim

end Go.Pg
