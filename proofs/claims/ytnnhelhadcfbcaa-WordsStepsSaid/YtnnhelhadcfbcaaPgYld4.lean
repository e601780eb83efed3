/- Pg, part 30: code that calls a yield: what the evaluation by simp looks at. -/
import Derived.Test.YtnnhelhadcfbcaaPgYld3
namespace Go.Pg
open Go

section
variable {P : Program} {C : Ctr} {l : Nat} {xs : List (List AV)}

theorem yieldK_mono {T : Option Nat} {y : Nat × List AV} {K K' : Option Nat → Bool → Prop} (hk : ∀ T b, K T b → K' T b) (h : yieldK l xs T y K) : yieldK l xs T y K' := by
  unfold yieldK at h ⊢
  split at h
  · exact ⟨h.1, h.2.1, h.2.2.1, hk _ _ h.2.2.2.1, hk _ _ h.2.2.2.2⟩
  · exact h.elim

theorem oneY_mono {o : Oper} {T : Option Nat} {ev : AEnv} {H : AH} {K K' : YK} (hk : ∀ T ev H, K T ev H → K' T ev H) (h : oneY P C l xs o T ev H K) : oneY P C l xs o T ev H K' := by
  unfold oneY ysel at h ⊢
  split at h
  · exact ⟨h.1, hk _ _ _ h.2⟩
  · exact yieldK_mono (fun _ _ h => hk _ _ _ h) h

theorem runY_mono {ops : Array Oper} {K K' : YK} (hk : ∀ T ev H, K T ev H → K' T ev H) : ∀ (r : List Oper) (T : Option Nat) (ev : AEnv) (H : AH), runY P C l xs ops r T ev H K → runY P C l xs ops r T ev H K' := by
  intro r
  induction r with
  | nil => intro T ev H h; exact hk _ _ _ h
  | cons o r ih =>
    intro T ev H h
    unfold runY gsel at h ⊢
    split at h
    · exact h.elim
    · exact oneY_mono (fun _ _ _ h => ih _ _ _ h) h
    · exact ⟨fun hw => oneY_mono (fun _ _ _ h => ih _ _ _ h) (h.1 hw), fun hw => ih _ _ _ (h.2 hw)⟩

theorem thenY_mono {K K' : YK} {Q Q' : YPost} (hk : ∀ T ev H, K T ev H → K' T ev H) (hq : ∀ e T ev H, Q e T ev H → Q' e T ev H) : ∀ e T ev H, thenY K Q e T ev H → thenY K' Q' e T ev H := by
  intro e T ev H h
  cases e <;> first | exact hk _ _ _ h | exact hq _ _ _ _ h

theorem wpY_mono {mrg : Bool} {dyn : List Nat} : ∀ (c : Code) (Q Q' : YPost) (T : Option Nat) (ev : AEnv) (H : AH), (∀ e T ev H, Q e T ev H → Q' e T ev H) → wpY P C l xs mrg dyn c Q T ev H → wpY P C l xs mrg dyn c Q' T ev H := by
  intro c
  induction c with
  | skip => intro Q Q' T ev H hq h; exact hq _ _ _ _ h
  | region id ops draw =>
    intro Q Q' T ev H hq h
    cases draw with
    | true => exact runOps_mono (fun _ _ _ h => ⟨h.1, hq _ _ _ _ h.2⟩) _ _ _ _ h
    | false => exact runY_mono (fun _ _ _ h => hq _ _ _ _ h) _ _ _ _ h
  | seq x y ihx ihy => intro Q Q' T ev H hq h; exact ihx _ _ _ _ _ (thenY_mono (fun _ _ _ h => ihy _ _ _ _ _ hq h) hq) h
  | cond c x y ihx ihy =>
    intro Q Q' T ev H hq h
    simp only [wpY, csel, mkG] at h ⊢
    split at h
    · exact ⟨fun ht => ihx _ _ _ _ _ hq (h.1 ht), fun ht => ihy _ _ _ _ _ hq (h.2 ht)⟩
    · exact h.elim
  | block id b ih =>
    intro Q Q' T ev H hq h
    refine ih _ _ _ _ _ (fun e T ev H h => ?_) h
    cases e <;> try exact hq _ _ _ _ h
    next i =>
      simp only [blockY] at h ⊢
      split at h
      · next he => rw [if_pos he]; exact hq _ _ _ _ h
      · next he => rw [if_neg he]; exact hq _ _ _ _ h
  | loop b ih =>
    intro Q Q' T ev H hq h
    obtain ⟨α, st, pre, μ, h0, hr⟩ := h
    exact ⟨α, st, pre, μ, h0, fun x hx => ih _ _ _ _ _ (thenY_mono (fun _ _ _ h => h) hq) (hr x hx)⟩
  | exit id => intro Q Q' T ev H hq h; exact hq _ _ _ _ h
  | ret => intro Q Q' T ev H hq h; exact hq _ _ _ _ h
  | _ => intro Q Q' T ev H hq h; exact h.elim
end

section
variable {P : Program} {C : Ctr} {l : Nat} {xs : List (List AV)} {mrg : Bool} {dl : List Nat} {ops : Array Oper} {T : Option Nat} {ev : AEnv} {H : AH}

def runYH (P : Program) (C : Ctr) (l : Nat) (xs : List (List AV)) [ops : Hid (Array Oper)] [r : Hid (List Oper)] (T : Option Nat) (ev : AEnv) (H : AH) [K : Hid YK] : Prop := runY P C l xs ops.val r.val T ev H K.val
def oneYH (P : Program) (C : Ctr) (l : Nat) (xs : List (List AV)) [o : Hid Oper] (T : Option Nat) (ev : AEnv) (H : AH) [K : Hid YK] : Prop := oneY P C l xs o.val T ev H K.val
def yselH (x : Option (Nat × List AV)) [a : Hid Prop] [b : Hid (Nat × List AV → Prop)] : Prop := ysel x a.val b.val
def yieldH (l : Nat) (xs : List (List AV)) (T : Option Nat) (y : Nat × List AV) [K : Hid (Option Nat → Bool → Prop)] : Prop := yieldK l xs T y K.val
def wpYH (P : Program) (C : Ctr) (l : Nat) (xs : List (List AV)) (mrg : Bool) (dl : List Nat) [c : Hid Code] [Q : Hid YPost] (T : Option Nat) (ev : AEnv) (H : AH) : Prop := wpY P C l xs mrg dl c.val Q.val T ev H
def loopYH [W : Hid (YPost → Option Nat → AEnv → AH → Prop)] [Q : Hid YPost] (T : Option Nat) (ev : AEnv) (H : AH) : Prop := LoopY W.val Q.val T ev H

theorem wpY_H {c : Code} {Q : YPost} : wpY P C l xs mrg dl c Q T ev H = @wpYH P C l xs mrg dl ⟨c⟩ ⟨Q⟩ T ev H := (rfl)
theorem wpYH_skip {Q : YPost} : @wpYH P C l xs mrg dl ⟨.skip⟩ ⟨Q⟩ T ev H = Q .normal T ev H := (rfl)
theorem wpYH_ret {Q : YPost} : @wpYH P C l xs mrg dl ⟨.ret⟩ ⟨Q⟩ T ev H = Q .ret T ev H := (rfl)
theorem wpYH_exit {id : Nat} {Q : YPost} : @wpYH P C l xs mrg dl ⟨.exit id⟩ ⟨Q⟩ T ev H = Q (.exit id) T ev H := (rfl)
theorem wpYH_seq {x y : Code} {Q : YPost} : @wpYH P C l xs mrg dl ⟨.seq x y⟩ ⟨Q⟩ T ev H = @wpYH P C l xs mrg dl ⟨x⟩ ⟨thenY (wpY P C l xs mrg dl y Q) Q⟩ T ev H := (rfl)
theorem wpYH_cond {c : Operand} {x y : Code} {Q : YPost} : @wpYH P C l xs mrg dl ⟨.cond c x y⟩ ⟨Q⟩ T ev H =
    @cselH (opnd ev c) ⟨@wpYH P C l xs mrg dl ⟨x⟩ ⟨Q⟩ T ev H⟩ ⟨@wpYH P C l xs mrg dl ⟨y⟩ ⟨Q⟩ T ev H⟩ := (rfl)
theorem wpYH_block {id : Nat} {b : Code} {Q : YPost} : @wpYH P C l xs mrg dl ⟨.block id b⟩ ⟨Q⟩ T ev H = @wpYH P C l xs mrg dl ⟨b⟩ ⟨blockY id Q⟩ T ev H := (rfl)
theorem wpYH_loop {b : Code} {Q : YPost} : @wpYH P C l xs mrg dl ⟨.loop b⟩ ⟨Q⟩ T ev H = @loopYH ⟨wpY P C l xs mrg dl b⟩ ⟨Q⟩ T ev H := (rfl)
theorem wpYH_region1 {id : Nat} {r : List Oper} {Q : YPost} : @wpYH P C l xs mrg dl ⟨.region id r.toArray true⟩ ⟨Q⟩ T ev H =
    @bselH (dl.contains id) ⟨@runH P C false true ⟨r.toArray⟩ ⟨r⟩ ev H [] ⟨fun ev' H' acc => (true = true → dynOrd (mkMs r.toArray) acc.reverse = true) ∧ Q .normal T ev' H'⟩⟩
      ⟨@runH P C mrg false ⟨r.toArray⟩ ⟨r⟩ ev H [] ⟨fun ev' H' _ => Q .normal T ev' H'⟩⟩ := by
  show runOps P C (mrg && !(dl.contains id)) (dl.contains id) r.toArray r ev H [] _ = bsel (dl.contains id) (runOps P C false true r.toArray r ev H [] _) (runOps P C mrg false r.toArray r ev H [] _)
  cases dl.contains id <;> simp [bsel]
theorem wpYH_region0 {id : Nat} {r : List Oper} {Q : YPost} : @wpYH P C l xs mrg dl ⟨.region id r.toArray false⟩ ⟨Q⟩ T ev H = @runYH P C l xs ⟨r.toArray⟩ ⟨r⟩ T ev H ⟨Q .normal⟩ := (rfl)
theorem runYH_nil {K : YK} : @runYH P C l xs ⟨ops⟩ ⟨[]⟩ T ev H ⟨K⟩ = K T ev H := (rfl)
theorem runYH_cons {o : Oper} {r : List Oper} {K : YK} : @runYH P C l xs ⟨ops⟩ ⟨o :: r⟩ T ev H ⟨K⟩ =
    @gselH (gw ops ev o) ⟨@oneYH P C l xs ⟨o⟩ T ev H ⟨fun T' ev' H' => @runYH P C l xs ⟨ops⟩ ⟨r⟩ T' ev' H' ⟨K⟩⟩⟩
      ⟨fun w => @iselH w ⟨@oneYH P C l xs ⟨o⟩ T (fixG ops ev o true) H ⟨fun T' ev' H' => @runYH P C l xs ⟨ops⟩ ⟨r⟩ T' ev' H' ⟨K⟩⟩⟩
        ⟨@runYH P C l xs ⟨ops⟩ ⟨r⟩ T (stepEv o .undef (fixG ops ev o false)) H ⟨K⟩⟩⟩ := by
  have base : @runYH P C l xs ⟨ops⟩ ⟨o :: r⟩ T ev H ⟨K⟩ =
    @gselH (gw ops ev o) ⟨@oneYH P C l xs ⟨o⟩ T ev H ⟨fun T' ev' H' => @runYH P C l xs ⟨ops⟩ ⟨r⟩ T' ev' H' ⟨K⟩⟩⟩
      ⟨fun w => (w = true → @oneYH P C l xs ⟨o⟩ T ev H ⟨fun T' ev' H' => @runYH P C l xs ⟨ops⟩ ⟨r⟩ T' ev' H' ⟨K⟩⟩) ∧ (w = false → @runYH P C l xs ⟨ops⟩ ⟨r⟩ T (stepEv o .undef ev) H ⟨K⟩)⟩ := rfl
  rw [base]
  unfold gselH gsel
  cases hg : gw ops ev o with
  | none => rfl
  | some g =>
    cases g with
    | none => rfl
    | some w =>
      cases w with
      | true =>
        show ((true = true → _) ∧ (true = false → _)) = @iselH true ⟨@oneYH P C l xs ⟨o⟩ T (fixG ops ev o true) H ⟨_⟩⟩ ⟨_⟩
        rw [fixG_eq hg, iselH_true]
        simp only [Bool.true_eq_false, false_implies, and_true, forall_const]
      | false =>
        show ((false = true → _) ∧ (false = false → _)) = @iselH false ⟨_⟩ ⟨@runYH P C l xs ⟨ops⟩ ⟨r⟩ T (stepEv o .undef (fixG ops ev o false)) H ⟨K⟩⟩
        rw [fixG_eq hg, iselH_false]
        simp only [Bool.false_eq_true, false_implies, true_and, forall_const]
theorem oneYH_eq {dst : Option Tmp} {op : Op} {ty : TypeId} {pos : String} {after : Array Edge} {guard : Option (Nat × Bool)} {K : YK} : @oneYH P C l xs ⟨⟨dst, op, ty, pos, after, guard⟩⟩ T ev H ⟨K⟩ =
    @yselH (yarg ev ⟨dst, op, ty, pos, after, guard⟩)
      ⟨chk P C false ev H ⟨dst, op, ty, pos, after, none⟩ ∧ K T (stepEv ⟨dst, op, ty, pos, after, guard⟩ (valV P C ev H ⟨dst, op, ty, pos, after, none⟩) ev) (heapV P C ev H ⟨dst, op, ty, pos, after, none⟩)⟩
      ⟨fun y => @yieldH l xs T y ⟨fun T' b => K T' (stepEv ⟨dst, op, ty, pos, after, guard⟩ (.bool b) ev) H⟩⟩ := (rfl)
theorem yselH_none {a : Prop} {b : Nat × List AV → Prop} : @yselH none ⟨a⟩ ⟨b⟩ = a := (rfl)
theorem yselH_some {a : Prop} {b : Nat × List AV → Prop} {y : Nat × List AV} : @yselH (some y) ⟨a⟩ ⟨b⟩ = b y := (rfl)
theorem yieldH_some {k m : Nat} {vs : List AV} {K : Option Nat → Bool → Prop} : @yieldH l xs (some k) (m, vs) ⟨K⟩ = (m = l ∧ vs.all (AV.okS 4) = true ∧ xs[k]? = some vs ∧ K (some (k + 1)) true ∧ K none false) := (rfl)
theorem thenY_normal {K : YK} {Q : YPost} : thenY K Q .normal T ev H = K T ev H := rfl
theorem thenY_exit {K : YK} {Q : YPost} {i : Nat} : thenY K Q (.exit i) T ev H = Q (.exit i) T ev H := rfl
theorem thenY_ret {K : YK} {Q : YPost} : thenY K Q .ret T ev H = Q .ret T ev H := rfl
theorem blockY_normal {id : Nat} {Q : YPost} : blockY id Q .normal T ev H = Q .normal T ev H := rfl
theorem blockY_ret {id : Nat} {Q : YPost} : blockY id Q .ret T ev H = Q .ret T ev H := rfl
theorem blockY_exit {id i : Nat} {Q : YPost} : blockY id Q (.exit i) T ev H = if i = id then Q .normal T ev H else Q (.exit i) T ev H := by
  simp only [blockY]; split <;> rfl
theorem endY_normal {m : Nat} : endY m .normal T ev H = endT m T := rfl
theorem endY_ret {m : Nat} : endY m .ret T ev H = endT m T := rfl
theorem endT_none {m : Nat} : endT m none = True := rfl
theorem endT_some {m k : Nat} : endT m (some k) = (k = m) := rfl
end

theorem loopYH_intro {P : Program} {C : Ctr} {l : Nat} {xs : List (List AV)} {mrg : Bool} {dyn : List Nat} {b : Code} {Q : YPost} {T : Option Nat} {ev : AEnv} {H : AH} {α : Type} (st : α → Option Nat × AEnv × AH) (pre : α → Prop) (μ : α → Nat) (x0 : α) (h0 : pre x0)
    (hT : T = (st x0).1) (hs : subA 0 ev H (st x0).2.1 (st x0).2.2)
    (hr : ∀ x, pre x → wpY P C l xs mrg dyn b (thenY (fun T' ev' H' => ∃ y, pre y ∧ μ y < μ x ∧ T' = (st y).1 ∧ subA 0 ev' H' (st y).2.1 (st y).2.2) Q) (st x).1 (st x).2.1 (st x).2.2) : @loopYH ⟨wpY P C l xs mrg dyn b⟩ ⟨Q⟩ T ev H :=
  ⟨α, st, pre, μ, ⟨x0, h0, hT, subS_of hs⟩, fun x hx => wpY_mono _ _ _ _ _ _ (thenY_mono (fun _ _ _ ⟨y, h1, h2, h3, h4⟩ => ⟨y, h1, h2, h3, subS_of h4⟩) (fun _ _ _ _ h => h)) (hr x hx)⟩
end Go.Pg
