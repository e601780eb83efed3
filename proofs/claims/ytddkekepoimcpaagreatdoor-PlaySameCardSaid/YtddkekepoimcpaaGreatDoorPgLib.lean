/- Pg, part 24: contracts of the library's functions, as they are proved over values, become contracts of the layer. -/
import Derived.Test.YtddkekepoimcpaaGreatDoorPgLst
import Derived.Below
set_option linter.unusedVariables false
set_option linter.unusedSimpArgs false
namespace Go.Pg
open Go Go.RowKit

theorem callsR_below {P : Program} {f : FuncId} {args : List AV} {r : AV} (h : ∀ (E : Env) (vals : Array Value), VRs E args vals → Calls P f vals E.W fun e W' => (∃ v, e = .returned v ∧ ∀ E' : Env, VR E' r v) ∧ Below E.W.heap.size E.W W') :
    CallsR P f args [] r [] := by
  intro E vals hr hv
  refine (h E vals hv).mono fun e W' ⟨⟨v, he, hvr⟩, hb⟩ => ⟨v, { E with W := W' }, he, rfl, hvr _, ?_, ?_⟩
  · refine ⟨hr.hl, hr.dom, fun id o m h => by simp at h, fun id o b h => by simp at h, fun id o b h => by simp at h, fun id id' o o' b h => by simp at h, fun b hb' => Nat.lt_of_lt_of_le (hr.stlt b hb') hb.size⟩
  · refine ⟨⟨hb.os, hb.tape, hb.output, hb.size, fun b h1 _ => hb.block b h1, fun b c ty fz h1 => ⟨c, ?_, rfl⟩, fun b _ h1 => .inl h1, fun b h1 => h1⟩, ⟨fun _ h => h, fun _ L _ h => ⟨L, h, Nat.le_refl _, fun _ => rfl⟩⟩, fun b h1 => .inl h1⟩
    show W'.heap[b]? = _
    rw [hb.block b (Array.getElem?_eq_some_iff.1 h1).1, h1]

theorem VRs.two {E : Env} {a b : AV} {vals : Array Value} (h : VRs E [a, b] vals) : ∃ u v, vals = #[u, v] ∧ VR E a u ∧ VR E b v := by
  obtain ⟨h1, h2⟩ := h
  obtain ⟨l⟩ := vals
  match l, h1 with
  | [u, v], _ => exact ⟨u, v, rfl, h2 0 a rfl, h2 1 b rfl⟩

end Go.Pg
