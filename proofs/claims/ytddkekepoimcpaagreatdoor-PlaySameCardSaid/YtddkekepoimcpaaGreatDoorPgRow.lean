/- Pg, part 18: from a function's contract to a statement's row: arguments are opened, read again behind the call. -/
import Derived.Test.YtddkekepoimcpaaGreatDoorPgEval
import Derived.ProofKit
import Derived.SizedLaws
import Derived.Carry
import Derived.SliceStrings
set_option linter.unusedVariables false
set_option linter.unusedSimpArgs false
namespace Go.Pg
open Go Go.ChangeShapes Go.WideShapes Go.ChangeAt Go.RowKit

/-- What lies below the heap's size when the call begins. -/
def old (W : World) : Nat → Prop := fun b => b < W.heap.size

theorem calls_row {P : Program} {f : FuncId} {as : List AV} {W : World} {args : Array Value} (h : CallsR P f as [] (.bool true) [])
    (hs : args.size = as.length) (hv : ∀ (i : Nat) c, as[i]? = some c → VP W (old W) c (args.getD i Go.undef)) :
    Calls P f args W fun e W' => e = .returned (.bool true) ∧ Below W.heap.size W W' := by
  have hr : Rel [] { W := W, M := fun _ => none, st := old W, hl := hlOf [] } :=
    ⟨rfl, fun _ _ => rfl, fun id o m h => by simp at h, fun id o b h => by simp at h, fun id o b h => by simp at h, fun id id' o o' b h => by simp at h, fun b hb => hb⟩
  refine (h _ args hr ⟨hs, fun i c hc => VP.vr (E := { W := W, M := fun _ => none, st := old W, hl := hlOf [] }) (hv i c hc)⟩).mono fun e W' ⟨v, E', he, hW, hv, _, hst⟩ => ?_
  subst hW
  refine ⟨by rw [he, hv.bool_inv], hst.mv.os, hst.mv.tape, hst.mv.output, hst.mv.size, fun k hk => hst.mv.keep k hk ?_⟩
  rintro ⟨id, o, h1, _⟩
  simp at h1

section
variable {H : Type} {enc : TypeId × Value → H} {P : Program}

theorem post_below {f : Func} {s : ChangeSpec} {apart fresh handsOn again : Bool} {W W' : World} {args : Array Value} {v : Value} {ds gs : List (DataW H)} {before pa pv : List MemPlace}
    (hW : DataW.Whole enc P f.params.toList s.vars apart W args.toList ds gs before)
    (hres : ∀ (b : Nat) (sp : Nat → Bool) (hd : Bool), DataW.TrodAll enc P W' b sp hd f.resultTypes.toList (v.resultList f.resultTypes.size) (s.fn H (ds ++ gs)).results [])
    (hargs : ∀ sp : Nat → Bool, (∀ p ∈ before, sp p.block = true) → DataW.TrodAll enc P W' 0 sp true f.params.toList args.toList (s.fn H (ds ++ gs)).args pa)
    (hvars : ∀ sp : Nat → Bool, (∀ p ∈ before, sp p.block = true) → DataW.TrodVars enc P W' sp s.vars (s.fn H (ds ++ gs)).vars pv)
    (hps : before = pa ++ pv) (hb : Below W.heap.size W W')
    (hok : ∀ (j : Nat) (t : TypeId) (r : Value), f.resultTypes[j]? = some t → (v.resultList f.resultTypes.size)[j]? = some r → Value.okWide P W' .any 0 t r) :
    s.post enc P f apart fresh handsOn again W args v W' := by
  have hold : ∀ p ∈ before, (fun b => decide (b < W.heap.size)) p.block = true := fun p hp => by simpa using hW.lt p hp
  refine ⟨ds, gs, before, [], pa, pv, hW, hres _ _ _, hargs _ hold, hvars _ hold, World.keptBut_mono (fun p hp => ⟨hp, ?_⟩) (hb.frame (· ∈ before)), fun _ => ?_⟩
  · rw [hps, List.mem_append] at hp
    exact Or.inr hp
  · have hlt := hW.lt
    obtain ⟨_, _, _, _, _, hz, hn⟩ := hW
    refine ⟨hok, _, _, ([] ++ pa) ++ pv, ⟨[] ++ pa, pv, trodAll_append (hargs _ (fun _ _ => rfl)) (hres _ _ _), hvars _ (fun _ _ => rfl), rfl, ?_, ?_⟩, ?_⟩
    · intro b off hp
      have hp' : MemPlace.cell b off ∈ before := by rw [hps]; simpa using hp
      rw [hb.frozen (p := ⟨b, off, none⟩) (hlt _ hp')]
      exact hz b off hp'
    · intro ha
      have := hn ha
      rw [hps] at this
      simpa using this
    · intro p hp _
      rw [hps]
      simpa using hp

/-! ### Openers -/
theorem vp_string {W : World} {t : TypeId} {v : Value} {d : DataW H} {p : List MemPlace} {r : Reach} {b0 : Nat} (ht : P.underlying t = some .string) (hval : Value.okWide P W r b0 t v)
    (hd : DataW.Trod enc P W 0 (fun _ => true) true t v d p) : ∃ s : List UInt8, VP W (old W) (.str s) v ∧ d = .lit (.string s) := by
  obtain ⟨s, rfl, rfl, _, _⟩ := Go.ChangeMaps.open_string ht hval hd
  exact ⟨_, .str s, rfl⟩

theorem vp_int {W : World} {t : TypeId} {k : IntKind} {v : Value} {d : DataW H} {p : List MemPlace} {r : Reach} {b0 : Nat} (ht : P.underlying t = some (.int k)) (hval : Value.okWide P W r b0 t v)
    (hd : DataW.Trod enc P W 0 (fun _ => true) true t v d p) : ∃ n : Int, VP W (old W) (.int k n) v ∧ (Lit.int k n).wf = true := by
  obtain ⟨n, rfl, rfl, _, hw⟩ := open_int ht hval hd
  exact ⟨n, .int k n, hw⟩

theorem vp_bool {W : World} {t : TypeId} {v : Value} {d : DataW H} {p : List MemPlace} {r : Reach} {b0 : Nat} (ht : P.underlying t = some .bool) (hval : Value.okWide P W r b0 t v)
    (hd : DataW.Trod enc P W 0 (fun _ => true) true t v d p) : ∃ b : Bool, VP W (old W) (.bool b) v := by
  obtain ⟨b, rfl, rfl, _⟩ := open_bool ht hval hd
  exact ⟨b, .bool b⟩

theorem vp_strings {W : World} {t e : TypeId} {v : Value} {d : DataW H} {p : List MemPlace} {r : Reach} {b0 : Nat} (ht : P.underlying t = some (.slice e)) (he : P.underlying e = some .string) (hc : P.cellsOf e = 1)
    (hval : Value.okWide P W r b0 t v) (hd : DataW.Trod enc P W 0 (fun _ => true) true t v d p) (hlt : ∀ x ∈ p, x.block < W.heap.size) :
    ∃ ls : List (List UInt8), VP W (old W) (.sl 1 (ls.map .str)) v ∧ ((∃ sp, d = .slice (ls.map fun s => .lit (.string s)) sp) ∨ (d = .nil ∧ ls = [])) ∧ ∀ s ∈ ls, s.length ≤ maxLen := by
  obtain ⟨a0, len, cap, rfl⟩ := okWide_slice ht hval
  obtain ⟨fuel, hf⟩ := hd
  rcases open_strings ht he hc hf with ⟨hcs, hx⟩ | ⟨a, len', cap', ss, hcs, _, hl, hm, hz, hx, hcell, hsz⟩
  · simp [Value.cells] at hcs
    obtain ⟨rfl, rfl, rfl⟩ := hcs
    cases hx
    exact ⟨[], sl_nil _ _ _, .inr ⟨rfl, rfl⟩, by simp⟩
  · simp [Value.cells] at hcs
    obtain ⟨rfl, rfl, rfl⟩ := hcs
    simp only [if_true] at hz
    cases hx
    have hblk : 0 < ss.length → a.block < W.heap.size ∧ a = ⟨a.block, a.off, none⟩ := by
      intro h0
      have h1 := hcell 0 h0
      rw [show a.add 0 = a from rfl] at h1
      unfold World.cell? at h1
      split at h1
      · next c ty fz hh =>
        split at h1
        · cases h1
        · next hs =>
          refine ⟨(Array.getElem?_eq_some_iff.1 hh).1, ?_⟩
          obtain ⟨b, o, sp⟩ := a
          cases sp with
          | none => rfl
          | some x => simp at hs
      · cases h1
    refine ⟨(ss.take len).map fun s => s.data.toList, ?_, .inl ⟨strs (ss.drop len), by simp [strs, Function.comp_def]⟩, ?_⟩
    · have := VP.sl (W := W) (st := old W) 1 (((ss.take len).map fun s => s.data.toList).map AV.str) (some a) cap (fun i _ => .string (ss.getD i ByteArray.empty)) (by simp; omega) ?_ ?_
      · have e : (List.map AV.str (List.map (fun s : ByteArray => s.data.toList) (List.take len ss))).length = len := by simp; omega
        rw [e] at this
        exact this
      · intro i x hx
        simp only [List.map_map, List.getElem?_map, Option.map_eq_some_iff] at hx
        obtain ⟨s, hs, rfl⟩ := hx
        have hi : i < ss.length := by
          have := (List.getElem?_eq_some_iff.1 hs).1
          simp at this; omega
        obtain ⟨hb, ha⟩ := hblk (by omega)
        refine ⟨rfl, a.block, a.off, by rw [← ha], fun _ => hb, fun j hj => ?_⟩
        have h1 := hcell i hi
        have e : a.add i = ⟨a.block, a.off + i * 1 + j, none⟩ := by
          have : j = 0 := by omega
          subst this
          unfold Addr.add
          split
          · next h0 => subst h0; rw [ha]; simp
          · simp
        rw [← e]; exact h1
      · intro i x j c hx hc
        simp only [List.map_map, List.getElem?_map, Option.map_eq_some_iff] at hx
        obtain ⟨s, hs, rfl⟩ := hx
        cases j with
        | zero =>
          simp [AV.cells] at hc
          subst hc
          have : ss.getD i ByteArray.empty = s := by
            rw [List.getElem?_take] at hs
            split at hs
            · simp [hs]
            · cases hs
          rw [this]; exact .str s
        | succ j => simp [AV.cells] at hc
    · intro s hs
      simp only [List.mem_map] at hs
      obtain ⟨b, hb, rfl⟩ := hs
      have := hsz b (List.mem_of_mem_take hb)
      simpa using this

end
end Go.Pg
