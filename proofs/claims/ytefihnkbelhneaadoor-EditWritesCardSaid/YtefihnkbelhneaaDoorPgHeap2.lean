/- Pg, part 7: appending. -/
import Derived.Test.YtefihnkbelhneaaDoorPgHeap
namespace Go.Pg
open Go

/-- What is read as a slice: its cells' number an element, its elements, the objects asked. -/
def srcV (H : AH) : AV → Option (Nat × List AV × List Nat)
  | .sl z vs => some (z, vs, [])
  | .slc z vs => some (z, vs, [])
  | .own id sz len => match objAt H id with
    | some (_, sz', vs) => if sz' = sz ∧ vs.length = len then some (sz, vs, [id]) else none
    | none => none
  | _ => none

/-- The cells of a list of elements. -/
structure FlatVR (E : Env) (z : Nat) (vs : List AV) (us : List Value) : Prop where
  len : us.length = vs.length * z
  at_ : ∀ (i : Nat) x, vs[i]? = some x → x.cells.length = z ∧ ∀ (j : Nat) c, x.cells[j]? = some c → ∃ u, us[i * z + j]? = some u ∧ VR E c u

theorem FlatVR.mono {E E' : Env} (hx : EExt E E') {z : Nat} {vs : List AV} {us : List Value} (h : FlatVR E z vs us) : FlatVR E' z vs us :=
  ⟨h.len, fun i x hi => ⟨(h.at_ i x hi).1, fun j c hj => let ⟨u, a, b⟩ := (h.at_ i x hi).2 j c hj; ⟨u, a, b.mono hx⟩⟩⟩

theorem FlatVR.append {E : Env} {z : Nat} {vs ws : List AV} {us us' : List Value} (h : FlatVR E z vs us) (k : FlatVR E z ws us') : FlatVR E z (vs ++ ws) (us ++ us') := by
  refine ⟨by simp [h.len, k.len, Nat.add_mul], fun i x hi => ?_⟩
  by_cases hlt : i < vs.length
  · rw [List.getElem?_append_left hlt] at hi
    refine ⟨(h.at_ i x hi).1, fun j c hj => ?_⟩
    obtain ⟨u, a, b⟩ := (h.at_ i x hi).2 j c hj
    exact ⟨u, by rw [List.getElem?_append_left (List.getElem?_eq_some_iff.1 a).1]; exact a, b⟩
  · rw [List.getElem?_append_right (by omega)] at hi
    refine ⟨(k.at_ _ x hi).1, fun j c hj => ?_⟩
    obtain ⟨u, a, b⟩ := (k.at_ _ x hi).2 j c hj
    refine ⟨u, ?_, b⟩
    have e : i * z = vs.length * z + (i - vs.length) * z := by rw [← Nat.add_mul]; congr 1; omega
    rw [List.getElem?_append_right (by rw [h.len]; omega), h.len, ← a]
    congr 1; omega

theorem FlatVR.nil (E : Env) (z : Nat) : FlatVR E z [] [] := ⟨by simp, fun i x h => by simp at h⟩

/-- Elements out of cells that are read by place. -/
theorem flat_of {E : Env} {z : Nat} {vs : List AV} {g : Nat → Option Value} (h : ∀ (i : Nat) x, vs[i]? = some x → x.cells.length = z ∧ ∀ (j : Nat) c, x.cells[j]? = some c → ∃ u, g (i * z + j) = some u ∧ VR E c u) :
    ∃ us, FlatVR E z vs us ∧ ∀ k u, us[k]? = some u → g k = some u := by
  have hg : ∀ k, k < vs.length * z → ∃ u, g k = some u := by
    intro k hk
    have hz : 0 < z := by
      rcases Nat.eq_zero_or_pos z with h | h
      · subst h; simp at hk
      · exact h
    have hi : k / z < vs.length := Nat.div_lt_of_lt_mul (by rw [Nat.mul_comm]; exact hk)
    obtain ⟨h1, h2⟩ := h (k / z) (vs[k / z]) (by simp [hi])
    have hj : k % z < (vs[k / z]).cells.length := by rw [h1]; exact Nat.mod_lt _ hz
    obtain ⟨u, h3, _⟩ := h2 (k % z) ((vs[k / z]).cells[k % z]) (by simp [hj])
    refine ⟨u, ?_⟩
    rw [Nat.mul_comm, Nat.div_add_mod] at h3
    exact h3
  refine ⟨(List.range (vs.length * z)).map fun k => (g k).getD Go.undef, ⟨by simp, fun i x hi => ⟨(h i x hi).1, fun j c hj => ?_⟩⟩, fun k u hk => ?_⟩
  · obtain ⟨u, h1, h2⟩ := (h i x hi).2 j c hj
    have hjl : j < z := by rw [← (h i x hi).1]; exact (List.getElem?_eq_some_iff.1 hj).1
    have hil : i < vs.length := (List.getElem?_eq_some_iff.1 hi).1
    have hlt : i * z + j < vs.length * z := by
      calc i * z + j < i * z + z := by omega
        _ = (i + 1) * z := by rw [Nat.add_mul, Nat.one_mul]
        _ ≤ vs.length * z := Nat.mul_le_mul_right _ hil
    exact ⟨u, by simp [hlt, h1], h2⟩
  · simp only [List.getElem?_map, Option.map_eq_some_iff] at hk
    obtain ⟨k', hk', rfl⟩ := hk
    rcases Nat.lt_or_ge k (vs.length * z) with hlt | hge
    · rw [List.getElem?_range hlt] at hk'; cases hk'
      obtain ⟨u, hu⟩ := hg k hlt
      simp [hu]
    · rw [List.getElem?_eq_none (by simpa using hge)] at hk'; cases hk'

theorem src_read {HD : AH} {E : Env} (hr : Rel HD E) {x : AV} {v : Value} (hv : VR E x v) {z : Nat} {vs : List AV} {fp : List Nat} (h : srcV HD x = some (z, vs, fp)) :
    ∃ a cap us, v = .slice a vs.length cap ∧ vs.length ≤ cap ∧ FlatVR E z vs us ∧ ∀ k u, us[k]? = some u → ∃ ad, a = some ad ∧ E.W.cell? (ad.add k) = some u := by
  have imm : ∀ {vs : List AV} {z : Nat} {a : Option Addr} {f : Nat → Nat → Value}, SlAt E.W E.st vs a z f → (∀ i v j c, vs[i]? = some v → v.cells[j]? = some c → VP E.W E.st c (f i j)) →
      ∃ us, FlatVR E z vs us ∧ ∀ k u, us[k]? = some u → ∃ ad, a = some ad ∧ E.W.cell? (ad.add k) = some u := by
    intro vs z a f hs hv
    cases hvs : vs with
    | nil => exact ⟨[], FlatVR.nil E z, fun k u h => by simp at h⟩
    | cons x0 rest =>
      obtain ⟨_, b, o, ha, hst, _⟩ := hs 0 x0 (by rw [hvs]; rfl)
      obtain ⟨us, h1, h2⟩ := flat_of (E := E) (z := z) (vs := vs) (g := fun k => E.W.cell? ⟨b, o + k, none⟩) (fun i x hi => by
        obtain ⟨h1, b', o', ha', _, hc⟩ := hs i x hi
        rw [ha] at ha'; cases ha'
        refine ⟨h1, fun j c hj => ⟨f i j, ?_, (hv i x j c hi hj).vr⟩⟩
        rw [← Nat.add_assoc]
        exact hc j (by rw [← h1]; exact (List.getElem?_eq_some_iff.1 hj).1))
      rw [← hvs]
      exact ⟨us, h1, fun k u hk => ⟨_, ha, by rw [add_addr]; exact h2 k u hk⟩⟩
  cases x <;> simp only [srcV] at h <;> try (cases h; done)
  case sl z' vs' =>
    cases h
    obtain ⟨a, cap, f, rfl, hc, h1, h2⟩ := hv.sl_inv
    obtain ⟨us, h3, h4⟩ := imm h1 h2
    exact ⟨a, cap, us, rfl, hc, h3, h4⟩
  case slc z' vs' =>
    cases h
    obtain ⟨a, f, rfl, h1, h2⟩ := hv.slc_inv
    obtain ⟨us, h3, h4⟩ := imm h1 h2
    exact ⟨a, _, us, rfl, Nat.le_refl _, h3, h4⟩
  case own id sz len =>
    split at h
    · next e sz' vs' ho =>
      split at h
      · next hh =>
        obtain ⟨rfl, rfl⟩ := hh
        cases h
        cases hv with
        | own _ _ _ a cap hm ha hl =>
          have hown := (hl _ (objAt_hl hr ho)).2 rfl
          rcases hown with ⟨h1, h2, h3⟩ | ⟨b, c, ty, fz, h1, h2, h3, h4, h5, h6⟩
          · have : vs = [] := List.eq_nil_of_length_eq_zero h2
            subst this
            exact ⟨a, cap, [], rfl, by simp, FlatVR.nil E z, fun k u h => by simp at h⟩
          · rcases hr.row id e z vs (objAt_cases ho) _ h1 with ⟨h, _⟩ | ⟨b', c', fz', hb', hw, _, _, hv⟩
            · cases h
            · cases hb'
              obtain ⟨us, k1, k2⟩ := flat_of (E := E) (z := z) (vs := vs) (g := fun k => c'[k]?) (fun i x hi => hv i x hi)
              refine ⟨a, cap, us, rfl, h3, k1, fun k u hk => ⟨_, h2, ?_⟩⟩
              rw [add_addr]
              simp only [World.cell?, hw, Nat.zero_add]
              simpa using k2 k u hk
      · cases h
    · cases h

/-! ### The builtin append, run -/
/-- The second argument of append: so many elements, these cells. -/
def SrcRun (P : Program) (x : Value) (t' : TypeId) (size m : Nat) (news : List Value) (w : World) : Prop :=
  ((∃ e', P.underlying t' = some (.slice e')) ∨ P.underlying t' = some .string) ∧ (Builtin.lenOf x).run P w = .ok m w ∧ (Builtin.firstCells size m x).run P w = .ok news.toArray w ∧
    (Builtin.firstCells size m x).run P w.drew = .ok news.toArray w.drew

theorem run_append_room' {P : Program} {w : World} {t t' ty e : TypeId} {i : TypeInfo} (ht : P.underlying t = some (.slice e)) (hi : P.info? e = some i)
    {base : Option Addr} {len cap m : Nat} {x : Value} {news : List Value} (hs : SrcRun P x t' i.size m news w) (hn : len + m ≤ cap) {w' : World}
    (hst : (match base with | some a => storeCells (a.add (len * i.size)) news | none => pure ()).run P w = .ok () w') :
    (Builtin.append_ #[t, t'] ty #[.slice base len cap, x]).run P w = .ok (.slice base (len + m) cap) w' := by
  obtain ⟨hd, h1, h2, _⟩ := hs
  cases base with
  | none =>
    simp only [Sem.run_pure, Result.ok.injEq, true_and] at hst
    subst hst
    rcases hd with ⟨e', hd⟩ | hd <;> simp [Builtin.append_, run_underlying ht, run_underlying hd, sizeOf, typeInfo, hi, h1, h2, hn]
  | some a =>
    simp only at hst
    rcases hd with ⟨e', hd⟩ | hd <;> simp [Builtin.append_, run_underlying ht, run_underlying hd, sizeOf, typeInfo, hi, h1, h2, hn, hst]

theorem run_append_new {P : Program} {w : World} {t t' ty e : TypeId} {i : TypeInfo} {z : Value} (ht : P.underlying t = some (.slice e)) (hi : P.info? e = some i) (hz : i.zero = some z)
    {base : Option Addr} {len cap m : Nat} {x : Value} {olds news : List Value} (hs : SrcRun P x t' i.size m news w) (hn : cap < len + m)
    (ho : (Builtin.firstCells i.size len (.slice base len cap)).run P w.drew = .ok olds.toArray w.drew)
    (h63 : len + m ≤ 9223372036854775807) (hb : (len + m) * i.bytes ≤ 140737488355328) :
    (Builtin.append_ #[t, t'] ty #[.slice base len cap, x]).run P w =
      .ok (.slice (some ⟨w.heap.size, 0, none⟩) (len + m) (grownCap w (len + m) cap e))
        (w.drew.alloc (.cells (olds.toArray ++ news.toArray ++ Builtin.zeroCells z.cells (grownCap w (len + m) cap e - (len + m))) e)) := by
  obtain ⟨hd, h1, _, h2⟩ := hs
  have hn' : ¬ (len + m ≤ cap) := by omega
  have h63' : ¬ (9223372036854775807 < ((len : Int) + (m : Int))) := by omega
  have h48' : ¬ (281474976710656 < Builtin.nextslicecap (len + m) cap * i.bytes) := by
    have := growslice_fits (need := len + m) (old := cap) (bytes := i.bytes) hn hb
    omega
  rcases hd with ⟨e', hd⟩ | hd <;>
    simp [Builtin.append_, run_underlying ht, run_underlying hd, sizeOf, typeInfo, zeroValue, hi, hz, h1, hn', h63', h48', Question.forced, h2, ho, newRow, grownCap]
  all_goals
    congr 2
    apply Array.ext'
    simp [List.append_assoc]

end Go.Pg
