/- Pg, part 24: arguments of whatever plain type are opened. -/
import Derived.Test.YtddkekepoimcpaaGreatDoorPgRowk
set_option linter.unusedVariables false
set_option linter.unusedSimpArgs false
namespace Go.Pg
open Go Go.ChangeShapes Go.WideShapes Go.ChangeAt Go.RowKit

section
variable {H : Type}

/-- The cells of a value of a type stand for plain data. -/
structure Opens (enc : TypeId × Value → H) (P : Program) {α : Type} (t : TypeId) (n : Nat) (c : α → AV) (Q : α → Prop) : Prop where
  cells : P.cellsOf t = n
  len : ∀ a, (c a).cells.length = n
  run : ∀ (W : World) (fuel : Nat) (cs : List Value) (x : DataW H × List MemPlace), DataW.trod enc P W 0 (fun _ => true) true fuel t cs = some x → (x.1.weights P t).all (· ≤ reachBytes) = true →
    (∀ y ∈ x.2, y.block < W.heap.size) → cs.length = n ∧ ∃ a, Q a ∧ ∀ (j : Nat) z, (c a).cells[j]? = some z → VP W (old W) z (cs.getD j Go.undef)

variable {enc : TypeId × Value → H} {P : Program}

theorem opens_int {t : TypeId} {k : IntKind} (ht : P.underlying t = some (.int k)) (hc : P.cellsOf t = 1) : Opens enc P t 1 (AV.int k) (fun n => (Lit.int k n).wf = true) := by
  refine ⟨hc, fun _ => rfl, fun W fuel cs x h _ _ => ?_⟩
  obtain ⟨n, rfl, _, hw⟩ := DataW.trod_int ht h
  refine ⟨rfl, n, hw, fun j z hz => ?_⟩
  cases j with
  | zero => cases hz; exact .int k n
  | succ j => cases hz
theorem wf_i64 {n : Int} (h : (Lit.int IntKind.i64 n).wf = true) : -9223372036854775808 ≤ n ∧ n ≤ 9223372036854775807 := by
  have : (decide (IntKind.i64.min ≤ n) && decide (n ≤ IntKind.i64.max)) = true := h
  simp only [Bool.and_eq_true, decide_eq_true_eq] at this
  exact this
theorem opens_i64 {t : TypeId} (ht : P.underlying t = some (.int .i64)) (hc : P.cellsOf t = 1) : Opens enc P t 1 (AV.int .i64) (fun n => -9223372036854775808 ≤ n ∧ n ≤ 9223372036854775807) := by
  obtain ⟨h1, h2, h3⟩ := opens_int (enc := enc) ht hc
  refine ⟨h1, h2, fun W fuel cs x h a b => ?_⟩
  obtain ⟨h4, n, h5, h6⟩ := h3 W fuel cs x h a b
  exact ⟨h4, n, wf_i64 h5, h6⟩
theorem opens_byte {t : TypeId} (ht : P.underlying t = some (.int .u8)) (hc : P.cellsOf t = 1) : Opens enc P t 1 (fun b : UInt8 => AV.int .u8 b.toNat) (fun _ => True) := by
  refine ⟨hc, fun _ => rfl, fun W fuel cs x h _ _ => ?_⟩
  obtain ⟨n, rfl, _, hw⟩ := DataW.trod_int ht h
  have h3 : 0 ≤ n ∧ n ≤ 255 := by
    have : (decide (IntKind.u8.min ≤ n) && decide (n ≤ IntKind.u8.max)) = true := hw
    simp only [Bool.and_eq_true, decide_eq_true_eq] at this
    exact this
  have e : ((UInt8.ofNat n.toNat).toNat : Int) = n := by
    rw [UInt8.toNat_ofNat', Nat.mod_eq_of_lt (by omega)]
    omega
  refine ⟨rfl, UInt8.ofNat n.toNat, trivial, fun j z hz => ?_⟩
  cases j with
  | zero =>
    cases hz
    show VP W (old W) (.int .u8 ((UInt8.ofNat n.toNat).toNat : Int)) (.int .u8 n)
    rw [e]
    exact .int .u8 n
  | succ j => cases hz
theorem opens_bool {t : TypeId} (ht : P.underlying t = some .bool) (hc : P.cellsOf t = 1) : Opens enc P t 1 AV.bool (fun _ => True) := by
  refine ⟨hc, fun _ => rfl, fun W fuel cs x h _ _ => ?_⟩
  obtain ⟨b, rfl, _⟩ := DataW.trod_bool ht h
  refine ⟨rfl, b, trivial, fun j z hz => ?_⟩
  cases j with
  | zero => cases hz; exact .bool b
  | succ j => cases hz
theorem opens_str {t : TypeId} (ht : P.underlying t = some .string) (hc : P.cellsOf t = 1) : Opens enc P t 1 AV.str (fun s => s.length ≤ 140737488351232) := by
  refine ⟨hc, fun _ => rfl, fun W fuel cs x h hs _ => ?_⟩
  obtain ⟨s, rfl, rfl, _⟩ := DataW.trod_string ht h
  simp only [DataW.weights, List.all_cons, List.all_nil, Bool.and_true, decide_eq_true_eq] at hs
  have hr : reachBytes = 140737488351232 := rfl
  refine ⟨rfl, s.data.toList, by omega, fun j z hz => ?_⟩
  cases j with
  | zero => cases hz; exact .str s
  | succ j => cases hz

theorem choose_list {α : Type} {R : Nat → α → Prop} : ∀ n : Nat, (∀ i, i < n → ∃ a, R i a) → ∃ l : List α, l.length = n ∧ ∀ (i : Nat) a, l[i]? = some a → R i a := by
  intro n
  induction n with
  | zero => intro _; exact ⟨[], rfl, fun i a h => by simp at h⟩
  | succ n ih =>
    intro h
    obtain ⟨l, hl, hr⟩ := ih fun i hi => h i (by omega)
    obtain ⟨a, ha⟩ := h n (by omega)
    refine ⟨l ++ [a], by simp [hl], fun i b hb => ?_⟩
    by_cases hi : i < n
    · rw [List.getElem?_append_left (by omega)] at hb
      exact hr i b hb
    · rw [List.getElem?_append_right (by omega)] at hb
      have : i = n := by
        have := (List.getElem?_eq_some_iff.1 hb).1
        simp at this; omega
      subst this
      rw [hl, Nat.sub_self] at hb
      cases hb
      exact ha

theorem weightsAll_get {e : TypeId} : ∀ {l : List (DataW H)}, (DataW.weightsAll P e l).all (· ≤ reachBytes) = true → ∀ (i : Nat) d, l[i]? = some d → (d.weights P e).all (· ≤ reachBytes) = true := by
  intro l
  induction l with
  | nil => intro _ i d h; simp at h
  | cons y r ih =>
    intro h i d hd
    simp only [DataW.weightsAll, List.all_append, Bool.and_eq_true] at h
    cases i with
    | zero => cases hd; exact h.1
    | succ i => exact ih h.2 i d (by simpa using hd)

theorem opens_slice {α : Type} {t e : TypeId} {n : Nat} {c : α → AV} {Q : α → Prop} (ht : P.underlying t = some (.slice e)) (hct : P.cellsOf t = 1) (he : Opens enc P e n c Q) (hn : 0 < n) :
    Opens enc P t 1 (fun l : List α => AV.sl n (l.map c)) (fun l => l.length * P.bytesOf e ≤ 140737488351232 ∧ ∀ a ∈ l, Q a) := by
  refine ⟨hct, fun _ => rfl, fun W fuel cs x h hs hlt => ?_⟩
  rcases DataW.trod_slice ht h with ⟨rfl, rfl⟩ | ⟨a, len, cap, elems, rest, m, _, rfl, rfl, hb, hl, hm, hlen, hel, hsp, hns⟩
  · refine ⟨rfl, [], ⟨by simp, fun a h => by cases h⟩, fun j z hz => ?_⟩
    cases j with
    | zero => cases hz; exact sl_nil _ _ _
    | succ j => cases hz
  · simp only [DataW.weights, ht, List.all_cons, List.all_append, Bool.and_eq_true, decide_eq_true_eq, List.length_map] at hs
    have hr : reachBytes = 140737488351232 := rfl
    have el : ∀ i, i < len → ∃ ci b, W.cells? 0 (a.add (i * n)) n = some ci ∧ Q b ∧ ∀ (j : Nat) z, (c b).cells[j]? = some z → VP W (old W) z (ci.getD j Go.undef) := by
      intro i hi
      have h1 := hel i hi
      have hi' : i < elems.length := by omega
      rw [List.getElem?_eq_getElem hi', Option.bind_eq_some_iff] at h1
      obtain ⟨ci, hci, h2⟩ := h1
      rw [he.cells] at hci
      have hw := weightsAll_get hs.2.1 i elems[i].1 (by simp [hi'])
      have hp : ∀ y ∈ elems[i].2, y.block < W.heap.size := fun y hy => hlt y (List.mem_append_right _ (List.mem_flatMap.2 ⟨elems[i], List.mem_append_left _ (List.getElem_mem hi'), hy⟩))
      obtain ⟨hcl, b, hQ, hv⟩ := he.run W m ci elems[i] h2 hw hp
      exact ⟨ci, b, hci, hQ, hv⟩
    have hspot : 0 < len → a.block < W.heap.size ∧ a = ⟨a.block, a.off, none⟩ := by
      intro h0
      obtain ⟨ci, _, hci, _⟩ := el 0 h0
      obtain ⟨_, hcl2, hcell⟩ := World.cells?_some hci
      have h00 := hcell 0 hn
      rw [Nat.zero_mul, show (a.add 0).add 0 = a from rfl, List.getElem?_eq_getElem (by omega)] at h00
      unfold World.cell? at h00
      split at h00
      · next cc ty fz hh2 =>
        refine ⟨(Array.getElem?_eq_some_iff.1 hh2).1, ?_⟩
        split at h00
        · cases h00
        · next hs =>
          obtain ⟨ab, ao, sp⟩ := a
          cases sp with
          | none => rfl
          | some x => simp at hs
      · cases h00
    have each : ∀ i, i < len → ∃ b, Q b ∧ ∀ (j : Nat), j < n → ∃ v, W.cell? ⟨a.block, a.off + i * n + j, none⟩ = some v ∧ ∀ z, (c b).cells[j]? = some z → VP W (old W) z v := by
      intro i hi
      obtain ⟨ci, b, hci, hQ, hv⟩ := el i hi
      obtain ⟨_, hcl2, hcell⟩ := World.cells?_some hci
      obtain ⟨hblk, ha⟩ := hspot (by omega)
      refine ⟨b, hQ, fun j hj => ⟨ci.getD j Go.undef, ?_, fun z hz => hv j z hz⟩⟩
      have h2 := hcell j hj
      have e1 : (a.add (i * n)).add j = ⟨a.block, a.off + i * n + j, none⟩ := by
        obtain ⟨ab, ao, sp⟩ := a
        cases ha
        unfold Addr.add
        split
        · next h3 => subst h3; split <;> simp_all
        · split <;> simp_all
      rw [e1] at h2
      rw [h2, List.getD_eq_getElem?_getD, List.getElem?_eq_getElem (by omega)]
      rfl
    obtain ⟨l, hll, hR⟩ := choose_list len each
    have hbl : l.length * P.bytesOf e ≤ 140737488351232 := by
      have h1 : l.length * P.bytesOf e ≤ (elems.length + rest.length) * P.bytesOf e := Nat.mul_le_mul_right _ (by omega)
      omega
    refine ⟨rfl, l, ⟨hbl, fun b hb => ?_⟩, fun j z hz => ?_⟩
    · obtain ⟨i, hi⟩ := List.mem_iff_getElem?.1 hb
      exact (hR i b hi).1
    · cases j with
      | succ j => cases hz
      | zero =>
        cases hz
        have hvl : (l.map c).length = len := by simp [hll]
        have := VP.sl (W := W) (st := old W) n (l.map c) (some a) cap (fun i j => (W.cell? ⟨a.block, a.off + i * n + j, none⟩).getD Go.undef) (by omega) ?_ ?_
        · rw [hvl] at this
          exact this
        · intro i x hx
          have hi : i < len := by
            have := (List.getElem?_eq_some_iff.1 hx).1
            omega
          simp only [List.getElem?_map, Option.map_eq_some_iff] at hx
          obtain ⟨b, hb, rfl⟩ := hx
          obtain ⟨hblk, ha⟩ := hspot (by omega)
          refine ⟨he.len b, a.block, a.off, by rw [← ha], fun _ => hblk, fun j hj => ?_⟩
          obtain ⟨v, hv, _⟩ := (hR i b hb).2 j hj
          simp only [hv, Option.getD_some]
        · intro i x j z hx hz
          simp only [List.getElem?_map, Option.map_eq_some_iff] at hx
          obtain ⟨b, hb, rfl⟩ := hx
          have hj : j < n := by
            have := (List.getElem?_eq_some_iff.1 hz).1
            rw [he.len b] at this
            exact this
          obtain ⟨v, hv, h2⟩ := (hR i b hb).2 j hj
          simp only [hv, Option.getD_some]
          exact h2 z hz

/-- The fields of a struct, one behind another. -/
structure OpensL (enc : TypeId × Value → H) (P : Program) {α : Type} (fs : List Field) (off n : Nat) (c : α → List AV) (Q : α → Prop) : Prop where
  len : ∀ a, (c a).length = n
  run : ∀ (W : World) (m : Nat) (cs : List Value) (xs : List (DataW H × List MemPlace)), xs.length = fs.length →
    (∀ (i : Nat) f, fs[i]? = some f → DataW.trod enc P W 0 (fun _ => true) true m f.type ((cs.drop f.offset).take (P.cellsOf f.type)) = xs[i]?) → (DataW.weightsEach P (fs.map (·.type)) (xs.map (·.1))).all (· ≤ reachBytes) = true →
    (∀ y ∈ xs.flatMap (·.2), y.block < W.heap.size) → ∃ a, Q a ∧ ∀ (j : Nat) z, (c a)[j]? = some z → VP W (old W) z (cs.getD (off + j) Go.undef)

theorem opensL_nil {off : Nat} : OpensL enc P [] off 0 (fun _ : Unit => []) (fun _ => True) :=
  ⟨fun _ => rfl, fun W m cs xs _ _ _ _ => ⟨(), trivial, fun j z hz => by simp at hz⟩⟩
theorem opensL_cons {α β : Type} {f : Field} {fs : List Field} {off n k : Nat} {c : α → AV} {d : β → List AV} {Q : α → Prop} {R : β → Prop} (hf : Opens enc P f.type n c Q) (hr : OpensL enc P fs (off + n) k d R) (ho : f.offset = off) :
    OpensL enc P (f :: fs) off (n + k) (fun a : α × β => (c a.1).cells ++ d a.2) (fun a => Q a.1 ∧ R a.2) := by
  refine ⟨fun a => by rw [List.length_append, hf.len, hr.len], fun W m cs xs hl hx hw hp => ?_⟩
  cases xs with
  | nil => simp at hl
  | cons y ys =>
    simp only [List.map_cons, DataW.weightsEach, List.all_append, Bool.and_eq_true] at hw
    have h0 := hx 0 f rfl
    obtain ⟨hcl, a, hQ, hv⟩ := hf.run W m _ y h0 hw.1 (fun z hz => hp z (List.mem_flatMap.2 ⟨y, List.mem_cons_self, hz⟩))
    obtain ⟨b, hR, hvb⟩ := hr.run W m cs ys (by simpa using hl) (fun i g hg => by simpa using hx (i + 1) g (by simpa using hg)) hw.2 (fun z hz => hp z (by
      obtain ⟨q, hq, hz⟩ := List.mem_flatMap.1 hz
      exact List.mem_flatMap.2 ⟨q, List.mem_cons_of_mem _ hq, hz⟩))
    refine ⟨(a, b), ⟨hQ, hR⟩, fun j z hz => ?_⟩
    by_cases hj : j < n
    · rw [List.getElem?_append_left (by rw [hf.len]; exact hj)] at hz
      have h1 := hv j z hz
      rw [hf.cells, ho] at h1
      have e : ((cs.drop off).take n).getD j Go.undef = cs.getD (off + j) Go.undef := by
        simp only [List.getD_eq_getElem?_getD]
        rw [List.getElem?_take_of_lt hj, List.getElem?_drop]
      rw [← e]
      exact h1
    · rw [List.getElem?_append_right (by rw [hf.len]; omega), hf.len] at hz
      have h1 := hvb (j - n) z hz
      rw [show off + n + (j - n) = off + j by omega] at h1
      exact h1
theorem opens_struct {α : Type} {t : TypeId} {fs : Array Field} {n : Nat} {c : α → List AV} {Q : α → Prop} (ht : P.underlying t = some (.struct fs)) (hc : P.cellsOf t = n) (h : OpensL enc P fs.toList 0 n c Q) :
    Opens enc P t n (fun a => AV.agg (c a)) Q := by
  refine ⟨hc, fun a => h.len a, fun W fuel cs x hx hw hp => ?_⟩
  obtain ⟨xs, m, _, rfl, hcl, hlen, hf⟩ := DataW.trod_struct ht hx
  simp only [DataW.weights, ht] at hw
  obtain ⟨a, hQ, hv⟩ := h.run W m cs xs (by simpa using hlen) (fun i f hfi => hf i f (by simpa using hfi)) hw hp
  refine ⟨by rw [hcl, hc], a, hQ, fun j z hz => ?_⟩
  have := hv j z hz
  rw [Nat.zero_add] at this
  exact this

theorem In1.opens {W : World} {base : Nat} {α : Type} {t : TypeId} {n : Nat} {c : α → List AV} {Q : α → Prop} {fs : Array Field} {v : Value} {d : DataW H} {p : List MemPlace} (h : In1 enc P W base t v d p) (ht : P.underlying t = some (.struct fs))
    (ho : Opens enc P t n (fun a => AV.agg (c a)) Q) : ∃ a, Q a ∧ VP W (old W) (.agg (c a)) v := by
  obtain ⟨us, rfl, hsz⟩ := okWide_struct ht h.ok
  obtain ⟨fuel, hf⟩ := h.trod
  obtain ⟨hl, a, hQ, hv⟩ := ho.run W fuel _ (d, p) hf h.sized h.lt
  refine ⟨a, hQ, .agg _ _ (by rw [hsz, ho.cells]; exact (ho.len a).symm) fun i x hx => ?_⟩
  have := hv i x hx
  simpa [Value.cells, Array.getD_eq_getD_getElem?, List.getD_eq_getElem?_getD] using this
theorem In1.slice {W : World} {base : Nat} {α : Type} {t e : TypeId} {c : α → AV} {Q : α → Prop} {v : Value} {d : DataW H} {p : List MemPlace} (h : In1 enc P W base t v d p) (ht : P.underlying t = some (.slice e))
    (ho : Opens enc P t 1 c Q) (h1 : ∀ a, (c a).cells = [c a]) : ∃ a, Q a ∧ VP W (old W) (c a) v := by
  obtain ⟨a0, len, cap, rfl⟩ := okWide_slice ht h.ok
  obtain ⟨fuel, hf⟩ := h.trod
  obtain ⟨hl, a, hQ, hv⟩ := ho.run W fuel _ (d, p) hf h.sized h.lt
  refine ⟨a, hQ, ?_⟩
  have := hv 0 (c a) (by rw [h1]; rfl)
  simpa [Value.cells] using this
end
end Go.Pg
