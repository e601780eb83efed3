/- Pg, part 4: the pure operations are sound. -/
import Derived.Test.YtefihnkbelhneaaDoorPgOps
import Derived.Laws.Tables
namespace Go.Pg
open Go

def Snd (P : Program) (ev : AEnv) (o : Oper) (K : AV → Prop) : Prop := ∃ V, PureOK P o (fun E a => Opd ev E a o) V ∧ K V

theorem run_binOp_same (P : Program) (w : World) (op : BinOp) (t : TypeId) (x y : Operand) (v : Value) (a b : Value)
    (hg : (eqGuard op t x y a b).run P w = .ok () w) (h : (binOp op t a b).run P w = .ok v w) :
    (do eqGuard op t x y a b; binOp op t a b : Sem Value).run P w = .ok v w := by
  simp [hg, h]

theorem eqGuard_int (P : Program) (w : World) (op : BinOp) (t : TypeId) (x y : Operand) (k k' : IntKind) (a b : Int) :
    (eqGuard op t x y (.int k a) (.int k' b)).run P w = .ok () w := by
  cases op <;> simp [eqGuard]

theorem eqGuard_str (P : Program) (w : World) (op : BinOp) (t : TypeId) (x y : Operand) (a b : ByteArray) :
    (eqGuard op t x y (.string a) (.string b)).run P w = .ok () w := by
  cases op <;> simp [eqGuard]

theorem eqGuard_bool (P : Program) (w : World) (op : BinOp) (t : TypeId) (x y : Operand) (a b : Bool) :
    (eqGuard op t x y (.bool a) (.bool b)).run P w = .ok () w := by
  cases op <;> simp [eqGuard]

theorem intOp_sound {K : AV → Prop} {op : BinOp} {k k' : IntKind} {a b : Int} (h : intOp op k a b K) (hk : k = k' ∨ op = .shl ∨ op = .shr) :
    ∃ V, K V ∧ ∀ (P : Program) (E : Env) (t : TypeId), ∃ v, VR E V v ∧ (binOp op t (.int k a) (.int k' b)).run P E.W = .ok v E.W := by
  have hkk : op ≠ .shl → op ≠ .shr → k = k' := fun h1 h2 => by
    rcases hk with h | h | h
    · exact h
    · exact absurd h h1
    · exact absurd h h2
  cases op <;> simp only [intOp] at h
  case add => have := hkk (by simp) (by simp); subst this; exact ⟨_, h, fun P E t => ⟨_, .int _ _, by simp [binOp, Op.intArith]⟩⟩
  case sub => have := hkk (by simp) (by simp); subst this; exact ⟨_, h, fun P E t => ⟨_, .int _ _, by simp [binOp, Op.intArith]⟩⟩
  case mul => have := hkk (by simp) (by simp); subst this; exact ⟨_, h, fun P E t => ⟨_, .int _ _, by simp [binOp, Op.intArith]⟩⟩
  case quo => have := hkk (by simp) (by simp); subst this; exact ⟨_, h.2, fun P E t => ⟨_, .int _ _, by simp [binOp, Op.intDiv, h.1]⟩⟩
  case rem => have := hkk (by simp) (by simp); subst this; exact ⟨_, h.2, fun P E t => ⟨_, .int _ _, by simp [binOp, Op.intDiv, h.1]⟩⟩
  case eql => have := hkk (by simp) (by simp); subst this; exact ⟨_, h, fun P E t => ⟨_, .bool _, by simp [binOp, Op.intCmp]⟩⟩
  case neq => have := hkk (by simp) (by simp); subst this; exact ⟨_, h, fun P E t => ⟨_, .bool _, by simp [binOp, Op.intCmp]⟩⟩
  case lss => have := hkk (by simp) (by simp); subst this; exact ⟨_, h, fun P E t => ⟨_, .bool _, by simp [binOp, Op.intCmp]⟩⟩
  case leq => have := hkk (by simp) (by simp); subst this; exact ⟨_, h, fun P E t => ⟨_, .bool _, by simp [binOp, Op.intCmp]⟩⟩
  case gtr => have := hkk (by simp) (by simp); subst this; exact ⟨_, h, fun P E t => ⟨_, .bool _, by simp [binOp, Op.intCmp]⟩⟩
  case geq => have := hkk (by simp) (by simp); subst this; exact ⟨_, h, fun P E t => ⟨_, .bool _, by simp [binOp, Op.intCmp]⟩⟩
  case and => have := hkk (by simp) (by simp); subst this; exact ⟨_, h, fun P E t => ⟨_, .int _ _, by simp [binOp, Op.intBits]⟩⟩
  case shr => exact ⟨_, h.2, fun P E t => ⟨_, .int _ _, by have := h.1; simp [binOp, Op.shift, show ¬ b < 0 by omega]⟩⟩
  case shl => exact ⟨_, h.2, fun P E t => ⟨_, .int _ _, by have := h.1; simp [binOp, Op.shift, show ¬ b < 0 by omega]⟩⟩

theorem strOp_sound {K : AV → Prop} {op : BinOp} {a b : ByteArray} (h : strOp op a.data.toList b.data.toList K) :
    ∃ V, K V ∧ ∀ (P : Program) (E : Env) (t : TypeId), ∃ v, VR E V v ∧ (binOp op t (.string a) (.string b)).run P E.W = .ok v E.W := by
  cases op <;> simp only [strOp] at h
  case add =>
    refine ⟨_, h.2, fun P E t => ⟨.string (a ++ b), ?_, ?_⟩⟩
    · have e : a.data.toList ++ b.data.toList = (a ++ b).data.toList := by simp [ByteArray.data_append]
      rw [e]; exact .str _
    · have h1 := h.1
      have h2 : ¬ (((a.size + b.size : Nat) : Int) > IntKind.i64.max) := by
        have e1 : IntKind.i64.max = 9223372036854775807 := by decide
        have e2 : a.data.toList.length = a.size := rfl
        have e3 : b.data.toList.length = b.size := rfl
        rw [e1]; omega
      simp only [binOp, Op.stringOp, if_neg h2, Sem.run_pure]
  case eql => exact ⟨_, h, fun P E t => ⟨_, .bool _, by simp [binOp, Op.stringOp, ByteArray.toList_eq]⟩⟩
  case neq => exact ⟨_, h, fun P E t => ⟨_, .bool _, by simp [binOp, Op.stringOp, ByteArray.toList_eq]⟩⟩
  case lss => exact ⟨_, h, fun P E t => ⟨_, .bool _, by simp [binOp, Op.stringOp, ByteArray.toList_eq]⟩⟩

/-- A value of cells: a struct of them, or the one. -/
def valOf (b : Bool) (us : Array Value) : Value := if b then .agg us else us.getD 0 Go.undef

def aggB (P : Program) (t : TypeId) : Bool :=
  match P.underlying t with
  | some (.struct _) | some (.array _ _) => true
  | _ => false

def VRl (E : Env) (xs : List AV) (us : Array Value) : Prop := us.size = xs.length ∧ ∀ (i : Nat) c, xs[i]? = some c → VR E c (us.getD i Go.undef)

theorem VRl.split {E : Env} {xs : List AV} {us : Array Value} {off n : Nat} (h : ∀ (i : Nat) c, xs[i]? = some c → VR E c (us.getD (off + i) Go.undef)) (hs : off + xs.length ≤ us.size) (hn : n ≤ xs.length) :
    VRl E (xs.take n) (us.extract off (off + n)) := by
  refine ⟨by simp; omega, fun i c hc => ?_⟩
  rw [List.getElem?_take] at hc
  split at hc
  · next hin =>
    have := h i c hc
    have hlt : off + i < us.size := by omega
    have e : (us.extract off (off + n)).getD i Go.undef = us.getD (off + i) Go.undef := by
      rw [Array.getD_eq_getD_getElem?, Array.getD_eq_getD_getElem?, Array.getElem?_extract, if_pos (by omega)]
    rw [e]; exact this
  · cases hc

theorem cellsEq_append : ∀ (ks ks' : List Nat) (xs ys : List AV) (e : Bool), cellsEq (ks ++ ks') xs ys = some e →
    ∃ a b, cellsEq ks (xs.take ks.length) (ys.take ks.length) = some a ∧ cellsEq ks' (xs.drop ks.length) (ys.drop ks.length) = some b ∧ e = (a && b) ∧ ks.length ≤ xs.length ∧ ks.length ≤ ys.length := by
  intro ks
  induction ks with
  | nil => intro ks' xs ys e h; exact ⟨true, e, by simp [cellsEq], by simpa using h, by simp, by simp, by simp⟩
  | cons k ks ih =>
    intro ks' xs ys e h
    cases xs with
    | nil => simp [cellsEq] at h
    | cons x xs =>
      cases ys with
      | nil => simp [cellsEq] at h
      | cons y ys =>
        simp only [List.cons_append, cellsEq] at h
        split at h
        · next x' y' h1 h2 =>
          cases h
          obtain ⟨a, b, h3, h4, h5, h6, h7⟩ := ih ks' xs ys _ h2
          exact ⟨x' && a, b, by simp [cellsEq, h1, h3], by simpa using h4, by rw [h5]; cases x' <;> simp, by simp; omega, by simp; omega⟩
        · cases h

theorem eq_run {P : Program} {E : Env} : ∀ (d : Nat) (t : TypeId) (ks : List Nat), eqT P d t = some ks → ∀ (xs ys : List AV) (us vs : Array Value) (e : Bool),
    VRl E xs us → VRl E ys vs → cellsEq ks xs ys = some e → ∀ (m : Nat) (w : World),
    (Op.equalIn (d + m) t (valOf (aggB P t) us) (valOf (aggB P t) vs)).run P w = .ok e w := by
  intro d
  induction d with
  | zero => intro t ks h; simp [eqT] at h
  | succ d ih =>
    intro t ks h xs ys us vs e hx hy hc m w
    simp only [eqT] at h
    have hd : d + 1 + m = (d + m) + 1 := by omega
    rw [hd]
    split at h
    · next hu =>
      cases h
      have hb : aggB P t = false := by simp [aggB, hu]
      rw [hb]
      match xs, ys, hc with
      | [x], [y], hc =>
        have h1 := hx.2 0 x rfl
        have h2 := hy.2 0 y rfl
        simp only [valOf, Bool.false_eq_true, if_false]
        generalize us.getD 0 Go.undef = u at *
        generalize vs.getD 0 Go.undef = v at *
        cases h1 <;> cases h2 <;> simp [cellsEq, leafEq] at hc
        rw [run_equalIn_bool' w _ t _ _ hu, ← hc]
      | [], [], hc | [], _ :: _, hc | _ :: _, [], hc | _ :: _ :: _, [_], hc | [_], _ :: _ :: _, hc | _ :: _ :: _, _ :: _ :: _, hc => simp [cellsEq] at hc
    · next k hu =>
      cases h
      have hb : aggB P t = false := by simp [aggB, hu]
      rw [hb]
      match xs, ys, hc with
      | [x], [y], hc =>
        have h1 := hx.2 0 x rfl
        have h2 := hy.2 0 y rfl
        simp only [valOf, Bool.false_eq_true, if_false]
        generalize us.getD 0 Go.undef = u at *
        generalize vs.getD 0 Go.undef = v at *
        cases h1 <;> cases h2 <;> simp [cellsEq, leafEq] at hc
        next k1 a k2 b =>
          by_cases hk : k1 = k2
          · subst hk
            simp at hc
            rw [run_equalIn_int w _ t _ k a b hu, ← hc]
          · simp [hk] at hc
      | [], [], hc | [], _ :: _, hc | _ :: _, [], hc | _ :: _ :: _, [_], hc | [_], _ :: _ :: _, hc | _ :: _ :: _, _ :: _ :: _, hc => simp [cellsEq] at hc
    · next hu =>
      cases h
      have hb : aggB P t = false := by simp [aggB, hu]
      rw [hb]
      match xs, ys, hc with
      | [x], [y], hc =>
        have h1 := hx.2 0 x rfl
        have h2 := hy.2 0 y rfl
        simp only [valOf, Bool.false_eq_true, if_false]
        generalize us.getD 0 Go.undef = u at *
        generalize vs.getD 0 Go.undef = v at *
        cases h1 <;> cases h2 <;> simp [cellsEq, leafEq] at hc
        rw [run_equalIn_string w _ t _ _ hu, ByteArray.toList_eq, ByteArray.toList_eq, ← hc]
        simp
      | [], [], hc | [], _ :: _, hc | _ :: _, [], hc | _ :: _ :: _, [_], hc | [_], _ :: _ :: _, hc | _ :: _ :: _, _ :: _ :: _, hc => simp [cellsEq] at hc
    · next fs hu =>
      split at h
      · cases h
      · next hst =>
        have hb : aggB P t = true := by simp [aggB, hu]
        have hfo : P.fieldsOf t = fs := by simp [Program.fieldsOf, hu]
        rw [hb]
        simp only [valOf, if_true]
        rw [run_equalIn_struct w (d + m) t us vs (by rw [hfo]; exact hu) (by simpa using hst), hfo]
        clear hu hb hfo hst
        have key : ∀ (l : List Field) (off : Nat) (ks : List Nat) (xs ys : List AV) (e : Bool), eqFs (eqT P d) P l off = some ks → off + xs.length ≤ us.size → off + ys.length ≤ vs.size →
            (∀ (i : Nat) c, xs[i]? = some c → VR E c (us.getD (off + i) Go.undef)) → (∀ (i : Nat) c, ys[i]? = some c → VR E c (vs.getD (off + i) Go.undef)) →
            cellsEq ks xs ys = some e → (Op.eqFields (d + m) us vs l).run P w = .ok e w := by
          intro l
          induction l with
          | nil =>
            intro off ks xs ys e h1 _ _ _ _ h2
            simp only [eqFs] at h1
            cases h1
            cases xs <;> cases ys <;> simp [cellsEq] at h2
            subst h2
            simp [Op.eqFields]
          | cons f fs ihl =>
            intro off ks xs ys e h1 hs1 hs2 hv1 hv2 h2
            simp only [eqFs] at h1
            split at h1
            · cases h1
            · next hn =>
              simp only [not_or, Decidable.not_not, ne_eq] at hn
              split at h1
              · next ks1 i hk hi =>
                split at h1
                · next hsz =>
                  split at h1
                  · next r hr =>
                    cases h1
                    obtain ⟨a, b, h3, h4, h5, h6, h7⟩ := cellsEq_append ks1 r xs ys e h2
                    have hva := VRl.split (n := ks1.length) hv1 hs1 h6
                    have hvb := VRl.split (n := ks1.length) hv2 hs2 h7
                    have hrun := ih f.type ks1 hk _ _ _ _ a hva hvb h3 m w
                    have hpart : ∀ (cs : Array Value), off + ks1.length ≤ cs.size → (part f.type cs f.offset).run P w = .ok (valOf (aggB P f.type) (cs.extract off (off + ks1.length))) w := by
                      intro cs hcs
                      rw [hn.2]
                      cases d with
                      | zero => simp [eqT] at hk
                      | succ d' =>
                        simp only [eqT] at hk
                        split at hk
                        · next hu => cases hk; simp [part, isAgg, run_underlying hu, aggB, hu, valOf]
                                     have : off < cs.size := by simp at hcs; omega
                                     have e1 : (cs.extract off (off + 1))[0]? = some cs[off] := by rw [Array.getElem?_extract, if_pos (by omega)]; simp [this]
                                     simp [this, e1]
                        · next hu => cases hk; simp [part, isAgg, run_underlying hu, aggB, hu, valOf]
                                     have : off < cs.size := by simp at hcs; omega
                                     have e1 : (cs.extract off (off + 1))[0]? = some cs[off] := by rw [Array.getElem?_extract, if_pos (by omega)]; simp [this]
                                     simp [this, e1]
                        · next hu => cases hk; simp [part, isAgg, run_underlying hu, aggB, hu, valOf]
                                     have : off < cs.size := by simp at hcs; omega
                                     have e1 : (cs.extract off (off + 1))[0]? = some cs[off] := by rw [Array.getElem?_extract, if_pos (by omega)]; simp [this]
                                     simp [this, e1]
                        · next hu => simp [part, isAgg, run_underlying hu, aggB, hu, valOf, sizeOf, typeInfo, hi, hsz]
                        · cases hk
                    simp only [Op.eqFields, if_pos hn.1, Sem.run_bind, hpart us (by omega), hpart vs (by omega), Result.andThen_ok, hrun]
                    cases a with
                    | false => simp [h5]
                    | true =>
                      simp only [Bool.not_true, Bool.false_eq_true, if_false]
                      rw [h5, Bool.true_and]
                      refine ihl (off + ks1.length) r (xs.drop ks1.length) (ys.drop ks1.length) b hr (by simp; omega) (by simp; omega) ?_ ?_ h4
                      · intro i c hc
                        rw [List.getElem?_drop] at hc
                        have := hv1 _ c hc
                        rwa [show off + (ks1.length + i) = off + ks1.length + i by omega] at this
                      · intro i c hc
                        rw [List.getElem?_drop] at hc
                        have := hv2 _ c hc
                        rwa [show off + (ks1.length + i) = off + ks1.length + i by omega] at this
                  · cases h1
                · cases h1
              · cases h1
        exact key fs.toList 0 ks xs ys e h (by rw [hx.1]; omega) (by rw [hy.1]; omega) (by simpa using hx.2) (by simpa using hy.2) hc
    · cases h


/-! ### Slices of slices and of strings -/
theorem add_addr (b o n : Nat) : (⟨b, o, none⟩ : Addr).add n = ⟨b, o + n, none⟩ := by
  unfold Addr.add; split
  · next h => subst h; rfl
  · rfl

theorem cut_VR {E : Env} {z : Nat} {s : List AV} {a : Option Addr} {f : Nat → Nat → Value} (hs : SlAt E.W E.st s a z f)
    (hv : ∀ i v j c, s[i]? = some v → v.cells[j]? = some c → VP E.W E.st c (f i j)) (l h m : Nat) (hm : l < h → m ≠ l) :
    let a' := if m = l then a else a.map (·.add (l * z))
    SlAt E.W E.st (cutL s l h) a' z (fun i j => f (l + i) j) ∧ ∀ i v j c, (cutL s l h)[i]? = some v → v.cells[j]? = some c → VP E.W E.st c (f (l + i) j) := by
  have hget : ∀ i v, (cutL s l h)[i]? = some v → s[l + i]? = some v ∧ l < h := by
    intro i v hi
    unfold cutL at hi
    rw [List.getElem?_take] at hi
    split at hi
    · rw [List.getElem?_drop] at hi; exact ⟨hi, by omega⟩
    · cases hi
  refine ⟨fun i v hi => ?_, fun i v j c hi hc => ?_⟩
  · obtain ⟨h1, h2⟩ := hget i v hi
    obtain ⟨h3, b, o, ha, hst, hc⟩ := hs _ _ h1
    refine ⟨h3, b, o + l * z, ?_, hst, fun j hj => ?_⟩
    · simp only [if_neg (hm h2), ha, Option.map_some, add_addr]
    · have := hc j hj
      rwa [show o + (l + i) * z + j = o + l * z + i * z + j by rw [Nat.add_mul]; omega] at this
  · exact hv _ _ _ _ (hget i v hi).1 hc

theorem cutL_length {α : Type} (s : List α) (l h : Nat) (h1 : l ≤ h) (h2 : h ≤ s.length) : (cutL s l h).length = h - l := by
  unfold cutL; simp; omega

theorem cutL_zero {α : Type} (s : List α) (h : Nat) : cutL s 0 h = s.take h := by simp [cutL]
theorem cutL_end {α : Type} (s : List α) (l : Nat) : cutL s l s.length = s.drop l := by
  unfold cutL; rw [List.take_of_length_le (by simp)]

/-- The slice of an immutable slice: its capacity m. -/
theorem sliced_sl {E : Env} {z : Nat} {s : List AV} {a : Option Addr} {f : Nat → Nat → Value} (hs : SlAt E.W E.st s a z f)
    (hv : ∀ i v j c, s[i]? = some v → v.cells[j]? = some c → VP E.W E.st c (f i j)) (l h m : Nat) (h1 : l ≤ h) (h2 : h ≤ s.length) (h3 : h ≤ m) :
    VR E (.sl z (cutL s l h)) (sliced a l h m z) := by
  obtain ⟨k1, k2⟩ := cut_VR hs hv l h m (by omega)
  have := VR.sl z (cutL s l h) _ (m - l) _ (by rw [cutL_length s l h h1 h2]; omega) k1 k2
  rw [cutL_length s l h h1 h2] at this
  exact this

theorem sliced_slc {E : Env} {z : Nat} {s : List AV} {a : Option Addr} {f : Nat → Nat → Value} (hs : SlAt E.W E.st s a z f)
    (hv : ∀ i v j c, s[i]? = some v → v.cells[j]? = some c → VP E.W E.st c (f i j)) (l h : Nat) (h1 : l ≤ h) (h2 : h ≤ s.length) :
    VR E (.slc z (cutL s l h)) (sliced a l h h z) := by
  obtain ⟨k1, k2⟩ := cut_VR hs hv l h h (by omega)
  have := VR.slc z (cutL s l h) _ _ k1 k2
  rw [cutL_length s l h h1 h2] at this
  exact this

def VRo (E : Env) : Option AV → Option Value → Prop
  | none, none => True
  | some a, some v => VR E a v
  | _, _ => False

theorem VRo_none {E : Env} {l' : Option Value} (h : VRo E none l') : l' = none := by cases l' <;> simp [VRo] at h ⊢
theorem VRo_int {E : Env} {k : IntKind} {n : Int} {l' : Option Value} (h : VRo E (some (.int k n)) l') : l' = some (.int k n) := by
  cases l' with
  | none => simp [VRo] at h
  | some v => simp only [VRo] at h; rw [h.int_inv]

theorem sliceS_sound {P : Program} {t : TypeId} {x : AV} {lo hi mx : Option AV} {K : AV → Prop} (h : sliceS x lo hi mx K) (ht : tk P t = .str) :
    ∃ V, K V ∧ ∀ (E : Env) (v : Value) (l' h' m' : Option Value), VR E x v → VRo E lo l' → VRo E hi h' → VRo E mx m' →
      ∃ r, VR E V r ∧ (Instr.sliceAt t v l' h' m').run P E.W = .ok r E.W := by
  have hu := (tk_str ht).1
  have e1 : ∀ (s : ByteArray) (a b : Nat), (s.extract a b).data.toList = cutL s.data.toList a b := by
    intro s a b
    simp [cutL, ByteArray.data_extract, Array.toList_extract, List.extract]
  have e2 : ∀ s : ByteArray, s.data.toList.length = s.size := fun _ => rfl
  unfold sliceS at h
  split at h
  · next s =>
    refine ⟨_, h, fun E v l' h' m' hv hl hh hm => ?_⟩
    cases VRo_none hl; cases VRo_none hh; cases VRo_none hm
    obtain ⟨b, rfl, hb⟩ := hv.str_inv
    rw [run_sliceAt_string E.W t _ none none none hu]
    refine ⟨.string b, by rw [← hb]; exact .str b, ?_⟩
    simp [Instr.slice, run_underlying hu, Instr.sliceBounds]
  · next s k l =>
    refine ⟨_, h.2.2, fun E v l' h' m' hv hl hh hm => ?_⟩
    cases VRo_int hl; cases VRo_none hh; cases VRo_none hm
    obtain ⟨b, rfl, hb⟩ := hv.str_inv
    obtain ⟨h1, h2, _⟩ := h
    rw [← hb, e2] at h2
    rw [run_sliceAt_string E.W t _ _ none none hu]
    refine ⟨.string (b.extract l.toNat b.size), ?_, ?_⟩
    · rw [← hb, ← cutL_end, e2, ← e1]; exact .str _
    · simp [Instr.slice, run_underlying hu, Instr.sliceBounds, run_sliceBound, h1, h2]
  · next s k h0 =>
    refine ⟨_, h.2.2, fun E v l' h' m' hv hl hh hm => ?_⟩
    cases VRo_none hl; cases VRo_int hh; cases VRo_none hm
    obtain ⟨b, rfl, hb⟩ := hv.str_inv
    obtain ⟨h1, h2, _⟩ := h
    rw [← hb, e2] at h2
    rw [run_sliceAt_string E.W t _ none _ none hu]
    refine ⟨.string (b.extract 0 h0.toNat), ?_, ?_⟩
    · rw [← hb, ← cutL_zero, ← e1]; exact .str _
    · simp [Instr.slice, run_underlying hu, Instr.sliceBounds, run_sliceBound, h1, h2]
  · next s k l k' h0 =>
    refine ⟨_, h.2.2.2, fun E v l' h' m' hv hl hh hm => ?_⟩
    cases VRo_int hl; cases VRo_int hh; cases VRo_none hm
    obtain ⟨b, rfl, hb⟩ := hv.str_inv
    obtain ⟨h1, h2, h3, _⟩ := h
    rw [← hb, e2] at h3
    rw [run_sliceAt_string E.W t _ _ _ none hu]
    refine ⟨.string (b.extract l.toNat h0.toNat), ?_, ?_⟩
    · rw [← hb, ← e1]; exact .str _
    · have eh : (h0.toNat : Int) = h0 := Int.toNat_of_nonneg (by omega)
      simp [Instr.slice, run_underlying hu, Instr.sliceBounds, run_sliceBound, h1, h2, h3, eh, (by omega : 0 ≤ h0)]
  · exact h.elim

theorem VR.sl_inv {E : Env} {z : Nat} {s : List AV} {v : Value} (h : VR E (.sl z s) v) : ∃ a cap f, v = .slice a s.length cap ∧ s.length ≤ cap ∧ SlAt E.W E.st s a z f ∧ ∀ i v j c, s[i]? = some v → v.cells[j]? = some c → VP E.W E.st c (f i j) := by
  cases h with | sl _ _ a cap f h1 h2 h3 => exact ⟨a, cap, f, rfl, h1, h2, h3⟩
theorem VR.slc_inv {E : Env} {z : Nat} {s : List AV} {v : Value} (h : VR E (.slc z s) v) : ∃ a f, v = .slice a s.length s.length ∧ SlAt E.W E.st s a z f ∧ ∀ i v j c, s[i]? = some v → v.cells[j]? = some c → VP E.W E.st c (f i j) := by
  cases h with | slc _ _ a f h2 h3 => exact ⟨a, f, rfl, h2, h3⟩

theorem sliceL_sound {P : Program} {t e : TypeId} {sz : Nat} {x : AV} {lo hi mx : Option AV} {K : AV → Prop} (h : sliceL sz x lo hi mx K) (ht : tk P t = .slice e sz) :
    ∃ V, K V ∧ ∀ (E : Env) (v : Value) (l' h' m' : Option Value), VR E x v → VRo E lo l' → VRo E hi h' → VRo E mx m' →
      ∃ r, VR E V r ∧ (Instr.sliceAt t v l' h' m').run P E.W = .ok r E.W := by
  obtain ⟨hu, ⟨i, hi, hsz⟩, _⟩ := tk_slice ht
  have hel : P.elem t = e := by simp [Program.elem, hu]
  have hu' : P.underlying t = some (.slice (P.elem t)) := by rw [hel]; exact hu
  have hs : ∀ w : World, (sizeOf (P.elem t)).run P w = .ok sz w := fun w => by rw [hel]; simp [sizeOf, typeInfo, hi, hsz]
  have fin : ∀ (E : Env) (a : Option Addr) (len cap l h m : Nat) (V : AV) (x : Result Value), VR E V (sliced a l h m sz) →
      x = ((sizeOf (P.elem t)).run P E.W).andThen (fun s w => .ok (sliced a l h m s) w) → ∃ r, VR E V r ∧ x = .ok r E.W := by
    intro E a len cap l h m V x hv hx
    exact ⟨_, hv, by rw [hx, hs]; rfl⟩
  unfold sliceL at h
  split at h
  · next z s =>
    refine ⟨_, h.2, fun E v l' h' m' hv hl hh hm => ?_⟩
    cases VRo_none hl; cases VRo_none hh; cases VRo_none hm
    obtain ⟨a, cap, f, rfl, hc, h1, h2⟩ := hv.sl_inv
    obtain ⟨rfl, _⟩ := h
    rw [run_sliceAt_slice E.W t _ none none none hu']
    refine fin E a s.length cap 0 s.length cap _ _ ?_ (run_slice_all E.W t a s.length cap hu')
    have := sliced_sl h1 h2 0 s.length cap (Nat.zero_le _) (Nat.le_refl _) hc
    rwa [cutL_zero, List.take_length] at this
  · next z s k l =>
    refine ⟨_, h.2.2.2, fun E v l' h' m' hv hl hh hm => ?_⟩
    cases VRo_int hl; cases VRo_none hh; cases VRo_none hm
    obtain ⟨a, cap, f, rfl, hc, h1, h2⟩ := hv.sl_inv
    obtain ⟨rfl, g1, g2, _⟩ := h
    rw [run_sliceAt_slice E.W t _ _ none none hu']
    refine fin E a s.length cap l.toNat s.length cap _ _ ?_ (run_slice_l E.W t a s.length cap hu' k l g1 g2)
    have := sliced_sl h1 h2 l.toNat s.length cap (by omega) (Nat.le_refl _) hc
    rwa [cutL_end] at this
  · next z s k h0 =>
    refine ⟨_, h.2.2.2, fun E v l' h' m' hv hl hh hm => ?_⟩
    cases VRo_none hl; cases VRo_int hh; cases VRo_none hm
    obtain ⟨a, cap, f, rfl, hc, h1, h2⟩ := hv.sl_inv
    obtain ⟨rfl, g1, g2, _⟩ := h
    rw [run_sliceAt_slice E.W t _ none _ none hu']
    refine fin E a s.length cap 0 h0.toNat cap _ _ ?_ (run_slice_h E.W t a s.length cap hu' k h0 g1 (by omega))
    have := sliced_sl h1 h2 0 h0.toNat cap (by omega) (by omega) (by omega)
    rwa [cutL_zero] at this
  · next z s k l k' h0 =>
    refine ⟨_, h.2.2.2.2, fun E v l' h' m' hv hl hh hm => ?_⟩
    cases VRo_int hl; cases VRo_int hh; cases VRo_none hm
    obtain ⟨a, cap, f, rfl, hc, h1, h2⟩ := hv.sl_inv
    obtain ⟨rfl, g1, g2, g3, _⟩ := h
    rw [run_sliceAt_slice E.W t _ _ _ none hu']
    exact fin E a s.length cap l.toNat h0.toNat cap _ _ (sliced_sl h1 h2 l.toNat h0.toNat cap (by omega) (by omega) (by omega)) (run_slice_lh E.W t a s.length cap hu' k k' l h0 g1 g2 (by omega))
  · next z s k h0 k' m0 =>
    refine ⟨_, h.2.2.2.2, fun E v l' h' m' hv hl hh hm => ?_⟩
    cases VRo_none hl; cases VRo_int hh; cases VRo_int hm
    obtain ⟨a, cap, f, rfl, hc, h1, h2⟩ := hv.sl_inv
    obtain ⟨rfl, g1, rfl, g3, _⟩ := h
    rw [run_sliceAt_slice E.W t _ none _ _ hu']
    refine fin E a s.length cap 0 h0.toNat h0.toNat _ _ ?_ (run_slice_hm E.W t a s.length cap hu' k k' h0 h0 g1 (Int.le_refl _) (by omega))
    have := sliced_slc h1 h2 0 h0.toNat (by omega) (by omega)
    rwa [cutL_zero] at this
  · next z s =>
    refine ⟨_, h.2, fun E v l' h' m' hv hl hh hm => ?_⟩
    cases VRo_none hl; cases VRo_none hh; cases VRo_none hm
    obtain ⟨a, f, rfl, h1, h2⟩ := hv.slc_inv
    obtain ⟨rfl, _⟩ := h
    rw [run_sliceAt_slice E.W t _ none none none hu']
    refine fin E a s.length s.length 0 s.length s.length _ _ ?_ (run_slice_all E.W t a s.length s.length hu')
    have := sliced_slc h1 h2 0 s.length (Nat.zero_le _) (Nat.le_refl _)
    rwa [cutL_zero, List.take_length] at this
  · next z s k l =>
    refine ⟨_, h.2.2.2, fun E v l' h' m' hv hl hh hm => ?_⟩
    cases VRo_int hl; cases VRo_none hh; cases VRo_none hm
    obtain ⟨a, f, rfl, h1, h2⟩ := hv.slc_inv
    obtain ⟨rfl, g1, g2, _⟩ := h
    rw [run_sliceAt_slice E.W t _ _ none none hu']
    refine fin E a s.length s.length l.toNat s.length s.length _ _ ?_ (run_slice_l E.W t a s.length s.length hu' k l g1 g2)
    have := sliced_slc h1 h2 l.toNat s.length (by omega) (Nat.le_refl _)
    rwa [cutL_end] at this
  · next z s k h0 =>
    refine ⟨_, h.2.2.2, fun E v l' h' m' hv hl hh hm => ?_⟩
    cases VRo_none hl; cases VRo_int hh; cases VRo_none hm
    obtain ⟨a, f, rfl, h1, h2⟩ := hv.slc_inv
    obtain ⟨rfl, g1, g2, _⟩ := h
    rw [run_sliceAt_slice E.W t _ none _ none hu']
    refine fin E a s.length s.length 0 h0.toNat s.length _ _ ?_ (run_slice_h E.W t a s.length s.length hu' k h0 g1 (by omega))
    have := sliced_sl h1 h2 0 h0.toNat s.length (by omega) (by omega) (by omega)
    rwa [cutL_zero] at this
  · next z s k l k' h0 =>
    refine ⟨_, h.2.2.2.2, fun E v l' h' m' hv hl hh hm => ?_⟩
    cases VRo_int hl; cases VRo_int hh; cases VRo_none hm
    obtain ⟨a, f, rfl, h1, h2⟩ := hv.slc_inv
    obtain ⟨rfl, g1, g2, g3, _⟩ := h
    rw [run_sliceAt_slice E.W t _ _ _ none hu']
    exact fin E a s.length s.length l.toNat h0.toNat s.length _ _ (sliced_sl h1 h2 l.toNat h0.toNat s.length (by omega) (by omega) (by omega)) (run_slice_lh E.W t a s.length s.length hu' k k' l h0 g1 g2 (by omega))
  · next z s k h0 k' m0 =>
    refine ⟨_, h.2.2.2.2, fun E v l' h' m' hv hl hh hm => ?_⟩
    cases VRo_none hl; cases VRo_int hh; cases VRo_int hm
    obtain ⟨a, f, rfl, h1, h2⟩ := hv.slc_inv
    obtain ⟨rfl, g1, rfl, g3, _⟩ := h
    rw [run_sliceAt_slice E.W t _ none _ _ hu']
    refine fin E a s.length s.length 0 h0.toNat h0.toNat _ _ ?_ (run_slice_hm E.W t a s.length s.length hu' k k' h0 h0 g1 (Int.le_refl _) (by omega))
    have := sliced_slc h1 h2 0 h0.toNat (by omega) (by omega)
    rwa [cutL_zero] at this
  · exact h.elim


/-! ### Literals -/
theorem cells_VR {E : Env} {a : AV} {v : Value} (h : VR E a v) (hd : a.definite = true) : VRl E a.cells v.cells := by
  have one : ∀ {a : AV} {v : Value}, VR E a v → v.cells = #[v] → a.cells = [a] → VRl E a.cells v.cells := by
    intro a v h h1 h2
    rw [h1, h2]
    refine ⟨rfl, fun i c hc => ?_⟩
    cases i with
    | zero => simp at hc; subst hc; simpa using h
    | succ i => simp at hc
  cases h with
  | top v => simp [AV.definite] at hd
  | agg cs us h1 h2 => exact ⟨h1, h2⟩
  | undef => exact one .undef rfl rfl
  | nls => exact one .nls rfl rfl
  | int k n => exact one (.int k n) rfl rfl
  | bool b => exact one (.bool b) rfl rfl
  | str s => exact one (.str s) rfl rfl
  | tuple cs us h1 h2 => exact one (.tuple cs us h1 h2) rfl rfl
  | sl sz vs a cap f h1 h2 h3 => exact one (.sl sz vs a cap f h1 h2 h3) rfl rfl
  | slc sz vs a f h2 h3 => exact one (.slc sz vs a f h2 h3) rfl rfl
  | own id sz len a cap h1 h0 h2 => exact one (.own id sz len a cap h1 h0 h2) rfl rfl
  | ptr id sz len idx off a h1 h2 => exact one (.ptr id sz len idx off a h1 h2) rfl rfl
  | rp cs b o f h1 h2 h3 => exact one (.rp cs b o f h1 h2 h3) rfl rfl
  | fn f cap us h1 h2 => exact one (.fn f cap us h1 h2) rfl rfl
  | condT a v h => simp [AV.definite] at hd
  | condF a => simp [AV.definite] at hd

theorem foldl_set (off : Nat) : ∀ (l : List Value) (s : Nat) (cs : Array Value),
    ((l.zipIdx s).foldl (fun cs (p : Value × Nat) => cs.setIfInBounds (off + p.2) p.1) cs).size = cs.size ∧
    ∀ k, k < cs.size → ((l.zipIdx s).foldl (fun cs (p : Value × Nat) => cs.setIfInBounds (off + p.2) p.1) cs).getD k Go.undef =
      if off + s ≤ k ∧ k < off + s + l.length then l.getD (k - (off + s)) Go.undef else cs.getD k Go.undef := by
  intro l
  induction l with
  | nil => intro s cs; refine ⟨rfl, fun k hk => ?_⟩; simp; intro h1 h2; omega
  | cons v l ih =>
    intro s cs
    obtain ⟨h1, h2⟩ := ih (s + 1) (cs.setIfInBounds (off + s) v)
    simp only [List.zipIdx_cons, List.foldl_cons]
    refine ⟨by rw [h1]; simp, fun k hk => ?_⟩
    rw [h2 k (by simpa using hk)]
    by_cases e : k = off + s
    · subst e
      rw [if_neg (by omega), if_pos (by simp only [List.length_cons]; omega)]
      simp [hk]
    · have e1 : (cs.setIfInBounds (off + s) v).getD k Go.undef = cs.getD k Go.undef := by
        simp [Array.getElem?_setIfInBounds_ne (show off + s ≠ k by omega)]
      rw [e1]
      by_cases hin : off + (s + 1) ≤ k ∧ k < off + (s + 1) + l.length
      · rw [if_pos hin, if_pos (by simp only [List.length_cons]; omega)]
        have : k - (off + s) = (k - (off + (s + 1))) + 1 := by omega
        rw [this, List.getD_cons_succ]
      · rw [if_neg hin, if_neg (by simp only [List.length_cons]; omega)]

theorem lay_VR {E : Env} {cs vs : List AV} {us ws : Array Value} {off : Nat} (h : VRl E cs us) (k : VRl E vs ws) (ho : off + vs.length ≤ cs.length) :
    VRl E (lay cs off vs) (ws.zipIdx.foldl (fun cs (p : Value × Nat) => cs.setIfInBounds (off + p.2) p.1) us) := by
  have e : ws.zipIdx.foldl (fun cs (p : Value × Nat) => cs.setIfInBounds (off + p.2) p.1) us =
      (ws.toList.zipIdx 0).foldl (fun cs (p : Value × Nat) => cs.setIfInBounds (off + p.2) p.1) us := by
    rw [← Array.foldl_toList, Array.toList_zipIdx]
  rw [e]
  obtain ⟨h1, h2⟩ := foldl_set off ws.toList 0 us
  have hw : ws.toList.length = vs.length := by rw [Array.length_toList, k.1]
  have hlen : (lay cs off vs).length = cs.length := by simp [lay]; omega
  refine ⟨by rw [h1, h.1, hlen], fun i c hc => ?_⟩
  have hi : i < cs.length := by rw [← hlen]; exact (List.getElem?_eq_some_iff.1 hc).1
  rw [h2 i (by rw [h.1]; exact hi)]
  simp only [Nat.add_zero]
  unfold lay at hc
  by_cases hin : off ≤ i ∧ i < off + ws.toList.length
  · rw [if_pos hin]
    rw [List.append_assoc, List.getElem?_append_right (by simp; omega), List.getElem?_append_left (by simp; omega)] at hc
    have e2 : i - (cs.take off).length = i - off := by simp; omega
    rw [e2] at hc
    have := k.2 _ c hc
    have e3 : ws.toList.getD (i - off) Go.undef = ws.getD (i - off) Go.undef := by simp [List.getD]
    rw [e3]; exact this
  · rw [if_neg hin]
    refine h.2 i c ?_
    by_cases hl : i < off
    · rw [List.append_assoc, List.getElem?_append_left (by simp; omega), List.getElem?_take, if_pos hl] at hc
      exact hc
    · rw [List.getElem?_append_right (by simp; omega), List.getElem?_drop] at hc
      have : off + vs.length + (i - (cs.take off ++ vs).length) = i := by simp; omega
      rw [this] at hc; exact hc

theorem fill_VR {E : Env} {offs : List (Option (Nat × Nat))} {place : Nat → Option (Nat × Nat)} (hp : ∀ i x, offs[i]? = some (some x) → place i = some x) :
    ∀ (parts : List (Nat × AV)) (parts' : List (Nat × Value)) (zs cs : List AV) (us : Array Value), buildL offs parts zs = some cs → VRl E zs us →
      parts.length = parts'.length → (∀ (i : Nat) p p', parts[i]? = some p → parts'[i]? = some p' → p.1 = p'.1 ∧ VR E p.2 p'.2) →
      ∃ us', Instr.fill place us parts' = some us' ∧ VRl E cs us' := by
  intro parts
  induction parts with
  | nil =>
    intro parts' zs cs us h hz hl _
    cases parts' with
    | nil => simp only [buildL] at h; cases h; exact ⟨us, rfl, hz⟩
    | cons p l => simp at hl
  | cons p parts ih =>
    intro parts' zs cs us h hz hl hv
    cases parts' with
    | nil => simp at hl
    | cons p' parts' =>
      obtain ⟨i, v⟩ := p
      obtain ⟨i', v'⟩ := p'
      obtain ⟨h1, h2⟩ := hv 0 _ _ rfl rfl
      simp only at h1 h2
      subst h1
      simp only [buildL] at h
      split at h
      · next off n hoff =>
        split at h
        · next hc =>
          obtain ⟨c1, c2, c3⟩ := hc
          have hcv := cells_VR h2 c3
          have hsz : v'.cells.size = n := by rw [hcv.1, c1]
          simp only [Instr.fill, hp i _ hoff]
          rw [if_neg (by simp only [hsz, hz.1, Bool.or_eq_true, decide_eq_true_eq, ne_eq, not_true_eq_false, false_or]; omega)]
          refine ih parts' _ cs _ h (lay_VR hz hcv (by omega)) (by simpa using hl) (fun i p p' a b => hv (i + 1) p p' (by simpa using a) (by simpa using b))
        · cases h
      · cases h

theorem offs_places {P : Program} : ∀ (fs : List Field), (fs.map fun f => match P.info? f.type with
      | some j => if j.size = 0 then none else some (f.offset, j.size)
      | none => none).all Option.isSome = true → ∃ places, fs.mapM (fun f => (P.info? f.type).map fun i => (f.offset, i.size)) = some places ∧
    ∀ (i : Nat) x, (fs.map fun f => match P.info? f.type with
      | some j => if j.size = 0 then none else some (f.offset, j.size)
      | none => none)[i]? = some (some x) → places[i]? = some x := by
  intro fs
  induction fs with
  | nil => intro _; exact ⟨[], by simp, by simp⟩
  | cons f fs ih =>
    intro h
    simp only [List.map_cons, List.all_cons, Bool.and_eq_true] at h
    obtain ⟨h1, h2⟩ := h
    obtain ⟨pl, hpl, hi⟩ := ih h2
    cases hj : P.info? f.type with
    | none => rw [hj] at h1; simp at h1
    | some j =>
      refine ⟨(f.offset, j.size) :: pl, by simp [List.mapM_cons, hj, hpl], fun i x hx => ?_⟩
      cases i with
      | zero =>
        simp only [List.map_cons, hj, List.getElem?_cons_zero, Option.some.injEq] at hx
        split at hx
        · cases hx
        · cases hx; rfl
      | succ i =>
        simp only [List.map_cons, List.getElem?_cons_succ] at hx ⊢
        exact hi i x hx

theorem tz_VR {P : Program} {t : TypeId} {zs : List AV} (h : tz P t = .agg zs) (E : Env) : ∃ i z, P.info? t = some i ∧ i.zero = some z ∧ VRl E zs z.cells := by
  unfold tz at h
  split at h
  · next i hi =>
    split at h
    · next v hv =>
      refine ⟨i, v, hi, hv, ?_⟩
      have := ofV_VR E v
      rw [h] at this
      obtain ⟨us, rfl, h1, h2⟩ := this.agg_inv
      exact ⟨h1, h2⟩
    · cases h
  · cases h

theorem build_sound {P : Program} {t : TypeId} {parts : List (Nat × AV)} {cs zs : List AV} {offs : List (Option (Nat × Nat))} (hz : tz P t = .agg zs)
    (hk : (∃ n, tk P t = .struct n offs ∧ offs.all Option.isSome = true) ∨ ∃ m e sz tot, tk P t = .arr m e sz tot ∧ offs = arrPlaces m sz)
    (hb : buildL offs parts zs = some cs) (E : Env) (parts' : Array (Nat × Value)) (hl : parts.length = parts'.size)
    (hv : ∀ (i : Nat) p p', parts[i]? = some p → parts'[i]? = some p' → p.1 = p'.1 ∧ VR E p.2 p'.2) :
    ∃ v, VR E (.agg cs) v ∧ (Instr.build t parts').run P E.W = .ok v E.W := by
  obtain ⟨it, z, hit, hiz, hzs⟩ := tz_VR hz E
  rcases hk with ⟨n, hk, hall⟩ | ⟨m, e, sz, tot, hk, rfl⟩
  · unfold tk at hk
    split at hk
    case h_6 fs hu =>
      rw [hit] at hk
      simp only [TK.struct.injEq] at hk
      obtain ⟨_, rfl⟩ := hk
      obtain ⟨places, hpl, hpi⟩ := offs_places fs.toList hall
      obtain ⟨us', hf, hus⟩ := fill_VR (place := (places.toArray[·]?)) (fun i x hx => by simpa using hpi i x hx) parts parts'.toList zs cs z.cells hb hzs (by simpa using hl) (fun i p p' a b => hv i p p' a (by simpa using b))
      refine ⟨.agg us', .agg _ _ hus.1 hus.2, run_build E.W t parts' us' ?_⟩
      simp [Program.built, hit, hu, hiz, hpl]
      simpa using hf
    all_goals first
      | (have := (sz1_eq hk (by simp)).1; cases this; done)
      | (repeat' split at hk) <;> first | (cases hk; done) | (have := (sz1_eq hk (by simp)).1; cases this)
  · obtain ⟨hu, ⟨ie, hie, hsz⟩, _⟩ := tk_arr hk
    obtain ⟨us', hf, hus⟩ := fill_VR (place := fun i => some (i * sz, sz)) (fun i x hx => by
      simp only [arrPlaces, List.getElem?_map, Option.map_eq_some_iff] at hx
      obtain ⟨j, hj, hx⟩ := hx
      rcases Nat.lt_or_ge i m with h | h
      · rw [List.getElem?_range h] at hj; cases hj; exact hx
      · rw [List.getElem?_eq_none (by simpa using h)] at hj; cases hj) parts parts'.toList zs cs z.cells hb hzs (by simpa using hl) (fun i p p' a b => hv i p p' a (by simpa using b))
    refine ⟨.agg us', .agg _ _ hus.1 hus.2, run_build E.W t parts' us' ?_⟩
    simp [Program.built, hit, hu, hiz, hie, hsz, hf]


/-! ### All pure operations -/
theorem foldInts_run {f : Int → Int → Int} {g : Value → Value → Sem Value} (hg : ∀ (P : Program) (w : World) k a k' b, (g (.int k a) (.int k' b)).run P w = .ok (.int k (f a b)) w) {E : Env} {k : IntKind} :
    ∀ (r : List AV) (a n : Int) (vs : List Value), foldInts f k a r = some n → vs.length = r.length → (∀ (i : Nat) c v, r[i]? = some c → vs[i]? = some v → VR E c v) →
      ∀ (P : Program) (w : World), (vs.foldlM g (.int k a)).run P w = .ok (.int k n) w := by
  intro r
  induction r with
  | nil =>
    intro a n vs h hl _ P w
    cases vs with
    | nil => simp only [foldInts] at h; cases h; simp
    | cons v vs => simp at hl
  | cons c r ih =>
    intro a n vs h hl hv P w
    cases vs with
    | nil => simp at hl
    | cons v vs =>
      cases c <;> simp only [foldInts] at h <;> try (cases h; done)
      next k' b =>
        split at h
        · next hk =>
          subst hk
          have h0 := (hv 0 _ v rfl rfl).int_inv
          subst h0
          simp only [List.foldlM_cons, Sem.run_bind, hg, Result.andThen_ok]
          exact ih _ n vs h (by simpa using hl) (fun i c v a b => hv (i + 1) c v (by simpa using a) (by simpa using b)) P w
        · cases h

theorem min2_run (P : Program) (w : World) (k : IntKind) (a : Int) (k' : IntKind) (b : Int) : (Builtin.min2 (.int k a) (.int k' b)).run P w = .ok (.int k (min a b)) w := by
  simp only [Builtin.min2, Sem.run_pure]
  congr 2
  split <;> omega

theorem max2_run (P : Program) (w : World) (k : IntKind) (a : Int) (k' : IntKind) (b : Int) : (Builtin.max2 (.int k a) (.int k' b)).run P w = .ok (.int k (max a b)) w := by
  simp only [Builtin.max2, Sem.run_pure]
  congr 2
  split <;> omega

theorem binK_sound {P : Program} {op : BinOp} {t : TypeId} {x y : AV} {K : AV → Prop} (h : binK P op t x y K) :
    ∃ V, K V ∧ ∀ (E : Env) (u v : Value) (p q : Operand), VR E x u → VR E y v → ∃ r, VR E V r ∧ (do eqGuard op t p q u v; binOp op t u v : Sem Value).run P E.W = .ok r E.W := by
  unfold binK at h
  split at h
  · next k a k' b =>
    have hh : intOp op k a b K ∧ (k = k' ∨ op = .shl ∨ op = .shr) := by
      split at h
      · next hk => exact ⟨h, .inl hk⟩
      · split at h
        · exact ⟨h, .inr (.inl rfl)⟩
        · exact ⟨h, .inr (.inr rfl)⟩
        · exact h.elim
    obtain ⟨V, hK, hr⟩ := intOp_sound hh.1 hh.2
    refine ⟨V, hK, fun E u v p q hu hv => ?_⟩
    rw [hu.int_inv, hv.int_inv]
    obtain ⟨r, h1, h2⟩ := hr P E t
    exact ⟨r, h1, run_binOp_same P E.W op t p q r _ _ (eqGuard_int ..) h2⟩
  · next a b =>
    by_cases hex : ∃ c d : ByteArray, c.data.toList = a ∧ d.data.toList = b
    · obtain ⟨c, d, rfl, rfl⟩ := hex
      obtain ⟨V, hK, hr⟩ := strOp_sound h
      refine ⟨V, hK, fun E u v p q hu hv => ?_⟩
      obtain ⟨c', rfl, hc⟩ := hu.str_inv
      obtain ⟨d', rfl, hd⟩ := hv.str_inv
      have e1 : c' = c := by
        have : c'.data = c.data := Array.toList_inj.1 hc
        cases c; cases c'; simp at this; simp [this]
      have e2 : d' = d := by
        have : d'.data = d.data := Array.toList_inj.1 hd
        cases d; cases d'; simp at this; simp [this]
      subst e1; subst e2
      obtain ⟨r, h1, h2⟩ := hr P E t
      exact ⟨r, h1, run_binOp_same P E.W op t p q r _ _ (eqGuard_str ..) h2⟩
    · exact absurd ⟨⟨a.toArray⟩, ⟨b.toArray⟩, rfl, rfl⟩ hex
  · next a b =>
    obtain ⟨he, h⟩ := h
    have hu := (tk_bool he).1
    have heq : ∀ (w : World), (Op.equal t (.bool a) (.bool b)).run P w = .ok (a == b) w := fun w => run_equalIn_bool' w 9999 t a b hu
    split at h
    · exact ⟨_, h, fun E u v p q hu hv => ⟨_, .bool _, by rw [hu.bool_inv, hv.bool_inv]; refine run_binOp_same P E.W _ t p q _ _ _ (eqGuard_bool ..) ?_; simp [binOp, heq]⟩⟩
    · exact ⟨_, h, fun E u v p q hu hv => ⟨_, .bool _, by rw [hu.bool_inv, hv.bool_inv]; refine run_binOp_same P E.W _ t p q _ _ _ (eqGuard_bool ..) ?_; simp [binOp, heq]⟩⟩
    · exact h.elim
  · next as bs =>
    split at h
    · next n offs ks hk he =>
      split at h
      · next e hc =>
        have hb : aggB P t = true := by
          obtain ⟨fs, hu, _⟩ := tk_struct hk
          simp [aggB, hu]
        unfold eqK at he
        split at he
        · cases he
        · next hg =>
          have hg' : P.eqGuardType P.depth t = false := by simpa using hg
          have heq : ∀ (E : Env) (us vs : Array Value), VRl E as us → VRl E bs vs → ∀ w, (Op.equalIn 10000 t (.agg us) (.agg vs)).run P w = .ok e w := by
            intro E us vs h1 h2 w
            have := eq_run (E := E) 6 t ks he as bs us vs e h1 h2 hc 9994 w
            rw [hb] at this
            exact this
          split at h
          · refine ⟨_, h, fun E u v p q hu hv => ?_⟩
            obtain ⟨us, rfl, h1, h2⟩ := hu.agg_inv
            obtain ⟨vs, rfl, h3, h4⟩ := hv.agg_inv
            refine ⟨_, .bool _, run_binOp_same P E.W _ t p q _ _ _ (run_eqGuard_agg E.W _ t p q us vs hg') ?_⟩
            rw [run_eql_struct, heq E us vs ⟨h1, h2⟩ ⟨h3, h4⟩]; rfl
          · refine ⟨_, h, fun E u v p q hu hv => ?_⟩
            obtain ⟨us, rfl, h1, h2⟩ := hu.agg_inv
            obtain ⟨vs, rfl, h3, h4⟩ := hv.agg_inv
            refine ⟨_, .bool _, run_binOp_same P E.W _ t p q _ _ _ (run_eqGuard_agg E.W _ t p q us vs hg') ?_⟩
            rw [run_neq_struct, heq E us vs ⟨h1, h2⟩ ⟨h3, h4⟩]; rfl
          · exact h.elim
      · exact h.elim
    · exact h.elim
  · exact h.elim

end Go.Pg
