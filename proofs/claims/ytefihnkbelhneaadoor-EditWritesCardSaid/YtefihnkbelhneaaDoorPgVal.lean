/- Pg, part 1: abstract values and what concrete values stand for them. Over any program. -/
import Derived.Orders
import Derived.Laws.AppendOwn
import Derived.Laws.World
import Derived.Laws.Sem
namespace Go.Pg
open Go

inductive AV where
  | top
  | undef
  | nls
  | int (k : IntKind) (n : Int)
  | bool (b : Bool)
  | str (s : List UInt8)
  | agg (cs : List AV)
  | tuple (vs : List AV)
  | sl (sz : Nat) (vs : List AV)
  | slc (sz : Nat) (vs : List AV)
  | own (id sz len : Nat)
  | ptr (id sz len idx off : Nat)
  | rp (cs : List AV)
  | fn (f : FuncId) (cap : List AV)
  | cond (g : Bool) (v : AV)

instance : Inhabited AV := ⟨.top⟩

def AV.cells : AV → List AV
  | .agg cs => cs
  | v => [v]

/-- An object of the abstract heap. -/
inductive AO where
  | dead
  | arr (e : TypeId) (sz : Nat) (vs : List AV)
  | frz (e : TypeId) (sz : Nat) (vs : List AV)

instance : Inhabited AO := ⟨.dead⟩

abbrev AH := List AO

def AO.len : AO → Option Nat
  | .dead => none
  | .arr _ _ vs => some vs.length
  | .frz _ _ vs => some vs.length

def hlOf (H : AH) (id : Nat) : Option Nat := (H[id]?).bind AO.len

structure Env where
  W : World
  M : Nat → Option (Option Nat)
  st : Nat → Prop
  hl : Nat → Option Nat

def SlAt (W : World) (st : Nat → Prop) (vs : List AV) (a : Option Addr) (sz : Nat) (f : Nat → Nat → Value) : Prop :=
  ∀ i v, vs[i]? = some v → v.cells.length = sz ∧
    ∃ b o, a = some ⟨b, o, none⟩ ∧ st b ∧ ∀ j, j < sz → W.cell? ⟨b, o + i * sz + j, none⟩ = some (f i j)

def OwnAt (W : World) (m : Option (Option Nat)) (sz len : Nat) (a : Option Addr) (cap : Nat) : Prop :=
  (m = some none ∧ len = 0 ∧ cap = 0) ∨
  ∃ b c ty fz, m = some (some b) ∧ a = some ⟨b, 0, none⟩ ∧ len ≤ cap ∧ cap ≤ maxLen ∧ W.heap[b]? = some (.cells c ty fz) ∧ c.size = cap * sz

/-- A value that hangs on no object: what lies behind it is never written. -/
inductive VP (W : World) (st : Nat → Prop) : AV → Value → Prop
  | undef : VP W st .undef Go.undef
  | nls : VP W st .nls (.slice none 0 0)
  | int (k : IntKind) (n : Int) : VP W st (.int k n) (.int k n)
  | bool (b : Bool) : VP W st (.bool b) (.bool b)
  | str (s : ByteArray) : VP W st (.str s.data.toList) (.string s)
  | agg (cs : List AV) (us : Array Value) : us.size = cs.length → (∀ i c, cs[i]? = some c → VP W st c (us.getD i Go.undef)) → VP W st (.agg cs) (.agg us)
  | tuple (cs : List AV) (us : Array Value) : us.size = cs.length → (∀ i c, cs[i]? = some c → VP W st c (us.getD i Go.undef)) → VP W st (.tuple cs) (.tuple us)
  | sl (sz : Nat) (vs : List AV) (a : Option Addr) (cap : Nat) (f : Nat → Nat → Value) : vs.length ≤ cap → SlAt W st vs a sz f →
      (∀ i v j c, vs[i]? = some v → v.cells[j]? = some c → VP W st c (f i j)) → VP W st (.sl sz vs) (.slice a vs.length cap)
  | slc (sz : Nat) (vs : List AV) (a : Option Addr) (f : Nat → Nat → Value) : SlAt W st vs a sz f →
      (∀ i v j c, vs[i]? = some v → v.cells[j]? = some c → VP W st c (f i j)) → VP W st (.slc sz vs) (.slice a vs.length vs.length)
  | fn (f : FuncId) (cap : List AV) (us : Array Value) : us.size = cap.length → (∀ i c, cap[i]? = some c → VP W st c (us.getD i Go.undef)) → VP W st (.fn f cap) (.func (.func f) #[] us)
  | rp (cs : List AV) (b o : Nat) (f : Nat → Value) : st b → (∀ j c, cs[j]? = some c → W.cell? ⟨b, o + j, none⟩ = some (f j)) →
      (∀ j c, cs[j]? = some c → VP W st c (f j)) → VP W st (.rp cs) (.pointer (some ⟨b, o, none⟩))

inductive VR (E : Env) : AV → Value → Prop
  | top (v : Value) : VR E .top v
  | undef : VR E .undef Go.undef
  | nls : VR E .nls (.slice none 0 0)
  | int (k : IntKind) (n : Int) : VR E (.int k n) (.int k n)
  | bool (b : Bool) : VR E (.bool b) (.bool b)
  | str (s : ByteArray) : VR E (.str s.data.toList) (.string s)
  | agg (cs : List AV) (us : Array Value) : us.size = cs.length → (∀ i c, cs[i]? = some c → VR E c (us.getD i Go.undef)) → VR E (.agg cs) (.agg us)
  | tuple (cs : List AV) (us : Array Value) : us.size = cs.length → (∀ i c, cs[i]? = some c → VR E c (us.getD i Go.undef)) → VR E (.tuple cs) (.tuple us)
  | sl (sz : Nat) (vs : List AV) (a : Option Addr) (cap : Nat) (f : Nat → Nat → Value) : vs.length ≤ cap → SlAt E.W E.st vs a sz f →
      (∀ i v j c, vs[i]? = some v → v.cells[j]? = some c → VP E.W E.st c (f i j)) → VR E (.sl sz vs) (.slice a vs.length cap)
  | slc (sz : Nat) (vs : List AV) (a : Option Addr) (f : Nat → Nat → Value) : SlAt E.W E.st vs a sz f →
      (∀ i v j c, vs[i]? = some v → v.cells[j]? = some c → VP E.W E.st c (f i j)) → VR E (.slc sz vs) (.slice a vs.length vs.length)
  | own (id sz len : Nat) (a : Option Addr) (cap : Nat) : (E.M id).isSome = true → (a = none → len = 0) →
      (∀ L, E.hl id = some L → len ≤ L ∧ (len = L → OwnAt E.W (E.M id) sz len a cap)) → VR E (.own id sz len) (.slice a len cap)
  | ptr (id sz len idx off : Nat) (a : Addr) : (E.M id).isSome = true →
      (∀ L, E.hl id = some L → len ≤ L ∧ (len = L → ∃ b, E.M id = some (some b) ∧ a = ⟨b, idx * sz + off, none⟩)) → VR E (.ptr id sz len idx off) (.pointer (some a))
  | rp (cs : List AV) (b o : Nat) (f : Nat → Value) : E.st b → (∀ j c, cs[j]? = some c → E.W.cell? ⟨b, o + j, none⟩ = some (f j)) →
      (∀ j c, cs[j]? = some c → VP E.W E.st c (f j)) → VR E (.rp cs) (.pointer (some ⟨b, o, none⟩))
  | fn (f : FuncId) (cap : List AV) (us : Array Value) : us.size = cap.length → (∀ i c, cap[i]? = some c → VR E c (us.getD i Go.undef)) → VR E (.fn f cap) (.func (.func f) #[] us)
  | condT (a : AV) (v : Value) : VR E a v → VR E (.cond true a) v
  | condF (a : AV) : VR E (.cond false a) Go.undef

theorem VP.vr {E : Env} {a : AV} {v : Value} (h : VP E.W E.st a v) : VR E a v := by
  induction h with
  | undef => exact .undef
  | nls => exact .nls
  | int k n => exact .int k n
  | bool b => exact .bool b
  | str s => exact .str s
  | agg cs us hs _ ih => exact .agg cs us hs ih
  | tuple cs us hs _ ih => exact .tuple cs us hs ih
  | sl sz vs a cap f hc hs hv _ => exact .sl sz vs a cap f hc hs hv
  | slc sz vs a f hs hv _ => exact .slc sz vs a f hs hv
  | fn f cap us hs _ ih => exact .fn f cap us hs ih
  | rp cs b o f h1 h2 h3 _ => exact .rp cs b o f h1 h2 h3

/-- The world has gone on: what nobody writes stands, blocks keep their shape, handles that are good still mean the same. -/
structure EExt (E E' : Env) : Prop where
  st : ∀ b, E.st b → E'.st b
  same : ∀ b, E.st b → E'.W.heap[b]? = E.W.heap[b]?
  shape : ∀ (b : Nat) (c : Array Value) (ty : TypeId) (fz : Nat × Nat), E.W.heap[b]? = some (.cells c ty fz) → ∃ c', E'.W.heap[b]? = some (.cells c' ty fz) ∧ c'.size = c.size
  M : ∀ id, (E.M id).isSome = true → (E'.M id).isSome = true
  hl : ∀ id L', (E.M id).isSome = true → E'.hl id = some L' → ∃ L, E.hl id = some L ∧ L ≤ L' ∧ (L = L' → E'.M id = E.M id)

theorem cell_of_heap {w w' : World} {b o : Nat} (h : w'.heap[b]? = w.heap[b]?) : w'.cell? ⟨b, o, none⟩ = w.cell? ⟨b, o, none⟩ := by
  simp [World.cell?, h]

theorem SlAt.monoW {W W' : World} {st st' : Nat → Prop} (h1 : ∀ b, st b → st' b) (h2 : ∀ b, st b → W'.heap[b]? = W.heap[b]?) {vs : List AV} {a : Option Addr} {sz : Nat} {f : Nat → Nat → Value} (hs : SlAt W st vs a sz f) :
    SlAt W' st' vs a sz f := by
  intro i v hv
  obtain ⟨h3, b, o, ha, hst, hc⟩ := hs i v hv
  exact ⟨h3, b, o, ha, h1 b hst, fun j hj => by rw [cell_of_heap (h2 b hst)]; exact hc j hj⟩

theorem VP.mono {W W' : World} {st st' : Nat → Prop} (h1 : ∀ b, st b → st' b) (h2 : ∀ b, st b → W'.heap[b]? = W.heap[b]?) {a : AV} {v : Value} (hv : VP W st a v) : VP W' st' a v := by
  induction hv with
  | undef => exact .undef
  | nls => exact .nls
  | int k n => exact .int k n
  | bool b => exact .bool b
  | str s => exact .str s
  | agg cs us hs _ ih => exact .agg cs us hs ih
  | tuple cs us hs _ ih => exact .tuple cs us hs ih
  | sl sz vs a cap f hc hs _ ih => exact .sl sz vs a cap f hc (hs.monoW h1 h2) ih
  | slc sz vs a f hs _ ih => exact .slc sz vs a f (hs.monoW h1 h2) ih
  | fn f cap us hs _ ih => exact .fn f cap us hs ih
  | rp cs b o f hst hc _ ih => exact .rp cs b o f (h1 b hst) (fun j c hj => by rw [cell_of_heap (h2 b hst)]; exact hc j c hj) ih

theorem SlAt.mono {E E' : Env} (h : EExt E E') {vs : List AV} {a : Option Addr} {sz : Nat} {f : Nat → Nat → Value} (hs : SlAt E.W E.st vs a sz f) :
    SlAt E'.W E'.st vs a sz f := by
  intro i v hv
  obtain ⟨h1, b, o, ha, hst, hc⟩ := hs i v hv
  exact ⟨h1, b, o, ha, h.st b hst, fun j hj => by rw [cell_of_heap (h.same b hst)]; exact hc j hj⟩

theorem OwnAt.mono {E E' : Env} (h : EExt E E') {m : Option (Option Nat)} {sz len : Nat} {a : Option Addr} {cap : Nat} (ho : OwnAt E.W m sz len a cap) :
    OwnAt E'.W m sz len a cap := by
  rcases ho with ho | ⟨b, c, ty, fz, h1, h2, h3, h4, h5, h6⟩
  · exact .inl ho
  · obtain ⟨c', hc, hsz⟩ := h.shape b c ty fz h5
    exact .inr ⟨b, c', ty, fz, h1, h2, h3, h4, hc, by rw [hsz, h6]⟩

theorem VR.mono {E E' : Env} (h : EExt E E') {a : AV} {v : Value} (hv : VR E a v) : VR E' a v := by
  induction hv with
  | top v => exact .top v
  | undef => exact .undef
  | nls => exact .nls
  | int k n => exact .int k n
  | bool b => exact .bool b
  | str s => exact .str s
  | agg cs us hs _ ih => exact .agg cs us hs ih
  | tuple cs us hs _ ih => exact .tuple cs us hs ih
  | sl sz vs a cap f hc hs hv => exact .sl sz vs a cap f hc (hs.mono h) (fun i v j c a b => (hv i v j c a b).mono h.st h.same)
  | slc sz vs a f hs hv => exact .slc sz vs a f (hs.mono h) (fun i v j c a b => (hv i v j c a b).mono h.st h.same)
  | own id sz len a cap hm ha hl =>
    refine .own id sz len a cap (h.M id hm) ha fun L' hL' => ?_
    obtain ⟨L, hL, hle, heq⟩ := h.hl id L' hm hL'
    obtain ⟨h1, h2⟩ := hl L hL
    refine ⟨by omega, fun he => ?_⟩
    have hLL : L = L' := by omega
    rw [heq hLL]
    exact (h2 (by omega)).mono h
  | ptr id sz len idx off v hm hl =>
    refine .ptr id sz len idx off v (h.M id hm) fun L' hL' => ?_
    obtain ⟨L, hL, hle, heq⟩ := h.hl id L' hm hL'
    obtain ⟨h1, h2⟩ := hl L hL
    refine ⟨by omega, fun he => ?_⟩
    have hLL : L = L' := by omega
    rw [heq hLL]
    exact h2 (by omega)
  | rp cs b o f hst hc hv => exact .rp cs b o f (h.st b hst) (fun j c hj => by rw [cell_of_heap (h.same b hst)]; exact hc j c hj) (fun j c hj => (hv j c hj).mono h.st h.same)
  | fn f cap us hs _ ih => exact .fn f cap us hs ih
  | condT a v _ ih => exact .condT a v ih
  | condF a => exact .condF a

theorem EExt.refl (E : Env) : EExt E E :=
  ⟨fun _ h => h, fun _ _ => rfl, fun _ c _ _ h => ⟨c, h, rfl⟩, fun _ h => h, fun _ L _ h => ⟨L, h, Nat.le_refl _, fun _ => rfl⟩⟩

theorem EExt.trans {A B C : Env} (h : EExt A B) (k : EExt B C) : EExt A C := by
  refine ⟨fun b hb => k.st b (h.st b hb), fun b hb => (k.same b (h.st b hb)).trans (h.same b hb), ?_, fun id hid => k.M id (h.M id hid), ?_⟩
  · intro b c ty fz hb
    obtain ⟨c', h1, h2⟩ := h.shape b c ty fz hb
    obtain ⟨c'', h3, h4⟩ := k.shape b c' ty fz h1
    exact ⟨c'', h3, h4.trans h2⟩
  · intro id L' hid hL'
    obtain ⟨L1, a1, a2, a3⟩ := k.hl id L' (h.M id hid) hL'
    obtain ⟨L, b1, b2, b3⟩ := h.hl id L1 hid a1
    exact ⟨L, b1, by omega, fun he => (a3 (by omega)).trans (b3 (by omega))⟩

def Thaw (fz : Nat × Nat) (n : Nat) : Prop := ∀ j, j < n → ¬ (fz.1 ≤ j ∧ j < fz.2)

def ARow (E : Env) (m : Option Nat) (e : TypeId) (sz : Nat) (vs : List AV) : Prop :=
  (m = none ∧ vs = []) ∨ ∃ b c fz, m = some b ∧ E.W.heap[b]? = some (.cells c e fz) ∧ vs.length * sz ≤ c.size ∧ Thaw fz c.size ∧
    ∀ i v, vs[i]? = some v → v.cells.length = sz ∧ ∀ j cc, v.cells[j]? = some cc → ∃ u, c[i * sz + j]? = some u ∧ VR E cc u

structure Rel (H : AH) (E : Env) : Prop where
  hl : E.hl = hlOf H
  dom : ∀ id, H.length ≤ id → E.M id = none
  row : ∀ id e sz vs, H[id]? = some (.arr e sz vs) ∨ H[id]? = some (.frz e sz vs) → ∀ m, E.M id = some m → ARow E m e sz vs
  nst : ∀ id e sz vs b, H[id]? = some (.arr e sz vs) → E.M id = some (some b) → ¬ E.st b
  fst : ∀ id e sz vs b, H[id]? = some (.frz e sz vs) → E.M id = some (some b) → E.st b
  inj : ∀ id id' e sz vs e' sz' vs' b, H[id]? = some (.arr e sz vs) → H[id']? = some (.arr e' sz' vs') → E.M id = some (some b) → E.M id' = some (some b) → id = id'
  stlt : ∀ b, E.st b → b < E.W.heap.size

/-- A block that an abstract object holds and that may be written. -/
def Live (H : AH) (M : Nat → Option (Option Nat)) (b : Nat) : Prop := ∃ id e sz vs, H[id]? = some (.arr e sz vs) ∧ M id = some (some b)

/-- What a call may have done to what was there. -/
structure Moved (L : Nat → Prop) (st : Nat → Prop) (W W' : World) (st' : Nat → Prop) : Prop where
  os : W'.os = W.os
  tape : W'.tape = W.tape
  output : W'.output = W.output
  size : W.heap.size ≤ W'.heap.size
  keep : ∀ b, b < W.heap.size → ¬ L b → W'.heap[b]? = W.heap[b]?
  shape : ∀ (b : Nat) (c : Array Value) (ty : TypeId) (fz : Nat × Nat), W.heap[b]? = some (.cells c ty fz) → ∃ c', W'.heap[b]? = some (.cells c' ty fz) ∧ c'.size = c.size
  old : ∀ b, b < W.heap.size → st' b → st b ∨ L b
  grow : ∀ b, st b → st' b

def MovedM (E : Env) (E' : Env) : Prop :=
  (∀ id, (E.M id).isSome = true → (E'.M id).isSome = true) ∧
  ∀ id L', (E.M id).isSome = true → E'.hl id = some L' → ∃ L, E.hl id = some L ∧ L ≤ L' ∧ (L = L' → E'.M id = E.M id)

/-- From one abstract heap and its reading to another. -/
structure Step (H : AH) (E : Env) (H' : AH) (E' : Env) : Prop where
  mv : Moved (Live H E.M) E.st E.W E'.W E'.st
  mm : MovedM E E'
  live : ∀ b, Live H' E'.M b → Live H E.M b ∨ E.W.heap.size ≤ b

theorem Step.ext {H H' : AH} {E E' : Env} (h : Step H E H' E') (hr : Rel H E) : EExt E E' := by
  refine ⟨h.mv.grow, fun b hb => h.mv.keep b (hr.stlt b hb) ?_, h.mv.shape, h.mm.1, h.mm.2⟩
  rintro ⟨id, e, sz, vs, h1, h2⟩
  exact hr.nst id e sz vs b h1 h2 hb

theorem Moved.refl (L st : Nat → Prop) (W : World) : Moved L st W W st :=
  ⟨rfl, rfl, rfl, Nat.le_refl _, fun _ _ _ => rfl, fun _ c _ _ h => ⟨c, h, rfl⟩, fun _ _ h => .inl h, fun _ h => h⟩

theorem Step.refl (H : AH) (E : Env) : Step H E H E :=
  ⟨Moved.refl _ _ _, ⟨fun _ h => h, fun _ L _ h => ⟨L, h, Nat.le_refl _, fun _ => rfl⟩⟩, fun _ h => .inl h⟩

theorem Step.trans {H H' H'' : AH} {E E' E'' : Env} (h : Step H E H' E') (k : Step H' E' H'' E'') : Step H E H'' E'' := by
  refine ⟨⟨k.mv.os.trans h.mv.os, k.mv.tape.trans h.mv.tape, k.mv.output.trans h.mv.output, Nat.le_trans h.mv.size k.mv.size, ?_, ?_, ?_, fun b hb => k.mv.grow b (h.mv.grow b hb)⟩, ⟨fun id hid => k.mm.1 id (h.mm.1 id hid), ?_⟩, ?_⟩
  · intro b hb hL
    rw [k.mv.keep b (Nat.lt_of_lt_of_le hb h.mv.size) ?_, h.mv.keep b hb hL]
    intro hl
    rcases h.live b hl with hl | hl
    · exact hL hl
    · omega
  · intro b c ty fz hb
    obtain ⟨c', h1, h2⟩ := h.mv.shape b c ty fz hb
    obtain ⟨c'', h3, h4⟩ := k.mv.shape b c' ty fz h1
    exact ⟨c'', h3, h4.trans h2⟩
  · intro b hb hst
    rcases k.mv.old b (Nat.lt_of_lt_of_le hb h.mv.size) hst with hst | hl
    · exact h.mv.old b hb hst
    · rcases h.live b hl with hl | hl
      · exact .inr hl
      · omega
  · intro id L' hid hL'
    obtain ⟨L1, a1, a2, a3⟩ := k.mm.2 id L' (h.mm.1 id hid) hL'
    obtain ⟨L, b1, b2, b3⟩ := h.mm.2 id L1 hid a1
    exact ⟨L, b1, by omega, fun he => (a3 (by omega)).trans (b3 (by omega))⟩
  · intro b hb
    rcases k.live b hb with hb | hb
    · exact h.live b hb
    · exact .inr (Nat.le_trans h.mv.size hb)

def VRs (E : Env) (as : List AV) (vs : Array Value) : Prop := vs.size = as.length ∧ ∀ i c, as[i]? = some c → VR E c (vs.getD i Go.undef)

theorem VRs.mono {E E' : Env} (h : EExt E E') {as : List AV} {vs : Array Value} (hv : VRs E as vs) : VRs E' as vs := ⟨hv.1, fun i c hc => (hv.2 i c hc).mono h⟩

/-- The contract of a function: called with what stands for `args`, over a heap that stands for `H`, it returns what stands for `r`, over one that stands for `H'`. -/
def CallsR (P : Program) (f : FuncId) (args : List AV) (H : AH) (r : AV) (H' : AH) : Prop :=
  ∀ (E : Env) (vals : Array Value), Rel H E → VRs E args vals → Calls P f vals E.W fun e W' =>
    ∃ v E', e = .returned v ∧ E'.W = W' ∧ VR E' r v ∧ Rel H' E' ∧ Step H E H' E'


/-- The abstract heap has more objects, and some may not be written any more. -/
def AOle (o o' : AO) : Prop := o' = o ∨ ∃ e sz vs, o = .arr e sz vs ∧ o' = .frz e sz vs

def AHle (H H' : AH) : Prop := ∀ (id : Nat) (o : AO), H[id]? = some o → ∃ o', H'[id]? = some o' ∧ AOle o o'

theorem AOle.refl (o : AO) : AOle o o := .inl rfl
theorem AOle.trans {a b c : AO} (h : AOle a b) (k : AOle b c) : AOle a c := by
  rcases h with rfl | ⟨e, sz, vs, rfl, rfl⟩
  · exact k
  · rcases k with rfl | ⟨e', sz', vs', h, _⟩
    · exact .inr ⟨e, sz, vs, rfl, rfl⟩
    · cases h
theorem AOle.len {a b : AO} (h : AOle a b) : b.len = a.len := by
  rcases h with rfl | ⟨e, sz, vs, rfl, rfl⟩ <;> rfl
theorem AHle.refl (H : AH) : AHle H H := fun _ o h => ⟨o, h, .refl o⟩
theorem AHle.trans {A B C : AH} (h : AHle A B) (k : AHle B C) : AHle A C := fun id o ho =>
  let ⟨o1, h1, l1⟩ := h id o ho; let ⟨o2, h2, l2⟩ := k id o1 h1; ⟨o2, h2, l1.trans l2⟩
theorem AHle.length {H H' : AH} (h : AHle H H') : H.length ≤ H'.length := by
  rcases Nat.lt_or_ge H'.length H.length with hlt | hge
  · obtain ⟨o', ho', _⟩ := h H'.length H[H'.length] (by simp [hlt])
    simp at ho'
  · exact hge

/-- Some objects are given up for writing; others, which are not there yet, are told of. -/
theorem Rel.le {H H' : AH} {E : Env} (hr : Rel H E) (hle : AHle H H') : ∃ E', Rel H' E' ∧ E'.W = E.W ∧ E'.M = E.M ∧ Step H E H' E' := by
  let st' : Nat → Prop := fun b => E.st b ∨ ∃ id e sz vs, H[id]? = some (.arr e sz vs) ∧ H'[id]? = some (.frz e sz vs) ∧ E.M id = some (some b)
  have hsome : ∀ id m, E.M id = some m → id < H.length := by
    intro id m hm
    rcases Nat.lt_or_ge id H.length with h | h
    · exact h
    · rw [hr.dom id h] at hm; cases hm
  have hst : Step H E H' { W := E.W, M := E.M, st := st', hl := hlOf H' } := by
    refine ⟨⟨rfl, rfl, rfl, Nat.le_refl _, fun _ _ _ => rfl, fun _ c _ _ h => ⟨c, h, rfl⟩, ?_, fun b h => .inl h⟩, ⟨fun _ h => h, ?_⟩, ?_⟩
    · rintro b _ (h | ⟨id, e, sz, vs, h1, h2, h3⟩)
      · exact .inl h
      · exact .inr ⟨id, e, sz, vs, h1, h3⟩
    · intro id L' hid hL'
      refine ⟨L', ?_, Nat.le_refl _, fun _ => rfl⟩
      obtain ⟨m, hm⟩ := Option.isSome_iff_exists.1 hid
      have hlt := hsome id m hm
      obtain ⟨o', ho', hl⟩ := hle id H[id] (by simp [hlt])
      rw [hr.hl]
      simp only [hlOf, ho', Option.bind_some, hl.len] at hL'
      simp only [hlOf, List.getElem?_eq_getElem hlt, Option.bind_some]
      exact hL'
    · rintro b ⟨id, e, sz, vs, h1, h2⟩
      have hlt := hsome id _ h2
      obtain ⟨o', ho', hl⟩ := hle id H[id] (by simp [hlt])
      rw [ho'] at h1
      cases h1
      rcases hl with h | ⟨e', sz', vs', _, h⟩
      · exact .inl ⟨id, e, sz, vs, by rw [List.getElem?_eq_getElem hlt, ← h], h2⟩
      · cases h
  have hx := hst.ext hr
  refine ⟨{ W := E.W, M := E.M, st := st', hl := hlOf H' }, ⟨rfl, ?_, ?_, ?_, ?_, ?_, ?_⟩, rfl, rfl, hst⟩
  · intro id h; exact hr.dom id (Nat.le_trans hle.length h)
  · intro id e sz vs h m hm
    have hlt := hsome id m hm
    obtain ⟨o', ho', hl⟩ := hle id H[id] (by simp [hlt])
    have hold : H[id]? = some (.arr e sz vs) ∨ H[id]? = some (.frz e sz vs) := by
      rw [List.getElem?_eq_getElem hlt]
      rcases h with h | h
      · rw [ho'] at h; cases h
        rcases hl with h | ⟨e', sz', vs', _, h⟩
        · exact .inl (by rw [← h])
        · cases h
      · rw [ho'] at h; cases h
        rcases hl with h | ⟨e', sz', vs', h0, h⟩
        · exact .inr (by rw [← h])
        · cases h; exact .inl (by rw [h0])
    rcases hr.row id e sz vs hold m hm with h | ⟨b, c, fz, h1, h2, h3, h4, h5⟩
    · exact .inl h
    · refine .inr ⟨b, c, fz, h1, h2, h3, h4, fun i v hv => ⟨(h5 i v hv).1, fun j cc hcc => ?_⟩⟩
      obtain ⟨u, hu, hvr⟩ := (h5 i v hv).2 j cc hcc
      exact ⟨u, hu, hvr.mono hx⟩
  · intro id e sz vs b h hm
    have hlt := hsome id _ hm
    obtain ⟨o', ho', hl⟩ := hle id H[id] (by simp [hlt])
    rw [ho'] at h; cases h
    have hold : H[id]? = some (.arr e sz vs) := by
      rw [List.getElem?_eq_getElem hlt]
      rcases hl with h | ⟨e', sz', vs', _, h⟩
      · rw [← h]
      · cases h
    rintro (h | ⟨id', e', sz', vs', k1, k2, k3⟩)
    · exact hr.nst id e sz vs b hold hm h
    · have := hr.inj id id' _ _ _ _ _ _ b hold k1 hm k3
      subst this
      rw [ho'] at k2; cases k2
  · intro id e sz vs b h hm
    have hlt := hsome id _ hm
    obtain ⟨o', ho', hl⟩ := hle id H[id] (by simp [hlt])
    rw [ho'] at h; cases h
    rcases hl with h | ⟨e', sz', vs', h0, h⟩
    · exact .inl (hr.fst id e sz vs b (by rw [List.getElem?_eq_getElem hlt, ← h]) hm)
    · cases h; exact .inr ⟨id, e, sz, vs, by rw [List.getElem?_eq_getElem hlt, h0], ho', hm⟩
  · intro id id' e sz vs e' sz' vs' b h h' hm hm'
    have old : ∀ id e sz vs m, H'[id]? = some (AO.arr e sz vs) → E.M id = some m → H[id]? = some (.arr e sz vs) := by
      intro id e sz vs m h hm
      have hlt := hsome id _ hm
      obtain ⟨o', ho', hl⟩ := hle id H[id] (by simp [hlt])
      rw [ho'] at h; cases h
      rw [List.getElem?_eq_getElem hlt]
      rcases hl with h | ⟨e', sz', vs', _, h⟩
      · rw [← h]
      · cases h
    exact hr.inj id id' _ _ _ _ _ _ b (old _ _ _ _ _ h hm) (old _ _ _ _ _ h' hm') hm hm'
  · rintro b (h | ⟨id, e, sz, vs, h1, _, h3⟩)
    · exact hr.stlt b h
    · rcases hr.row id e sz vs (.inl h1) _ h3 with ⟨h, _⟩ | ⟨b', c, fz, hb, hw, _⟩
      · cases h
      · cases hb; exact (Array.getElem?_eq_some_iff.1 hw).1

end Go.Pg
