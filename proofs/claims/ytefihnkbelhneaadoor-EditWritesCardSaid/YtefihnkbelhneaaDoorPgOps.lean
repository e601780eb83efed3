/- Pg, part 3: what operations come to on abstract values: the pure ones. -/
import Derived.Test.YtefihnkbelhneaaDoorPgRegion
import Derived.Laws.StructEq
import Derived.Laws.Slices
import Derived.Laws.Strings
import Derived.Laws.Small
namespace Go.Pg
open Go

/-- A constant. -/
def ofLeaf : Value → AV
  | .bool b => .bool b
  | .int k n => .int k n
  | .string s => .str s.data.toList
  | .slice none 0 0 => .nls
  | _ => .top

def ofV : Value → AV
  | .agg cs => .agg (cs.toList.map ofLeaf)
  | .tuple vs => if vs.size = 0 then .undef else .top
  | v => ofLeaf v

theorem ofLeaf_VR (E : Env) (v : Value) : VR E (ofLeaf v) v := by
  unfold ofLeaf
  split
  · exact .bool _
  · exact .int _ _
  · exact .str _
  · exact .nls
  · exact .top _

theorem getD_of_getElem? {us : Array Value} {i : Nat} {u : Value} (h : us[i]? = some u) : us.getD i Go.undef = u := by
  simp [h]

theorem ofV_VR (E : Env) (v : Value) : VR E (ofV v) v := by
  unfold ofV
  split
  · next cs =>
    refine .agg _ _ (by simp) fun i c hc => ?_
    simp only [List.getElem?_map, Array.getElem?_toList, Option.map_eq_some_iff] at hc
    obtain ⟨u, hu, rfl⟩ := hc
    rw [getD_of_getElem? hu]
    exact ofLeaf_VR E u
  · next vs =>
    split
    · next h =>
      have : vs = #[] := Array.eq_empty_of_size_eq_zero h
      subst this
      exact .undef
    · exact .top _
  · exact ofLeaf_VR E v

abbrev AEnv := List (Tmp × AV)

def look (t : Tmp) : AEnv → AV
  | [] => .top
  | (u, v) :: r => if t = u then v else look t r

def opnd (ev : AEnv) : Operand → AV
  | .tmp t => look t ev
  | .const v => ofV v
  | .func f => .fn f []
  | .global _ => .top

/-- The slots that an operation looks at hold what the abstract slots say. -/
def Opd (ev : AEnv) (E : Env) (a : Act) (o : Oper) : Prop := ∀ x ∈ o.op.operands, VR E (opnd ev x) (a.eval x)

theorem opnd_VR {ev : AEnv} {E : Env} {a : Act} (h : ∀ t, VR E (look t ev) (a.tmps.getD t Go.undef)) (x : Operand) : VR E (opnd ev x) (a.eval x) := by
  cases x with
  | tmp t => exact h t
  | const v => exact ofV_VR E v
  | func f => exact .fn f [] #[] rfl (fun i c hc => by simp at hc)
  | global g => exact .top _

/-! ### Inversions -/
section
variable {E : Env} {v : Value}
theorem VR.int_inv {k : IntKind} {n : Int} (h : VR E (.int k n) v) : v = .int k n := by cases h; rfl
theorem VR.bool_inv {b : Bool} (h : VR E (.bool b) v) : v = .bool b := by cases h; rfl
theorem VR.str_inv {s : List UInt8} (h : VR E (.str s) v) : ∃ b : ByteArray, v = .string b ∧ b.data.toList = s := by cases h; exact ⟨_, rfl, rfl⟩
theorem VR.undef_inv (h : VR E .undef v) : v = Go.undef := by cases h; rfl
theorem VR.nls_inv (h : VR E .nls v) : v = .slice none 0 0 := by cases h; rfl
theorem VR.agg_inv {cs : List AV} (h : VR E (.agg cs) v) : ∃ us : Array Value, v = .agg us ∧ us.size = cs.length ∧ ∀ (i : Nat) c, cs[i]? = some c → VR E c (us.getD i Go.undef) := by
  cases h with | agg _ us h1 h2 => exact ⟨us, rfl, h1, h2⟩
theorem VR.tuple_inv {cs : List AV} (h : VR E (.tuple cs) v) : ∃ us : Array Value, v = .tuple us ∧ us.size = cs.length ∧ ∀ (i : Nat) c, cs[i]? = some c → VR E c (us.getD i Go.undef) := by
  cases h with | tuple _ us h1 h2 => exact ⟨us, rfl, h1, h2⟩
theorem VR.fn_inv {f : FuncId} {cs : List AV} (h : VR E (.fn f cs) v) : ∃ us : Array Value, v = .func (.func f) #[] us ∧ us.size = cs.length ∧ ∀ (i : Nat) c, cs[i]? = some c → VR E c (us.getD i Go.undef) := by
  cases h with | fn _ _ us h1 h2 => exact ⟨us, rfl, h1, h2⟩
end

/-- A slice's length, of whatever kind. -/
def slen : AV → Option Nat
  | .nls => some 0
  | .sl _ vs => some vs.length
  | .slc _ vs => some vs.length
  | .own _ _ n => some n
  | _ => none

theorem slen_VR {E : Env} {x : AV} {v : Value} {n : Nat} (h : VR E x v) (hs : slen x = some n) : ∃ a cap, v = .slice a n cap := by
  cases h <;> simp [slen] at hs <;> subst hs <;> exact ⟨_, _, rfl⟩

theorem bytes_eq_iff {a b : ByteArray} : (a.toList == b.toList) = (a.data.toList == b.data.toList) := by
  rw [ByteArray.toList_eq, ByteArray.toList_eq]

/-! ### Pure operations -/

/-- Comparisons and sums of two integers of one kind. -/
def intOp (op : BinOp) (k : IntKind) (a b : Int) (K : AV → Prop) : Prop :=
  match op with
  | .add => K (.int k (k.wrap (a + b)))
  | .sub => K (.int k (k.wrap (a - b)))
  | .mul => K (.int k (k.wrap (a * b)))
  | .quo => b ≠ 0 ∧ K (.int k (k.wrap (a.tdiv b)))
  | .rem => b ≠ 0 ∧ K (.int k (a.tmod b))
  | .eql => K (.bool (a == b))
  | .neq => K (.bool (a != b))
  | .lss => K (.bool (decide (a < b)))
  | .leq => K (.bool (decide (a ≤ b)))
  | .gtr => K (.bool (decide (a > b)))
  | .geq => K (.bool (decide (a ≥ b)))
  | .shr => 0 ≤ b ∧ K (.int k (a.fdiv (2 ^ (min b.toNat k.bits))))
  | .shl => 0 ≤ b ∧ K (.int k (k.wrap (a * 2 ^ (min b.toNat k.bits))))
  | .and => K (.int k (k.wrap (BitVec.ofInt k.bits a &&& BitVec.ofInt k.bits b).toNat))
  | _ => False

def strOp (op : BinOp) (a b : List UInt8) (K : AV → Prop) : Prop :=
  match op with
  | .add => a.length + b.length ≤ 9223372036854775807 ∧ K (.str (a ++ b))
  | .eql => K (.bool (a == b))
  | .neq => K (.bool (!(a == b)))
  | .lss => K (.bool (Op.bytesLess a b))
  | _ => False

/-- What '==' asks of a type: its cells' kinds (0: a bool, 1: an integer, 2: a string). -/
def eqFs (rec : TypeId → Option (List Nat)) (P : Program) : List Field → Nat → Option (List Nat)
  | [], _ => some []
  | f :: fs, off => if f.name = "_" ∨ f.offset ≠ off then none else match rec f.type, P.info? f.type with
    | some ks, some i => if i.size = ks.length then (match eqFs rec P fs (off + ks.length) with
      | some r => some (ks ++ r)
      | none => none) else none
    | _, _ => none

def eqT (P : Program) : Nat → TypeId → Option (List Nat)
  | 0, _ => none
  | d + 1, t => match P.underlying t with
    | some .bool => some [0]
    | some (.int _) => some [1]
    | some .string => some [2]
    | some (.struct fs) => if P.stoodInHeld t then none else eqFs (eqT P d) P fs.toList 0
    | _ => none

def eqK (P : Program) (t : TypeId) : Option (List Nat) := if P.eqGuardType P.depth t then none else eqT P 6 t

/-- Are two cells alike: integers, bools, strings. -/
def leafEq : Nat → AV → AV → Option Bool
  | 1, .int k a, .int k' b => if k = k' then some (a == b) else none
  | 0, .bool a, .bool b => some (a == b)
  | 2, .str a, .str b => some (a == b)
  | _, _, _ => none

def cellsEq : List Nat → List AV → List AV → Option Bool
  | [], [], [] => some true
  | k :: ks, a :: as, b :: bs => match leafEq k a b, cellsEq ks as bs with
    | some x, some y => some (x && y)
    | _, _ => none
  | _, _, _ => none

/-- Cut of a list. -/
def cutL {α : Type} (l : List α) (a b : Nat) : List α := (l.drop a).take (b - a)


/-- What the evaluation wants to know of a type. -/
inductive TK where
  | str | bool | leaf | other
  | int (k : IntKind)
  | slice (e : TypeId) (sz : Nat)
  | arr (n : Nat) (e : TypeId) (sz tot : Nat)
  | struct (sz : Nat) (offs : List (Option (Nat × Nat)))

def sz1 (P : Program) (t : TypeId) (k : TK) : TK :=
  match P.info? t with
  | some i => if i.size = 1 then k else .other
  | none => .other

def tk (P : Program) (t : TypeId) : TK :=
  match P.underlying t with
  | some .string => sz1 P t .str
  | some .bool => sz1 P t .bool
  | some (.int k) => sz1 P t (.int k)
  | some (.slice e) => match P.info? e with
    | some i => sz1 P t (.slice e i.size)
    | none => .other
  | some (.array n e) => match P.info? e, P.info? t with
    | some i, some j => .arr n e i.size j.size
    | _, _ => .other
  | some (.struct fs) => match P.info? t with
    | some i => .struct i.size (fs.toList.map fun f => match P.info? f.type with
      | some j => if j.size = 0 then none else some (f.offset, j.size)
      | none => none)
    | none => .other
  | some (.pointer _) | some (.func _ _ _) | some (.map _ _) | some (.interface _) => sz1 P t .leaf
  | _ => .other

theorem sz1_eq {P : Program} {t : TypeId} {k k' : TK} (h : sz1 P t k = k') (hk : k' ≠ .other) : k = k' ∧ ∃ i, P.info? t = some i ∧ i.size = 1 := by
  unfold sz1 at h
  split at h
  · next i hi =>
    split at h
    · next hs => exact ⟨h, i, hi, hs⟩
    · exact absurd h.symm hk
  · exact absurd h.symm hk

theorem tk_str {P : Program} {t : TypeId} (h : tk P t = .str) : P.underlying t = some .string ∧ ∃ i, P.info? t = some i ∧ i.size = 1 := by
  unfold tk at h
  split at h <;> first
    | (next hu => exact ⟨hu, (sz1_eq h (by simp)).2⟩)
    | (have := (sz1_eq h (by simp)).1; cases this)
    | (repeat' split at h) <;> first | (cases h; done) | (have := (sz1_eq h (by simp)).1; cases this)

theorem tk_bool {P : Program} {t : TypeId} (h : tk P t = .bool) : P.underlying t = some .bool ∧ ∃ i, P.info? t = some i ∧ i.size = 1 := by
  unfold tk at h
  split at h <;> first
    | (next hu => exact ⟨hu, (sz1_eq h (by simp)).2⟩)
    | (have := (sz1_eq h (by simp)).1; cases this)
    | (repeat' split at h) <;> first | (cases h; done) | (have := (sz1_eq h (by simp)).1; cases this)

theorem tk_int {P : Program} {t : TypeId} {k : IntKind} (h : tk P t = .int k) : P.underlying t = some (.int k) ∧ ∃ i, P.info? t = some i ∧ i.size = 1 := by
  unfold tk at h
  split at h <;> first
    | (next hu => have hh := sz1_eq h (by simp); cases hh.1; exact ⟨hu, hh.2⟩)
    | (have := (sz1_eq h (by simp)).1; cases this)
    | (repeat' split at h) <;> first | (cases h; done) | (have := (sz1_eq h (by simp)).1; cases this)

theorem tk_slice {P : Program} {t e : TypeId} {n : Nat} (h : tk P t = .slice e n) : P.underlying t = some (.slice e) ∧ (∃ i, P.info? e = some i ∧ i.size = n) ∧ ∃ i, P.info? t = some i ∧ i.size = 1 := by
  unfold tk at h
  split at h
  case h_4 e' hu =>
    split at h
    · next i hi =>
      have hh := sz1_eq h (by simp)
      cases hh.1
      exact ⟨hu, ⟨i, hi, rfl⟩, hh.2⟩
    · cases h
  all_goals first
    | (have := (sz1_eq h (by simp)).1; cases this; done)
    | (repeat' split at h) <;> first | (cases h; done) | (have := (sz1_eq h (by simp)).1; cases this)

theorem tk_arr {P : Program} {t e : TypeId} {n m tot : Nat} (h : tk P t = .arr n e m tot) : P.underlying t = some (.array n e) ∧ (∃ i, P.info? e = some i ∧ i.size = m) ∧ ∃ i, P.info? t = some i ∧ i.size = tot := by
  unfold tk at h
  split at h
  case h_5 n' e' hu =>
    split at h
    · next i j hi hj => cases h; exact ⟨hu, ⟨i, hi, rfl⟩, j, hj, rfl⟩
    · cases h
  all_goals first
    | (have := (sz1_eq h (by simp)).1; cases this; done)
    | (repeat' split at h) <;> first | (cases h; done) | (have := (sz1_eq h (by simp)).1; cases this)

theorem tk_struct {P : Program} {t : TypeId} {n : Nat} {offs : List (Option (Nat × Nat))} (h : tk P t = .struct n offs) :
    ∃ fs, P.underlying t = some (.struct fs) ∧ (∃ i, P.info? t = some i ∧ i.size = n) ∧ fs.size = offs.length ∧
      ∀ (f x y : Nat), offs[f]? = some (some (x, y)) → ∃ (fd : Field) (j : TypeInfo), fs[f]? = some fd ∧ fd.offset = x ∧ P.info? fd.type = some j ∧ j.size = y ∧ j.size ≠ 0 := by
  unfold tk at h
  split at h
  case h_6 fs hu =>
    split at h
    · next i hi =>
      cases h
      refine ⟨fs, hu, ⟨i, hi, rfl⟩, by simp, fun f x y hx => ?_⟩
      simp only [List.getElem?_map, Array.getElem?_toList, Option.map_eq_some_iff] at hx
      obtain ⟨fd, hfd, hx⟩ := hx
      split at hx
      · next j hj =>
        split at hx
        · cases hx
        · next hn => cases hx; exact ⟨fd, j, hfd, rfl, hj, rfl, hn⟩
      · cases hx
    · cases h
  all_goals first
    | (have := (sz1_eq h (by simp)).1; cases this; done)
    | (repeat' split at h) <;> first | (cases h; done) | (have := (sz1_eq h (by simp)).1; cases this)

/-- How many cells a type has, and whether it is a struct or an array. -/
def TK.cells : TK → Option (Bool × Nat)
  | .str | .bool | .leaf | .int _ | .slice _ _ => some (false, 1)
  | .arr _ _ _ n => some (true, n)
  | .struct n _ => some (true, n)
  | .other => none

theorem tk_cells {P : Program} {t : TypeId} {b : Bool} {n : Nat} (h : (tk P t).cells = some (b, n)) (w : World) :
    (isAgg t).run P w = .ok b w ∧ ∃ i, P.info? t = some i ∧ i.size = n := by
  cases hk : tk P t with
  | str => rw [hk] at h; cases h; obtain ⟨hu, hi⟩ := tk_str hk; exact ⟨by simp [isAgg, run_underlying hu], hi⟩
  | int k => rw [hk] at h; cases h; obtain ⟨hu, hi⟩ := tk_int hk; exact ⟨by simp [isAgg, run_underlying hu], hi⟩
  | slice e m => rw [hk] at h; cases h; obtain ⟨hu, _, hi⟩ := tk_slice hk; exact ⟨by simp [isAgg, run_underlying hu], hi⟩
  | arr m e s tot => rw [hk] at h; cases h; obtain ⟨hu, _, hi⟩ := tk_arr hk; exact ⟨by simp [isAgg, run_underlying hu], hi⟩
  | struct m offs => rw [hk] at h; cases h; obtain ⟨fs, hu, hi, _, _⟩ := tk_struct hk; exact ⟨by simp [isAgg, run_underlying hu], hi⟩
  | other => rw [hk] at h; cases h
  | bool =>
    rw [hk] at h; cases h
    unfold tk at hk
    split at hk <;> first
      | (next hu => exact ⟨by simp [isAgg, run_underlying hu], (sz1_eq hk (by simp)).2⟩)
      | (have := (sz1_eq hk (by simp)).1; cases this; done)
      | (repeat' split at hk) <;> first | (cases hk; done) | (have := (sz1_eq hk (by simp)).1; cases this)
  | leaf =>
    rw [hk] at h; cases h
    unfold tk at hk
    split at hk <;> first
      | (have := (sz1_eq hk (by simp)).1; cases this; done)
      | (next hu => exact ⟨by simp [isAgg, run_underlying hu], (sz1_eq hk (by simp)).2⟩)
      | (repeat' split at hk) <;> first | (cases hk; done) | (have := (sz1_eq hk (by simp)).1; cases this)


def tz (P : Program) (t : TypeId) : AV :=
  match P.info? t with
  | some i => match i.zero with
    | some v => ofV v
    | none => .top
  | none => .top

/-- The cells of a type's zero, slices in their common form. -/
def dzc (P : Program) : Nat → TypeId → List AV
  | 0, _ => []
  | d + 1, t => match P.underlying t with
    | some (.struct fs) => fs.toList.flatMap fun f => dzc P d f.type
    | some (.array n e) => (List.replicate n (dzc P d e)).flatten
    | some (.slice e) => [.sl (P.cellsOf e) []]
    | _ => (tz P t).cells

/-- What stands for an element where there is none. -/
def dz (P : Program) (t : TypeId) : AV :=
  match P.underlying t with
  | some (.struct _) => .agg (dzc P 5 t)
  | some (.array _ _) => .agg (dzc P 5 t)
  | some (.slice e) => .sl (P.cellsOf e) []
  | _ => tz P t

/-- Cells laid over others. -/
def lay (cs : List AV) (off : Nat) (vs : List AV) : List AV := cs.take off ++ vs ++ cs.drop (off + vs.length)

def AV.definite : AV → Bool
  | .top | .cond _ _ => false
  | _ => true

def buildL (places : List (Option (Nat × Nat))) : List (Nat × AV) → List AV → Option (List AV)
  | [], cs => some cs
  | (i, v) :: rest, cs => match places[i]? with
    | some (some (off, n)) => if v.cells.length = n ∧ off + n ≤ cs.length ∧ v.definite = true then buildL places rest (lay cs off v.cells) else none
    | _ => none

def arrPlaces (n sz : Nat) : List (Option (Nat × Nat)) := (List.range n).map fun i => some (i * sz, sz)

/-- min, max of integers. -/
def foldInts (f : Int → Int → Int) (k : IntKind) : Int → List AV → Option Int
  | a, [] => some a
  | a, .int k' b :: r => if k = k' then foldInts f k (f a b) r else none
  | _, _ => none

def binK (P : Program) (op : BinOp) (t : TypeId) (x y : AV) (K : AV → Prop) : Prop :=
  match x, y with
  | .int k a, .int k' b => if k = k' then intOp op k a b K else (match op with | .shl | .shr => intOp op k a b K | _ => False)
  | .str a, .str b => strOp op a b K
  | .bool a, .bool b => tk P t = .bool ∧ (match op with | .eql => K (.bool (a == b)) | .neq => K (.bool (!(a == b))) | _ => False)
  | .agg as, .agg bs => match tk P t, eqK P t with
    | .struct _ _, some ks => match cellsEq ks as bs with
      | some e => (match op with | .eql => K (.bool e) | .neq => K (.bool (!e)) | _ => False)
      | none => False
    | _, _ => False
  | _, _ => False

def sliceS (x : AV) (lo hi mx : Option AV) (K : AV → Prop) : Prop :=
  match x, lo, hi, mx with
  | .str s, none, none, none => K (.str s)
  | .str s, some (.int _ l), none, none => 0 ≤ l ∧ l ≤ s.length ∧ K (.str (s.drop l.toNat))
  | .str s, none, some (.int _ h), none => 0 ≤ h ∧ h ≤ s.length ∧ K (.str (s.take h.toNat))
  | .str s, some (.int _ l), some (.int _ h), none => 0 ≤ l ∧ l ≤ h ∧ h ≤ s.length ∧ K (.str (cutL s l.toNat h.toNat))
  | _, _, _, _ => False

def sliceL (sz : Nat) (x : AV) (lo hi mx : Option AV) (K : AV → Prop) : Prop :=
  match x, lo, hi, mx with
  | .sl z s, none, none, none => z = sz ∧ K (.sl z s)
  | .sl z s, some (.int _ l), none, none => z = sz ∧ 0 ≤ l ∧ l ≤ s.length ∧ K (.sl z (s.drop l.toNat))
  | .sl z s, none, some (.int _ h), none => z = sz ∧ 0 ≤ h ∧ h ≤ s.length ∧ K (.sl z (s.take h.toNat))
  | .sl z s, some (.int _ l), some (.int _ h), none => z = sz ∧ 0 ≤ l ∧ l ≤ h ∧ h ≤ s.length ∧ K (.sl z (cutL s l.toNat h.toNat))
  | .sl z s, none, some (.int _ h), some (.int _ m) => z = sz ∧ 0 ≤ h ∧ h = m ∧ h ≤ s.length ∧ K (.slc z (s.take h.toNat))
  | .slc z s, none, none, none => z = sz ∧ K (.slc z s)
  | .slc z s, some (.int _ l), none, none => z = sz ∧ 0 ≤ l ∧ l ≤ s.length ∧ K (.slc z (s.drop l.toNat))
  | .slc z s, none, some (.int _ h), none => z = sz ∧ 0 ≤ h ∧ h ≤ s.length ∧ K (.sl z (s.take h.toNat))
  | .slc z s, some (.int _ l), some (.int _ h), none => z = sz ∧ 0 ≤ l ∧ l ≤ h ∧ h ≤ s.length ∧ K (.sl z (cutL s l.toNat h.toNat))
  | .slc z s, none, some (.int _ h), some (.int _ m) => z = sz ∧ 0 ≤ h ∧ h = m ∧ h ≤ s.length ∧ K (.slc z (s.take h.toNat))
  | _, _, _, _ => False

def pureK (P : Program) (ev : AEnv) (o : Oper) (K : AV → Prop) : Prop :=
  match o.op with
  | .move x | .assign x => K (opnd ev x)
  | .pick c a b => match opnd ev c with
    | .bool c => K (if c then opnd ev a else opnd ev b)
    | _ => False
  | .unOp op _ x => match op, opnd ev x with
    | .not, .bool b => K (.bool (!b))
    | .neg, .int k n => K (.int k (k.wrap (0 - n)))
    | _, _ => False
  | .binOp op t x y _ => binK P op t (opnd ev x) (opnd ev y) K
  | .fieldAddr s x f => match tk P s, opnd ev x with
    | .struct _ offs, .ptr id sz len idx off => match offs[f]? with
      | some (some (o, _)) => K (.ptr id sz len idx (off + o))
      | _ => False
    | .struct _ offs, .rp cs => match offs[f]? with
      | some (some (o, _)) => K (.rp (cs.drop o))
      | _ => False
    | _, _ => False
  | .indexAddr t x i => match tk P t, opnd ev x, opnd ev i with
    | .slice e sz, .sl z vs, .int _ n => 0 ≤ n ∧ n.toNat < vs.length ∧ z = sz ∧ K (.rp (vs.getD n.toNat (dz P e)).cells)
    | .slice e sz, .slc z vs, .int _ n => 0 ≤ n ∧ n.toNat < vs.length ∧ z = sz ∧ K (.rp (vs.getD n.toNat (dz P e)).cells)
    | .slice _ sz, .own id sz' len, .int _ n => sz = sz' ∧ 0 ≤ n ∧ n < len ∧ K (.ptr id sz len n.toNat 0)
    | .arr m _ sz _, .ptr id z len idx off, .int _ n => 0 ≤ n ∧ n < m ∧ K (.ptr id z len idx (off + n.toNat * sz))
    | .arr m _ sz _, .rp cs, .int _ n => 0 ≤ n ∧ n < m ∧ K (.rp (cs.drop (n.toNat * sz)))
    | _, _, _ => False
  | .index t x i => match tk P t, opnd ev x, opnd ev i with
    | .str, .str s, .int _ n => 0 ≤ n ∧ n.toNat < s.length ∧ K (.int .u8 (s.getD n.toNat 0).toNat)
    | _, _, _ => False
  | .extract t ix => match opnd ev t with
    | .tuple vs => ∃ v, vs[ix]? = some v ∧ K v
    | _ => False
  | .build t parts => match tk P t, tz P t with
    | .struct n offs, .agg zs => zs.length = n ∧ offs.all Option.isSome = true ∧ ∃ cs, buildL offs (parts.toList.map fun p => (p.1, opnd ev p.2)) zs = some cs ∧ K (.agg cs)
    | .arr m _ sz _, .agg zs => zs.length = m * sz ∧ ∃ cs, buildL (arrPlaces m sz) (parts.toList.map fun p => (p.1, opnd ev p.2)) zs = some cs ∧ K (.agg cs)
    | _, _ => False
  | .slice t x lo hi mx => match tk P t with
    | .str => sliceS (opnd ev x) (lo.map (opnd ev)) (hi.map (opnd ev)) (mx.map (opnd ev)) K
    | .slice _ sz => sliceL sz (opnd ev x) (lo.map (opnd ev)) (hi.map (opnd ev)) (mx.map (opnd ev)) K
    | _ => False
  | .makeFunc fn first cap => match fn with
    | .func f => first = #[] ∧ K (.fn f (cap.toList.map (opnd ev)))
    | _ => False
  | .nilCheck x => match opnd ev x with
    | .ptr id sz len idx off => K (.ptr id sz len idx off)
    | .rp cs => K (.rp cs)
    | _ => False
  | .convert src dst x => match tk P dst, opnd ev x with
    | .int k, .int _ n => (tk P src ≠ .other) ∧ K (.int k (k.wrap n))
    | .str, .str s => (tk P src ≠ .other) ∧ K (.str s)
    | _, _ => False
  | .call { callee := .builtin b, args, argTypes } => match b with
    | .len => match args.toList, argTypes.toList with
      | [x], [t] => match tk P t, opnd ev x with
        | .str, .str s => K (.int .i64 s.length)
        | .slice _ _, y => ∃ n, slen y = some n ∧ K (.int .i64 n)
        | .arr n _ _ _, _ => K (.int .i64 n)
        | _, _ => False
      | _, _ => False
    | .min => match args.toList.map (opnd ev) with
      | .int k a :: r => ∃ n, foldInts min k a r = some n ∧ K (.int k n)
      | _ => False
    | .max => match args.toList.map (opnd ev) with
      | .int k a :: r => ∃ n, foldInts max k a r = some n ∧ K (.int k n)
      | _ => False
    | _ => False
  | _ => False

end Go.Pg
