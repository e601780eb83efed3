/- Pg: iterators: functions that hand a yield's values one after the other. -/
import Derived.Test.YtddkekepoimcpaaGreatDoorPgCut
import Derived.RangeFuncSeq
import Derived.Below
set_option linter.unusedVariables false
set_option linter.unusedSimpArgs false
namespace Go.Pg
open Go Go.RowKit

/-- A step that changes nothing of what was there but the blocks of `S`. -/
structure OwnStep (S : Nat → Prop) (A B : World) : Prop where
  os : B.os = A.os
  tape : B.tape = A.tape
  output : B.output = A.output
  size : A.heap.size ≤ B.heap.size
  keep : ∀ b, b < A.heap.size → ¬ S b → B.heap[b]? = A.heap[b]?
  shape : ∀ (b : Nat) (c : Array Value) (ty : TypeId) (fz : Nat × Nat), A.heap[b]? = some (.cells c ty fz) → ∃ c', B.heap[b]? = some (.cells c' ty fz) ∧ c'.size = c.size

/-- What one has, and what one has laid. -/
def grow (S : Nat → Prop) (A B : World) : Nat → Prop := fun b => S b ∨ (A.heap.size ≤ b ∧ b < B.heap.size)

/-- What an iterator may tell: from one state of the telling to the next; when all has been told. -/
structure Tell where
  ι : Type
  i0 : ι
  R : ι → List AV → ι → Prop
  D : ι → Prop

/-- One after the other, in a list's order. -/
def seqR (xs : List (List AV)) : Nat → List AV → Nat → Prop := fun k x k' => xs[k]? = some x ∧ k' = k + 1
def Tell.seq (xs : List (List AV)) : Tell := ⟨Nat, 0, seqR xs, fun k => k = xs.length⟩

def TellsV (W : World) (st : Nat → Prop) (x : List AV) (v : Array Value) : Prop := v.size = x.length ∧ ∀ (j : Nat) c, x[j]? = some c → VP W st c (v.getD j Go.undef)

/-- An iterator, called with a yield of any loop: its values come one after the other, till all have come or the loop has said that it is enough. What it has laid (`S`) the rounds leave alone. -/
def IterW (P : Program) (g : FuncId) (lb : Array Value) (X : Tell) (st : Nat → Prop) (w : World) : Prop :=
  ∀ (l : Nat) (J Jx : X.ι → (Nat → Prop) → World → Prop) (W : World), Below w.heap.size w W →
    (∀ k S A B, J k S A → OwnStep S A B → J k (grow S A B) B) → (∀ k S A B, Jx k S A → OwnStep S A B → Jx k (grow S A B) B) →
    (∀ k S A, J k S A → ∀ b, st b → A.heap[b]? = W.heap[b]?) → (∀ k S A, Jx k S A → ∀ b, st b → A.heap[b]? = W.heap[b]?) →
    (∀ (n : Nat) i i' x S A v, X.R i x i' → TellsV w st x v → (∀ b, S b → W.heap.size ≤ b ∧ b < A.heap.size) → J i S A → YieldAt Fence.wide n P l v A fun e B => (A.heap.size ≤ B.heap.size ∧ ∀ b, S b → B.heap[b]? = A.heap[b]?) ∧
      ((e = .returned (.bool true) ∧ J i' S B) ∨ (e = .returned (.bool false) ∧ Jx i' S B))) →
    J X.i0 (fun _ => False) W →
    Calls P g (#[.func (.yield l) #[] #[]] ++ lb) W fun e B => (∃ v, e = .returned v) ∧ ((∃ i S, X.D i ∧ J i S B) ∨ ∃ i S, Jx i S B)

/-- An iterator of a function `g`, whose closure holds what stands for `caps`: it tells what stands for `X`. -/
def ItR (P : Program) (g : FuncId) (caps : List AV) (X : Tell) : Prop :=
  ∀ (W : World) (st : Nat → Prop) (lb : Array Value), (∀ b, st b → b < W.heap.size) → lb.size = caps.length → (∀ (i : Nat) c, caps[i]? = some c → VP W st c (lb.getD i Go.undef)) → IterW P g lb X st W
end Go.Pg
