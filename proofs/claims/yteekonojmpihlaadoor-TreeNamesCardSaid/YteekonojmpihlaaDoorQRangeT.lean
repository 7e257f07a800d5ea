/- A range over an iterator that keeps a count in a block of its own: the iterator's word (SeqT), the statement's law (wp_rangeT). Over any program. -/
import Derived.Test.YteekonojmpihlaaDoorQMod
import Derived.RangeFuncNested
import Derived.RangeFuncBound
import Derived.RangeFuncCalls
namespace Go.Proofs.YteekonojmpihlaaDoor
open Go Go.RowKit
namespace Kt
/-- The iterator's word: whatever J says between two rounds, if it bears what the iterator does to blocks of its own (T) and whatever new ones it takes to them, and each round keeps those blocks and all below n₀: all of xs comes, or a round has said 'no more' behind a part of it. -/
def SeqT {α : Type} (n : Nat) (P : Program) (gf : Nat) (lb : Array Value) (encs : α → Array Value) (n₀ : Nat) (xs : List α) (w0 : World) : Prop :=
  ∀ (l : Nat) (J Jx : List Nat → List α → World → Prop) (W : World), Below w0.heap.size w0 W →
    (∀ T T' pre A A', J T pre A → Mod T A A' → (∀ b ∈ T', b ∈ T ∨ A.heap.size ≤ b) → J T' pre A') →
    (∀ T T' pre A A', Jx T pre A → Mod T A A' → (∀ b ∈ T', b ∈ T ∨ A.heap.size ≤ b) → Jx T' pre A') →
    J [] [] W →
    (∀ T pre x A, J T pre A → (∀ t ∈ T, W.heap.size ≤ t ∧ t < A.heap.size) → pre ++ [x] <+: xs → YieldAt Fence.wide (n - 1) P l (encs x) A fun e A' =>
      (e = .returned (.bool true) ∧ J T (pre ++ [x]) A' ∧ A.heap.size ≤ A'.heap.size ∧ (∀ t ∈ T, A'.heap[t]? = A.heap[t]?) ∧ Below n₀ A A') ∨ (e = .returned (.bool false) ∧ Jx T (pre ++ [x]) A')) →
    CallsIn Fence.wide n P gf (#[.func (.yield l) #[] #[]] ++ lb) W fun e W' => (∃ v, e = .returned v) ∧ (J [] xs W' ∨ (∃ pre, pre <+: xs ∧ Jx [] pre W'))
/-- How a round's body may be left. -/
def postT {α : Type} (T : List Nat) (n₀ : Nat) (I : List α → World → Prop) (Ix : Code → List α → World → Prop) (xs : List α) (W : World) : Exit → Act → World → Prop
  | .normal, _, W' => (W.heap.size ≤ W'.heap.size ∧ ∀ t ∈ T, W'.heap[t]? = W.heap[t]?) ∧ Below n₀ W W' ∧ I xs W'
  | .ret, _, W' => (W.heap.size ≤ W'.heap.size ∧ ∀ t ∈ T, W'.heap[t]? = W.heap[t]?) ∧ Ix .ret xs W'
  | .exit id, _, W' => (W.heap.size ≤ W'.heap.size ∧ ∀ t ∈ T, W'.heap[t]? = W.heap[t]?) ∧ Ix (.exit id) xs W'
  | .goto t, _, W' => (W.heap.size ≤ W'.heap.size ∧ ∀ t ∈ T, W'.heap[t]? = W.heap[t]?) ∧ Ix (.goto t) xs W'
  | .panic _, _, _ => False
  | .outgrown, _, _ => False
theorem putObj_mod {W : World} {k : Nat} {T : List Nat} (o : Obj) (hk : k ∈ T) : Mod T W (W.putObj k o) := by
  have hg := grownBy_putObj' W k o
  exact ⟨hg.os, hg.tape, hg.output, hg.size, fun j hj hn => hg.block j hj (fun e => hn (by cases e; exact hk))⟩
theorem below_put {W : World} {k n₀ : Nat} (o : Obj) (hk : n₀ ≤ k) (hlt : k < W.heap.size) : Below n₀ W (W.putObj k o) :=
  (Below.refl n₀ W).grown (grownBy_putObj' W k o) (by omega) (fun j e => by cases e; exact hk)
end Kt
end Go.Proofs.YteekonojmpihlaaDoor
