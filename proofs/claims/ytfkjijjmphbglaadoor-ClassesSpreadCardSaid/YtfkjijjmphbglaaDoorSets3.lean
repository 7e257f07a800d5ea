/- (Set).Spans. Condition: the table of TrailingZeros64 reads as laid. -/
import Derived.Test.YtfkjijjmphbglaaDoorSets1
import Derived.Test.YtfkjijjmphbglaaDoorSetsSp
namespace Go.Proofs.YtfkjijjmphbglaaDoor
open Go Go.RowKit Go.Shelf Kt
namespace St
open Mk
attribute [local go_sem] Oper.semAt_some
def brow (acc : List (Nat × Nat)) : List Value := acc.flatMap fun p => [.int .u8 ((p.1 : Nat) : Int), .int .u8 ((p.2 : Nat) : Int)]
theorem brow_snoc (q : List (Nat × Nat)) (lo hi : Nat) : brow (q ++ [(lo, hi)]) = brow q ++ [.int .u8 (lo : Int), .int .u8 (hi : Int)] := by simp [brow]
theorem brow_len (q : List (Nat × Nat)) : (brow q).length = q.length * 2 := by
  induction q with
  | nil => rfl
  | cons p q ih =>
    have e : brow (p :: q) = [.int .u8 ((p.1 : Nat) : Int), .int .u8 ((p.2 : Nat) : Int)] ++ brow q := by simp [brow]
    rw [e, List.length_append, ih, List.length_cons]
    simp
    omega

theorem cell_two_new (W : World) (a b : Value) (t : TypeId) : ∀ j u, [a, b][j]? = some u → (W.alloc (.cells #[a, b] t)).cell? ((⟨W.heap.size, 0, none⟩ : Addr).add j) = some u := by
  intro j u hj
  match j, hj with
  | 0, hj =>
    simp at hj
    subst hj
    simp [Addr.add]
  | 1, hj =>
    simp at hj
    subst hj
    simp [Addr.add]

end St
end Go.Proofs.YtfkjijjmphbglaaDoor
