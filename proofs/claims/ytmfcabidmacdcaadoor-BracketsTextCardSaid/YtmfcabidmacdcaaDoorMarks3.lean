/- The walks of package marks: List, Key, Same. -/
import Derived.Test.YtmfcabidmacdcaaDoorMarks2
import Derived.Test.YtmfcabidmacdcaaDoorEqI
import Derived.Test.YtmfcabidmacdcaaDoorEl8
namespace Go.Proofs.YtmfcabidmacdcaaDoor
open Go Go.RowKit Kt
namespace Mk
variable {w w' : World} {p b n : Nat} {ws : List Nat}
theorem elI : El Tryd.prog 67 3 (.int .i64 0) 1 8 := ⟨Tryd.underlying67, info_parts (by kernel_rfl), rfl, by decide⟩
def ints (l : List Nat) : List Int := l.map fun (m : Nat) => (m : Int)
theorem ints_len (l : List Nat) : (ints l).length = l.length := by simp [ints]
theorem ints_inj {a b : List Nat} (h : ints a = ints b) : a = b := by
  induction a generalizing b with
  | nil => cases b <;> simp [ints] at h ⊢
  | cons x a ih =>
    cases b with
    | nil => simp [ints] at h
    | cons y b =>
      simp only [ints, List.map_cons, List.cons.injEq] at h
      rw [ih h.2, show x = y by omega]

/-- The loop of List. -/
def LiR (w : World) (ws : List Nat) (o i : Value) (W : World) : Prop := ∃ j r a c k, j ≤ 64 * ws.length ∧ i = .int .i64 r ∧ Nx ws j r ∧ ((List.range j).filter (has ws)).length = k ∧ o = .slice a k c ∧ W.ownsRow w.heap.size 3 1 (.slice a k c) k (i64s (ints ((List.range j).filter (has ws)))) ∧ Below w.heap.size w W

/-- The loop of Key. -/
def KeR (w : World) (l : List Nat) (o i : Value) (W : World) : Prop := ∃ k a c, k ≤ l.length ∧ i = .int .i64 (k : Int) ∧ o = .slice a (4 * k) c ∧ W.ownsRow w.heap.size 5 1 (.slice a (4 * k) c) (4 * k) (u8s (keyOf (l.take k))) ∧ Below w.heap.size w W
theorem four_cells (m : Nat) (_hm : m < 4294967296) : ∃ c1 c2 c3 c4 : UInt8, four m = [c1, c2, c3, c4] ∧ (m : Int) / 16777216 % 256 = (c1.toNat : Int) ∧ (m : Int) / 65536 % 256 = (c2.toNat : Int) ∧ (m : Int) / 256 % 256 = (c3.toNat : Int) ∧ (m : Int) % 256 = (c4.toNat : Int) := by
  refine ⟨_, _, _, _, rfl, ?_, ?_, ?_, ?_⟩ <;> simp <;> omega

end Mk
end Go.Proofs.YtmfcabidmacdcaaDoor
