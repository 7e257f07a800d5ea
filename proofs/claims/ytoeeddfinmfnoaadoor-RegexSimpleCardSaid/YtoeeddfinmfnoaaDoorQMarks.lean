import Derived.Test.YtoeeddfinmfnoaaDoorQSetsIs
import Derived.Test.YtoeeddfinmfnoaaDoorQBits
/- The walks of package marks. -/
namespace Go.Proofs.YtoeeddfinmfnoaaDoor
namespace Kt
end Kt
open Go Go.RowKit Kt
namespace Mk
def vals (ws : List Nat) : List Value := ws.map fun (x : Nat) => .int .u64 (x : Int)
/-- A set at block p, its words at block b; n: its bound. -/
structure Is (w : World) (p b n : Nat) (ws : List Nat) : Prop where
  hp : ∃ cap, w.heap[p]? = some (.cells #[.slice (some ⟨b, 0, none⟩) ws.length cap, .int .i64 (n : Int)] 154 (0, 0))
  hb : ∃ rest, w.heap[b]? = some (.cells (vals ws ++ rest).toArray 22 (0, 0))
  ne : b ≠ p
  lt : ∀ x ∈ ws, x < 18446744073709551616
  fit : n ≤ 64 * ws.length ∧ ws.length ≤ 1024 ∧ 64 * ws.length ≤ n + 63
  clear : ∀ m, n ≤ m → has ws m = false
variable {w w' : World} {p b n : Nat} {ws : List Nat}
theorem Is.below (h : Is w p b n ws) (hb : Below w.heap.size w w') : Is w' p b n ws := by
  obtain ⟨cap, h1⟩ := h.hp
  obtain ⟨rest, h2⟩ := h.hb
  exact ⟨⟨cap, by rw [hb.block p (block_lt h1)]; exact h1⟩, ⟨rest, by rw [hb.block b (block_lt h2)]; exact h2⟩, h.ne, h.lt, h.fit, h.clear⟩
theorem wrap_pow {t m : Nat} (ht : t < 64) (hm : 2 ^ t = m) : IntKind.u64.wrap ((2 : Int) ^ t) = (m : Int) := by
  have h1 : (2 : Nat) ^ t < 2 ^ 64 := Nat.pow_lt_pow_right (by decide) ht
  have h2 : ((2 : Int) ^ t) = ((2 ^ t : Nat) : Int) := by rw [Int.natCast_pow]; rfl
  rw [h2, hm, IntKind.wrap_u64]
  rw [hm] at h1
  omega
end Mk
end Go.Proofs.YtoeeddfinmfnoaaDoor
