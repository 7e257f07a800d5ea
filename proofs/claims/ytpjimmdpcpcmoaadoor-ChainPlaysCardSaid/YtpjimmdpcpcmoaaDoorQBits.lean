import Derived.WalkKit
import Derived.Test.YtpjimmdpcpcmoaaDoorQLib
import Derived.Test.YtpjimmdpcpcmoaaDoorQMod
import Derived.Test.YtpjimmdpcpcmoaaDoorRows
import Derived.Laws.Bits64b
import Derived.Lib.TrailingZeros
/- math/bits.OnesCount64 and TrailingZeros64. Condition of the latter, at a number that is not 0: its table reads as laid. -/
namespace Go.Proofs.YtpjimmdpcpcmoaaDoor
open Go Go.RowKit Kt
namespace Bt
/-- The table of TrailingZeros64 in its variable. -/
def Tab (w : World) : Prop := ∀ j, j < Lib.deBruijn64tab.length → w.cell? ⟨18, j, none⟩ = some (.int .u8 (Lib.deBruijn64tab.getD j 0 : Nat))
theorem Tab.below {w w' : World} (h : Tab w) (hb : Below w.heap.size w w') : Tab w' := fun j hj => by
  have := h j hj
  rw [hb.cell (p := ⟨18, j, none⟩) (lt_of_cell this)]
  exact this
theorem neg_wrap (x : Nat) (hx : x < 18446744073709551616) (hx0 : x ≠ 0) : IntKind.u64.wrap (-(x : Int)) = ((18446744073709551616 - x : Nat) : Int) := by rw [IntKind.wrap_u64]; omega
theorem mul_wrap (a : Nat) : IntKind.u64.wrap ((a : Int) * 285870213051353865) / 288230376151711744 = ((a * 285870213051353865 % 18446744073709551616 / 288230376151711744 : Nat) : Int) := by
  rw [IntKind.wrap_u64]
  rw [Int.natCast_ediv, Int.natCast_emod, Int.natCast_mul]
  rfl
theorem sub_lt (x M : Nat) (hx0 : x ≠ 0) (hx : x < M) : M - x < M := by omega
theorem key (x a m : Nat) (hx : x < 18446744073709551616) (hx0 : x ≠ 0) (hm : 18446744073709551616 - x = m) (hlow : x &&& m = a) :
    IntKind.u64.wrap (bits BinOp.and IntKind.u64 (x : Int) (IntKind.u64.wrap (-(x : Int))) * 285870213051353865) / 288230376151711744 = ((a * 285870213051353865 % 18446744073709551616 / 288230376151711744 : Nat) : Int) := by
  have h1 := neg_wrap x hx hx0
  have h2 := sub_lt x 18446744073709551616 hx0 hx
  rw [hm] at h1 h2
  rw [h1, bits_and_u64_nat x m hx h2, hlow]
  exact mul_wrap a
set_option maxHeartbeats 1000000 in
set_option maxRecDepth 100000 in
theorem ctz_core (x k idx : Nat) (w : World) (hx0 : ((x : Int) == 0) = false)
    (hkey : IntKind.u64.wrap (bits BinOp.and IntKind.u64 (x : Int) (IntKind.u64.wrap (-(x : Int))) * 285870213051353865) / 288230376151711744 = (idx : Int))
    (hi : idx < 64) (hk : k < 64) (hcell : w.cell? ⟨18, idx, none⟩ = some (.int .u8 (k : Int))) :
    Calls Tryd.prog 70 #[.int .u64 (x : Int)] w fun e w' => e = .returned (.int .i64 (k : Int)) ∧ w = w' := by
  go_enter Tryd.func70, Tryd.ntmps70
  go_wp2_with (simp only [hkey])
  go_ret
  exact ⟨rfl, rfl⟩
theorem ctz_c (x : Nat) (hx : x < 18446744073709551616) (hx0 : x ≠ 0) (w : World) (hT : Tab w) : Calls Tryd.prog 70 #[.int .u64 (x : Int)] w fun e w' => e = .returned (.int .i64 (Lib.ctz 64 x : Nat)) ∧ w = w' := by
  obtain ⟨hlow, hk⟩ := Lib.lowest_bit 64 x hx0 hx
  obtain ⟨hi, htab⟩ := Lib.deBruijn64_at _ hk
  have hcell := hT _ hi
  rw [htab] at hcell
  exact ctz_core x _ _ w (by simp; omega) (key x _ _ hx hx0 rfl hlow) hi hk hcell
end Bt
end Go.Proofs.YtpjimmdpcpcmoaaDoor
