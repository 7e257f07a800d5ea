/- math/bits.OnesCount64 and TrailingZeros64. Condition of the latter, at a number that is not 0: its table reads as laid. -/
import Derived.Test.YtpjimmdpcpcmoaaDoorQBitsPure
import Derived.Test.YtpjimmdpcpcmoaaDoorQLib
import Derived.Test.YtpjimmdpcpcmoaaDoorQMod
import Derived.Test.YtpjimmdpcpcmoaaDoorRows
import Derived.Laws.Bits64b
import Derived.Lib.TrailingZeros
namespace Go.Proofs.YtpjimmdpcpcmoaaDoor
open Go Go.RowKit Kt
namespace Bt
theorem and64 (X M : Int) (x m r : Nat) (hX : X = (x : Int)) (hM : M = (m : Int)) (hx : x < 18446744073709551616) (hm : m < 18446744073709551616) (hr : x &&& m = r) : bits .and .u64 X M = (r : Int) := by
  subst hX hM hr
  exact bits_and_u64_nat x m hx hm
theorem and127 (u : Nat) (hu : u < 9223372036854775808) : bits .and .i64 (u : Int) 127 = ((u % 128 : Nat) : Int) := by
  have h1 : (BitVec.ofInt 64 (u : Int)).toNat = u := by
    rw [BitVec.ofInt_natCast, BitVec.toNat_ofNat]; exact Nat.mod_eq_of_lt (by omega)
  have h2 : (BitVec.ofInt 64 (127 : Int)).toNat = 127 := by decide
  show IntKind.i64.wrap ((BitVec.ofInt 64 (u : Int) &&& BitVec.ofInt 64 127).toNat : Int) = _
  rw [BitVec.toNat_and, h1, h2, show (127 : Nat) = 2 ^ 7 - 1 by decide, Nat.and_two_pow_sub_one_eq_mod, IntKind.wrap_i64]
  omega
theorem and_last (U : Int) (u r : Nat) (hU : U = (u : Int)) (hu : u < 9223372036854775808) (hr : u % 128 = r) : bits .and .i64 U 127 = (r : Int) := by
  subst hU hr
  exact and127 u hu
set_option maxHeartbeats 1000000 in
set_option maxRecDepth 100000 in
theorem ones_c (x : Nat) (hx : x < 18446744073709551616) (w : World) : Calls Tryd.prog 75 #[.int .u64 (x : Int)] w fun e w' => e = .returned (.int .i64 (pc 64 x : Nat)) ∧ w = w' := by
  obtain ⟨h1, h2, h3, h4⟩ := ones x hx _ _ _ rfl rfl rfl
  have g1 := @Nat.and_le_right (x / 2) 6148914691236517205
  have g2 := @Nat.and_le_right x 6148914691236517205
  have f1 := and64 ((x : Int) / 2) 6148914691236517205 (x / 2) 6148914691236517205 _ (by omega) rfl (by omega) (by omega) rfl
  have f2 := and64 (x : Int) 6148914691236517205 x 6148914691236517205 _ rfl rfl hx (by omega) rfl
  generalize (x / 2 &&& 6148914691236517205) = p1 at *
  generalize (x &&& 6148914691236517205) = p2 at *
  have g3 := @Nat.and_le_right ((p1 + p2) / 4) 3689348814741910323
  have g4 := @Nat.and_le_right (p1 + p2) 3689348814741910323
  have f3 := and64 (((p1 : Int) + p2) / 4) 3689348814741910323 ((p1 + p2) / 4) 3689348814741910323 _ (by omega) rfl (by omega) (by omega) rfl
  have f4 := and64 ((p1 : Int) + p2) 3689348814741910323 (p1 + p2) 3689348814741910323 _ (by omega) rfl (by omega) (by omega) rfl
  generalize ((p1 + p2) / 4 &&& 3689348814741910323) = q1 at *
  generalize (p1 + p2 &&& 3689348814741910323) = q2 at *
  have f5 := and64 (((q1 : Int) + q2) / 16 + ((q1 : Int) + q2)) 1085102592571150095 ((q1 + q2) / 16 + (q1 + q2)) 1085102592571150095 _ (by omega) rfl (by omega) (by omega) rfl
  generalize ((q1 + q2) / 16 + (q1 + q2) &&& 1085102592571150095) = y at *
  generalize pc 64 x = r at *
  have hl := and_last ((y : Int) + (y : Int) / 256 + ((y : Int) + (y : Int) / 256) / 65536 + ((y : Int) + (y : Int) / 256 + ((y : Int) + (y : Int) / 256) / 65536) / 4294967296) _ r (by omega) (by omega) h4
  clear h4
  go_enter Tryd.func75, Tryd.ntmps75
  go_wp2
  go_ret
  exact ⟨rfl, rfl⟩
/-- The table of TrailingZeros64 in its variable. -/
def Tab (w : World) : Prop := ∀ j, j < Lib.deBruijn64tab.length → w.cell? ⟨18, j, none⟩ = some (.int .u8 (Lib.deBruijn64tab.getD j 0 : Nat))
theorem Tab.below {w w' : World} (h : Tab w) (hb : Below w.heap.size w w') : Tab w' := fun j hj => by
  have := h j hj
  rw [hb.cell (p := ⟨18, j, none⟩) (lt_of_cell this)]
  exact this
theorem neg_wrap (x : Nat) (hx : x < 18446744073709551616) (hx0 : x ≠ 0) : IntKind.u64.wrap (-(x : Int)) = ((18446744073709551616 - x : Nat) : Int) := by rw [IntKind.wrap_u64]; omega
theorem mul_wrap (a : Nat) : IntKind.u64.wrap ((a : Int) * 285870213051353865) / 288230376151711744 = ((a * 285870213051353865 % 18446744073709551616 / 288230376151711744 : Nat) : Int) := by
  rw [IntKind.wrap_u64]
  rw [Int.natCast_ediv, Int.natCast_emod, Int.natCast_mul]
  rfl
theorem sub_lt (x M : Nat) (hx0 : x ≠ 0) (hx : x < M) : M - x < M := by omega
theorem key (x a m : Nat) (hx : x < 18446744073709551616) (hx0 : x ≠ 0) (hm : 18446744073709551616 - x = m) (hlow : x &&& m = a) :
    IntKind.u64.wrap (bits BinOp.and IntKind.u64 (x : Int) (IntKind.u64.wrap (-(x : Int))) * 285870213051353865) / 288230376151711744 = ((a * 285870213051353865 % 18446744073709551616 / 288230376151711744 : Nat) : Int) := by
  have h1 := neg_wrap x hx hx0
  have h2 := sub_lt x 18446744073709551616 hx0 hx
  rw [hm] at h1 h2
  rw [h1, bits_and_u64_nat x m hx h2, hlow]
  exact mul_wrap a
set_option maxHeartbeats 1000000 in
set_option maxRecDepth 100000 in
theorem ctz_core (x k idx : Nat) (w : World) (hx0 : ((x : Int) == 0) = false)
    (hkey : IntKind.u64.wrap (bits BinOp.and IntKind.u64 (x : Int) (IntKind.u64.wrap (-(x : Int))) * 285870213051353865) / 288230376151711744 = (idx : Int))
    (hi : idx < 64) (hk : k < 64) (hcell : w.cell? ⟨18, idx, none⟩ = some (.int .u8 (k : Int))) :
    Calls Tryd.prog 70 #[.int .u64 (x : Int)] w fun e w' => e = .returned (.int .i64 (k : Int)) ∧ w = w' := by
  go_enter Tryd.func70, Tryd.ntmps70
  go_wp2_with (simp only [hkey])
  go_ret
  exact ⟨rfl, rfl⟩
theorem ctz_c (x : Nat) (hx : x < 18446744073709551616) (hx0 : x ≠ 0) (w : World) (hT : Tab w) : Calls Tryd.prog 70 #[.int .u64 (x : Int)] w fun e w' => e = .returned (.int .i64 (Lib.ctz 64 x : Nat)) ∧ w = w' := by
  obtain ⟨hlow, hk⟩ := Lib.lowest_bit 64 x hx0 hx
  obtain ⟨hi, htab⟩ := Lib.deBruijn64_at _ hk
  have hcell := hT _ hi
  rw [htab] at hcell
  exact ctz_core x _ _ w (by simp; omega) (key x _ _ hx hx0 rfl hlow) hi hk hcell
end Bt
end Go.Proofs.YtpjimmdpcpcmoaaDoor
