/- Integer operations of the walk on values written as UInt8 and UInt32: each is the machine operation of Lean's own type. No condition. -/
import Derived.WalkKit
namespace Go.Proofs.YtjohljpcoodijaaDoor
open Go
namespace U32

theorem ofInt_nat (n : Nat) (x : Nat) : BitVec.ofInt n (x : Int) = BitVec.ofNat n x := by
  apply BitVec.eq_of_toNat_eq
  simp

theorem wrap_u32 (x : UInt32) : IntKind.u32.wrap (x.toNat : Int) = x.toNat := by
  have := x.toNat_lt
  simp [IntKind.wrap, IntKind.bits, IntKind.signed]; omega

/-- Lean's own operations behind names that simp does not open. -/
def xr (x y : UInt32) : UInt32 := x ^^^ y
def nt (x : UInt32) : UInt32 := ~~~x
def sh4 (x : UInt32) : UInt32 := x >>> 4
def lo4 (x : UInt32) : Nat := x.toNat % 16
def ofI (n : Int) : UInt32 := UInt32.ofInt n
def up (c : UInt8) : UInt32 := ofI (c.toNat : Int)
theorem up_eq (c : UInt8) : up c = c.toUInt32 := by
  have := c.toNat_lt
  apply UInt32.toNat_inj.1
  simp [up, ofI, UInt32.ofInt]
  omega
theorem lo4_lt (x : UInt32) : lo4 x < 16 := Nat.mod_lt _ (by decide)
theorem lo4_lti (x : UInt32) : ((lo4 x : Nat) : Int) < 16 := by have := lo4_lt x; omega

theorem ofI_toNat (x : UInt32) : ofI (x.toNat : Int) = x := by
  have := x.toNat_lt
  apply UInt32.toNat_inj.1
  simp [ofI, UInt32.ofInt]
  omega
theorem ofI_sub (x : UInt32) : ofI (4294967295 - (x.toNat : Int)) = nt x := by
  have := x.toNat_lt
  apply UInt32.toNat_inj.1
  simp [ofI, UInt32.ofInt, nt]
  omega
theorem sub_mod (x : UInt32) : (4294967295 - (x.toNat : Int)) % 4294967296 = ((nt x).toNat : Int) := by
  have := x.toNat_lt
  simp [nt]
  omega
theorem sub_wrap (x : UInt32) : IntKind.u32.wrap (4294967295 - (x.toNat : Int)) = ((nt x).toNat : Int) := by
  rw [IntKind.wrap_u32', sub_mod]
theorem nt_nt (x : UInt32) : nt (nt x) = x := by simp [nt]
def shv (x : UInt32) (i : Nat) : UInt32 := UInt32.ofNat (x.toNat / 2 ^ min i 32)
theorem shv_u32 (x : UInt32) (i : Nat) : (x.toNat : Int) / 2 ^ min ((i : Int).toNat) 32 = ((shv x i).toNat : Int) := by
  have h := x.toNat_lt
  have : x.toNat / 2 ^ min i 32 < 4294967296 := Nat.lt_of_le_of_lt (Nat.div_le_self _ _) h
  simp only [shv, UInt32.toNat_ofNat', Int.toNat_natCast]
  rw [Nat.mod_eq_of_lt this]
  push_cast
  rfl
theorem xor_u32 (x y : UInt32) : bits .xor .u32 (x.toNat : Int) (y.toNat : Int) = ((xr x y).toNat : Int) := by
  rw [u32_xor_nat _ _ x.toNat_lt y.toNat_lt]; rfl
theorem and15_u32 (x : UInt32) : bits .and .u32 (x.toNat : Int) 15 = ((lo4 x : Nat) : Int) := by
  have h := u32_and_nat x.toNat 15 x.toNat_lt (by decide)
  rw [show ((15 : Nat) : Int) = 15 from rfl] at h
  rw [h, nat_mask4]
  rfl
theorem not_u32 (x : UInt32) : bits .xor .u32 IntKind.u32.max (x.toNat : Int) = ((nt x).toNat : Int) := by
  have e : IntKind.u32.max = ((4294967295 : UInt32).toNat : Int) := by decide
  rw [e, xor_u32]
  unfold xr nt
  congr 2
theorem shr4_u32 (x : UInt32) : (x.toNat : Int) / 2 ^ min (4 : Int).toNat 32 = ((sh4 x).toNat : Int) := by
  simp [sh4, UInt32.toNat_shiftRight, Nat.shiftRight_eq_div_pow]
theorem shr4_u32' (x : UInt32) : (x.toNat : Int) / 16 = ((sh4 x).toNat : Int) := by
  simp [sh4, UInt32.toNat_shiftRight, Nat.shiftRight_eq_div_pow]
theorem conv_i64_u32 (n : Int) : n % 4294967296 = ((ofI n).toNat : Int) := by
  simp [ofI, UInt32.ofInt]
  omega
theorem wrap64_u32 (x : UInt32) : Go.RowKit.wrap64 (x.toNat : Int) = x.toNat := by
  have := x.toNat_lt
  exact IntWalk.wrap64_in _ (by omega)
attribute [go_sem] ofI_toNat ofI_sub sub_mod sub_wrap shv_u32 wrap64_u32 xor_u32 and15_u32 not_u32 shr4_u32 shr4_u32' conv_i64_u32
end U32
end Go.Proofs.YtjohljpcoodijaaDoor
