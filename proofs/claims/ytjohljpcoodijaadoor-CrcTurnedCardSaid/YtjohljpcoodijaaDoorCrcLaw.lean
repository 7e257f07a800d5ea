/- The plain law of the check sums: the table's two steps for a byte equal eight steps bit by bit. No program is in sight. -/
import Derived.Test.YtjohljpcoodijaaDoorU32
namespace Go.Proofs.YtjohljpcoodijaaDoor
open U32
namespace Crc

def tab : List UInt32 := [0x00000000, 0x1db71064, 0x3b6e20c8, 0x26d930ac, 0x76dc4190, 0x6b6b51f4, 0x4db26158, 0x5005713c, 0xedb88320, 0xf00f9344, 0xd6d6a3e8, 0xcb61b38c, 0x9b64c2b0, 0x86d3d2d4, 0xa00ae278, 0xbdbdf21c]
def at4 (x : UInt32) : UInt32 := tab.getD (lo4 x) 0
def half (x : UInt32) : UInt32 := xr (at4 x) (sh4 x)
def byte (x : UInt32) (c : UInt8) : UInt32 := half (half (xr x (up c)))
/-- The program's own steps, from a state on. -/
def run (x : UInt32) (l : List UInt8) : UInt32 := l.foldl byte x
def more (s : UInt32) (l : List UInt8) : UInt32 := nt (run (nt s) l)

def poly : UInt32 := 0xedb88320
/-- One bit of the reference. -/
def bit (x : UInt32) (c : UInt8) (i : Nat) : UInt32 := if (x.toNat ^^^ (c.toNat / 2 ^ i)) % 2 = 1 then (x / 2) ^^^ poly else x / 2
def bits8 (x : UInt32) (c : UInt8) : Nat → UInt32
  | 0 => x
  | i + 1 => bit (bits8 x c i) c i
def refRun (x : UInt32) (l : List UInt8) : UInt32 := l.foldl (fun x c => bits8 x c 8) x

def st (x : BitVec 32) : BitVec 32 := (x >>> 1) ^^^ (if x.getLsbD 0 then 0xedb88320#32 else 0#32)

theorem st_xor (a b : BitVec 32) : st (a ^^^ b) = st a ^^^ st b := by
  unfold st
  rw [BitVec.ushiftRight_xor_distrib, BitVec.getLsbD_xor]
  cases a.getLsbD 0 <;> cases b.getLsbD 0 <;> simp
  · rw [BitVec.xor_assoc]
  · rw [BitVec.xor_assoc, BitVec.xor_comm (b >>> 1), BitVec.xor_assoc]
  · generalize a >>> 1 = p
    generalize b >>> 1 = q
    rw [BitVec.xor_assoc, BitVec.xor_comm q, ← BitVec.xor_assoc _ _ q]
    simp

theorem st_hi (x : BitVec 32) (h : x.getLsbD 0 = false) : st x = x >>> 1 := by
  unfold st
  rw [h]
  simp

theorem st_shl (x : BitVec 32) (k : Nat) (hx : ∀ i, 32 ≤ i + k + 1 → x.getLsbD i = false) : st (x <<< (k + 1)) = x <<< k := by
  rw [st_hi _ (by simp)]
  apply BitVec.eq_of_getLsbD_eq
  intro i hi
  simp only [BitVec.getLsbD_ushiftRight, BitVec.getLsbD_shiftLeft]
  by_cases h : 1 + i < 32
  · by_cases h2 : i < k
    · simp [h2, hi, show 1 + i < k + 1 by omega]
    · simp [h2, hi, h, show ¬ 1 + i < k + 1 by omega, show 1 + i - (k + 1) = i - k by omega]
  · have := hx (i - k) (by omega)
    simp [h, this]

theorem st4_hi (x : BitVec 32) : st (st (st (st (x >>> 4 <<< 4)))) = x >>> 4 := by
  have hx : ∀ k i, k ≤ 3 → 32 ≤ i + k + 1 → (x >>> 4).getLsbD i = false := by
    intro k i hk h
    rw [BitVec.getLsbD_ushiftRight]
    exact BitVec.getLsbD_of_ge _ _ (by omega)
  rw [st_shl _ 3 (fun i h => hx 3 i (by omega) h), st_shl _ 2 (fun i h => hx 2 i (by omega) h), st_shl _ 1 (fun i h => hx 1 i (by omega) h), st_shl _ 0 (fun i h => hx 0 i (by omega) h)]
  simp

theorem split4 (x : BitVec 32) : x = (x >>> 4 <<< 4) ^^^ BitVec.ofNat 32 (x.toNat % 16) := by
  apply BitVec.eq_of_getLsbD_eq
  intro i hi
  have e : (16 : Nat) = 2 ^ 4 := rfl
  simp only [BitVec.getLsbD_xor, BitVec.getLsbD_shiftLeft, BitVec.getLsbD_ushiftRight, BitVec.getLsbD_ofNat, e, Nat.testBit_mod_two_pow]
  by_cases h4 : i < 4
  · simp [h4, hi, BitVec.getLsbD]
  · simp [h4, hi, show 4 + (i - 4) = i by omega]

theorem st4_lo : ∀ k : Nat, k < 16 → st (st (st (st (BitVec.ofNat 32 k)))) = (tab.getD k 0).toBitVec := by decide

theorem st4 (x : UInt32) : st (st (st (st x.toBitVec))) = (half x).toBitVec := by
  have h := split4 x.toBitVec
  rw [h, st_xor, st_xor, st_xor, st_xor, st4_hi, st4_lo _ (Nat.mod_lt _ (by decide))]
  unfold half
  rw [BitVec.xor_comm]
  rfl

/-- The reference's state, with the rest of the byte laid on, is the machine's. -/
theorem bit_st (x : UInt32) (c : UInt8) (i : Nat) :
    (bit x c i).toBitVec ^^^ BitVec.ofNat 32 (c.toNat / 2 ^ (i + 1)) = st (x.toBitVec ^^^ BitVec.ofNat 32 (c.toNat / 2 ^ i)) := by
  have hc := c.toNat_lt
  generalize hd : c.toNat / 2 ^ i = d
  have hd2 : c.toNat / 2 ^ (i + 1) = d / 2 := by rw [← hd, Nat.pow_succ, Nat.div_div_eq_div_mul]
  rw [hd2]
  have hdlt : d < 256 := by rw [← hd]; exact Nat.lt_of_le_of_lt (Nat.div_le_self _ _) hc
  have hsh : BitVec.ofNat 32 d >>> 1 = BitVec.ofNat 32 (d / 2) := by
    apply BitVec.eq_of_toNat_eq
    simp [Nat.shiftRight_eq_div_pow]
    omega
  have hb : (x.toBitVec ^^^ BitVec.ofNat 32 d).getLsbD 0 = decide ((x.toNat ^^^ d) % 2 = 1) := by
    simp [BitVec.getLsbD, Nat.testBit_zero, Nat.mod_eq_of_lt (show d < 4294967296 by omega)]
  have hx : (x / 2).toBitVec = x.toBitVec >>> 1 := by
    apply BitVec.eq_of_toNat_eq
    simp [Nat.shiftRight_eq_div_pow]
  unfold st bit
  rw [BitVec.ushiftRight_xor_distrib, hsh, hb, hd, ← hx]
  by_cases h : (x.toNat ^^^ d) % 2 = 1
  · simp only [h, if_true, decide_true]
    show (x / 2).toBitVec ^^^ poly.toBitVec ^^^ _ = _
    rw [BitVec.xor_assoc, BitVec.xor_comm poly.toBitVec, ← BitVec.xor_assoc]; rfl
  · simp [h]

theorem bits8_byte (x : UInt32) (c : UInt8) : bits8 x c 8 = byte x c := by
  apply UInt32.toBitVec_inj.1
  have hc := c.toNat_lt
  have h0 : ∀ y : BitVec 32, y = y ^^^ BitVec.ofNat 32 (c.toNat / 2 ^ (7 + 1)) := by
    intro y
    rw [show c.toNat / 2 ^ (7 + 1) = 0 from by simp; omega]
    simp
  rw [h0 (bits8 x c 8).toBitVec]
  have g : ∀ i, (bits8 x c (i + 1)).toBitVec ^^^ BitVec.ofNat 32 (c.toNat / 2 ^ (i + 1)) = st ((bits8 x c i).toBitVec ^^^ BitVec.ofNat 32 (c.toNat / 2 ^ i)) := fun i => bit_st (bits8 x c i) c i
  rw [g 7, g 6, g 5, g 4, g 3, g 2, g 1, g 0]
  have e : (bits8 x c 0).toBitVec ^^^ BitVec.ofNat 32 (c.toNat / 2 ^ 0) = (xr x (up c)).toBitVec := by
    rw [up_eq]; unfold xr
    simp only [bits8, Nat.pow_zero, Nat.div_one, UInt32.toBitVec_xor]
    congr 1
    apply BitVec.eq_of_toNat_eq
    simp
  rw [e, st4, st4]
  rfl

theorem refRun_run (x : UInt32) (l : List UInt8) : refRun x l = run x l := by
  unfold refRun run
  induction l generalizing x with
  | nil => rfl
  | cons c l ih => simp only [List.foldl_cons, bits8_byte]

theorem run_append (x : UInt32) (a b : List UInt8) : run x (a ++ b) = run (run x a) b := by simp [run]
theorem more_append (s : UInt32) (a b : List UInt8) : more s (a ++ b) = more (more s a) b := by
  unfold more nt
  rw [run_append]
  simp
theorem st_inj {a b : BitVec 32} (h : st a = st b) : a = b := by
  have htop : ∀ x : BitVec 32, (st x).getLsbD 31 = x.getLsbD 0 := by
    intro x
    unfold st
    cases hx : x.getLsbD 0
    · simp [BitVec.getLsbD_of_ge]
    · simp only [if_true, BitVec.getLsbD_xor, BitVec.getLsbD_ushiftRight]
      rw [BitVec.getLsbD_of_ge x (1 + 31) (by omega)]
      decide
  have h0 : a.getLsbD 0 = b.getLsbD 0 := by rw [← htop a, ← htop b, h]
  have hs : a >>> 1 = b >>> 1 := by
    unfold st at h
    rw [h0] at h
    exact (BitVec.xor_left_inj _).1 h
  apply BitVec.eq_of_getLsbD_eq
  intro i hi
  cases i with
  | zero => exact h0
  | succ i =>
    have := congrArg (fun x : BitVec 32 => x.getLsbD i) hs
    simp only [BitVec.getLsbD_ushiftRight] at this
    rwa [Nat.add_comm] at this
theorem half_inj {x y : UInt32} (h : half x = half y) : x = y := by
  have : (half x).toBitVec = (half y).toBitVec := by rw [h]
  rw [← st4, ← st4] at this
  exact UInt32.toBitVec_inj.1 (st_inj (st_inj (st_inj (st_inj this))))
theorem byte_inj {x y : UInt32} {c d : UInt8} (h : byte x c = byte y d) : xr x (up c) = xr y (up d) := half_inj (half_inj h)
theorem xr_right {x : UInt32} {c d : UInt8} (h : xr x (up c) = xr x (up d)) : c = d := by
  have h2 : up c = up d := by
    unfold xr at h
    have := congrArg (fun y => x ^^^ y) h
    simpa [← UInt32.xor_assoc] using this
  rw [up_eq, up_eq] at h2
  have := congrArg UInt32.toNat h2
  simp at this
  exact UInt8.toNat_inj.1 this
theorem xr_left {x y : UInt32} {c : UInt8} (h : xr x (up c) = xr y (up c)) : x = y := by
  unfold xr at h
  have := congrArg (fun z => z ^^^ up c) h
  simpa [UInt32.xor_assoc] using this
theorem run_inj (l : List UInt8) : ∀ {x y : UInt32}, run x l = run y l → x = y := by
  induction l with
  | nil => intro x y h; exact h
  | cons c l ih =>
    intro x y h
    exact xr_left (byte_inj (ih h))
/-- One byte turned turns the sum. -/
theorem more_turned (s : UInt32) (a b : List UInt8) (c d : UInt8) (h : more s (a ++ c :: b) = more s (a ++ d :: b)) : c = d := by
  unfold more at h
  have h1 : run (nt s) (a ++ c :: b) = run (nt s) (a ++ d :: b) := by
    have := congrArg nt h
    simpa [nt_nt] using this
  rw [run_append, run_append] at h1
  exact xr_right (byte_inj (run_inj b h1))
theorem more_nil (s : UInt32) : more s [] = s := by simp [more, run, nt_nt]
end Crc
end Go.Proofs.YtjohljpcoodijaaDoor
