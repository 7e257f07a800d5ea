import Derived.WalkKit
/- Plain Lean: how many bits are set in a word, as math/bits.OnesCount64 reckons it. No program. -/
namespace Go.Proofs.YtoeeddfinmfnoaaDoor
namespace Bt
/-- How many of the n lowest bits are set. -/
def pc : Nat → Nat → Nat
  | 0, _ => 0
  | n + 1, x => x % 2 + pc n (x / 2)
theorem pc_le (n x : Nat) : pc n x ≤ n := by
  induction n generalizing x with
  | zero => simp [pc]
  | succ n ih => have := ih (x / 2); simp only [pc]; omega
theorem pc_lane (n a X : Nat) (ha : a < 256) : pc (n + 8) (a + 256 * X) = pc 8 a + pc n X := by
  have d1 : (a + 256 * X) / 2 / 2 / 2 / 2 / 2 / 2 / 2 / 2 = X := by omega
  simp only [pc]
  rw [d1]
  omega
def m0 : Nat → Nat | 0 => 0 | n + 1 => 85 + 256 * m0 n
def m1 : Nat → Nat | 0 => 0 | n + 1 => 51 + 256 * m1 n
def m2 : Nat → Nat | 0 => 0 | n + 1 => 15 + 256 * m2 n
/-- A number's lanes: 'n' bytes, the lowest first. -/
def lanes (f : Nat → Nat) : Nat → Nat → Nat | 0, _ => 0 | n + 1, x => f (x % 256) + 256 * lanes f n (x / 256)
theorem lanes_lane (f : Nat → Nat) (n a X : Nat) (ha : a < 256) : lanes f (n + 1) (a + 256 * X) = f a + 256 * lanes f n X := by
  have h1 : (a + 256 * X) % 256 = a := by omega
  have h2 : (a + 256 * X) / 256 = X := by omega
  rw [lanes, h1, h2]
theorem pc8 (a : Nat) : pc 8 a ≤ 8 := pc_le _ _
/-- The sum of eight lanes, as it is reckoned. -/
theorem last (x y : Nat) (hx : x < 256 ^ 8) (hy : y = lanes (pc 8) 8 x) : y < 2 ^ 60 ∧ (y + y / 256 + (y + y / 256) / 65536 + (y + y / 256 + (y + y / 256) / 65536) / 4294967296) % 128 = pc 64 x := by
  obtain ⟨a0, x1, h0, rfl⟩ : ∃ a X, a < 256 ∧ x = a + 256 * X := ⟨x % 256, x / 256, by omega, by omega⟩
  obtain ⟨a1, x2, h1, rfl⟩ : ∃ a X, a < 256 ∧ x1 = a + 256 * X := ⟨x1 % 256, x1 / 256, by omega, by omega⟩
  obtain ⟨a2, x3, h2, rfl⟩ : ∃ a X, a < 256 ∧ x2 = a + 256 * X := ⟨x2 % 256, x2 / 256, by omega, by omega⟩
  obtain ⟨a3, x4, h3, rfl⟩ : ∃ a X, a < 256 ∧ x3 = a + 256 * X := ⟨x3 % 256, x3 / 256, by omega, by omega⟩
  obtain ⟨a4, x5, h4, rfl⟩ : ∃ a X, a < 256 ∧ x4 = a + 256 * X := ⟨x4 % 256, x4 / 256, by omega, by omega⟩
  obtain ⟨a5, x6, h5, rfl⟩ : ∃ a X, a < 256 ∧ x5 = a + 256 * X := ⟨x5 % 256, x5 / 256, by omega, by omega⟩
  obtain ⟨a6, a7, h6, rfl⟩ : ∃ a X, a < 256 ∧ x6 = a + 256 * X := ⟨x6 % 256, x6 / 256, by omega, by omega⟩
  have h7 : a7 < 256 := by omega
  simp only [lanes_lane _ _ _ _ h0, lanes_lane _ _ _ _ h1, lanes_lane _ _ _ _ h2, lanes_lane _ _ _ _ h3, lanes_lane _ _ _ _ h4, lanes_lane _ _ _ _ h5, lanes_lane _ _ _ _ h6] at hy
  have e7 : lanes (pc 8) 1 a7 = pc 8 a7 := by simp [lanes, Nat.mod_eq_of_lt h7]
  rw [e7] at hy
  have p : pc 64 (a0 + 256 * (a1 + 256 * (a2 + 256 * (a3 + 256 * (a4 + 256 * (a5 + 256 * (a6 + 256 * a7))))))) = pc 8 a0 + (pc 8 a1 + (pc 8 a2 + (pc 8 a3 + (pc 8 a4 + (pc 8 a5 + (pc 8 a6 + pc 8 a7)))))) := by
    rw [show 64 = 56 + 8 by rfl, pc_lane _ _ _ h0, show 56 = 48 + 8 by rfl, pc_lane _ _ _ h1, show 48 = 40 + 8 by rfl, pc_lane _ _ _ h2, show 40 = 32 + 8 by rfl, pc_lane _ _ _ h3, show 32 = 24 + 8 by rfl, pc_lane _ _ _ h4, show 24 = 16 + 8 by rfl, pc_lane _ _ _ h5, show 16 = 8 + 8 by rfl, pc_lane _ _ _ h6]
  rw [p]
  have c0 := pc8 a0
  have c1 := pc8 a1
  have c2 := pc8 a2
  have c3 := pc8 a3
  have c4 := pc8 a4
  have c5 := pc8 a5
  have c6 := pc8 a6
  have c7 := pc8 a7
  generalize pc 8 a0 = b0 at *
  generalize pc 8 a1 = b1 at *
  generalize pc 8 a2 = b2 at *
  generalize pc 8 a3 = b3 at *
  generalize pc 8 a4 = b4 at *
  generalize pc 8 a5 = b5 at *
  generalize pc 8 a6 = b6 at *
  generalize pc 8 a7 = b7 at *
  clear p e7 hx h0 h1 h2 h3 h4 h5 h6 h7
  obtain ⟨y7, k7⟩ : ∃ y, y = b7 := ⟨_, rfl⟩
  obtain ⟨y6, k6⟩ : ∃ y, y = b6 + 256 * y7 := ⟨_, rfl⟩
  obtain ⟨y5, k5⟩ : ∃ y, y = b5 + 256 * y6 := ⟨_, rfl⟩
  obtain ⟨y4, k4⟩ : ∃ y, y = b4 + 256 * y5 := ⟨_, rfl⟩
  obtain ⟨y3, k3⟩ : ∃ y, y = b3 + 256 * y4 := ⟨_, rfl⟩
  obtain ⟨y2, k2⟩ : ∃ y, y = b2 + 256 * y3 := ⟨_, rfl⟩
  obtain ⟨y1, k1⟩ : ∃ y, y = b1 + 256 * y2 := ⟨_, rfl⟩
  rw [← k7, ← k6, ← k5, ← k4, ← k3, ← k2, ← k1] at hy
  rw [show y / 256 = y1 by omega]
  obtain ⟨z6, m6⟩ : ∃ z, z = y6 + y7 := ⟨_, rfl⟩
  obtain ⟨z5, m5⟩ : ∃ z, z = y5 + y6 := ⟨_, rfl⟩
  obtain ⟨z4, m4⟩ : ∃ z, z = y4 + y5 := ⟨_, rfl⟩
  obtain ⟨z3, m3⟩ : ∃ z, z = y3 + y4 := ⟨_, rfl⟩
  obtain ⟨z2, m2⟩ : ∃ z, z = y2 + y3 := ⟨_, rfl⟩
  obtain ⟨z1, m1⟩ : ∃ z, z = y1 + y2 := ⟨_, rfl⟩
  obtain ⟨z0, m0⟩ : ∃ z, z = y + y1 := ⟨_, rfl⟩
  have n6 : z6 = (b6 + b7) + 256 * y7 := by omega
  have n5 : z5 = (b5 + b6) + 256 * z6 := by omega
  have n4 : z4 = (b4 + b5) + 256 * z5 := by omega
  have n3 : z3 = (b3 + b4) + 256 * z4 := by omega
  have n2 : z2 = (b2 + b3) + 256 * z3 := by omega
  have n1 : z1 = (b1 + b2) + 256 * z2 := by omega
  have n0 : z0 = (b0 + b1) + 256 * z1 := by omega
  have hyl : y < 2 ^ 60 := by
    clear n0 n1 n2 n3 n4 n5 n6 m0 m1 m2 m3 m4 m5 m6
    have q6 : y6 ≤ 8 + 256 * 8 := by omega
    have q5 : y5 ≤ 8 + 256 * 2056 := by omega
    have q4 : y4 ≤ 8 + 256 * 526344 := by omega
    have q3 : y3 ≤ 8 + 256 * 134744072 := by omega
    have q2 : y2 ≤ 8 + 256 * 34494482440 := by omega
    have q1 : y1 ≤ 8 + 256 * 8830587504648 := by omega
    omega
  refine ⟨hyl, ?_⟩
  have zz : z0 / 65536 = z2 := by
    have q1 : z0 / 256 = z1 := by clear hyl hy k1 k2 k3 k4 k5 k6 k7 m0 m1 m2 m3 m4 m5 m6 n1 n2 n3 n4 n5 n6; omega
    have q2 : z1 / 256 = z2 := by clear hyl hy k1 k2 k3 k4 k5 k6 k7 m0 m1 m2 m3 m4 m5 m6 n0 n2 n3 n4 n5 n6; omega
    rw [show 65536 = 256 * 256 by rfl, ← Nat.div_div_eq_div_mul, q1, q2]
  rw [← m0, zz]
  obtain ⟨u4, w4⟩ : ∃ u, u = z4 + z6 := ⟨_, rfl⟩
  obtain ⟨u3, w3⟩ : ∃ u, u = z3 + z5 := ⟨_, rfl⟩
  obtain ⟨u2, w2⟩ : ∃ u, u = z2 + z4 := ⟨_, rfl⟩
  obtain ⟨u1, w1⟩ : ∃ u, u = z1 + z3 := ⟨_, rfl⟩
  obtain ⟨u0, w0⟩ : ∃ u, u = z0 + z2 := ⟨_, rfl⟩
  obtain ⟨r5, w5⟩ : ∃ u, u = z5 + y7 := ⟨_, rfl⟩
  have v4 : u4 = (b4 + b5 + b6 + b7) + 256 * r5 := by omega
  have v3 : u3 = (b3 + b4 + b5 + b6) + 256 * u4 := by omega
  have v2 : u2 = (b2 + b3 + b4 + b5) + 256 * u3 := by omega
  have v1 : u1 = (b1 + b2 + b3 + b4) + 256 * u2 := by omega
  have v0 : u0 = (b0 + b1 + b2 + b3) + 256 * u1 := by omega
  clear hyl hy k1 k2 k3 k4 k5 k6 k7 m1 m2 m3 m4 m5 m6 n0 n1 n2 n3 n4 n5 n6 w1 w2 w3 w4 w5 m0
  rw [← w0]
  clear w0
  have e1 : u0 / 4294967296 = u4 := by
    have q1 : u0 / 256 = u1 := by clear v1 v2 v3 v4; omega
    have q2 : u1 / 256 = u2 := by clear v0 v2 v3 v4; omega
    have q3 : u2 / 256 = u3 := by clear v0 v1 v3 v4; omega
    have q4 : u3 / 256 = u4 := by clear v0 v1 v2 v4; omega
    rw [show 4294967296 = 256 * 256 * 256 * 256 by rfl, ← Nat.div_div_eq_div_mul, ← Nat.div_div_eq_div_mul, ← Nat.div_div_eq_div_mul, q1, q2, q3, q4]
  rw [e1]
  clear e1 v1 v2 v3
  omega
attribute [irreducible] pc
end Bt
end Go.Proofs.YtoeeddfinmfnoaaDoor
