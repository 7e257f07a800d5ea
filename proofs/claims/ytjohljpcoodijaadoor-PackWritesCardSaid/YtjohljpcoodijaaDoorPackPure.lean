/- Numbers as bytes: plain. -/
import Derived.Test.YtjohljpcoodijaaDoorLib
import Derived.Laws.BitsAllLaws
namespace Go.Proofs.YtjohljpcoodijaaDoor
open Go Go.RowKit Kt
namespace Pk
/-- The bytes of a number. -/
def enc (n : Nat) : List UInt8 := if _h : n < 128 then [UInt8.ofNat n] else UInt8.ofNat (n % 128 + 128) :: enc (n / 128)
termination_by n
decreasing_by omega
theorem enc_small {n : Nat} (h : n < 128) : enc n = [UInt8.ofNat n] := by rw [enc, dif_pos h]
theorem enc_big {n : Nat} (h : ¬ n < 128) : enc n = UInt8.ofNat (n % 128 + 128) :: enc (n / 128) := by rw [enc, dif_neg h]
/-- What a reader makes of bytes, k of them read already: the number and how many bytes it has; or the error's number. -/
def dec (k n : Nat) : List UInt8 → Except Nat (Nat × Nat)
  | [] => .error (if 5 ≤ k then 4 else 2)
  | c :: l =>
    if k = 5 then .error 4
    else if 128 ≤ c.toNat then dec (k + 1) (n + c.toNat % 128 * 128 ^ k) l
    else if 0 < k ∧ c.toNat = 0 then .error 4
    else if 2147483647 < n + c.toNat % 128 * 128 ^ k then .error 1
    else .ok (n + c.toNat % 128 * 128 ^ k, k + 1)
theorem ofNat_toNat {n : Nat} (h : n < 256) : (UInt8.ofNat n).toNat = n := by simp; omega
theorem pow_le {k n : Nat} (h : n * 128 ^ k ≤ 2147483647) (hn : 0 < n) : k < 5 := by
  rcases Nat.lt_or_ge k 5 with h5 | h5
  · exact h5
  · have h1 : 128 ^ 5 ≤ 128 ^ k := Nat.pow_le_pow_right (by omega) h5
    have h2 : 1 * 128 ^ k ≤ n * 128 ^ k := Nat.mul_le_mul_right _ hn
    have h3 : (128 : Nat) ^ 5 = 34359738368 := by decide
    omega
/-- What is written is read. -/
theorem dec_enc (n : Nat) : ∀ (k m : Nat) (r : List UInt8), m + n * 128 ^ k ≤ 2147483647 → (0 < k → 0 < n) → dec k m (enc n ++ r) = .ok (m + n * 128 ^ k, k + (enc n).length) := by
  induction n using Nat.strongRecOn with
  | _ n ih =>
    intro k m r hle hpos
    have hk5 : k ≠ 5 := by
      rcases Nat.eq_zero_or_pos k with h | h
      · omega
      · have := pow_le (k := k) (n := n) (by omega) (hpos h); omega
    by_cases h : n < 128
    · rw [enc_small h, List.cons_append, List.nil_append, dec, if_neg hk5, ofNat_toNat (by omega), if_neg (by omega), if_neg (by
        rintro ⟨h1, h2⟩
        have := hpos h1
        omega), Nat.mod_eq_of_lt h, if_neg (by omega)]
      rfl
    · rw [enc_big h, List.cons_append, dec, if_neg hk5, ofNat_toNat (by omega), if_pos (by omega)]
      have e1 : (n % 128 + 128) % 128 = n % 128 := by omega
      have e2 : n * 128 ^ k = n % 128 * 128 ^ k + n / 128 * 128 ^ (k + 1) := by
        rw [Nat.pow_succ, Nat.mul_comm (128 ^ k) 128, ← Nat.mul_assoc, ← Nat.add_mul]
        congr 1
        omega
      rw [e1, ih (n / 128) (by omega) (k + 1) (m + n % 128 * 128 ^ k) r (by omega) (fun _ => by omega)]
      rw [List.length_cons]
      congr 2
      · omega
      · omega
/-- What is read was written. -/
theorem dec_ok : ∀ (l : List UInt8) (k m N s : Nat), dec k m l = .ok (N, s) → ∃ n, N = m + n * 128 ^ k ∧ (0 < k → 0 < n) ∧ s = k + (enc n).length ∧ l.take (enc n).length = enc n ∧ N ≤ 2147483647 ∧ (enc n).length ≤ l.length
  | [], k, m, N, s, h => by unfold dec at h; cases h
  | c :: l, k, m, N, s, h => by
    unfold dec at h
    split at h
    · cases h
    split at h
    · rename_i hc
      obtain ⟨n, h1, h2, h3, h4, h5, h6⟩ := dec_ok l (k + 1) _ N s h
      have hn := h2 (by omega)
      have hc2 := c.toNat_lt
      have hbig : ¬ (c.toNat % 128 + n * 128) < 128 := by omega
      have hen : enc (c.toNat % 128 + n * 128) = c :: enc n := by
        rw [enc_big hbig]
        congr 1
        · apply UInt8.toNat_inj.1
          rw [ofNat_toNat (by omega)]
          omega
        · congr 1; omega
      refine ⟨c.toNat % 128 + n * 128, ?_, fun _ => by omega, ?_, ?_, h5, ?_⟩
      · rw [h1, Nat.pow_succ, Nat.add_mul, Nat.mul_assoc n 128, Nat.mul_comm 128 (128 ^ k)]; omega
      · rw [h3, hen, List.length_cons]; omega
      · rw [hen, List.length_cons, List.take_succ_cons, h4]
      · rw [hen]; simpa using h6
    · rename_i hc
      split at h
      · cases h
      split at h
      · cases h
      · rename_i h0 h1
        simp only [Except.ok.injEq, Prod.mk.injEq] at h
        obtain ⟨rfl, rfl⟩ := h
        have hlt : c.toNat % 128 = c.toNat := Nat.mod_eq_of_lt (by omega)
        have hen : enc c.toNat = [c] := by
          rw [enc_small (by omega)]
          congr 1
          simp
        refine ⟨c.toNat, by rw [hlt], fun hk => by omega, by rw [hen]; rfl, by rw [hen]; rfl, by omega, by rw [hen]; simp⟩
theorem or_i64 (a b : Nat) (ha : a < 9223372036854775808) (hb : b < 9223372036854775808) : bits .or .i64 (a : Int) (b : Int) = ((a ||| b : Nat) : Int) := by
  have hx : a ||| b < 2 ^ 63 := Nat.or_lt_two_pow (by omega) (by omega)
  show IntKind.i64.wrap ((BitVec.ofInt 64 (a : Int) ||| BitVec.ofInt 64 (b : Int)).toNat : Int) = _
  rw [BitVec.toNat_or, ofInt_u64 a (by omega), ofInt_u64 b (by omega)]
  exact IntWalk.i64_in _ ⟨by omega, by omega⟩
theorem or_add (n c k : Nat) (hn : n < 128 ^ k) (hc : c < 128) (hk : k ≤ 4) : bits .or .i64 (n : Int) (IntKind.i64.wrap ((c : Int) * 2 ^ (7 * k))) = ((n + c * 128 ^ k : Nat) : Int) := by
  have e : (128 : Nat) ^ k = 2 ^ (7 * k) := by rw [Nat.pow_mul]
  have h1 : 128 ^ k ≤ 128 ^ 4 := Nat.pow_le_pow_right (by omega) hk
  have h2 : (128 : Nat) ^ 4 = 268435456 := by decide
  have h3 : c * 128 ^ k ≤ 127 * 268435456 := Nat.mul_le_mul (by omega) (by omega)
  have e2 : (c : Int) * 2 ^ (7 * k) = ((c * 128 ^ k : Nat) : Int) := by rw [e]; simp
  rw [e2, IntWalk.i64_in _ ⟨by omega, by omega⟩, or_i64 n _ (by omega) (by omega), Nat.or_comm, nat_join (7 * k) (c * 128 ^ k) n (by rw [e]; exact Nat.mul_mod_left _ _) (by omega), Nat.add_comm]
theorem or_walk (n c k : Nat) (hn : n < 128 ^ k) (hk : k ≤ 4) : bits .or .i64 (n : Int) (wrap64 ((c : Int) % 128 * 2 ^ (7 * k))) = ((n + c % 128 * 128 ^ k : Nat) : Int) := by
  have hc : c % 128 < 128 := Nat.mod_lt _ (by omega)
  have e : (128 : Nat) ^ k = 2 ^ (7 * k) := by rw [Nat.pow_mul]
  have h1 : 128 ^ k ≤ 128 ^ 4 := Nat.pow_le_pow_right (by omega) hk
  have h2 : (128 : Nat) ^ 4 = 268435456 := by decide
  have h3 : c % 128 * 128 ^ k ≤ 127 * 268435456 := Nat.mul_le_mul (by omega) (by omega)
  have e2 : (c : Int) % 128 * 2 ^ (7 * k) = ((c % 128 * 128 ^ k : Nat) : Int) := by rw [e]; simp
  rw [e2, IntWalk.wrap64_in _ ⟨by omega, by omega⟩, or_i64 n _ (by omega) (by omega), Nat.or_comm, nat_join (7 * k) (c % 128 * 128 ^ k) n (by rw [e]; exact Nat.mul_mod_left _ _) (by omega), Nat.add_comm]
theorem dec_lt {n c k : Nat} (hn : n < 128 ^ k) : n + c % 128 * 128 ^ k < 128 ^ (k + 1) := by
  have h1 : c % 128 * 128 ^ k ≤ 127 * 128 ^ k := Nat.mul_le_mul_right _ (by omega)
  rw [Nat.pow_succ]
  omega
theorem enc_len : ∀ (k n : Nat), n < 128 ^ (k + 1) → (enc n).length ≤ k + 1
  | 0, n, h => by rw [enc_small (by simpa using h)]; simp
  | k + 1, n, h => by
    by_cases hn : n < 128
    · rw [enc_small hn]; simp
    · rw [enc_big hn, List.length_cons]
      have := enc_len k (n / 128) (Nat.div_lt_of_lt_mul (by rw [Nat.pow_succ] at h; rw [Nat.mul_comm]; exact h))
      omega
theorem enc_len5 {n : Nat} (h : n ≤ 2147483647) : (enc n).length ≤ 5 := enc_len 4 n (by omega)
end Pk
end Go.Proofs.YtjohljpcoodijaaDoor
