import Derived.Test.YtoeeddfinmfnoaaDoorQSets5
import Derived.Test.YtoeeddfinmfnoaaDoorQMarks
import Derived.Laws.StructEq
import Derived.Laws.BitsAllLaws
/- The walks of package sets: Has, Empty, Minus, One, below. -/
namespace Go.Proofs.YtoeeddfinmfnoaaDoor
namespace Kt
end Kt
open Go Go.RowKit Kt
namespace St
open Mk
theorem div_pow (x t : Nat) : (x : Int) / 2 ^ t = ((x / 2 ^ t : Nat) : Int) := by rw [Int.natCast_ediv, Int.natCast_pow]; rfl
set_option maxHeartbeats 1000000 in
set_option maxRecDepth 100000 in
theorem has_c (ws : List Nat) (f : Nat → Bool) (hw : IsSet ws f) (c : Nat) (hc : c < 256) (w : World) : Calls Tryd.prog 139 #[sv ws, .int .u8 (c : Int)] w fun e w' => e = .returned (.bool (f c)) ∧ Below w.heap.size w w' := by
  obtain ⟨x0, x1, x2, x3, rfl⟩ := four hw.len
  have hf := hw.at' c hc
  unfold has at hf
  obtain ⟨k, hk⟩ : ∃ k, c / 64 = k := ⟨_, rfl⟩
  have hk4 : k = 0 ∨ k = 1 ∨ k = 2 ∨ k = 3 := by omega
  have hck : (c : Int) / 64 = (k : Int) := by omega
  have HB := Lib.hid (Below.refl w.heap.size w)
  have hlt := hw.lt
  rw [hk] at hf
  clear hw hk
  simp only [sv, vals, List.map_cons, List.map_nil]
  obtain ⟨v, hv⟩ : ∃ v, f c = v := ⟨_, rfl⟩
  rw [hv] at hf ⊢
  rcases hk4 with rfl | rfl | rfl | rfl
  · have hf' : x0.testBit (c % 64) = v := hf
    have hck' : (c : Int) / 64 = 0 := hck
    have hsh := has_shift x0 (c % 64)
    have hand := Bt.and64 ((x0 : Int) / 2 ^ (c % 64)) 1 (x0 / 2 ^ (c % 64)) 1 _ (div_pow _ _) rfl (Nat.lt_of_le_of_lt (Nat.div_le_self _ _) (hlt x0 (by simp))) (by decide) hsh
    rw [hf'] at hand
    clear hsh hf hf' hlt hck hv
    cases v
    · have hand' : bits .and .u64 ((x0 : Int) / 2 ^ (c % 64)) 1 = 0 := hand
      clear hand
      go_enter Tryd.func139, Tryd.ntmps139
      go_wp2
      go_ret
      exact ⟨rfl, HB.out.alloc (Nat.le_refl _) _⟩
    · have hand' : bits .and .u64 ((x0 : Int) / 2 ^ (c % 64)) 1 = 1 := hand
      clear hand
      go_enter Tryd.func139, Tryd.ntmps139
      go_wp2
      go_ret
      exact ⟨rfl, HB.out.alloc (Nat.le_refl _) _⟩
  · have hf' : x1.testBit (c % 64) = v := hf
    have hck' : (c : Int) / 64 = 1 := hck
    have hsh := has_shift x1 (c % 64)
    have hand := Bt.and64 ((x1 : Int) / 2 ^ (c % 64)) 1 (x1 / 2 ^ (c % 64)) 1 _ (div_pow _ _) rfl (Nat.lt_of_le_of_lt (Nat.div_le_self _ _) (hlt x1 (by simp))) (by decide) hsh
    rw [hf'] at hand
    clear hsh hf hf' hlt hck hv
    cases v
    · have hand' : bits .and .u64 ((x1 : Int) / 2 ^ (c % 64)) 1 = 0 := hand
      clear hand
      go_enter Tryd.func139, Tryd.ntmps139
      go_wp2
      go_ret
      exact ⟨rfl, HB.out.alloc (Nat.le_refl _) _⟩
    · have hand' : bits .and .u64 ((x1 : Int) / 2 ^ (c % 64)) 1 = 1 := hand
      clear hand
      go_enter Tryd.func139, Tryd.ntmps139
      go_wp2
      go_ret
      exact ⟨rfl, HB.out.alloc (Nat.le_refl _) _⟩
  · have hf' : x2.testBit (c % 64) = v := hf
    have hck' : (c : Int) / 64 = 2 := hck
    have hsh := has_shift x2 (c % 64)
    have hand := Bt.and64 ((x2 : Int) / 2 ^ (c % 64)) 1 (x2 / 2 ^ (c % 64)) 1 _ (div_pow _ _) rfl (Nat.lt_of_le_of_lt (Nat.div_le_self _ _) (hlt x2 (by simp))) (by decide) hsh
    rw [hf'] at hand
    clear hsh hf hf' hlt hck hv
    cases v
    · have hand' : bits .and .u64 ((x2 : Int) / 2 ^ (c % 64)) 1 = 0 := hand
      clear hand
      go_enter Tryd.func139, Tryd.ntmps139
      go_wp2
      go_ret
      exact ⟨rfl, HB.out.alloc (Nat.le_refl _) _⟩
    · have hand' : bits .and .u64 ((x2 : Int) / 2 ^ (c % 64)) 1 = 1 := hand
      clear hand
      go_enter Tryd.func139, Tryd.ntmps139
      go_wp2
      go_ret
      exact ⟨rfl, HB.out.alloc (Nat.le_refl _) _⟩
  · have hf' : x3.testBit (c % 64) = v := hf
    have hck' : (c : Int) / 64 = 3 := hck
    have hsh := has_shift x3 (c % 64)
    have hand := Bt.and64 ((x3 : Int) / 2 ^ (c % 64)) 1 (x3 / 2 ^ (c % 64)) 1 _ (div_pow _ _) rfl (Nat.lt_of_le_of_lt (Nat.div_le_self _ _) (hlt x3 (by simp))) (by decide) hsh
    rw [hf'] at hand
    clear hsh hf hf' hlt hck hv
    cases v
    · have hand' : bits .and .u64 ((x3 : Int) / 2 ^ (c % 64)) 1 = 0 := hand
      clear hand
      go_enter Tryd.func139, Tryd.ntmps139
      go_wp2
      go_ret
      exact ⟨rfl, HB.out.alloc (Nat.le_refl _) _⟩
    · have hand' : bits .and .u64 ((x3 : Int) / 2 ^ (c % 64)) 1 = 1 := hand
      clear hand
      go_enter Tryd.func139, Tryd.ntmps139
      go_wp2
      go_ret
      exact ⟨rfl, HB.out.alloc (Nat.le_refl _) _⟩
set_option maxHeartbeats 1000000 in
set_option maxRecDepth 100000 in
theorem one_c (c : Nat) (hc : c < 256) (w : World) : Calls Tryd.prog 61 #[.int .u8 (c : Int)] w fun e w' => ∃ rs, e = .returned (sv rs) ∧ IsSet rs (fun q => decide (q = c)) ∧ Below w.heap.size w w' := by
  have hw := Mk.wrap_pow (t := c % 64) (m := 2 ^ (c % 64)) (by omega) rfl
  have hp : 2 ^ (c % 64) < 18446744073709551616 := Nat.pow_lt_pow_right (m := c % 64) (n := 64) (by decide) (by omega)
  have hbit : ∀ t, (2 ^ (c % 64)).testBit t = decide (c % 64 = t) := fun t => Nat.testBit_two_pow
  obtain ⟨k, hk⟩ : ∃ k, c / 64 = k := ⟨_, rfl⟩
  have hk4 : k = 0 ∨ k = 1 ∨ k = 2 ∨ k = 3 := by omega
  have hck : (c : Int) / 64 = (k : Int) := by omega
  have hB := (Below.refl w.heap.size w)
  obtain ⟨m, hm⟩ : ∃ m, 2 ^ (c % 64) = m := ⟨_, rfl⟩
  rw [hm] at hw hp hbit
  rcases hk4 with rfl | rfl | rfl | rfl
  · have hck' : (c : Int) / 64 = 0 := hck
    have hres : IsSet [m, 0, 0, 0] (fun q => decide (q = c)) := by
      refine isSet_of (by intro x hx; simp at hx; omega) fun i hi t ht => ?_
      have hi4 : i = 0 ∨ i = 1 ∨ i = 2 ∨ i = 3 := by omega
      rcases hi4 with rfl | rfl | rfl | rfl <;> simp [hbit] <;> omega
    have HR := Lib.hid hres
    clear hres hck hbit hm
    go_enter Tryd.func61, Tryd.ntmps61
    go_wp2
    ((try simp only [Exit.inBlock, Exit.then]); refine bodyPost_ret (results_cell_row rfl _ _ (w.heap.size) 24 ?cs1 (0, 0) _ rfl ?hg1 Tryd.underlying24 rfl ?hi1) rfl ?_; (case hg1 => first | exact heap_alloc2_new _ _ _ | exact Kt.heap_alloc3_new _ _ _ _ | exact Kt.heap_alloc2_old _ _ _); (case hi1 => kernel_rfl))
    exact ⟨_, rfl, HR.out, (hB.alloc (Nat.le_refl _) _).alloc (by simp) _⟩
  · have hck' : (c : Int) / 64 = 1 := hck
    have hres : IsSet [0, m, 0, 0] (fun q => decide (q = c)) := by
      refine isSet_of (by intro x hx; simp at hx; omega) fun i hi t ht => ?_
      have hi4 : i = 0 ∨ i = 1 ∨ i = 2 ∨ i = 3 := by omega
      rcases hi4 with rfl | rfl | rfl | rfl <;> simp [hbit] <;> omega
    have HR := Lib.hid hres
    clear hres hck hbit hm
    go_enter Tryd.func61, Tryd.ntmps61
    go_wp2
    ((try simp only [Exit.inBlock, Exit.then]); refine bodyPost_ret (results_cell_row rfl _ _ (w.heap.size) 24 ?cs2 (0, 0) _ rfl ?hg2 Tryd.underlying24 rfl ?hi2) rfl ?_; (case hg2 => first | exact heap_alloc2_new _ _ _ | exact Kt.heap_alloc3_new _ _ _ _ | exact Kt.heap_alloc2_old _ _ _); (case hi2 => kernel_rfl))
    exact ⟨_, rfl, HR.out, (hB.alloc (Nat.le_refl _) _).alloc (by simp) _⟩
  · have hck' : (c : Int) / 64 = 2 := hck
    have hres : IsSet [0, 0, m, 0] (fun q => decide (q = c)) := by
      refine isSet_of (by intro x hx; simp at hx; omega) fun i hi t ht => ?_
      have hi4 : i = 0 ∨ i = 1 ∨ i = 2 ∨ i = 3 := by omega
      rcases hi4 with rfl | rfl | rfl | rfl <;> simp [hbit] <;> omega
    have HR := Lib.hid hres
    clear hres hck hbit hm
    go_enter Tryd.func61, Tryd.ntmps61
    go_wp2
    ((try simp only [Exit.inBlock, Exit.then]); refine bodyPost_ret (results_cell_row rfl _ _ (w.heap.size) 24 ?cs3 (0, 0) _ rfl ?hg3 Tryd.underlying24 rfl ?hi3) rfl ?_; (case hg3 => first | exact heap_alloc2_new _ _ _ | exact Kt.heap_alloc3_new _ _ _ _ | exact Kt.heap_alloc2_old _ _ _); (case hi3 => kernel_rfl))
    exact ⟨_, rfl, HR.out, (hB.alloc (Nat.le_refl _) _).alloc (by simp) _⟩
  · have hck' : (c : Int) / 64 = 3 := hck
    have hres : IsSet [0, 0, 0, m] (fun q => decide (q = c)) := by
      refine isSet_of (by intro x hx; simp at hx; omega) fun i hi t ht => ?_
      have hi4 : i = 0 ∨ i = 1 ∨ i = 2 ∨ i = 3 := by omega
      rcases hi4 with rfl | rfl | rfl | rfl <;> simp [hbit] <;> omega
    have HR := Lib.hid hres
    clear hres hck hbit hm
    go_enter Tryd.func61, Tryd.ntmps61
    go_wp2
    ((try simp only [Exit.inBlock, Exit.then]); refine bodyPost_ret (results_cell_row rfl _ _ (w.heap.size) 24 ?cs4 (0, 0) _ rfl ?hg4 Tryd.underlying24 rfl ?hi4) rfl ?_; (case hg4 => first | exact heap_alloc2_new _ _ _ | exact Kt.heap_alloc3_new _ _ _ _ | exact Kt.heap_alloc2_old _ _ _); (case hi4 => kernel_rfl))
    exact ⟨_, rfl, HR.out, (hB.alloc (Nat.le_refl _) _).alloc (by simp) _⟩
end St
end Go.Proofs.YtoeeddfinmfnoaaDoor

/- The walks of package sets: below, Span, Empty, Minus, Of. -/
namespace Go.Proofs.YtoeeddfinmfnoaaDoor
open Go Go.RowKit Kt
namespace St
open Mk
set_option maxRecDepth 100000 in
theorem below_c (m : Int) (h1 : -1000 ≤ m) (h2 : m ≤ 1000) (w : World) : Calls Tryd.prog 170 #[.int .i64 m] w fun e w' => e = .returned (.int .u64 (bl m : Nat)) ∧ w = w' := by
  by_cases h : 64 ≤ m
  · have hb : bl m = 18446744073709551615 := by unfold bl; rw [if_pos h]
    rw [hb]
    go_enter Tryd.func170, Tryd.ntmps170
    go_wp2
    go_ret
    exact ⟨rfl, rfl⟩
  · have hb : bl m = 2 ^ m.toNat - 1 := by unfold bl; rw [if_neg h]
    have hw := Mk.wrap_pow (t := m.toNat) (m := 2 ^ m.toNat) (by omega) rfl
    have hp : 2 ^ m.toNat < 18446744073709551616 := Nat.pow_lt_pow_right (m := m.toNat) (n := 64) (by decide) (by omega)
    have hp0 : 0 < 2 ^ m.toNat := Nat.pow_pos (by decide)
    rw [hb]
    obtain ⟨q, hq⟩ : ∃ q, 2 ^ m.toNat = q := ⟨_, rfl⟩
    rw [hq] at hw hp hp0 ⊢
    have hsub : ((q - 1 : Nat) : Int) = (q : Int) - 1 := by omega
    rw [hsub]
    have hd : decide (64 ≤ m) = false := by simpa using h
    by_cases h0 : 0 ≤ m
    · obtain ⟨k, rfl⟩ : ∃ k : Nat, m = (k : Int) := ⟨m.toNat, by omega⟩
      have hk : ((k : Nat) : Int).toNat = k := by omega
      rw [hk] at hw
      have hmx : max (k : Int) 0 = (k : Int) := by omega
      have hmn : min k 64 = k := by omega
      clear hb h hq
      go_enter Tryd.func170, Tryd.ntmps170
      go_wp2
      go_ret
      exact ⟨rfl, rfl⟩
    · have hmx : max m 0 = 0 := by omega
      have hm0 : m.toNat = 0 := by omega
      rw [hm0] at hq
      have hq1 : q = 1 := by rw [← hq]
      subst hq1
      clear hb h hq hw
      go_enter Tryd.func170, Tryd.ntmps170
      go_wp2
      go_ret
      exact ⟨rfl, rfl⟩
/-- A word of a span. -/
def sw (lo hi : Nat) (i : Nat) : Nat := bl ((hi : Int) + 1 - 64 * (i : Int)) &&& (18446744073709551615 - bl ((lo : Int) - 64 * (i : Int)))
theorem sw_bit (lo hi i t : Nat) (ht : t < 64) : (sw lo hi i).testBit t = (decide (lo ≤ 64 * i + t) && decide (64 * i + t ≤ hi)) := by
  unfold sw
  have hb := bl_lt ((lo : Int) - 64 * (i : Int))
  rw [Nat.testBit_and, bl_bit _ _ ht, show 18446744073709551615 - bl ((lo : Int) - 64 * (i : Int)) = 2 ^ 64 - (bl ((lo : Int) - 64 * (i : Int)) + 1) by omega, Nat.testBit_two_pow_sub_succ hb, bl_bit _ _ ht]
  have h1 : decide (t < 64) = true := by simpa using ht
  rw [h1, Bool.true_and, Bool.and_comm]
  congr 1
  · rw [← decide_not]
    apply decide_eq_decide.2
    omega
  · apply decide_eq_decide.2
    omega
theorem sw_lt (lo hi i : Nat) : sw lo hi i < 18446744073709551616 := Nat.lt_of_le_of_lt Nat.and_le_left (bl_lt _)
theorem sw_run (lo hi i : Nat) (A B : Int) (hA : A = (hi : Int) + 1 - 64 * (i : Int)) (hB : B = (lo : Int) - 64 * (i : Int)) : bits .andNot .u64 (bl A : Nat) (bl B : Nat) = (sw lo hi i : Nat) := by
  subst hA hB
  exact u64_andNot_nat _ _ (bl_lt _) (bl_lt _)
set_option maxHeartbeats 2000000 in
set_option maxRecDepth 100000 in
theorem span_c (lo hi : Nat) (h1 : lo < 256) (h2 : hi < 256) (w : World) : Calls Tryd.prog 169 #[.int .u8 (lo : Int), .int .u8 (hi : Int)] w fun e w' => ∃ rs, e = .returned (sv rs) ∧ IsSet rs (fun q => decide (lo ≤ q) && decide (q ≤ hi)) ∧ Below w.heap.size w w' := by
  have hB := (Below.refl w.heap.size w)
  by_cases hlh : lo ≤ hi
  · have hres : IsSet [sw lo hi 0, sw lo hi 1, sw lo hi 2, sw lo hi 3] (fun q => decide (lo ≤ q) && decide (q ≤ hi)) := by
      refine isSet_of (by intro x hx; simp at hx; rcases hx with rfl | rfl | rfl | rfl <;> exact sw_lt _ _ _) fun i hi' t ht => ?_
      have hi4 : i = 0 ∨ i = 1 ∨ i = 2 ∨ i = 3 := by omega
      rcases hi4 with rfl | rfl | rfl | rfl <;> exact sw_bit _ _ _ _ ht
    have a0 := sw_run lo hi 0 ((hi : Int) + 1) (lo : Int) (by omega) (by omega)
    have a1 := sw_run lo hi 1 ((hi : Int) + 1 - 64) ((lo : Int) - 64) (by omega) (by omega)
    have a2 := sw_run lo hi 2 ((hi : Int) + 1 - 128) ((lo : Int) - 128) (by omega) (by omega)
    have a3 := sw_run lo hi 3 ((hi : Int) + 1 - 192) ((lo : Int) - 192) (by omega) (by omega)
    have hd : decide ((hi : Int) < (lo : Int)) = false := by simp; omega
    have HR := Lib.hid hres
    clear hres
    generalize sw lo hi 0 = s0 at *
    generalize sw lo hi 1 = s1 at *
    generalize sw lo hi 2 = s2 at *
    generalize sw lo hi 3 = s3 at *
    go_enter Tryd.func169, Tryd.ntmps169
    go_wp2
    refine wp_loop_rounds 5 ?_
    rw [rounds_succ]
    go_wp2_with fail
    refine (below_c _ (by omega) (by omega) _).mono ?_
    rintro e w1 ⟨rfl, rfl⟩
    go_wp2_with fail
    refine (below_c _ (by omega) (by omega) _).mono ?_
    rintro e w1 ⟨rfl, rfl⟩
    go_wp2
    rw [rounds_succ]
    go_wp2_with fail
    refine (below_c _ (by omega) (by omega) _).mono ?_
    rintro e w1 ⟨rfl, rfl⟩
    go_wp2_with fail
    refine (below_c _ (by omega) (by omega) _).mono ?_
    rintro e w1 ⟨rfl, rfl⟩
    go_wp2
    rw [rounds_succ]
    go_wp2_with fail
    refine (below_c _ (by omega) (by omega) _).mono ?_
    rintro e w1 ⟨rfl, rfl⟩
    go_wp2_with fail
    refine (below_c _ (by omega) (by omega) _).mono ?_
    rintro e w1 ⟨rfl, rfl⟩
    go_wp2
    rw [rounds_succ]
    go_wp2_with fail
    refine (below_c _ (by omega) (by omega) _).mono ?_
    rintro e w1 ⟨rfl, rfl⟩
    go_wp2_with fail
    refine (below_c _ (by omega) (by omega) _).mono ?_
    rintro e w1 ⟨rfl, rfl⟩
    go_wp2
    rw [rounds_succ]
    go_wp2
    ((try simp only [Exit.inBlock, Exit.then]); refine bodyPost_ret (results_cell_row rfl _ _ (w.heap.size) 24 ?cs1 (0, 0) _ rfl ?hg1 Tryd.underlying24 rfl ?hi1) rfl ?_; (case hg1 => first | exact heap_alloc2_new _ _ _ | exact Kt.heap_alloc3_new _ _ _ _ | exact Kt.heap_alloc2_old _ _ _); (case hi1 => kernel_rfl))
    exact ⟨_, rfl, HR.out, (hB.alloc (Nat.le_refl _) _).alloc (by simp) _⟩
  · have hres : IsSet [0, 0, 0, 0] (fun q => decide (lo ≤ q) && decide (q ≤ hi)) := by
      refine ⟨rfl, zero_set.lt, fun c hc => ?_⟩
      rw [zero_set.at' c hc]
      simp
      omega
    have hd : decide ((hi : Int) < (lo : Int)) = true := by simp; omega
    have HR := Lib.hid hres
    clear hres
    go_enter Tryd.func169, Tryd.ntmps169
    go_wp2
    ((try simp only [Exit.inBlock, Exit.then]); refine bodyPost_ret (results_cell_row rfl _ _ (w.heap.size) 24 ?cs2 (0, 0) _ rfl ?hg2 Tryd.underlying24 rfl ?hi2) rfl ?_; (case hg2 => first | exact heap_alloc2_new _ _ _ | exact Kt.heap_alloc3_new _ _ _ _ | exact Kt.heap_alloc2_old _ _ _); (case hi2 => kernel_rfl))
    exact ⟨_, rfl, HR.out, (hB.alloc (Nat.le_refl _) _).alloc (by simp) _⟩
end St
end Go.Proofs.YtoeeddfinmfnoaaDoor
