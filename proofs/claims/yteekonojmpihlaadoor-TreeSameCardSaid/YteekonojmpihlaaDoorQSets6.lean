import Derived.Test.YteekonojmpihlaaDoorQSets5
import Derived.Test.YteekonojmpihlaaDoorQMarks
import Derived.Laws.StructEq
/- The walks of package sets: Has, Empty, Minus, One, below. -/
namespace Go.Proofs.YteekonojmpihlaaDoor
open Go Go.RowKit Kt
namespace St
open Mk
/-- Two sets held against one another. -/
theorem eq_run (xs ys : List Nat) (hx : xs.length = 4) (hy : ys.length = 4) (w : World) : (binOp .eql 34 (sv xs) (sv ys)).run Tryd.prog w = .ok (.bool (decide (xs = ys))) w := by
  obtain ⟨x0, x1, x2, x3, rfl⟩ := four hx
  obtain ⟨y0, y1, y2, y3, rfl⟩ := four hy
  have u3 := Tryd.underlying32
  obtain ⟨i, hi⟩ : ∃ i, Tryd.prog.info? 32 = some i := Option.isSome_iff_exists.1 (by kernel_rfl)
  have hce : Tryd.prog.cellsOf 32 = 1 := by kernel_rfl
  simp only [sv, vals, List.map_cons, List.map_nil]
  rw [run_eql_struct, show (10000 : Nat) = 9999 + 1 from rfl, run_equalIn_array (P := Tryd.prog) w 9999 _ _ Tryd.underlying34 hi, hce]
  rw [show List.range 4 = [0, 1, 2, 3] from rfl]
  simp only [Op.eqItems]
  go_simp
  by_cases h0 : x0 = y0 <;> by_cases h1 : x1 = y1 <;> by_cases h2 : x2 = y2 <;> by_cases h3 : x3 = y3 <;> simp [h0, h1, h2, h3] <;> (intros; omega)
set_option maxHeartbeats 1000000 in
set_option maxRecDepth 100000 in
theorem one_c (c : Nat) (hc : c < 256) (w : World) : Calls Tryd.prog 53 #[.int .u8 (c : Int)] w fun e w' => ∃ rs, e = .returned (sv rs) ∧ IsSet rs (fun q => decide (q = c)) ∧ Below w.heap.size w w' := by
  have hw := Mk.wrap_pow (t := c % 64) (m := 2 ^ (c % 64)) (by omega) rfl
  have hp : 2 ^ (c % 64) < 18446744073709551616 := Nat.pow_lt_pow_right (m := c % 64) (n := 64) (by decide) (by omega)
  have hbit : ∀ t, (2 ^ (c % 64)).testBit t = decide (c % 64 = t) := fun t => Nat.testBit_two_pow
  obtain ⟨k, hk⟩ : ∃ k, c / 64 = k := ⟨_, rfl⟩
  have hk4 : k = 0 ∨ k = 1 ∨ k = 2 ∨ k = 3 := by omega
  have hck : (c : Int) / 64 = (k : Int) := by omega
  have hB := (Below.refl w.heap.size w)
  obtain ⟨m, hm⟩ : ∃ m, 2 ^ (c % 64) = m := ⟨_, rfl⟩
  rw [hm] at hw hp hbit
  rcases hk4 with rfl | rfl | rfl | rfl
  · have hck' : (c : Int) / 64 = 0 := hck
    have hres : IsSet [m, 0, 0, 0] (fun q => decide (q = c)) := by
      refine isSet_of (by intro x hx; simp at hx; omega) fun i hi t ht => ?_
      have hi4 : i = 0 ∨ i = 1 ∨ i = 2 ∨ i = 3 := by omega
      rcases hi4 with rfl | rfl | rfl | rfl <;> simp [hbit] <;> omega
    have HR := Lib.hid hres
    clear hres hck hbit hm
    go_enter Tryd.func53, Tryd.ntmps53
    go_wp2
    ((try simp only [Exit.inBlock, Exit.then]); refine bodyPost_ret (results_cell_row rfl _ _ (w.heap.size) 34 ?cs1 (0, 0) _ rfl ?hg1 Tryd.underlying34 rfl ?hi1) rfl ?_; (case hg1 => first | exact heap_alloc2_new _ _ _ | exact Kt.heap_alloc3_new _ _ _ _ | exact Kt.heap_alloc2_old _ _ _); (case hi1 => kernel_rfl))
    exact ⟨_, rfl, HR.out, (hB.alloc (Nat.le_refl _) _).alloc (by simp) _⟩
  · have hck' : (c : Int) / 64 = 1 := hck
    have hres : IsSet [0, m, 0, 0] (fun q => decide (q = c)) := by
      refine isSet_of (by intro x hx; simp at hx; omega) fun i hi t ht => ?_
      have hi4 : i = 0 ∨ i = 1 ∨ i = 2 ∨ i = 3 := by omega
      rcases hi4 with rfl | rfl | rfl | rfl <;> simp [hbit] <;> omega
    have HR := Lib.hid hres
    clear hres hck hbit hm
    go_enter Tryd.func53, Tryd.ntmps53
    go_wp2
    ((try simp only [Exit.inBlock, Exit.then]); refine bodyPost_ret (results_cell_row rfl _ _ (w.heap.size) 34 ?cs2 (0, 0) _ rfl ?hg2 Tryd.underlying34 rfl ?hi2) rfl ?_; (case hg2 => first | exact heap_alloc2_new _ _ _ | exact Kt.heap_alloc3_new _ _ _ _ | exact Kt.heap_alloc2_old _ _ _); (case hi2 => kernel_rfl))
    exact ⟨_, rfl, HR.out, (hB.alloc (Nat.le_refl _) _).alloc (by simp) _⟩
  · have hck' : (c : Int) / 64 = 2 := hck
    have hres : IsSet [0, 0, m, 0] (fun q => decide (q = c)) := by
      refine isSet_of (by intro x hx; simp at hx; omega) fun i hi t ht => ?_
      have hi4 : i = 0 ∨ i = 1 ∨ i = 2 ∨ i = 3 := by omega
      rcases hi4 with rfl | rfl | rfl | rfl <;> simp [hbit] <;> omega
    have HR := Lib.hid hres
    clear hres hck hbit hm
    go_enter Tryd.func53, Tryd.ntmps53
    go_wp2
    ((try simp only [Exit.inBlock, Exit.then]); refine bodyPost_ret (results_cell_row rfl _ _ (w.heap.size) 34 ?cs3 (0, 0) _ rfl ?hg3 Tryd.underlying34 rfl ?hi3) rfl ?_; (case hg3 => first | exact heap_alloc2_new _ _ _ | exact Kt.heap_alloc3_new _ _ _ _ | exact Kt.heap_alloc2_old _ _ _); (case hi3 => kernel_rfl))
    exact ⟨_, rfl, HR.out, (hB.alloc (Nat.le_refl _) _).alloc (by simp) _⟩
  · have hck' : (c : Int) / 64 = 3 := hck
    have hres : IsSet [0, 0, 0, m] (fun q => decide (q = c)) := by
      refine isSet_of (by intro x hx; simp at hx; omega) fun i hi t ht => ?_
      have hi4 : i = 0 ∨ i = 1 ∨ i = 2 ∨ i = 3 := by omega
      rcases hi4 with rfl | rfl | rfl | rfl <;> simp [hbit] <;> omega
    have HR := Lib.hid hres
    clear hres hck hbit hm
    go_enter Tryd.func53, Tryd.ntmps53
    go_wp2
    ((try simp only [Exit.inBlock, Exit.then]); refine bodyPost_ret (results_cell_row rfl _ _ (w.heap.size) 34 ?cs4 (0, 0) _ rfl ?hg4 Tryd.underlying34 rfl ?hi4) rfl ?_; (case hg4 => first | exact heap_alloc2_new _ _ _ | exact Kt.heap_alloc3_new _ _ _ _ | exact Kt.heap_alloc2_old _ _ _); (case hi4 => kernel_rfl))
    exact ⟨_, rfl, HR.out, (hB.alloc (Nat.le_refl _) _).alloc (by simp) _⟩
end St
end Go.Proofs.YteekonojmpihlaaDoor
