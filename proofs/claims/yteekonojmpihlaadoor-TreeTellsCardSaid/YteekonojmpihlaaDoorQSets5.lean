import Derived.Test.YteekonojmpihlaaDoorQSets3
import Derived.Deep.RegionHeld3
/- The walks of package sets: Minus, All, Has, Len, Empty, One. -/
namespace Go.Proofs.YteekonojmpihlaaDoor
open Go Go.RowKit Kt
namespace St
open Mk
theorem zero_set : IsSet [0, 0, 0, 0] (fun _ => false) := by
  refine isSet_of (by intro x hx; simp at hx; subst hx; decide) fun i hi t ht => ?_
  have hi4 : i = 0 ∨ i = 1 ∨ i = 2 ∨ i = 3 := by omega
  rcases hi4 with rfl | rfl | rfl | rfl <;> simp
theorem store4 {w : World} {b T : Nat} {a0 a1 a2 a3 : Value} (h : w.heap[b]? = some (.cells #[a0, a1, a2, a3] T (0, 0))) (z0 z1 z2 z3 : Value) :
    ((((w.setCell ⟨b, 0, none⟩ z0).setCell ⟨b, 1, none⟩ z1).setCell ⟨b, 2, none⟩ z2).setCell ⟨b, 3, none⟩ z3).heap[b]? = some (.cells #[z0, z1, z2, z3] T (0, 0)) := by
  rw [block_setCell (block_setCell (block_setCell (block_setCell h z0) z1) z2) z3]
  rfl
theorem build_zero (w : World) : (Instr.build 34 #[]).run Tryd.prog w = .ok (sv [0, 0, 0, 0]) w := by kernel_rfl
set_option maxHeartbeats 1000000 in
set_option maxRecDepth 100000 in
theorem all_c (w : World) : Calls Tryd.prog 129 #[] w fun e w' => ∃ rs, e = .returned (sv rs) ∧ IsSet rs (fun _ => true) ∧ Below w.heap.size w w' := by
  have hb : ∀ w, (Instr.build 34 #[]).run Tryd.prog w = .ok (.agg #[.int .u64 0, .int .u64 0, .int .u64 0, .int .u64 0]) w := fun w => build_zero w
  have HN := Lib.hid (fun w => not_c [0, 0, 0, 0] _ zero_set w)
  go_enter Tryd.func129, Tryd.ntmps129
  go_wp2_with fail
  refine (HN.out _).mono ?_
  rintro e w1 ⟨rs, rfl, hrs, hb1⟩
  obtain ⟨z0, z1, z2, z3, rfl⟩ := four hrs.len
  have hr : w1.heap[w.heap.size]? = some (.cells #[.int .u64 0, .int .u64 0, .int .u64 0, .int .u64 0] 34 (0, 0)) := by
    rw [hb1.block _ (by simp)]
    exact heap_alloc_new w _
  have hB := ((Below.refl w.heap.size w).alloc (Nat.le_refl _) (.cells #[.int .u64 0, .int .u64 0, .int .u64 0, .int .u64 0] 34)).trans (hb1.mono (by simp))
  have k0 := cell_block hr 0
  have k1 := cell_block hr 1
  have k2 := cell_block hr 2
  have k3 := cell_block hr 3
  have f0 := frozen_block hr 0
  have f1 := frozen_block hr 1
  have f2 := frozen_block hr 2
  have f3 := frozen_block hr 3
  simp at k0 k1 k2 k3
  have HS := Lib.hid (store4 hr (.int .u64 (z0 : Int)) (.int .u64 (z1 : Int)) (.int .u64 (z2 : Int)) (.int .u64 (z3 : Int)))
  have HR := Lib.hid hrs
  have HB := Lib.hid hB
  simp only [sv, vals, List.map_cons, List.map_nil]
  clear hr hrs hb1 hB
  go_wp2
  ((try simp only [Exit.inBlock, Exit.then]); refine bodyPost_ret (results_cell_row rfl _ _ (w.heap.size) 34 _ (0, 0) _ rfl (HS.out) Tryd.underlying34 rfl ?hi1) rfl ?_; (case hi1 => kernel_rfl))
  exact ⟨_, rfl, HR.out, (((HB.out.setCell (p := ⟨w.heap.size, 0, none⟩) (Nat.le_refl _) _).setCell (p := ⟨w.heap.size, 1, none⟩) (Nat.le_refl _) _).setCell (p := ⟨w.heap.size, 2, none⟩) (Nat.le_refl _) _).setCell (p := ⟨w.heap.size, 3, none⟩) (Nat.le_refl _) _⟩
set_option maxHeartbeats 1000000 in
set_option maxRecDepth 100000 in
theorem len_c (ws : List Nat) (f : Nat → Bool) (hw : IsSet ws f) (w : World) : Calls Tryd.prog 109 #[sv ws] w fun e w' => e = .returned (.int .i64 ((all ws).length : Nat)) ∧ Below w.heap.size w w' := by
  obtain ⟨x0, x1, x2, x3, rfl⟩ := four hw.len
  have o0 := fun w => Bt.ones_c x0 (hw.lt x0 (by simp)) w
  have o1 := fun w => Bt.ones_c x1 (hw.lt x1 (by simp)) w
  have o2 := fun w => Bt.ones_c x2 (hw.lt x2 (by simp)) w
  have o3 := fun w => Bt.ones_c x3 (hw.lt x3 (by simp)) w
  have i0 : ∀ w, (Instr.index 34 (.agg #[.int .u64 (x0 : Int), .int .u64 (x1 : Int), .int .u64 (x2 : Int), .int .u64 (x3 : Int)]) (.int .i64 0)).run Tryd.prog w = .ok (.int .u64 (x0 : Int)) w := fun w => index_run (ws := [x0, x1, x2, x3]) rfl 0 (by omega) w
  have i1 : ∀ w, (Instr.index 34 (.agg #[.int .u64 (x0 : Int), .int .u64 (x1 : Int), .int .u64 (x2 : Int), .int .u64 (x3 : Int)]) (.int .i64 1)).run Tryd.prog w = .ok (.int .u64 (x1 : Int)) w := fun w => index_run (ws := [x0, x1, x2, x3]) rfl 1 (by omega) w
  have i2 : ∀ w, (Instr.index 34 (.agg #[.int .u64 (x0 : Int), .int .u64 (x1 : Int), .int .u64 (x2 : Int), .int .u64 (x3 : Int)]) (.int .i64 2)).run Tryd.prog w = .ok (.int .u64 (x2 : Int)) w := fun w => index_run (ws := [x0, x1, x2, x3]) rfl 2 (by omega) w
  have i3 : ∀ w, (Instr.index 34 (.agg #[.int .u64 (x0 : Int), .int .u64 (x1 : Int), .int .u64 (x2 : Int), .int .u64 (x3 : Int)]) (.int .i64 3)).run Tryd.prog w = .ok (.int .u64 (x3 : Int)) w := fun w => index_run (ws := [x0, x1, x2, x3]) rfl 3 (by omega) w
  have hc := cnt_all [x0, x1, x2, x3]
  have e1 := Bt.pc_le 64 x0
  have e2 := Bt.pc_le 64 x1
  have e3 := Bt.pc_le 64 x2
  have e4 := Bt.pc_le 64 x3
  unfold cnt at hc
  simp only [List.map_cons, List.map_nil, List.sum_cons, List.sum_nil, Nat.add_zero] at hc
  rw [← hc]
  have O0 := Lib.hid o0
  have O1 := Lib.hid o1
  have O2 := Lib.hid o2
  have O3 := Lib.hid o3
  clear hc hw o0 o1 o2 o3
  generalize Bt.pc 64 x0 = p0 at *
  generalize Bt.pc 64 x1 = p1 at *
  generalize Bt.pc 64 x2 = p2 at *
  generalize Bt.pc 64 x3 = p3 at *
  have HB := Lib.hid (Below.refl w.heap.size w)
  simp only [sv, vals, List.map_cons, List.map_nil]
  go_enter Tryd.func109, Tryd.ntmps109
  go_wp2
  refine wp_loop_rounds 5 ?_
  rw [rounds_succ]
  go_wp2_with fail
  refine (O0.out _).mono ?_
  rintro e w1 ⟨rfl, rfl⟩
  go_wp2
  rw [rounds_succ]
  go_wp2_with fail
  refine (O1.out _).mono ?_
  rintro e w1 ⟨rfl, rfl⟩
  go_wp2
  rw [rounds_succ]
  go_wp2_with fail
  refine (O2.out _).mono ?_
  rintro e w1 ⟨rfl, rfl⟩
  go_wp2
  rw [rounds_succ]
  go_wp2_with fail
  refine (O3.out _).mono ?_
  rintro e w1 ⟨rfl, rfl⟩
  go_wp2
  rw [rounds_succ]
  go_wp2
  go_ret
  exact ⟨by first | rfl | (simp; omega), HB.out.alloc (Nat.le_refl _) _⟩
end St
end Go.Proofs.YteekonojmpihlaaDoor
