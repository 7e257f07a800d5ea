/- The walks of package sets: Minus; the chapter's example. Condition of the latter: the table of TrailingZeros64 reads as laid. -/
import Derived.Test.YtbdpafdpkgeibaaDoorSets7
import Derived.Test.YtbdpafdpkgeibaaDoorSets3
namespace Go.Proofs.YtbdpafdpkgeibaaDoor
open Go Go.RowKit Kt
namespace St
open Mk
set_option maxHeartbeats 2000000 in
set_option maxRecDepth 100000 in
theorem minus_c (ws us : List Nat) (f g : Nat → Bool) (hw : IsSet ws f) (hu : IsSet us g) (w : World) : Calls Tryd.prog 42 #[sv ws, sv us] w fun e w' => ∃ rs, e = .returned (sv rs) ∧ IsSet rs (fun c => f c && !g c) ∧ Below w.heap.size w w' := by
  obtain ⟨x0, x1, x2, x3, rfl⟩ := four hw.len
  obtain ⟨y0, y1, y2, y3, rfl⟩ := four hu.len
  have hn : ∀ W, Calls Tryd.prog 43 #[.agg #[.int .u64 (y0 : Int), .int .u64 (y1 : Int), .int .u64 (y2 : Int), .int .u64 (y3 : Int)]] W fun e w' => ∃ rs, e = .returned (sv rs) ∧ IsSet rs (fun c => !g c) ∧ Below W.heap.size W w' := fun W => not_c _ g hu W
  have ha : ∀ rs h, IsSet rs h → ∀ W, Calls Tryd.prog 41 #[.agg #[.int .u64 (x0 : Int), .int .u64 (x1 : Int), .int .u64 (x2 : Int), .int .u64 (x3 : Int)], sv rs] W fun e w' => ∃ ts, e = .returned (sv ts) ∧ IsSet ts (fun c => f c && h c) ∧ Below W.heap.size W w' := fun rs h hr W => and_c _ rs f h hw hr W
  have HN := Lib.hid hn
  have HA := Lib.hid ha
  clear hn ha
  simp only [sv, vals, List.map_cons, List.map_nil]
  go_enter Tryd.func42, Tryd.ntmps42
  go_wp2_with fail
  obtain ⟨w3, hw3⟩ : ∃ w3, (((w.alloc (.cells #[.int .u64 (x0 : Int), .int .u64 (x1 : Int), .int .u64 (x2 : Int), .int .u64 (x3 : Int)] 54)).alloc (.cells #[.int .u64 (y0 : Int), .int .u64 (y1 : Int), .int .u64 (y2 : Int), .int .u64 (y3 : Int)] 54)).alloc (.cells #[.int .u64 0, .int .u64 0, .int .u64 0, .int .u64 0] 54)) = w3 := ⟨_, rfl⟩
  rw [hw3]
  have hB : Below w.heap.size w w3 := by
    rw [← hw3]
    exact (((Below.refl _ w).alloc (Nat.le_refl _) _).alloc (by simp) _).alloc (by simp; omega) _
  have hX : w3.heap[w.heap.size]? = some (.cells #[.int .u64 (x0 : Int), .int .u64 (x1 : Int), .int .u64 (x2 : Int), .int .u64 (x3 : Int)] 54 (0, 0)) := by
    rw [← hw3, heap_alloc_old _ _ _ (by simp; omega)]
    exact Kt.heap_alloc2_old _ _ _
  have hY : w3.heap[w.heap.size + 1]? = some (.cells #[.int .u64 (y0 : Int), .int .u64 (y1 : Int), .int .u64 (y2 : Int), .int .u64 (y3 : Int)] 54 (0, 0)) := by
    rw [← hw3, heap_alloc_old _ _ _ (by simp)]
    exact heap_alloc2_new _ _ _
  have hZ : w3.heap[w.heap.size + 2]? = some (.cells #[.int .u64 0, .int .u64 0, .int .u64 0, .int .u64 0] 54 (0, 0)) := by
    rw [← hw3]
    exact Kt.heap_alloc3_new _ _ _ _
  clear hw3
  have sk : ∀ W, Below w3.heap.size w3 W → (W.cell? ⟨w.heap.size, 0, none⟩ = some (.int .u64 (x0 : Int)) ∧ W.cell? ⟨w.heap.size, 1, none⟩ = some (.int .u64 (x1 : Int)) ∧ W.cell? ⟨w.heap.size, 2, none⟩ = some (.int .u64 (x2 : Int)) ∧ W.cell? ⟨w.heap.size, 3, none⟩ = some (.int .u64 (x3 : Int)) ∧ W.cell? ⟨w.heap.size + 1, 0, none⟩ = some (.int .u64 (y0 : Int)) ∧ W.cell? ⟨w.heap.size + 1, 1, none⟩ = some (.int .u64 (y1 : Int)) ∧ W.cell? ⟨w.heap.size + 1, 2, none⟩ = some (.int .u64 (y2 : Int)) ∧ W.cell? ⟨w.heap.size + 1, 3, none⟩ = some (.int .u64 (y3 : Int))) := by
    intro W hb
    have h1 : W.heap[w.heap.size]? = _ := (hb.block _ (block_lt hX)).trans hX
    have h2 : W.heap[w.heap.size + 1]? = _ := (hb.block _ (block_lt hY)).trans hY
    exact ⟨cell_block h1 0, cell_block h1 1, cell_block h1 2, cell_block h1 3, cell_block h2 0, cell_block h2 1, cell_block h2 2, cell_block h2 3⟩
  have sk2 : ∀ W, Below w3.heap.size w3 W → ∀ a b c d : Value, (((((W.setCell ⟨w.heap.size + 1 + 1, 0, none⟩ a).setCell ⟨w.heap.size + 1 + 1, 1, none⟩ b).setCell ⟨w.heap.size + 1 + 1, 2, none⟩ c).setCell ⟨w.heap.size + 1 + 1, 3, none⟩ d).cell? ⟨w.heap.size, 0, none⟩ = some (.int .u64 (x0 : Int)) ∧ ((((W.setCell ⟨w.heap.size + 1 + 1, 0, none⟩ a).setCell ⟨w.heap.size + 1 + 1, 1, none⟩ b).setCell ⟨w.heap.size + 1 + 1, 2, none⟩ c).setCell ⟨w.heap.size + 1 + 1, 3, none⟩ d).cell? ⟨w.heap.size, 1, none⟩ = some (.int .u64 (x1 : Int)) ∧ ((((W.setCell ⟨w.heap.size + 1 + 1, 0, none⟩ a).setCell ⟨w.heap.size + 1 + 1, 1, none⟩ b).setCell ⟨w.heap.size + 1 + 1, 2, none⟩ c).setCell ⟨w.heap.size + 1 + 1, 3, none⟩ d).cell? ⟨w.heap.size, 2, none⟩ = some (.int .u64 (x2 : Int)) ∧ ((((W.setCell ⟨w.heap.size + 1 + 1, 0, none⟩ a).setCell ⟨w.heap.size + 1 + 1, 1, none⟩ b).setCell ⟨w.heap.size + 1 + 1, 2, none⟩ c).setCell ⟨w.heap.size + 1 + 1, 3, none⟩ d).cell? ⟨w.heap.size, 3, none⟩ = some (.int .u64 (x3 : Int)) ∧ ((((W.setCell ⟨w.heap.size + 1 + 1, 0, none⟩ a).setCell ⟨w.heap.size + 1 + 1, 1, none⟩ b).setCell ⟨w.heap.size + 1 + 1, 2, none⟩ c).setCell ⟨w.heap.size + 1 + 1, 3, none⟩ d).cell? ⟨w.heap.size + 1, 0, none⟩ = some (.int .u64 (y0 : Int)) ∧ ((((W.setCell ⟨w.heap.size + 1 + 1, 0, none⟩ a).setCell ⟨w.heap.size + 1 + 1, 1, none⟩ b).setCell ⟨w.heap.size + 1 + 1, 2, none⟩ c).setCell ⟨w.heap.size + 1 + 1, 3, none⟩ d).cell? ⟨w.heap.size + 1, 1, none⟩ = some (.int .u64 (y1 : Int)) ∧ ((((W.setCell ⟨w.heap.size + 1 + 1, 0, none⟩ a).setCell ⟨w.heap.size + 1 + 1, 1, none⟩ b).setCell ⟨w.heap.size + 1 + 1, 2, none⟩ c).setCell ⟨w.heap.size + 1 + 1, 3, none⟩ d).cell? ⟨w.heap.size + 1, 2, none⟩ = some (.int .u64 (y2 : Int)) ∧ ((((W.setCell ⟨w.heap.size + 1 + 1, 0, none⟩ a).setCell ⟨w.heap.size + 1 + 1, 1, none⟩ b).setCell ⟨w.heap.size + 1 + 1, 2, none⟩ c).setCell ⟨w.heap.size + 1 + 1, 3, none⟩ d).cell? ⟨w.heap.size + 1, 3, none⟩ = some (.int .u64 (y3 : Int))) := by
    intro W hb a b c d
    have h1 : ((((W.setCell ⟨w.heap.size + 1 + 1, 0, none⟩ a).setCell ⟨w.heap.size + 1 + 1, 1, none⟩ b).setCell ⟨w.heap.size + 1 + 1, 2, none⟩ c).setCell ⟨w.heap.size + 1 + 1, 3, none⟩ d).heap[w.heap.size]? = some (.cells #[.int .u64 (x0 : Int), .int .u64 (x1 : Int), .int .u64 (x2 : Int), .int .u64 (x3 : Int)] 54 (0, 0)) := by
      rw [block_setOther (by omega), block_setOther (by omega), block_setOther (by omega), block_setOther (by omega)]
      exact (hb.block _ (block_lt hX)).trans hX
    have h2 : ((((W.setCell ⟨w.heap.size + 1 + 1, 0, none⟩ a).setCell ⟨w.heap.size + 1 + 1, 1, none⟩ b).setCell ⟨w.heap.size + 1 + 1, 2, none⟩ c).setCell ⟨w.heap.size + 1 + 1, 3, none⟩ d).heap[w.heap.size + 1]? = some (.cells #[.int .u64 (y0 : Int), .int .u64 (y1 : Int), .int .u64 (y2 : Int), .int .u64 (y3 : Int)] 54 (0, 0)) := by
      rw [block_setOther (by omega), block_setOther (by omega), block_setOther (by omega), block_setOther (by omega)]
      exact (hb.block _ (block_lt hY)).trans hY
    exact ⟨cell_block h1 0, cell_block h1 1, cell_block h1 2, cell_block h1 3, cell_block h2 0, cell_block h2 1, cell_block h2 2, cell_block h2 3⟩
  have SK2 := Lib.hid sk2
  have SK := Lib.hid sk
  have HZ := Lib.hid hZ
  have HB := Lib.hid hB
  have y0' : Below w3.heap.size w3 w3.drew := (Below.refl _ _).drew
  have yr : Below w3.heap.size w3 w3 := (Below.refl _ _)
  clear sk sk2 hX hY hZ hB hw hu
  go_region_held3 (fun W => W.cell? ⟨w.heap.size, 0, none⟩ = some (.int .u64 (x0 : Int)) ∧ W.cell? ⟨w.heap.size, 1, none⟩ = some (.int .u64 (x1 : Int)) ∧ W.cell? ⟨w.heap.size, 2, none⟩ = some (.int .u64 (x2 : Int)) ∧ W.cell? ⟨w.heap.size, 3, none⟩ = some (.int .u64 (x3 : Int)) ∧ W.cell? ⟨w.heap.size + 1, 0, none⟩ = some (.int .u64 (y0 : Int)) ∧ W.cell? ⟨w.heap.size + 1, 1, none⟩ = some (.int .u64 (y1 : Int)) ∧ W.cell? ⟨w.heap.size + 1, 2, none⟩ = some (.int .u64 (y2 : Int)) ∧ W.cell? ⟨w.heap.size + 1, 3, none⟩ = some (.int .u64 (y3 : Int)))
    (first | with_reducible exact SK.out _ yr | with_reducible exact SK.out _ y0' | with_reducible exact SK.out _ y5 | with_reducible exact SK.out _ y6 | exact SK2.out _ y6 _ _ _ _)
    (first
      | (go_at_call 43; refine (HN.out _).mono ?_; rintro e w5 ⟨rs, rfl, hrs, hb5⟩
         have y5 := y0'.trans (hb5.mono y0'.size))
      | (go_at_call 41; refine (HA.out rs _ hrs _).mono ?_; rintro e w6 ⟨ts, rfl, hts, hb6⟩
         have y6 := y5.trans (hb6.mono y5.size)
         obtain ⟨t0, t1, t2, t3, rfl⟩ := four hts.len
         have hz6 := (y6.block _ (block_lt HZ.out)).trans HZ.out
         have k0 := cell_block hz6 0
         have k1 := cell_block hz6 1
         have k2 := cell_block hz6 2
         have k3 := cell_block hz6 3
         have f0 := frozen_block hz6 0
         have f1 := frozen_block hz6 1
         have f2 := frozen_block hz6 2
         have f3 := frozen_block hz6 3
         simp at k0 k1 k2 k3
         have HS := Lib.hid (store4 hz6 (.int .u64 (t0 : Int)) (.int .u64 (t1 : Int)) (.int .u64 (t2 : Int)) (.int .u64 (t3 : Int)))
         have HTs := Lib.hid hts
         have HB6 := Lib.hid (HB.out.trans (y6.mono HB.out.size))
         clear hz6 hts
         simp only [sv, vals, List.map_cons, List.map_nil]))
  go_wp2
  ((try simp only [Exit.inBlock, Exit.then]); refine bodyPost_ret (results_cell_row rfl _ _ (w.heap.size + 2) 54 _ (0, 0) _ rfl (HS.out) Tryd.underlying54 rfl ?hi1) rfl ?_; (case hi1 => kernel_rfl))
  exact ⟨_, rfl, HTs.out, (((HB6.out.setCell (p := ⟨w.heap.size + 2, 0, none⟩) (by simp) _).setCell (p := ⟨w.heap.size + 2, 1, none⟩) (by simp) _).setCell (p := ⟨w.heap.size + 2, 2, none⟩) (by simp) _).setCell (p := ⟨w.heap.size + 2, 3, none⟩) (by simp) _⟩
end St
end Go.Proofs.YtbdpafdpkgeibaaDoor
