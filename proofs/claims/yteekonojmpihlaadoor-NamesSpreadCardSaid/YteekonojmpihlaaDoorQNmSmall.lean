import Derived.Test.YteekonojmpihlaaDoorQNmSp
import Derived.Test.YteekonojmpihlaaDoorQTreeOf
import Derived.Test.YteekonojmpihlaaDoorQRetCell
/- dofferlaw11.small. -/
namespace Go.Proofs.YteekonojmpihlaaDoor
namespace Kt
end Kt
namespace St
end St
namespace Sp
end Sp
namespace Bk
end Bk
namespace Tr
end Tr
open Go Go.RowKit Kt St Sp Bk Tr
namespace Bo
/-- What small answers. -/
def SmlP (n : Nd) (w : World) (e : Ending) (w' : World) : Prop := ∃ m, e = .returned (.tuple #[nv m, .bool (decide (sz n < 700))]) ∧ (sz n < 700 → er m = er n) ∧ Is w'.heap.size w' m ∧ Bl (w.heap.size ≤ ·) m ∧ Below w.heap.size w w'
set_option maxRecDepth 100000 in
set_option maxHeartbeats 1000000 in
theorem small11_c (n : Nd) (w : World) (hIs : Is w.heap.size w n) : Calls Tryd.prog 22 #[nv n] w (SmlP n w) := by
  obtain ⟨x0, x1, x2, x3, hx⟩ := four' hIs.len
  obtain ⟨k, mn, mx, a, nl, cc, t, hnv, _⟩ := nv_explicit hx
  obtain ⟨B2, hB2⟩ : ∃ B2, Obj.cells #[.int .i64 k, .int .u64 (x0 : Int), .int .u64 (x1 : Int), .int .u64 (x2 : Int), .int .u64 (x3 : Int), .slice a nl cc, .int .i64 mn, .int .i64 mx, .string (Str t)] 37 (0, 0) = B2 := ⟨_, rfl⟩
  obtain ⟨B4, hB4⟩ : ∃ B4, Obj.cells #[.int .i64 0, .int .u64 0, .int .u64 0, .int .u64 0, .int .u64 0, .slice none 0 0, .int .i64 0, .int .i64 0, .string ⟨#[]⟩] 44 (0, 0) = B4 := ⟨_, rfl⟩
  have z1 : (w.alloc B2).heap.size = w.heap.size + 1 := by simp
  have l2 : ((w.alloc B2).alloc B4).heap[w.heap.size]? = some B2 := block_alloc (World.alloc_heap_new w B2)
  have l4 : ((w.alloc B2).alloc B4).heap[w.heap.size + 1]? = some B4 := by rw [← z1]; exact World.alloc_heap_new _ B4
  have hB : Below w.heap.size w ((w.alloc B2).alloc B4) := ((Below.refl _ w).alloc (Nat.le_refl _) _).alloc (by simp) _
  obtain ⟨W3, hW3⟩ : ∃ W3, (w.alloc B2).alloc B4 = W3 := ⟨_, rfl⟩
  have z3 : W3.heap.size = w.heap.size + 2 := by rw [← hW3]; simp
  rw [hW3] at l2 l4 hB
  rw [← hB2, ← hB4] at hW3
  rw [← hB2] at l2
  rw [← hB4] at l4
  clear hB2 hB4 z1 B2 B4
  have hof := of_all n 700 (by decide) (by decide) W3 (Is.mono hB.size (Is.below hB hIs))
  rw [hnv, show ((700 : Nat) : Int) = 700 from rfl] at hof
  rw [hnv]
  have HW3 := Lib.hid hW3
  have HB := Lib.hid hB
  have HZ := Lib.hid z3
  have H4 := Lib.hid l4
  have HOf := Lib.hid hof
  obtain ⟨u0, u1, u2, u3, u4, u5, u6, u7, u8⟩ := nd_cells l2
  clear hof l2 l4 hB z3 hW3 hIs hnv hx
  go_enter Tryd.func22, Tryd.ntmps22
  go_upto_region 1 with (fail)
  rw [HW3.out]
  go_wp2_with fail
  with_reducible refine HOf.out.mono ?_
  rintro e w6 ⟨m, r, rfl, o1, o2, q3, q4, hb6⟩
  have hz3 := HZ.out
  have l46 := (hb6.block _ (block_lt H4.out)).trans H4.out
  obtain ⟨v0, v1, v2, v3, hvs⟩ := four' q3.len
  obtain ⟨k', mn', mx', a', nl', c', t', hnv, hcl⟩ := nv_explicit hvs
  obtain ⟨W7, hW7⟩ : ∃ W7, w6.alloc (.cells #[.int .i64 k', .int .u64 (v0 : Int), .int .u64 (v1 : Int), .int .u64 (v2 : Int), .int .u64 (v3 : Int), .slice a' nl' c', .int .i64 mn', .int .i64 mx', .string (Str t')] 44) = W7 := ⟨_, rfl⟩
  have b7 : Below w6.heap.size w6 W7 := by rw [← hW7]; exact (Below.refl _ _).alloc (Nat.le_refl _) _
  have s7 : W7.heap[w6.heap.size]? = some (.cells #[.int .i64 k', .int .u64 (v0 : Int), .int .u64 (v1 : Int), .int .u64 (v2 : Int), .int .u64 (v3 : Int), .slice a' nl' c', .int .i64 mn', .int .i64 mx', .string (Str t')] 44 (0, 0)) := by rw [← hW7]; exact heap_alloc_new w6 _
  have l47 := (b7.block _ (block_lt l46)).trans l46
  have hB7 : Below w.heap.size w W7 := (HB.out.trans (hb6.mono HB.out.size)).trans (b7.mono (by have := HB.out.size; have := hb6.size; omega))
  have hpb := put9_block l47 (.int .i64 k') (.int .u64 (v0 : Int)) (.int .u64 (v1 : Int)) (.int .u64 (v2 : Int)) (.int .u64 (v3 : Int)) (.slice a' nl' c') (.int .i64 mn') (.int .i64 mx') (.string (Str t'))
  have hpm := put9_mod W7 (w.heap.size + 1) (.int .i64 k') (.int .u64 (v0 : Int)) (.int .u64 (v1 : Int)) (.int .u64 (v2 : Int)) (.int .u64 (v3 : Int)) (.slice a' nl' c') (.int .i64 mn') (.int .i64 mx') (.string (Str t'))
  have hrt : sz n < 700 → (0 : Int) < (r : Int) := fun h => by have := (o1 h).1; omega
  have hre : SmlP n w (.returned (.tuple #[nv m, .bool (decide (sz n < 700))])) (put9 W7 (w.heap.size + 1) (.int .i64 k') (.int .u64 (v0 : Int)) (.int .u64 (v1 : Int)) (.int .u64 (v2 : Int)) (.int .u64 (v3 : Int)) (.slice a' nl' c') (.int .i64 mn') (.int .i64 mx') (.string (Str t'))) :=
    ⟨m, rfl, fun h => (o1 h).2, is_mod (Is.mono b7.size (Is.below b7 q3)) q4 hpm (fun b hb => .inl fun hq => by simp at hb; omega), q4.mono fun q hq => by omega, hB7.trans (hpm.toBelow hB7.size (by simp))⟩
  rw [hnv] at hre
  have HRe := Lib.hid hre
  have HPb := Lib.hid hpb
  have HW7 := Lib.hid hW7
  obtain ⟨d0, d1, d2, d3, d4, d5, d6, d7, d8⟩ := nd_cells l47
  obtain ⟨f0, f1, f2, f3, f4, f5, f6, f7, f8⟩ := frz9 l47
  simp only [hnv]
  by_cases h7 : sz n < 700
  · rw [decide_eq_true h7] at HRe
    have hr0 := hrt h7
    have hr1 : 0 < r := by omega
    clear hre hpb hpm hB7 b7 l47 l46 hb6 q3 q4 o1 o2 hnv hcl hvs hrt hW7 u0 u1 u2 u3 u4 u5 u6 u7 u8
    obtain ⟨u0, u1, u2, u3, u4, u5, u6, u7, u8⟩ := nd_cells s7
    clear s7
    go_upto_region 2 with (fail)
    rw [HW7.out]
    go_wp2
    ((try simp only [Exit.inBlock, Exit.then]); refine bodyPost_ret (Kt.results_cell2_row rfl _ _ (w.heap.size + 1) 44 _ (0, 0) _ rfl (HPb.out) Tryd.underlying44 rfl ?hi1) rfl ?_; (case hi1 => kernel_rfl))
    exact HRe.out
  · rw [decide_eq_false h7] at HRe
    obtain rfl : r = 0 := o2 h7
    clear hre hpb hpm hB7 b7 l47 l46 hb6 q3 q4 o1 o2 hnv hcl hvs hrt hW7 u0 u1 u2 u3 u4 u5 u6 u7 u8
    obtain ⟨u0, u1, u2, u3, u4, u5, u6, u7, u8⟩ := nd_cells s7
    clear s7
    go_upto_region 2 with (fail)
    rw [HW7.out]
    go_wp2
    ((try simp only [Exit.inBlock, Exit.then]); refine bodyPost_ret (Kt.results_cell2_row rfl _ _ (w.heap.size + 1) 44 _ (0, 0) _ rfl (HPb.out) Tryd.underlying44 rfl ?hi2) rfl ?_; (case hi2 => kernel_rfl))
    exact HRe.out
end Bo
end Go.Proofs.YteekonojmpihlaaDoor
