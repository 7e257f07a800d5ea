import Derived.Test.YtoeeddfinmfnoaaDoorQRxName
import Derived.Test.YtoeeddfinmfnoaaDoorQRxSimple
import Derived.Test.YtoeeddfinmfnoaaDoorQTreeRight
/- The walks of package regex: Plain, Simple. -/
namespace Go.Proofs.YtoeeddfinmfnoaaDoor
namespace Kt
end Kt
namespace St
end St
namespace Sp
end Sp
namespace Bk
end Bk
namespace Tr
end Tr
open Go Go.RowKit Kt St Sp Bk Tr
namespace Rx
set_option maxRecDepth 100000 in
set_option maxHeartbeats 4000000 in
theorem plain_c (n : Nd) (ht : ∀ x ∈ walk n, x.1.text.length ≤ 9223372036854775807) (w : World) (hIs : Is w.heap.size w n) : Calls Tryd.prog 15 #[nv n] w fun e w' => e = .returned (.bool (rgt n && !lone n)) ∧ Below w.heap.size w w' := by
  obtain ⟨x0, x1, x2, x3, hs⟩ := four hIs.len
  obtain ⟨k, mn, mx, a, nl, c, t, hnv, _⟩ := nv_explicit hs
  obtain ⟨W1, hW1⟩ : ∃ W1, w.alloc (.cells #[.int .i64 k, .int .u64 (x0 : Int), .int .u64 (x1 : Int), .int .u64 (x2 : Int), .int .u64 (x3 : Int), .slice a nl c, .int .i64 mn, .int .i64 mx, .string (Str t)] 27) = W1 := ⟨_, rfl⟩
  have b1 : Below w.heap.size w W1 := by rw [← hW1]; exact (Below.refl _ _).alloc (Nat.le_refl _) _
  have l1 : W1.heap[w.heap.size]? = some (.cells #[.int .i64 k, .int .u64 (x0 : Int), .int .u64 (x1 : Int), .int .u64 (x2 : Int), .int .u64 (x3 : Int), .slice a nl c, .int .i64 mn, .int .i64 mx, .string (Str t)] 27 (0, 0)) := by rw [← hW1]; exact World.alloc_heap_new _ _
  have hr := right_c n ht W1 (Is.mono b1.size (Is.below b1 hIs))
  have hl : ∀ W, Below W1.heap.size W1 W → Calls Tryd.prog 44 #[nv n] W fun e w' => e = .returned (.bool (lone n)) ∧ Below W.heap.size W w' := fun W hb => lone_all n W (Is.mono (b1.trans (hb.mono b1.size)).size (Is.below (b1.trans (hb.mono b1.size)) hIs))
  obtain ⟨R, hR⟩ : ∃ R, rgt n = R := ⟨_, rfl⟩
  obtain ⟨L, hL⟩ : ∃ L, lone n = L := ⟨_, rfl⟩
  rw [hR, hnv] at hr
  rw [hL, hnv] at hl
  rw [hR, hL, hnv]
  have hcl : ∀ W, Below W1.heap.size W1 W → (W.cell? ⟨w.heap.size, 0, none⟩ = some (.int .i64 k) ∧ W.cell? ⟨w.heap.size, 1, none⟩ = some (.int .u64 (x0 : Int)) ∧ W.cell? ⟨w.heap.size, 2, none⟩ = some (.int .u64 (x1 : Int)) ∧ W.cell? ⟨w.heap.size, 3, none⟩ = some (.int .u64 (x2 : Int)) ∧ W.cell? ⟨w.heap.size, 4, none⟩ = some (.int .u64 (x3 : Int)) ∧ W.cell? ⟨w.heap.size, 5, none⟩ = some (.slice a nl c) ∧ W.cell? ⟨w.heap.size, 6, none⟩ = some (.int .i64 mn) ∧ W.cell? ⟨w.heap.size, 7, none⟩ = some (.int .i64 mx) ∧ W.cell? ⟨w.heap.size, 8, none⟩ = some (.string (Str t))) := fun W hb => nd_cells ((hb.block _ (block_lt l1)).trans l1)
  obtain ⟨u0, u1, u2, u3, u4, u5, u6, u7, u8⟩ := hcl W1 (Below.refl _ _)
  have HR := Lib.hid hr
  have HL := Lib.hid hl
  have HCl := Lib.hid hcl
  have HW1 := Lib.hid hW1
  have HB := Lib.hid b1
  clear hr hl hcl hW1 b1 l1 hnv hs hIs ht hR hL
  go_enter Tryd.func15, Tryd.ntmps15
  go_upto_region 1 with (fail)
  rw [HW1.out]
  go_wp2_with fail
  with_reducible refine HR.out.mono ?_
  rintro e w2 ⟨rfl, hb2⟩
  clear u0 u1 u2 u3 u4 u5 u6 u7 u8
  have hB2 := HB.out.trans (hb2.mono HB.out.size)
  have HB2 := Lib.hid hB2
  cases R with
  | false =>
    clear hb2 hB2
    go_wp2
    go_ret
    exact ⟨rfl, HB2.out⟩
  | true =>
    obtain ⟨u0, u1, u2, u3, u4, u5, u6, u7, u8⟩ := HCl.out w2 hb2
    have HC := Lib.hid (HL.out w2 hb2)
    clear hb2 hB2
    go_wp2_with fail
    with_reducible refine HC.out.mono ?_
    rintro e w3 ⟨rfl, hb3⟩
    have hB3 := HB2.out.trans (hb3.mono HB2.out.size)
    have HB3 := Lib.hid hB3
    clear hb3 hB3 u0 u1 u2 u3 u4 u5 u6 u7 u8
    cases L <;> (
      go_wp2
      go_ret
      exact ⟨rfl, HB3.out⟩)
/-- What Simple answers. -/
def SmP (n : Nd) (w : World) (e : Ending) (w' : World) : Prop := ∃ m, e = .returned (nv m) ∧ (rgt n = true → er m = simp n) ∧ (rgt n = false → m.kind = 0) ∧ Od w.heap.size w' m ∧ Below w.heap.size w w'
set_option maxRecDepth 100000 in
set_option maxHeartbeats 4000000 in
theorem Simple_c (n : Nd) (ht : ∀ x ∈ walk n, x.1.text.length ≤ 9223372036854775807) (w : World) (hIs : Is w.heap.size w n) : Calls Tryd.prog 16 #[nv n] w (SmP n w) := by
  obtain ⟨x0, x1, x2, x3, hs⟩ := four hIs.len
  obtain ⟨k, mn, mx, a, nl, c, t, hnv, _⟩ := nv_explicit hs
  obtain ⟨B2, hB2⟩ : ∃ B2, Obj.cells #[.int .i64 k, .int .u64 (x0 : Int), .int .u64 (x1 : Int), .int .u64 (x2 : Int), .int .u64 (x3 : Int), .slice a nl c, .int .i64 mn, .int .i64 mx, .string (Str t)] 27 (0, 0) = B2 := ⟨_, rfl⟩
  obtain ⟨B4, hB4⟩ : ∃ B4, Obj.cells #[.int .i64 0, .int .u64 0, .int .u64 0, .int .u64 0, .int .u64 0, .slice none 0 0, .int .i64 0, .int .i64 0, .string ⟨#[]⟩] 27 (0, 0) = B4 := ⟨_, rfl⟩
  have z1 : (w.alloc B2).heap.size = w.heap.size + 1 := by simp
  have l2 : ((w.alloc B2).alloc B4).heap[w.heap.size]? = some B2 := block_alloc (World.alloc_heap_new w B2)
  have l4 : ((w.alloc B2).alloc B4).heap[w.heap.size + 1]? = some B4 := by rw [← z1]; exact World.alloc_heap_new _ B4
  have hB : Below w.heap.size w ((w.alloc B2).alloc B4) := ((Below.refl _ w).alloc (Nat.le_refl _) _).alloc (by simp) _
  obtain ⟨W3, hW3⟩ : ∃ W3, (w.alloc B2).alloc B4 = W3 := ⟨_, rfl⟩
  have z3 : W3.heap.size = w.heap.size + 2 := by rw [← hW3]; simp
  rw [hW3] at l2 l4 hB
  rw [← hB2, ← hB4] at hW3
  rw [← hB2] at l2
  rw [← hB4] at l4
  clear hB2 hB4 z1 B2 B4
  have hcp := Rx.Copy_c n ht W3 (Is.mono hB.size (Is.below hB hIs))
  have hsz : ∀ m : Nd, (rgt n = true → er m = er n) → (rgt n = false → m = .mk 0 [0, 0, 0, 0] 0 0 [] none 0 []) → (rgt n = true → simp m = simp n) ∧ (rgt n = false → simp m = .mk 0 [0, 0, 0, 0] 0 0 [] none 0 []) := fun m h1 h2 => ⟨fun h => by rw [← simp_er m, h1 h, simp_er], fun h => by rw [h2 h]; rfl⟩
  rw [hnv] at hcp ⊢
  obtain ⟨u0, u1, u2, u3, u4, u5, u6, u7, u8⟩ := nd_cells l2
  have HC := Lib.hid hcp
  have HSz := Lib.hid hsz
  have HW3 := Lib.hid hW3
  have HB := Lib.hid hB
  have H4 := Lib.hid l4
  have HZ := Lib.hid z3
  clear hcp hsz hW3 hB l4 z3 l2 hnv hs hIs ht
  go_enter Tryd.func16, Tryd.ntmps16
  go_upto_region 1 with (fail)
  rw [HW3.out]
  go_wp2_with fail
  with_reducible refine HC.out.mono ?_
  rintro e w4 ⟨m, rfl, h1, h2, hod, hnd, hb4⟩
  clear u0 u1 u2 u3 u4 u5 u6 u7 u8
  obtain ⟨hs1, hs2⟩ := HSz.out m h1 h2
  have hsi := simple_all W3.heap.size (sz m) m (Nat.le_refl _) hnd w4 hod
  have hlt := hod.lt
  obtain ⟨v0, v1, v2, v3, hvs⟩ := four hod.len
  obtain ⟨k', mn', mx', a', nl', c', t', hnv, _⟩ := nv_explicit hvs
  rw [hnv] at hsi ⊢
  have HS := Lib.hid hsi
  have H1 := Lib.hid (And.intro hs1 (And.intro hs2 (And.intro hb4 hlt)))
  clear hsi hs1 hs2 hb4 hlt hnv hvs hod hnd h1 h2
  go_wp2_with fail
  with_reducible refine HS.out.mono ?_
  rintro e w5 ⟨m2, rfl, hme, hod, _, hM⟩
  obtain ⟨hs1, hs2, hb4, hlt⟩ := H1.out
  have hz := HZ.out
  have hb35 : Below W3.heap.size W3 w5 := hb4.trans (hM.toBelow hb4.size fun q hq => (hlt q hq).1)
  have h5 := (hb35.block _ (block_lt H4.out)).trans H4.out
  obtain ⟨v0, v1, v2, v3, hvs⟩ := four hod.len
  obtain ⟨k9, mn9, mx9, a9, nl9, c9, t9, hnv, _⟩ := nv_explicit hvs
  obtain ⟨⟨d0, d1, d2, d3, d4, d5, d6, d7, d8⟩, f0, f1, f2, f3, f4, f5, f6, f7, f8⟩ := z9_cells h5
  have hpb := put9_block h5 (.int .i64 k9) (.int .u64 (v0 : Int)) (.int .u64 (v1 : Int)) (.int .u64 (v2 : Int)) (.int .u64 (v3 : Int)) (.slice a9 nl9 c9) (.int .i64 mn9) (.int .i64 mx9) (.string (Str t9))
  have hpm := put9_mod w5 (w.heap.size + 1) (.int .i64 k9) (.int .u64 (v0 : Int)) (.int .u64 (v1 : Int)) (.int .u64 (v2 : Int)) (.int .u64 (v3 : Int)) (.slice a9 nl9 c9) (.int .i64 mn9) (.int .i64 mx9) (.string (Str t9))
  have hre : SmP n w (.returned (.agg #[.int .i64 k9, .int .u64 (v0 : Int), .int .u64 (v1 : Int), .int .u64 (v2 : Int), .int .u64 (v3 : Int), .slice a9 nl9 c9, .int .i64 mn9, .int .i64 mx9, .string (Str t9)])) (put9 w5 (w.heap.size + 1) (.int .i64 k9) (.int .u64 (v0 : Int)) (.int .u64 (v1 : Int)) (.int .u64 (v2 : Int)) (.int .u64 (v3 : Int)) (.slice a9 nl9 c9) (.int .i64 mn9) (.int .i64 mx9) (.string (Str t9))) :=
    ⟨m2, by rw [hnv], fun h => hme.trans (hs1 h), fun h => by rw [← er_kind, hme, hs2 h]; rfl, (Od.mod hpm hod fun q hq => by have := (hod.lt q hq).1; simp; omega).base (by omega), (HB.out.trans (hb35.mono HB.out.size)).trans (hpm.toBelow (by have := HB.out.size; have := hb35.size; omega) (by simp))⟩
  have HRe := Lib.hid hre
  have HPb := Lib.hid hpb
  simp only [hnv]
  clear hre hpb hpm hnv hvs hod hme hM hs1 hs2 hb4 hlt hz hb35 h5
  go_wp2
  ((try simp only [Exit.inBlock, Exit.then]); refine bodyPost_ret (results_cell_row rfl _ _ (w.heap.size + 1) 27 _ (0, 0) _ rfl (HPb.out) Tryd.underlying27 rfl ?hi1) rfl ?_; (case hi1 => kernel_rfl))
  exact HRe.out
end Rx
end Go.Proofs.YtoeeddfinmfnoaaDoor
