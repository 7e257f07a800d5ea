/- dofferlaw23: alive. -/
import Derived.Test.YteekonojmpihlaaDoorQCbLay
import Derived.Test.YteekonojmpihlaaDoorQSame
namespace Go.Proofs.YteekonojmpihlaaDoor
namespace Kt
end Kt
open Go Go.RowKit Kt
namespace Cb
theorem lay_two : layable [[0, 0, 1], [0, 1, 0]] = true := by decide
theorem rd_block {W : World} {g T : Nat} {cs : Array Value} {fr : Nat × Nat} {xs : List Value} (h : W.heap[g]? = some (.cells cs T fr)) (hx : cs.toList = xs) : Rd W (some ⟨g, 0, none⟩) xs := by
  subst hx
  intro i x hi
  exact ⟨g, 0, rfl, by rw [Nat.zero_add, cell_block h i]; simpa using hi⟩
set_option maxRecDepth 100000 in
set_option maxHeartbeats 2000000 in
theorem alive_c (w : World) : Calls Tryd.prog 34 #[] w fun e w' => e = .returned (.bool true) ∧ Below w.heap.size w w' := by
  obtain ⟨s, hs⟩ : ∃ s, w.heap.size = s := ⟨_, rfl⟩
  obtain ⟨W3, hW3⟩ : ∃ W, ((w.alloc (.cells #[.int .i64 0, .int .i64 0, .int .i64 1] 3 (0, 0))).alloc (.cells #[.int .i64 0, .int .i64 1, .int .i64 0] 3 (0, 0))).alloc (.cells #[.slice (some ⟨s, 0, none⟩) 3 3, .slice (some ⟨s + 1, 0, none⟩) 3 3] 69 (0, 0)) = W := ⟨_, rfl⟩
  have h0 : W3.heap[s]? = some (.cells #[.int .i64 0, .int .i64 0, .int .i64 1] 3 (0, 0)) := by
    rw [← hW3, ← hs]
    exact block_alloc (block_alloc (heap_alloc_new w _))
  have h1 : W3.heap[s + 1]? = some (.cells #[.int .i64 0, .int .i64 1, .int .i64 0] 3 (0, 0)) := by
    rw [← hW3, ← hs]
    have h := heap_alloc_new (w.alloc (.cells #[.int .i64 0, .int .i64 0, .int .i64 1] 3 (0, 0))) (.cells #[.int .i64 0, .int .i64 1, .int .i64 0] 3 (0, 0))
    rw [World.size_alloc] at h
    exact block_alloc h
  have h2 : W3.heap[s + 1 + 1]? = some (.cells #[.slice (some ⟨s, 0, none⟩) 3 3, .slice (some ⟨s + 1, 0, none⟩) 3 3] 69 (0, 0)) := by
    rw [← hW3, ← hs]
    have h := heap_alloc_new ((w.alloc (.cells #[.int .i64 0, .int .i64 0, .int .i64 1] 3 (0, 0))).alloc (.cells #[.int .i64 0, .int .i64 1, .int .i64 0] 3 (0, 0))) (.cells #[.slice (some ⟨w.heap.size, 0, none⟩) 3 3, .slice (some ⟨w.heap.size + 1, 0, none⟩) 3 3] 69 (0, 0))
    rw [World.size_alloc, World.size_alloc] at h
    exact h
  have b3 : Below w.heap.size w W3 := by rw [← hW3]; exact (((Below.refl _ _).alloc (Nat.le_refl _) _).alloc (by simp) _).alloc (by simp; omega) _
  have hlay := lay_c (some ⟨s + 1 + 1, 0, none⟩) 2 2 [⟨some ⟨s, 0, none⟩, 3, [0, 0, 1]⟩, ⟨some ⟨s + 1, 0, none⟩, 3, [0, 1, 0]⟩] [[0, 0, 1], [0, 1, 0]] rfl rfl (by omega) lay_two W3 (rd_block h2 rfl) (fun r hr => by
    simp only [List.mem_cons, List.not_mem_nil, or_false] at hr
    rcases hr with rfl | rfl
    · exact ⟨Nat.le_refl 3, (by show 3 ≤ maxLen; decide), fun h => (by cases h), rd_block h0 rfl⟩
    · exact ⟨Nat.le_refl 3, (by show 3 ≤ maxLen; decide), fun h => (by cases h), rd_block h1 rfl⟩)
  rw [lay_alive] at hlay
  have HLay := Lib.hid hlay
  have HB3 := Lib.hid b3
  have HW3 := Lib.hid hW3
  have Hs := Lib.hid hs
  clear hlay b3 hW3 hs h0 h1 h2
  go_enter Tryd.func34, Tryd.ntmps34
  go_wp2_with fail
  rw [Hs.out, HW3.out]
  refine HLay.out.mono ?_
  rintro _ w5 ⟨c, rfl, hcw, hcb, hcd, hcn, hck, hI, hb5⟩
  have hcv : cv c = .agg #[.int .i64 c.wide, .slice c.a1 2 c.c1, .slice c.a2 2 c.c2, .slice c.a3 3 c.c3, .slice c.a4 3 c.c4] := by
    unfold cv cells
    rw [hcb, hcd, hcn, hck]
    rfl
  have r1 := hI.r1
  have r4 := hI.r4
  rw [hcb] at r1
  rw [hck] at r4
  rw [hcv]
  generalize c.wide = wd at *
  generalize c.a1 = A1 at *
  generalize c.a2 = A2 at *
  generalize c.a3 = A3 at *
  generalize c.a4 = A4 at *
  generalize c.c1 = k1 at *
  generalize c.c2 = k2 at *
  generalize c.c3 = k3 at *
  generalize c.c4 = k4 at *
  obtain ⟨W6, hW6⟩ : ∃ W, w5.alloc (.cells #[.int .i64 wd, .slice A1 2 k1, .slice A2 2 k2, .slice A3 3 k3, .slice A4 3 k4] 71 (0, 0)) = W := ⟨_, rfl⟩
  have b6 : Below w5.heap.size w5 W6 := by rw [← hW6]; exact (Below.refl _ _).alloc (Nat.le_refl _) _
  have s6 : W6.heap[w5.heap.size]? = some (.cells #[.int .i64 wd, .slice A1 2 k1, .slice A2 2 k2, .slice A3 3 k3, .slice A4 3 k4] 71 (0, 0)) := by rw [← hW6]; exact heap_alloc_new _ _
  have hB6 := HB3.out.trans ((hb5.trans (b6.mono hb5.size)).mono HB3.out.size)
  have hc6 : ∀ V, Below W6.heap.size W6 V → V.cell? ⟨w5.heap.size, 1, none⟩ = some (.slice A1 2 k1) ∧ V.cell? ⟨w5.heap.size, 4, none⟩ = some (.slice A4 3 k4) := fun V hV => by
    have h := box5 ((hV.block _ (block_lt s6)).trans s6)
    exact ⟨h.2.1, h.2.2.2.2⟩
  have r16 := r1.keep b6
  have r46 := r4.keep b6
  have hs1 := Sm.same_eq A1 (some ⟨W6.heap.size, 0, none⟩) k1 2 2 2 [0, 0] (W6.alloc (.cells #[.int .i64 0, .int .i64 0] 3 (0, 0))) rfl rfl (by omega) (r16.alloc _) (Rd.new W6 #[.int .i64 0, .int .i64 0] 3 (0, 0) _ rfl)
  have hs2 : ∀ V, Below W6.heap.size W6 V → Calls Tryd.prog 40 #[.slice A4 3 k4, .slice (some ⟨V.heap.size, 0, none⟩) 3 3] (V.alloc (.cells #[.int .i64 (-1), .int .i64 1, .int .i64 0] 3 (0, 0))) fun e w' => e = .returned (.bool true) ∧ ∃ n, (V.alloc (.cells #[.int .i64 (-1), .int .i64 1, .int .i64 0] 3 (0, 0))).drewN n = w' := fun V hV =>
    Sm.same_eq A4 (some ⟨V.heap.size, 0, none⟩) k4 3 3 3 [-1, 1, 0] _ rfl rfl (by omega) ((r46.keep hV).alloc _) (Rd.new V #[.int .i64 (-1), .int .i64 1, .int .i64 0] 3 (0, 0) _ rfl)
  obtain ⟨z1, z4⟩ := hc6 W6 (Below.refl _ _)
  have HC6 := Lib.hid hc6
  have HS1 := Lib.hid hs1
  have HS2 := Lib.hid hs2
  have HB6 := Lib.hid hB6
  have HW6 := Lib.hid hW6
  clear hcw hcb hcd hcn hck hI hb5 hcv r1 r4 hW6 b6 s6 hB6 hc6 r16 r46 hs1 hs2 HLay HB3 HW3 Hs
  go_upto_region 2 with (fail)
  rw [HW6.out]
  go_wp2_with fail
  refine HS1.out.mono ?_
  rintro _ w7 ⟨rfl, n7, hw7⟩
  have hB7 : Below W6.heap.size W6 w7 := by rw [← hw7]; exact below_drewN ((Below.refl _ _).alloc (Nat.le_refl _) _) n7
  have HB7 := Lib.hid hB7
  obtain ⟨y1, y4⟩ := HC6.out w7 hB7
  clear hw7 hB7 z1 z4 HS1
  go_wp2_with fail
  refine (HS2.out w7 HB7.out).mono ?_
  rintro _ w8 ⟨rfl, n8, hw8⟩
  have hB8 : Below W6.heap.size W6 w8 := by rw [← hw8]; exact below_drewN (HB7.out.alloc HB7.out.size _) n8
  have HB8 := Lib.hid hB8
  clear hw8 hB8 HS2
  go_wp2
  go_ret
  exact ⟨rfl, HB6.out.trans (HB8.out.mono HB6.out.size)⟩
end Cb
end Go.Proofs.YteekonojmpihlaaDoor
