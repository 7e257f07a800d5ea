/- Package comb: Lay, of rows that may not be laid. -/
import Derived.Test.YteekonojmpihlaaDoorQCbLayable
import Derived.Test.YteekonojmpihlaaDoorQRetCell
import Derived.Test.YteekonojmpihlaaDoorQCbPut2
import Derived.RegionTactic
namespace Go.Proofs.YteekonojmpihlaaDoor
namespace Kt
end Kt
open Go Go.RowKit Kt
namespace Cb
def cs0 : Cs := ⟨0, none, [], 0, none, [], 0, none, [], 0, none, [], 0⟩
set_option maxRecDepth 100000 in
set_option maxHeartbeats 4000000 in
theorem lay_no (ra : Option Addr) (n rc : Nat) (L0 : List IRow) (rows : List (List Int)) (hL : L0.map (·.l) = rows) (hn : L0.length = n) (hN : n ≤ 1000) (hy : layable rows = false) (w : World) (hr : Rd w ra (L0.map IRow.v)) (hok : ∀ r ∈ L0, r.ok w) (X : Value) (hX : w.cell? ⟨1, 0, none⟩ = some X) :
    Calls Tryd.prog 36 #[.slice ra n rc] w fun e w' => e = .returned (.tuple #[cv cs0, X]) ∧ Below w.heap.size w w' := by
  obtain ⟨W1, hW1⟩ : ∃ W1, w.alloc (.cells #[.int .i64 0, .slice none 0 0, .slice none 0 0, .slice none 0 0, .slice none 0 0] 71 (0, 0)) = W1 := ⟨_, rfl⟩
  have b1 : Below w.heap.size w W1 := by rw [← hW1]; exact (Below.refl _ _).alloc (Nat.le_refl _) _
  have s1 : W1.heap[w.heap.size]? = some (.cells #[.int .i64 0, .slice none 0 0, .slice none 0 0, .slice none 0 0, .slice none 0 0] 71 (0, 0)) := by rw [← hW1]; exact heap_alloc_new _ _
  have hlay := layable_c ra n rc L0 rows hL hn (by omega) W1 (hr.keep b1) (fun r h => (hok r h).keep b1)
  rw [hy] at hlay
  have hXb := lt_of_cell hX
  obtain ⟨R, hR⟩ : ∃ R, w.heap.size = R := ⟨_, rfl⟩
  have hXR : (1 : Nat) < R := by rw [← hR]; exact hXb
  rw [hR] at s1
  have hsk : ∀ W, Below w.heap.size w W → W.cell? ⟨1, 0, none⟩ = some X := fun W hb => (hb.cell (p := ⟨1, 0, none⟩) hXb).trans hX
  have HW1 := Lib.hid hW1
  have HB1 := Lib.hid b1
  have HS1 := Lib.hid s1
  have HLay := Lib.hid hlay
  have HR := Lib.hid hR
  have HSk := Lib.hid hsk
  clear hW1 b1 s1 hlay hL hn hy hr hok hR hX hXb hsk
  go_enter Tryd.func36, Tryd.ntmps36
  go_upto_region 1 with (fail)
  rw [HW1.out, HR.out]
  go_wp2_with fail
  refine HLay.out.mono ?_
  rintro _ w2 ⟨rfl, hb2⟩
  have hB2 := HB1.out.trans (hb2.mono HB1.out.size)
  have hS2 := (hb2.block _ (block_lt HS1.out)).trans HS1.out
  have hX2 := HSk.out _ hB2
  have HB2 := Lib.hid hB2
  have HS2 := Lib.hid hS2
  clear hb2 HB1 HS1 HLay HW1 hB2
  obtain ⟨q0, q1, q2, q3, q4⟩ := box5 hS2
  have f0 := frozen_block hS2 0
  have f1 := frozen_block hS2 1
  have f2 := frozen_block hS2 2
  have f3 := frozen_block hS2 3
  have f4 := frozen_block hS2 4
  have hne : (1 : Nat) ≠ R := by omega
  obtain ⟨wF, hwF⟩ : ∃ W, ((((w2.setCell ⟨R, 0, none⟩ (.int .i64 0)).setCell ⟨R, 1, none⟩ (.slice none 0 0)).setCell ⟨R, 2, none⟩ (.slice none 0 0)).setCell ⟨R, 3, none⟩ (.slice none 0 0)).setCell ⟨R, 4, none⟩ (.slice none 0 0) = W := ⟨_, rfl⟩
  have hMF : Mod [R] w2 wF := by
    rw [← hwF]
    exact ((((((Mod.refl [R] w2).setCell (.inl (by simp)) _).setCell (.inl (by simp)) _).setCell (.inl (by simp)) _).setCell (.inl (by simp)) _).setCell (.inl (by simp)) _)
  have hFb : wF.drew.heap[R]? = some (.cells #[.int .i64 0, .slice none 0 0, .slice none 0 0, .slice none 0 0, .slice none 0 0] 71 (0, 0)) := by
    show wF.heap[R]? = _
    rw [← hwF, block_setCell (block_setCell (block_setCell (block_setCell (block_setCell hS2 _) _) _) _) _]
    simp
  have hbF : Below w.heap.size w wF.drew := (HB2.out.trans (hMF.toBelow HB2.out.size (fun x hx => by simp at hx; have := HR.out; omega))).drew
  have HwF := Lib.hid hwF
  have HFb := Lib.hid hFb
  have HbF := Lib.hid hbF
  clear hwF hMF hFb hbF hS2
  go_wp2
  have bw : Below w.heap.size w2 w2 := Below.refl _ _
  go_region
  go_wp2

  rw [HwF.out]
  ((try simp only [Exit.inBlock, Exit.then]); refine bodyPost_ret (Kt.results_cell2_row rfl _ _ (R) 71 _ (0, 0) _ rfl (HFb.out) Tryd.underlying71 rfl ?hi1) rfl ?_; (case hi1 => kernel_rfl))
  exact ⟨rfl, HbF.out⟩
end Cb
end Go.Proofs.YteekonojmpihlaaDoor
