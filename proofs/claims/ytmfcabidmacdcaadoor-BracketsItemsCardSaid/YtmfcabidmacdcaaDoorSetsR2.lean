/- The document's sets: dofferref01.Span, Both. -/
import Derived.Test.YtmfcabidmacdcaaDoorSetsR
namespace Go.Proofs.YtmfcabidmacdcaaDoor
open Go Go.RowKit Kt
namespace St
open Mk
theorem elBool : Kt.El Tryd.prog 103 4 (.bool false) 1 1 := ⟨Tryd.underlying103, info_parts (by kernel_rfl), rfl, by decide⟩
def mkl (f : Nat → Bool) : List Bool := (List.range 256).map f
theorem mkl_len (f : Nat → Bool) : (mkl f).length = 256 := by simp [mkl]
theorem mkl_get (f : Nat → Bool) (q : Nat) (hq : q < 256) : (mkl f).getD q false = f q := by
  rw [List.getD_eq_getElem?_getD]
  simp [mkl, hq]
theorem mkl_set (f g : Nat → Bool) (c : Nat) (v : Bool) (hv : g c = v) (h : ∀ q, q < 256 → q ≠ c → g q = f q) : (bools (mkl f)).set c (.bool v) = bools (mkl g) := by
  unfold bools
  rw [← List.map_set]
  congr 1
  apply List.ext_getElem
  · simp [mkl]
  · intro i h1 h2
    rw [List.getElem_set]
    have hi : i < 256 := by simpa [mkl] using h2
    by_cases hic : c = i
    · subst hic
      rw [if_pos rfl, ← hv]
      simp [mkl]
    · rw [if_neg hic]
      simp only [mkl, List.getElem_map, List.getElem_range]
      exact (h i hi (fun e => hic e.symm)).symm
theorem mkl_congr {f g : Nat → Bool} (h : ∀ q, q < 256 → f q = g q) : mkl f = mkl g := by
  apply List.map_congr_left
  intro q hq
  exact h q (by simpa using hq)
theorem zerosN (N : Nat) : (madeCells (Value.bool false).cells N).toList = bools ((List.range N).map fun _ => false) := by
  have e : (Value.bool false).cells = #[.bool false] := rfl
  rw [e, toList_madeCells_one]
  unfold bools
  rw [List.map_map]
  apply List.ext_getElem
  · simp
  · intro i h1 h2
    simp
theorem zeros256 : (madeCells (Value.bool false).cells (256 * 1)).toList = bools (mkl fun _ => false) := zerosN 256
/-- The loop of Span. -/
def RsR (w : World) (lo hi : Nat) (i : Value) (W : World) : Prop := ∃ c : Nat, lo ≤ c ∧ c ≤ 256 ∧ (c ≤ hi + 1 ∨ c = lo) ∧ i = .int .i64 (c : Int) ∧
  W.ownsRow (w.heap.size + 1) 4 1 (.slice (some ⟨w.heap.size + 1, 0, none⟩) 256 256) 256 (bools (mkl fun q => decide (lo ≤ q) && decide (q < c))) ∧
  W.heap[w.heap.size]? = some (.cells #[.int .u64 0, .int .u64 0, .int .u64 0, .int .u64 0] 24 (0, 0)) ∧ Below w.heap.size w W
set_option maxHeartbeats 2000000 in
set_option maxRecDepth 100000 in
theorem rspan_c (lo hi : Nat) (h1 : lo < 256) (h2 : hi < 256) (w : World) : Calls Tryd.prog 20 #[.int .i64 (lo : Int), .int .i64 (hi : Int)] w fun e w' => ∃ rs, e = .returned (sv rs) ∧ IsSet rs (fun q => decide (lo ≤ q) && decide (q ≤ hi)) ∧ Below w.heap.size w w' := by
  obtain ⟨w2, hmk, own, gr⟩ := elBool.make (w.heap.size + 1) (w.alloc (.cells #[.int .u64 0, .int .u64 0, .int .u64 0, .int .u64 0] 24)) .i64 .i64 256 256 rfl (by omega) (by unfold maxLen; omega) (by simp)
  have hb1 : Below (w.heap.size + 1) (w.alloc (.cells #[.int .u64 0, .int .u64 0, .int .u64 0, .int .u64 0] 24)) w2 := below_made gr (by simp)
  have hB := ((Below.refl w.heap.size w).alloc (Nat.le_refl _) (.cells #[.int .u64 0, .int .u64 0, .int .u64 0, .int .u64 0] 24)).trans (hb1.mono (Nat.le_succ _))
  have hz : w2.heap[w.heap.size]? = some (.cells #[.int .u64 0, .int .u64 0, .int .u64 0, .int .u64 0] 24 (0, 0)) := by
    rw [hb1.block _ (Nat.lt_succ_self _)]
    exact heap_alloc_new w _
  rw [World.size_alloc] at hmk own
  rw [zeros256] at own
  have own' : w2.ownsRow (w.heap.size + 1) 4 1 (.slice (some ⟨w.heap.size + 1, 0, none⟩) 256 256) 256 (bools (mkl fun q => decide (lo ≤ q) && decide (q < lo))) := by
    rw [mkl_congr (g := fun _ => false)]
    · exact own
    · intro q _
      rw [Bool.eq_iff_iff]
      simp
  have HO := Lib.hid own'
  have HB := Lib.hid hB
  have HZ := Lib.hid hz
  clear own own' gr hb1 hB hz
  go_enter Tryd.func20, Tryd.ntmps20
  go_wp2
  go_loopw [6] (fun i W => RsR w lo hi i W) (fun i _ => 257 - (intOf i).toNat)
  case atStart => exact ⟨lo, Nat.le_refl _, by omega, .inr rfl, rfl, HO.out, HZ.out, HB.out⟩
  case round =>
    obtain ⟨c, hlc, hc256, hch, rfl, hown, hz, hB⟩ := hrel
    by_cases hle : c ≤ hi
    · have hc : c < 256 := by omega
      have hcell : ∃ v, wr.cell? ⟨w.heap.size + 1, c, none⟩ = some v := by
        obtain ⟨bb, off, he, hcc⟩ := Rd.bool (Rd.own hown) c (by rw [mkl_len]; exact hc)
        simp only [Option.some.injEq, Addr.mk.injEq, and_true] at he
        obtain ⟨rfl, rfl⟩ := he
        exact ⟨_, by simpa using hcc⟩
      obtain ⟨v0, hcell⟩ := hcell
      have hfz := hown.frozenAt c
      have hst := (World.ownsRow.stored hown c (.bool true)).1
      rw [mkl_set _ (fun q => decide (lo ≤ q) && decide (q < c + 1)) c true (by simp; omega) (fun q _ hq => by congr 1; apply decide_eq_decide.2; omega)] at hst
      have hz2 : (wr.setCell ⟨w.heap.size + 1, c, none⟩ (.bool true)).heap[w.heap.size]? = some (.cells #[.int .u64 0, .int .u64 0, .int .u64 0, .int .u64 0] 24 (0, 0)) := by
        rw [block_setOther (by omega)]
        exact hz
      have hB2 := hB.setCell (p := ⟨w.heap.size + 1, c, none⟩) (Nat.le_succ _) (.bool true)
      have HS := Lib.hid hst
      have HZ2 := Lib.hid hz2
      have HB2 := Lib.hid hB2
      clear hown hst hz hz2 hB hB2
      go_wp2
      go_roundw
      case rel => first | exact ⟨c + 1, by omega, by omega, .inl (by omega), by go_num, HS.out, HZ2.out, HB2.out⟩ | ((repeat apply Exists.intro); refine ⟨?r, ?f⟩; (case f => (and_intros <;> rfl)); exact ⟨c + 1, by omega, by omega, .inl (by omega), by go_num, HS.out, HZ2.out, HB2.out⟩)
      case measure => simp [intOf]; omega
    · have hspec : (mkl fun q => decide (lo ≤ q) && decide (q < c)) = mkl fun q => decide (lo ≤ q) && decide (q ≤ hi) := mkl_congr fun q _ => by
        rw [Bool.eq_iff_iff]
        simp
        intro _
        omega
      rw [hspec] at hown
      have hof := rof_c (some ⟨w.heap.size + 1, 0, none⟩) 256 256 _ wr (mkl_len _) rfl (Rd.own hown)
      have HF := Lib.hid hof
      have HZ2 := Lib.hid hz
      have HB2 := Lib.hid hB
      clear hof hspec hown hz hB
      go_wp2_with fail
      refine HF.out.mono ?_
      rintro e w5 ⟨rs, rfl, hrs, hb5⟩
      have hset : IsSet rs (fun q => decide (lo ≤ q) && decide (q ≤ hi)) := ⟨hrs.len, hrs.lt, fun q hq => by rw [hrs.at' q hq]; exact mkl_get _ q hq⟩
      obtain ⟨x0, x1, x2, x3, rfl⟩ := four hrs.len
      have hz5 := (hb5.block _ (block_lt HZ2.out)).trans HZ2.out
      have k0 := cell_block hz5 0
      have k1 := cell_block hz5 1
      have k2 := cell_block hz5 2
      have k3 := cell_block hz5 3
      have f0 := frozen_block hz5 0
      have f1 := frozen_block hz5 1
      have f2 := frozen_block hz5 2
      have f3 := frozen_block hz5 3
      simp at k0 k1 k2 k3
      have HS := Lib.hid (store4 hz5 (.int .u64 (x0 : Int)) (.int .u64 (x1 : Int)) (.int .u64 (x2 : Int)) (.int .u64 (x3 : Int)))
      have HSet := Lib.hid hset
      have HB5 := Lib.hid (HB2.out.trans (hb5.mono HB2.out.size))
      simp only [sv, vals, List.map_cons, List.map_nil]
      clear hz5 hrs hset hb5
      go_wp2
      ((try simp only [Exit.inBlock, Exit.then]); refine bodyPost_ret (results_cell_row rfl _ _ (w.heap.size) 24 _ (0, 0) _ rfl (HS.out) Tryd.underlying24 rfl ?hi1) rfl ?_; (case hi1 => kernel_rfl))
      exact ⟨_, rfl, HSet.out, (((HB5.out.setCell (p := ⟨w.heap.size, 0, none⟩) (Nat.le_refl _) _).setCell (p := ⟨w.heap.size, 1, none⟩) (Nat.le_refl _) _).setCell (p := ⟨w.heap.size, 2, none⟩) (Nat.le_refl _) _).setCell (p := ⟨w.heap.size, 3, none⟩) (Nat.le_refl _) _⟩
end St
end Go.Proofs.YtmfcabidmacdcaaDoor
