import Derived.Test.YteekonojmpihlaaDoorQSetsR
import Derived.Deep.RegionHeld3
/- The document's sets: dofferref01.Span, Both. -/
namespace Go.Proofs.YteekonojmpihlaaDoor
open Go Go.RowKit Kt
namespace St
open Mk
theorem elBool : Kt.El Tryd.prog 191 4 (.bool false) 1 1 := ⟨Tryd.underlying191, info_parts (by kernel_rfl), rfl, by decide⟩
def mkl (f : Nat → Bool) : List Bool := (List.range 256).map f
theorem mkl_len (f : Nat → Bool) : (mkl f).length = 256 := by simp [mkl]
theorem mkl_get (f : Nat → Bool) (q : Nat) (hq : q < 256) : (mkl f).getD q false = f q := by
  rw [List.getD_eq_getElem?_getD]
  simp [mkl, hq]
theorem mkl_set (f g : Nat → Bool) (c : Nat) (v : Bool) (hv : g c = v) (h : ∀ q, q < 256 → q ≠ c → g q = f q) : (bools (mkl f)).set c (.bool v) = bools (mkl g) := by
  unfold bools
  rw [← List.map_set]
  congr 1
  apply List.ext_getElem
  · simp [mkl]
  · intro i h1 h2
    rw [List.getElem_set]
    have hi : i < 256 := by simpa [mkl] using h2
    by_cases hic : c = i
    · subst hic
      rw [if_pos rfl, ← hv]
      simp [mkl]
    · rw [if_neg hic]
      simp only [mkl, List.getElem_map, List.getElem_range]
      exact (h i hi (fun e => hic e.symm)).symm
theorem mkl_congr {f g : Nat → Bool} (h : ∀ q, q < 256 → f q = g q) : mkl f = mkl g := by
  apply List.map_congr_left
  intro q hq
  exact h q (by simpa using hq)
theorem zerosN (N : Nat) : (madeCells (Value.bool false).cells N).toList = bools ((List.range N).map fun _ => false) := by
  have e : (Value.bool false).cells = #[.bool false] := rfl
  rw [e, toList_madeCells_one]
  unfold bools
  rw [List.map_map]
  apply List.ext_getElem
  · simp
  · intro i h1 h2
    simp
theorem zeros256 : (madeCells (Value.bool false).cells (256 * 1)).toList = bools (mkl fun _ => false) := zerosN 256
/-- The loop of Span. -/
def RsR (w : World) (lo hi : Nat) (i : Value) (W : World) : Prop := ∃ c : Nat, lo ≤ c ∧ c ≤ 256 ∧ (c ≤ hi + 1 ∨ c = lo) ∧ i = .int .i64 (c : Int) ∧
  W.ownsRow (w.heap.size + 1) 4 1 (.slice (some ⟨w.heap.size + 1, 0, none⟩) 256 256) 256 (bools (mkl fun q => decide (lo ≤ q) && decide (q < c))) ∧
  W.heap[w.heap.size]? = some (.cells #[.int .u64 0, .int .u64 0, .int .u64 0, .int .u64 0] 33 (0, 0)) ∧ Below w.heap.size w W
set_option maxHeartbeats 2000000 in
set_option maxRecDepth 100000 in
theorem rspan_c (lo hi : Nat) (h1 : lo < 256) (h2 : hi < 256) (w : World) : Calls Tryd.prog 118 #[.int .i64 (lo : Int), .int .i64 (hi : Int)] w fun e w' => ∃ rs, e = .returned (sv rs) ∧ IsSet rs (fun q => decide (lo ≤ q) && decide (q ≤ hi)) ∧ Below w.heap.size w w' := by
  obtain ⟨w2, hmk, own, gr⟩ := elBool.make (w.heap.size + 1) (w.alloc (.cells #[.int .u64 0, .int .u64 0, .int .u64 0, .int .u64 0] 33)) .i64 .i64 256 256 rfl (by omega) (by unfold maxLen; omega) (by simp)
  have hb1 : Below (w.heap.size + 1) (w.alloc (.cells #[.int .u64 0, .int .u64 0, .int .u64 0, .int .u64 0] 33)) w2 := below_made gr (by simp)
  have hB := ((Below.refl w.heap.size w).alloc (Nat.le_refl _) (.cells #[.int .u64 0, .int .u64 0, .int .u64 0, .int .u64 0] 33)).trans (hb1.mono (Nat.le_succ _))
  have hz : w2.heap[w.heap.size]? = some (.cells #[.int .u64 0, .int .u64 0, .int .u64 0, .int .u64 0] 33 (0, 0)) := by
    rw [hb1.block _ (Nat.lt_succ_self _)]
    exact heap_alloc_new w _
  rw [World.size_alloc] at hmk own
  rw [zeros256] at own
  have own' : w2.ownsRow (w.heap.size + 1) 4 1 (.slice (some ⟨w.heap.size + 1, 0, none⟩) 256 256) 256 (bools (mkl fun q => decide (lo ≤ q) && decide (q < lo))) := by
    rw [mkl_congr (g := fun _ => false)]
    · exact own
    · intro q _
      rw [Bool.eq_iff_iff]
      simp
  have HO := Lib.hid own'
  have HB := Lib.hid hB
  have HZ := Lib.hid hz
  clear own own' gr hb1 hB hz
  go_enter Tryd.func118, Tryd.ntmps118
  go_wp2
  go_loopw [6] (fun i W => RsR w lo hi i W) (fun i _ => 257 - (intOf i).toNat)
  case atStart => exact ⟨lo, Nat.le_refl _, by omega, .inr rfl, rfl, HO.out, HZ.out, HB.out⟩
  case round =>
    obtain ⟨c, hlc, hc256, hch, rfl, hown, hz, hB⟩ := hrel
    by_cases hle : c ≤ hi
    · have hc : c < 256 := by omega
      have hcell : ∃ v, wr.cell? ⟨w.heap.size + 1, c, none⟩ = some v := by
        obtain ⟨bb, off, he, hcc⟩ := Rd.bool (Rd.own hown) c (by rw [mkl_len]; exact hc)
        simp only [Option.some.injEq, Addr.mk.injEq, and_true] at he
        obtain ⟨rfl, rfl⟩ := he
        exact ⟨_, by simpa using hcc⟩
      obtain ⟨v0, hcell⟩ := hcell
      have hfz := hown.frozenAt c
      have hst := (World.ownsRow.stored hown c (.bool true)).1
      rw [mkl_set _ (fun q => decide (lo ≤ q) && decide (q < c + 1)) c true (by simp; omega) (fun q _ hq => by congr 1; apply decide_eq_decide.2; omega)] at hst
      have hz2 : (wr.setCell ⟨w.heap.size + 1, c, none⟩ (.bool true)).heap[w.heap.size]? = some (.cells #[.int .u64 0, .int .u64 0, .int .u64 0, .int .u64 0] 33 (0, 0)) := by
        rw [block_setOther (by omega)]
        exact hz
      have hB2 := hB.setCell (p := ⟨w.heap.size + 1, c, none⟩) (Nat.le_succ _) (.bool true)
      have HS := Lib.hid hst
      have HZ2 := Lib.hid hz2
      have HB2 := Lib.hid hB2
      clear hown hst hz hz2 hB hB2
      go_wp2
      go_roundw
      case rel => first | exact ⟨c + 1, by omega, by omega, .inl (by omega), by go_num, HS.out, HZ2.out, HB2.out⟩ | ((repeat apply Exists.intro); refine ⟨?r, ?f⟩; (case f => (and_intros <;> rfl)); exact ⟨c + 1, by omega, by omega, .inl (by omega), by go_num, HS.out, HZ2.out, HB2.out⟩)
      case measure => simp [intOf]; omega
    · have hspec : (mkl fun q => decide (lo ≤ q) && decide (q < c)) = mkl fun q => decide (lo ≤ q) && decide (q ≤ hi) := mkl_congr fun q _ => by
        rw [Bool.eq_iff_iff]
        simp
        intro _
        omega
      rw [hspec] at hown
      have hof := rof_c (some ⟨w.heap.size + 1, 0, none⟩) 256 256 _ wr (mkl_len _) rfl (Rd.own hown)
      have HF := Lib.hid hof
      have HZ2 := Lib.hid hz
      have HB2 := Lib.hid hB
      clear hof hspec hown hz hB
      go_wp2_with fail
      refine HF.out.mono ?_
      rintro e w5 ⟨rs, rfl, hrs, hb5⟩
      have hset : IsSet rs (fun q => decide (lo ≤ q) && decide (q ≤ hi)) := ⟨hrs.len, hrs.lt, fun q hq => by rw [hrs.at' q hq]; exact mkl_get _ q hq⟩
      obtain ⟨x0, x1, x2, x3, rfl⟩ := four hrs.len
      have hz5 := (hb5.block _ (block_lt HZ2.out)).trans HZ2.out
      have k0 := cell_block hz5 0
      have k1 := cell_block hz5 1
      have k2 := cell_block hz5 2
      have k3 := cell_block hz5 3
      have f0 := frozen_block hz5 0
      have f1 := frozen_block hz5 1
      have f2 := frozen_block hz5 2
      have f3 := frozen_block hz5 3
      simp at k0 k1 k2 k3
      have HS := Lib.hid (store4 hz5 (.int .u64 (x0 : Int)) (.int .u64 (x1 : Int)) (.int .u64 (x2 : Int)) (.int .u64 (x3 : Int)))
      have HSet := Lib.hid hset
      have HB5 := Lib.hid (HB2.out.trans (hb5.mono HB2.out.size))
      simp only [sv, vals, List.map_cons, List.map_nil]
      clear hz5 hrs hset hb5
      go_wp2
      ((try simp only [Exit.inBlock, Exit.then]); refine bodyPost_ret (results_cell_row rfl _ _ (w.heap.size) 33 _ (0, 0) _ rfl (HS.out) Tryd.underlying33 rfl ?hi1) rfl ?_; (case hi1 => kernel_rfl))
      exact ⟨_, rfl, HSet.out, (((HB5.out.setCell (p := ⟨w.heap.size, 0, none⟩) (Nat.le_refl _) _).setCell (p := ⟨w.heap.size, 1, none⟩) (Nat.le_refl _) _).setCell (p := ⟨w.heap.size, 2, none⟩) (Nat.le_refl _) _).setCell (p := ⟨w.heap.size, 3, none⟩) (Nat.le_refl _) _⟩
end St
end Go.Proofs.YteekonojmpihlaaDoor

/- The document's sets: dofferref01.Both. -/
namespace Go.Proofs.YteekonojmpihlaaDoor
open Go Go.RowKit Kt
namespace St
open Mk
/-- What Both asks of a byte. -/
def bf (how : Nat) (x y : Bool) : Bool := if how = 0 then x || y else if how = 1 then x && y else x && !y
/-- The loop of Both. -/
def RbR (w : World) (xs ys : List Nat) (F : Nat → Bool) (i : Value) (W : World) : Prop := ∃ c : Nat, c ≤ 256 ∧ i = .int .i64 (c : Int) ∧
  W.ownsRow (w.heap.size + 3) 4 1 (.slice (some ⟨w.heap.size + 3, 0, none⟩) 256 256) 256 (bools (mkl fun q => decide (q < c) && F q)) ∧
  W.heap[w.heap.size]? = some (.cells (vals xs).toArray 33 (0, 0)) ∧ W.heap[w.heap.size + 1]? = some (.cells (vals ys).toArray 33 (0, 0)) ∧
  W.heap[w.heap.size + 2]? = some (.cells #[.int .u64 0, .int .u64 0, .int .u64 0, .int .u64 0] 33 (0, 0)) ∧ Below w.heap.size w W
set_option maxHeartbeats 4000000 in
set_option maxRecDepth 100000 in
theorem both_c (how : Nat) (hh : how = 0 ∨ how = 1 ∨ how = 2) (ws us : List Nat) (f g : Nat → Bool) (hw : IsSet ws f) (hu : IsSet us g) (w : World) : Calls Tryd.prog 117 #[sv ws, sv us, .int .i64 (how : Int)] w fun e w' => ∃ rs, e = .returned (sv rs) ∧ IsSet rs (fun q => bf how (f q) (g q)) ∧ Below w.heap.size w w' := by
  obtain ⟨x0, x1, x2, x3, rfl⟩ := four hw.len
  obtain ⟨y0, y1, y2, y3, rfl⟩ := four hu.len
  obtain ⟨w3, hw3⟩ : ∃ w3, (((w.alloc (.cells #[.int .u64 (x0 : Int), .int .u64 (x1 : Int), .int .u64 (x2 : Int), .int .u64 (x3 : Int)] 33)).alloc (.cells #[.int .u64 (y0 : Int), .int .u64 (y1 : Int), .int .u64 (y2 : Int), .int .u64 (y3 : Int)] 33)).alloc (.cells #[.int .u64 0, .int .u64 0, .int .u64 0, .int .u64 0] 33)) = w3 := ⟨_, rfl⟩
  have hs3 : w3.heap.size = w.heap.size + 3 := by rw [← hw3]; simp
  have hB3 : Below w.heap.size w w3 := by
    rw [← hw3]
    exact (((Below.refl _ w).alloc (Nat.le_refl _) _).alloc (by simp) _).alloc (by simp; omega) _
  have hX : w3.heap[w.heap.size]? = some (.cells (vals [x0, x1, x2, x3]).toArray 33 (0, 0)) := by
    rw [← hw3, heap_alloc_old _ _ _ (by simp; omega)]
    exact Kt.heap_alloc2_old _ _ _
  have hY : w3.heap[w.heap.size + 1]? = some (.cells (vals [y0, y1, y2, y3]).toArray 33 (0, 0)) := by
    rw [← hw3, heap_alloc_old _ _ _ (by simp)]
    exact heap_alloc2_new _ _ _
  have hZ : w3.heap[w.heap.size + 2]? = some (.cells #[.int .u64 0, .int .u64 0, .int .u64 0, .int .u64 0] 33 (0, 0)) := by
    rw [← hw3]
    exact Kt.heap_alloc3_new _ _ _ _
  obtain ⟨w4, hmk, own, gr⟩ := elBool.make (w.heap.size + 3) w3 .i64 .i64 256 256 rfl (by omega) (by unfold maxLen; omega) (by omega)
  have hb4 : Below (w.heap.size + 3) w3 w4 := below_made gr (by omega)
  have hB4 := hB3.trans (hb4.mono (by omega))
  have hX4 := (hb4.block _ (by omega)).trans hX
  have hY4 := (hb4.block _ (by omega)).trans hY
  have hZ4 := (hb4.block _ (by omega)).trans hZ
  rw [hs3] at hmk own
  rw [zeros256] at own
  obtain ⟨F, hF⟩ : ∃ F : Nat → Bool, ∀ q, F q = bf how (f q) (g q) := ⟨fun q => bf how (f q) (g q), fun _ => rfl⟩
  have own' : w4.ownsRow (w.heap.size + 3) 4 1 (.slice (some ⟨w.heap.size + 3, 0, none⟩) 256 256) 256 (bools (mkl fun q => decide (q < 0) && F q)) := by
    rw [mkl_congr (g := fun _ => false)]
    · exact own
    · intro q _
      simp
  have hnA : ∀ c : Nat, c < 256 → ∀ W, Calls Tryd.prog 87 #[.agg #[.int .u64 (x0 : Int), .int .u64 (x1 : Int), .int .u64 (x2 : Int), .int .u64 (x3 : Int)], .int .i64 (c : Int)] W fun e w' => e = .returned (.bool (f c)) ∧ Below W.heap.size W w' := fun c hc W => rhas_c _ f hw c hc W
  have hnB : ∀ c : Nat, c < 256 → ∀ W, Calls Tryd.prog 87 #[.agg #[.int .u64 (y0 : Int), .int .u64 (y1 : Int), .int .u64 (y2 : Int), .int .u64 (y3 : Int)], .int .i64 (c : Int)] W fun e w' => e = .returned (.bool (g c)) ∧ Below W.heap.size W w' := fun c hc W => rhas_c _ g hu c hc W
  have HF := Lib.hid hF
  have HO := Lib.hid own'
  have HX := Lib.hid hX4
  have HY := Lib.hid hY4
  have HZ := Lib.hid hZ4
  have HB := Lib.hid hB4
  have HA := Lib.hid hnA
  have HBb := Lib.hid hnB
  rw [← hw3] at hmk
  have Hs3 := Lib.hid hs3
  clear hF own own' gr hb4 hB3 hB4 hX hY hZ hX4 hY4 hZ4 hnA hnB hw hu hw3 hs3
  simp only [sv, vals, List.map_cons, List.map_nil]
  rcases hh with rfl | rfl | rfl
  all_goals
    go_enter Tryd.func117, Tryd.ntmps117
    go_wp2
    go_loopw [8, 9, 10] (fun i _ _ W => RbR w [x0, x1, x2, x3] [y0, y1, y2, y3] F i W) (fun i _ _ _ => 256 - (intOf i).toNat)
    case atStart => exact ⟨0, by omega, rfl, HO.out, HX.out, HY.out, HZ.out, HB.out⟩
    case round =>
      obtain ⟨c, hc256, rfl, hown, hx, hy, hz, hB⟩ := hrel
      by_cases hlt : c < 256
      · have sk : ∀ W, Below wr.heap.size wr W → (W.cell? ⟨w.heap.size, 0, none⟩ = some (.int .u64 (x0 : Int)) ∧ W.cell? ⟨w.heap.size, 1, none⟩ = some (.int .u64 (x1 : Int)) ∧ W.cell? ⟨w.heap.size, 2, none⟩ = some (.int .u64 (x2 : Int)) ∧ W.cell? ⟨w.heap.size, 3, none⟩ = some (.int .u64 (x3 : Int)) ∧ W.cell? ⟨w.heap.size + 1, 0, none⟩ = some (.int .u64 (y0 : Int)) ∧ W.cell? ⟨w.heap.size + 1, 1, none⟩ = some (.int .u64 (y1 : Int)) ∧ W.cell? ⟨w.heap.size + 1, 2, none⟩ = some (.int .u64 (y2 : Int)) ∧ W.cell? ⟨w.heap.size + 1, 3, none⟩ = some (.int .u64 (y3 : Int))) := by
          intro W hb
          have h1 : W.heap[w.heap.size]? = some (.cells #[.int .u64 (x0 : Int), .int .u64 (x1 : Int), .int .u64 (x2 : Int), .int .u64 (x3 : Int)] 33 (0, 0)) := (hb.block _ (block_lt hx)).trans hx
          have h2 : W.heap[w.heap.size + 1]? = some (.cells #[.int .u64 (y0 : Int), .int .u64 (y1 : Int), .int .u64 (y2 : Int), .int .u64 (y3 : Int)] 33 (0, 0)) := (hb.block _ (block_lt hy)).trans hy
          exact ⟨cell_block h1 0, cell_block h1 1, cell_block h1 2, cell_block h1 3, cell_block h2 0, cell_block h2 1, cell_block h2 2, cell_block h2 3⟩
        obtain ⟨fv, hfv⟩ : ∃ fv, f c = fv := ⟨_, rfl⟩
        obtain ⟨gv, hgv⟩ : ∃ gv, g c = gv := ⟨_, rfl⟩
        have hA := HA.out c hlt
        have hG := HBb.out c hlt
        have hFc := HF.out c
        rw [hfv] at hA hFc
        rw [hgv] at hG hFc
        have SK := Lib.hid sk
        have HAc := Lib.hid hA
        have HGc := Lib.hid hG
        have HFc := Lib.hid hFc
        have HO2 := Lib.hid hown
        have HX2 := Lib.hid hx
        have HY2 := Lib.hid hy
        have HZ2 := Lib.hid hz
        have HB2 := Lib.hid hB
        have y0' : Below wr.heap.size wr wr.drew := (Below.refl _ _).drew
        have yr : Below wr.heap.size wr wr := (Below.refl _ _)
        clear sk hfv hgv hA hG hFc hown hx hy hz hB hmk
        go_wp2_with fail
        go_region_held3 (fun W => W.cell? ⟨w.heap.size, 0, none⟩ = some (.int .u64 (x0 : Int)) ∧ W.cell? ⟨w.heap.size, 1, none⟩ = some (.int .u64 (x1 : Int)) ∧ W.cell? ⟨w.heap.size, 2, none⟩ = some (.int .u64 (x2 : Int)) ∧ W.cell? ⟨w.heap.size, 3, none⟩ = some (.int .u64 (x3 : Int)) ∧ W.cell? ⟨w.heap.size + 1, 0, none⟩ = some (.int .u64 (y0 : Int)) ∧ W.cell? ⟨w.heap.size + 1, 1, none⟩ = some (.int .u64 (y1 : Int)) ∧ W.cell? ⟨w.heap.size + 1, 2, none⟩ = some (.int .u64 (y2 : Int)) ∧ W.cell? ⟨w.heap.size + 1, 3, none⟩ = some (.int .u64 (y3 : Int)))
          (first | with_reducible exact SK.out _ yr | with_reducible exact SK.out _ y0' | with_reducible exact SK.out _ y5 | with_reducible exact SK.out _ y6)
          (first
            | (go_at_call 87; with_reducible refine (HAc.out _).mono ?_; rintro e w5 ⟨rfl, hb5⟩
               have y5 := y0'.trans (hb5.mono y0'.size))
            | (go_at_call 87; with_reducible refine (HGc.out _).mono ?_; rintro e w6 ⟨rfl, hb6⟩
               have y6 := y5.trans (hb6.mono y5.size)))
        have hown6 := own_keep HO2.out y6
        have hcell : ∃ v, w6.cell? ⟨w.heap.size + 3, c, none⟩ = some v := by
          obtain ⟨bb, off, he, hcc⟩ := Rd.bool (Rd.own hown6) c (by rw [mkl_len]; exact hlt)
          simp only [Option.some.injEq, Addr.mk.injEq, and_true] at he
          obtain ⟨rfl, rfl⟩ := he
          exact ⟨_, by simpa using hcc⟩
        obtain ⟨v0, hcell⟩ := hcell
        have hfz := hown6.frozenAt c
        have hst := (World.ownsRow.stored hown6 c (.bool (F c))).1
        rw [mkl_set _ (fun q => decide (q < c + 1) && F q) c (F c) (by simp) (fun q _ hq => by congr 1; apply decide_eq_decide.2; omega)] at hst
        have hX6 := (y6.block _ (block_lt HX2.out)).trans HX2.out
        have hY6 := (y6.block _ (block_lt HY2.out)).trans HY2.out
        have hZ6 := (y6.block _ (block_lt HZ2.out)).trans HZ2.out
        have hX7 := (block_setOther (w := w6) (b := w.heap.size + 3) (k := w.heap.size) (i := c) (by omega) (.bool (F c))).trans hX6
        have hY7 := (block_setOther (w := w6) (b := w.heap.size + 3) (k := w.heap.size + 1) (i := c) (by omega) (.bool (F c))).trans hY6
        have hZ7 := (block_setOther (w := w6) (b := w.heap.size + 3) (k := w.heap.size + 2) (i := c) (by omega) (.bool (F c))).trans hZ6
        have hB7 := (HB2.out.trans (y6.mono HB2.out.size)).setCell (p := ⟨w.heap.size + 3, c, none⟩) (Nat.le_add_right _ _) (.bool (F c))
        have hFc := HFc.out
        clear hX6 hY6 hZ6 y5 y6 hb5 hb6 y0' yr hown6 SK HAc HGc HFc
        cases fv <;> cases gv
        all_goals
          simp [bf] at hFc
          have HS := Lib.hid hst
          have HX7 := Lib.hid hX7
          have HY7 := Lib.hid hY7
          have HZ7 := Lib.hid hZ7
          have HB7 := Lib.hid hB7
          rw [hFc] at HS HX7 HY7 HZ7 HB7
          clear hst hX7 hY7 hZ7 hB7 hFc
          go_wp2
          go_roundw
          case rel => first | exact ⟨c + 1, by omega, by go_num, HS.out, HX7.out, HY7.out, HZ7.out, HB7.out⟩ | ((repeat apply Exists.intro); (refine ⟨?_, ?_⟩); rotate_left 1; (focus (and_intros <;> rfl)); exact ⟨c + 1, by omega, by go_num, HS.out, HX7.out, HY7.out, HZ7.out, HB7.out⟩)
          case measure => simp [intOf]; omega
      · have hc : c = 256 := by omega
        subst hc
        have hof := rof_c (some ⟨w.heap.size + 3, 0, none⟩) 256 256 _ wr (mkl_len _) rfl (Rd.own hown)
        have HOf := Lib.hid hof
        have HZ2 := Lib.hid hz
        have HB2 := Lib.hid hB
        clear hof hown hz hB hx hy hmk
        go_wp2_with fail
        refine HOf.out.mono ?_
        rintro e w5 ⟨rs, rfl, hrs, hb5⟩
        have hset : IsSet rs (fun q => bf _ (f q) (g q)) := ⟨hrs.len, hrs.lt, fun q hq => by
          rw [hrs.at' q hq]
          refine (mkl_get _ q hq).trans ?_
          have : decide (q < 256) = true := by simpa using hq
          rw [this, Bool.true_and]
          exact HF.out q⟩
        obtain ⟨z0, z1, z2, z3, rfl⟩ := four hrs.len
        have hz5 := (hb5.block _ (block_lt HZ2.out)).trans HZ2.out
        have k0 := cell_block hz5 0
        have k1 := cell_block hz5 1
        have k2 := cell_block hz5 2
        have k3 := cell_block hz5 3
        have f0 := frozen_block hz5 0
        have f1 := frozen_block hz5 1
        have f2 := frozen_block hz5 2
        have f3 := frozen_block hz5 3
        simp at k0 k1 k2 k3
        have HS := Lib.hid (store4 hz5 (.int .u64 (z0 : Int)) (.int .u64 (z1 : Int)) (.int .u64 (z2 : Int)) (.int .u64 (z3 : Int)))
        have HSet := Lib.hid hset
        have HB5 := Lib.hid (HB2.out.trans (hb5.mono HB2.out.size))
        simp only [sv, vals, List.map_cons, List.map_nil]
        clear hz5 hrs hset hb5
        go_wp2
        ((try simp only [Exit.inBlock, Exit.then]); refine bodyPost_ret (results_cell_row rfl _ _ (w.heap.size + 2) 33 _ (0, 0) _ rfl (HS.out) Tryd.underlying33 rfl ?hi1) rfl ?_; (case hi1 => kernel_rfl))
        exact ⟨_, rfl, HSet.out, (((HB5.out.setCell (p := ⟨w.heap.size + 2, 0, none⟩) (Nat.le_add_right _ _) _).setCell (p := ⟨w.heap.size + 2, 1, none⟩) (Nat.le_add_right _ _) _).setCell (p := ⟨w.heap.size + 2, 2, none⟩) (Nat.le_add_right _ _) _).setCell (p := ⟨w.heap.size + 2, 3, none⟩) (Nat.le_add_right _ _) _⟩
end St
end Go.Proofs.YteekonojmpihlaaDoor
