/- dofferlaw17.Of: a DFA as of the document. -/
import Derived.Test.YtfkjijjmphbglaaDoorRgt17
import Derived.Test.YtfkjijjmphbglaaDoorSpread
namespace Go.Proofs.YtfkjijjmphbglaaDoor
open Go Go.RowKit Kt
namespace Cl
open Sb
set_option maxRecDepth 100000 in
theorem elArr : Kt.El Tryd.prog 36 28 (.agg Tryd.zeroCells28) 256 2048 := ⟨Tryd.underlying36, info_parts (by kernel_rfl), Z28_size, by decide⟩
theorem store3 {w : World} {b T : Nat} {a0 a1 a2 : Value} (h : w.heap[b]? = some (.cells #[a0, a1, a2] T (0, 0))) (z0 z1 z2 : Value) :
    (((w.setCell ⟨b, 0, none⟩ z0).setCell ⟨b, 1, none⟩ z1).setCell ⟨b, 2, none⟩ z2).heap[b]? = some (.cells #[z0, z1, z2] T (0, 0)) := by
  rw [block_setCell (block_setCell (block_setCell h z0) z1) z2]
  rfl
theorem store3o {w : World} {b T : Nat} {a0 a1 a2 : Value} (h : w.heap[b]? = some (.cells #[a0, a1, a2] T (0, 0))) (z0 : Value) : (w.setCell ⟨b, 0, none⟩ z0).heap[b]? = some (.cells #[z0, a1, a2] T (0, 0)) := by
  rw [block_setCell h]
  rfl
theorem info38 : (Tryd.prog.info? 38).map (·.size) = some 3 := by kernel_rfl
/-- The memory of Of: box, result, the copy under way. -/
structure Do (w : World) (dv : Array Value) (ua ea : Option Addr) (un uc en ec : Nat) (a : Option Addr) (k cap : Nat) (xs : List Value) (W : World) : Prop where
  d : W.heap[w.heap.size]? = some (.cells dv 25 (0, 0))
  r : W.heap[w.heap.size + 1]? = some (.cells #[.slice none 0 0, .slice none 0 0, .slice none 0 0] 38 (0, 0))
  o : W.heap[w.heap.size + 1 + 1]? = some (.cells #[.slice a k cap, .slice ua un uc, .slice ea en ec] 38 (0, 0))
  own : W.ownsRow (w.heap.size + 1 + 1 + 1) 28 256 (.slice a k cap) k xs
  below : Below w.heap.size w W
section
variable {w : World} {dv : Array Value} {ua ea : Option Addr} {un uc en ec : Nat} {a : Option Addr} {k cap : Nat} {xs : List Value} {W W' : World}
theorem Do.step (h : Do w dv ua ea un uc en ec a k cap xs W) (hb : Below W.heap.size W W') : Do w dv ua ea un uc en ec a k cap xs W' :=
  ⟨(hb.block _ (block_lt h.d)).trans h.d, (hb.block _ (block_lt h.r)).trans h.r, (hb.block _ (block_lt h.o)).trans h.o, own_keep h.own hb, h.below.trans (hb.mono h.below.size)⟩
/-- One more row. -/
theorem Do.push (h : Do w dv ua ea un uc en ec a k cap xs W) (hk : k ≤ 1000) {row : List Int} (hr : row.length = 256) :
    ∃ a2 c2 w2, (Builtin.append_ #[36, 36] 36 #[.slice a k cap, .slice (some ⟨W.heap.size, 0, none⟩) 1 1]).run Tryd.prog (W.alloc (.cells (i64s row).toArray 28)) = .ok (.slice a2 (k + 1) c2) w2 ∧
      w2.heap[w.heap.size + 1 + 1]? = some (.cells #[.slice a k cap, .slice ua un uc, .slice ea en ec] 38 (0, 0)) ∧
      Do w dv ua ea un uc en ec a2 (k + 1) c2 (xs ++ i64s row) (w2.setCell ⟨w.heap.size + 1 + 1, 0, none⟩ (.slice a2 (k + 1) c2)) := by
  have b2 := (Below.refl W.heap.size W).alloc (Nat.le_refl _) (.cells (i64s row).toArray 28)
  have hlo := block_lt h.o
  obtain ⟨v', w2, hrun, own2, gr2, _⟩ := elArr.append (w.heap.size + 1 + 1 + 1) (ty := 36) (own_keep h.own b2) 1 1 (by rw [i64s_length, hr]) (Rd.new W (i64s row).toArray 28 (0, 0) (i64s row) (by simp)) (fun h => by cases h) (oneCell_i64s _) (by unfold maxLen; omega) (by omega) (by simp; omega)
  obtain ⟨a2, c2, rfl, _, _, _, _⟩ := rd_own own2
  have hg := below_grown (B := w.heap.size + 1 + 1 + 1) (own_keep h.own b2) gr2 (Nat.le_refl _) (by simp; omega)
  have hD := (hg.block w.heap.size (by omega)).trans (block_alloc (x := .cells (i64s row).toArray 28) h.d)
  have hR := (hg.block (w.heap.size + 1) (by omega)).trans (block_alloc (x := .cells (i64s row).toArray 28) h.r)
  have hO := (hg.block (w.heap.size + 1 + 1) (by omega)).trans (block_alloc (x := .cells (i64s row).toArray 28) h.o)
  have hB : Below w.heap.size w w2 := (h.below.alloc h.below.size _).trans (hg.mono (by omega))
  have hM : Mod [w.heap.size + 1 + 1] w2 (w2.setCell ⟨w.heap.size + 1 + 1, 0, none⟩ (.slice a2 (k + 1) c2)) := (Mod.refl _ w2).setCell (p := ⟨w.heap.size + 1 + 1, 0, none⟩) (.inl (List.mem_singleton.2 rfl)) _
  refine ⟨a2, c2, w2, hrun, hO, ?_, ?_, store3o hO _, own_mod own2 hM (fun j hj => by have := (own2.lt j hj).1; simp; omega), hB.setCell (p := ⟨w.heap.size + 1 + 1, 0, none⟩) (by simp; omega) _⟩
  · rw [block_setOther (by omega)]; exact hD
  · rw [block_setOther (by omega)]; exact hR
end
def DoR (w : World) (dv : Array Value) (ua ea : Option Addr) (un uc en ec : Nat) (rows : List (List Int)) (n : Nat) (i : Value) (W : World) : Prop := ∃ (k : Nat) (a : Option Addr) (cap : Nat), k ≤ n ∧ i = .int .i64 (k : Int) ∧ Do w dv ua ea un uc en ec a k cap ((rows.take k).flatMap i64s) W
set_option maxHeartbeats 8000000 in
set_option maxRecDepth 100000 in
theorem dof_c (ra ua ea : Option Addr) (rn rc un uc en ec : Nat) (rows : List (List Int)) (rule entry : List Int) (hrn : rows.length = rn) (h1 : rn ≤ 9223372036854775807) (h2 : un ≤ 9223372036854775807) (h3 : en ≤ 9223372036854775807) (w : World) (h : Df w ra ua ea rows rule entry) :
    Calls Tryd.prog 18 #[.agg #[.slice ra rn rc, .slice ua un uc, .slice ea en ec], .int .i64 30] w fun e w' => (e = .returned (.tuple #[.agg #[.slice none 0 0, .slice ua un uc, .slice ea en ec], .bool false]) ∧ Below w.heap.size w w') ∨
      ∃ a cap, rn ≤ 30 ∧ e = .returned (.tuple #[.agg #[.slice a rn cap, .slice ua un uc, .slice ea en ec], .bool true]) ∧ Rd w' a (rows.flatMap i64s) ∧ Below w.heap.size w w' := by
  obtain ⟨dv, hdv⟩ : ∃ dv : Array Value, dv = #[.slice ra rn rc, .slice ua un uc, .slice ea en ec] := ⟨_, rfl⟩
  have b1 := heap_alloc_new w (.cells #[.slice ra rn rc, .slice ua un uc, .slice ea en ec] 25)
  have b2 := heap_alloc_new (w.alloc (.cells #[.slice ra rn rc, .slice ua un uc, .slice ea en ec] 25)) (.cells #[.slice none 0 0, .slice none 0 0, .slice none 0 0] 38)
  have b3 := heap_alloc_new ((w.alloc (.cells #[.slice ra rn rc, .slice ua un uc, .slice ea en ec] 25)).alloc (.cells #[.slice none 0 0, .slice none 0 0, .slice none 0 0] 38)) (.cells #[.slice none 0 0, .slice ua un uc, .slice ea en ec] 38)
  (try simp only [World.size_alloc] at b2 b3)
  have D0 : Do w dv ua ea un uc en ec none 0 0 [] (((w.alloc (.cells #[.slice ra rn rc, .slice ua un uc, .slice ea en ec] 25)).alloc (.cells #[.slice none 0 0, .slice none 0 0, .slice none 0 0] 38)).alloc (.cells #[.slice none 0 0, .slice ua un uc, .slice ea en ec] 38)) :=
    ⟨by rw [hdv]; exact block_alloc (block_alloc b1), block_alloc b2, b3, ⟨rfl, .inl ⟨rfl, rfl⟩⟩, (((Below.refl _ w).alloc (Nat.le_refl _) _).alloc (by simp) _).alloc (by simp; omega) _⟩
  have HD0 := Lib.hid D0
  have H := Lib.hid h
  have Hrn := Lib.hid hrn
  have Hdv := Lib.hid hdv
  clear h hrn hdv b1 b2 b3 D0
  by_cases hG : rn ≤ 30 ∧ un ≤ 30 ∧ en ≤ 20
  · obtain ⟨g1, g2, g3⟩ := hG
    have d1 : decide (30 < (rn : Int)) = false := by simp; omega
    have d2 : decide (30 < (un : Int)) = false := by simp; omega
    have d3 : decide (20 < (en : Int)) = false := by simp; omega
    go_enter Tryd.func18, Tryd.ntmps18
    go_wp2
    obtain ⟨W0, hW0⟩ : ∃ W0, (((w.alloc (.cells #[.slice ra rn rc, .slice ua un uc, .slice ea en ec] 25)).alloc (.cells #[.slice none 0 0, .slice none 0 0, .slice none 0 0] 38)).alloc (.cells #[.slice none 0 0, .slice ua un uc, .slice ea en ec] 38)) = W0 := ⟨_, rfl⟩
    rw [hW0]
    rw [hW0] at HD0
    clear hW0
    go_loopw [8, 36] (fun _ i W => DoR w dv ua ea un uc en ec rows rn i W) (fun _ i _ => rn - (intOf i).toNat)
    case atStart => exact ⟨0, none, 0, by omega, rfl, HD0.out⟩
    case round =>
      clear HD0
      obtain ⟨k, a, cap, hk, rfl, hD⟩ := hrel
      by_cases hlt : k < rn
      · have hd : decide ((k : Int) < (rn : Int)) = true := by simp; omega
        have hkl : k < rows.length := by rw [Hrn.out]; exact hlt
        obtain ⟨bb, o, ha, hrg⟩ := row_at H.out.w256 (H.out.below hD.below).rr k hkl
        subst ha
        have h256 := H.out.w256 _ (List.getElem_mem hkl)
        have htk : (rows.take (k + 1)).flatMap i64s = (rows.take k).flatMap i64s ++ i64s rows[k] := by
          rw [← List.take_append_getElem hkl, List.flatMap_append]
          simp
        generalize rows[k] = row at *
        have hl := load_row h256 hrg
        unfold rv at hl
        have hst := store_row wr h256
        have hln : (i64s row).length = 256 := by rw [i64s_length]; exact h256
        have hnew := heap_alloc_new wr (.cells (i64s row).toArray 35)
        have hD1 := hD.step ((Below.refl wr.heap.size wr).alloc (Nat.le_refl _) (.cells (i64s row).toArray 35))
        have hl2 := load_row (r := row) (o := 0) h256 (fun j v hv => by rw [cell_block hnew]; simpa using hv)
        unfold rv at hl2
        have c0 := cell_block hD1.o 0
        simp at c0
        obtain ⟨a2, c2, w2, hrun, hO, hD2⟩ := hD1.push (by omega) h256
        rw [← htk] at hD2
        have hbs : ∀ W : World, (Instr.buildSlice 36 1 #[(0, .agg (i64s row).toArray)]).run Tryd.prog W = .ok (.slice (some ⟨W.heap.size, 0, none⟩) 1 1) (W.alloc (.cells (i64s row).toArray 28)) := fun W => build_one elArr (by omega) (v := .agg (i64s row).toArray) (by simp [Value.cells, i64s_length, h256]) W
        have e0 := cell_block hO 0
        have f0 := frozen_block hO 0
        simp at e0
        have HD2 := Lib.hid hD2
        clear hD hrg hnew hD1 hO hD2 htk
        go_wp2_with fail
        refine wp_load_run hl rfl rfl ?_
        go_wp2_with fail
        refine wp_load_run hl2 rfl rfl ?_
        go_wp2_with fail
        refine wp_build_run (hbs _) rfl rfl ?_
        go_wp2_with (at_builtin; (with_reducible apply wpList_append_run hrun); rfl; rfl; rfl; rfl; rfl)
        go_roundw
        case rel => first | exact ⟨k + 1, a2, c2, hlt, by go_num, HD2.out⟩ | ((repeat apply Exists.intro); refine ⟨?r, ?f⟩; (case f => (and_intros <;> rfl)); exact ⟨k + 1, a2, c2, hlt, by go_num, HD2.out⟩)
        case measure => simp [intOf]; omega
      · have hkn : k = rn := by omega
        subst hkn
        have hd : decide ((k : Int) < (k : Int)) = false := by simp
        have hO := hD.o
        have hown := hD.own
        rw [List.take_of_length_le (by rw [Hrn.out]; exact Nat.le_refl _)] at hown
        have i0 := cell_block hO 0
        have i1 := cell_block hO 1
        have i2 := cell_block hO 2
        have k0 := cell_block hD.r 0
        have k1 := cell_block hD.r 1
        have k2 := cell_block hD.r 2
        have j0 := frozen_block hD.r 0
        have j1 := frozen_block hD.r 1
        have j2 := frozen_block hD.r 2
        simp at i0 i1 i2 k0 k1 k2
        have hs3 := store3 hD.r (.slice a k cap) (.slice ua un uc) (.slice ea en ec)
        have hlv := run_loadVar_row (P := Tryd.prog) _ _ _ 38 _ _ _ hs3 Tryd.underlying38 rfl (by rw [info38]; rfl)
        have hM3 := (((Mod.refl [w.heap.size + 1] wr).setCell (p := ⟨w.heap.size + 1, 0, none⟩) (.inl (List.mem_singleton.2 rfl)) (.slice a k cap)).setCell (p := ⟨w.heap.size + 1, 1, none⟩) (.inl (List.mem_singleton.2 rfl)) (.slice ua un uc)).setCell (p := ⟨w.heap.size + 1, 2, none⟩) (.inl (List.mem_singleton.2 rfl)) (.slice ea en ec)
        have hrd := (Rd.own hown).mod hM3 (fun p hp hm => by
          have := (hown.lt p.block (by rw [hp]; rfl)).1
          simp at hm
          omega)
        have hB3 := hD.below.trans (hM3.toBelow (B := w.heap.size) hD.below.size (by simp))
        have HLv := Lib.hid hlv
        have HRd := Lib.hid hrd
        have HB3 := Lib.hid hB3
        clear hD hO hown hs3 hlv hM3 hrd hB3
        go_wp2
        (try simp only [Exit.inBlock, Exit.then])
        refine bodyPost_ret (v := .tuple #[.agg #[.slice a k cap, .slice ua un uc, .slice ea en ec], .bool true]) ?_ rfl ?_
        · rw [results_cell_tmp (p := 4) (u := 5) (ty := 38) rfl]
          simp [asAddr, HLv.out, Result.andThen]
        · exact .inr ⟨a, cap, g1, rfl, HRd.out, HB3.out⟩
  · have hs3 := block_alloc (x := .cells #[.slice none 0 0, .slice ua un uc, .slice ea en ec] 38) (heap_alloc_new (w.alloc (.cells #[.slice ra rn rc, .slice ua un uc, .slice ea en ec] 25)) (.cells #[.slice none 0 0, .slice ua un uc, .slice ea en ec] 38))
    (try simp only [World.size_alloc] at hs3)
    have hlv := run_loadVar_row (P := Tryd.prog) _ _ _ 38 _ _ _ hs3 Tryd.underlying38 rfl (by rw [info38]; rfl)
    have hB3 := (((Below.refl w.heap.size w).alloc (Nat.le_refl _) (.cells #[.slice ra rn rc, .slice ua un uc, .slice ea en ec] 25)).alloc (by simp) (.cells #[.slice none 0 0, .slice ua un uc, .slice ea en ec] 38)).alloc (by simp; omega) (.cells #[.slice none 0 0, .slice ua un uc, .slice ea en ec] 38)
    have HLv := Lib.hid hlv
    have HB3 := Lib.hid hB3
    clear hs3 hlv hB3
    have fin : (decide (30 < (rn : Int)) = true) ∨ (decide (30 < (rn : Int)) = false ∧ decide (30 < (un : Int)) = true) ∨ (decide (30 < (rn : Int)) = false ∧ decide (30 < (un : Int)) = false ∧ decide (20 < (en : Int)) = true) := by
      simp
      omega
    clear hG
    rcases fin with d1 | ⟨d1, d2⟩ | ⟨d1, d2, d3⟩
    all_goals (
      go_enter Tryd.func18, Tryd.ntmps18
      go_wp2
      (try simp only [Exit.inBlock, Exit.then])
      refine bodyPost_ret (v := .tuple #[.agg #[.slice none 0 0, .slice ua un uc, .slice ea en ec], .bool false]) ?_ rfl ?_
      · rw [results_cell_tmp (p := 4) (u := 5) (ty := 38) rfl]
        simp [asAddr, HLv.out, Result.andThen]
      · exact .inl ⟨rfl, HB3.out⟩)
end Cl
end Go.Proofs.YtfkjijjmphbglaaDoor
