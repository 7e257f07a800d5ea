/- classes.Of at a right DFA. -/
import Derived.Test.YtfkjijjmphbglaaDoorOf
namespace Go.Proofs.YtfkjijjmphbglaaDoor
open Go Go.RowKit Kt
namespace Cl
open Sb
theorem zc30_size : Tryd.zeroCells30.size = 257 := by kernel_rfl
/-- A whole Map into the block that was made last. -/
theorem store_map_new (w : World) {L : List Int} (hL : L.length = 257) : (storeCells ⟨w.heap.size, 0, none⟩ (i64s L) 0).run Tryd.prog (w.alloc (.cells Tryd.zeroCells30 30)) = .ok () (w.alloc (.cells (i64s L).toArray 30)) := by
  have := run_storeCells_new (P := Tryd.prog) w 30 Tryd.zeroCells30 (i64s L).toArray (by rw [info30]; simp [i64s_length, hL]) (by rw [zc30_size]; simp [i64s_length, hL]) (all_oneCell_toArray (oneCell_i64s L))
  simpa using this
theorem load_map {w : World} {b : Nat} {L : List Int} (hL : L.length = 257) (h : w.heap[b]? = some (.cells (i64s L).toArray 30 (0, 0))) : (Instr.loadAt 30 (.pointer (some ⟨b, 0, none⟩))).run Tryd.prog w = .ok (.agg (i64s L).toArray) w := by
  simp only [Instr.loadAt, Instr.sureAddr, Sem.run_bind, Sem.run_pure, Result.andThen_ok]
  exact run_loadVar_row (P := Tryd.prog) w _ _ 30 _ _ _ h Tryd.underlying30 rfl (by rw [info30]; simp [i64s_length, hL])
set_option maxHeartbeats 4000000 in
set_option maxRecDepth 100000 in
theorem cof_c (ra ua ea : Option Addr) (rn rc un uc en ec : Nat) (rows : List (List Int)) (rule entry : List Int) (hrn : rows.length = rn) (hun : rule.length = un) (hen : entry.length = en) (h2 : un ≤ 9223372036854775807) (h3 : en ≤ 9223372036854775807) (hG : Sb.Good rows rule entry) (w : World) (h : Df w ra ua ea rows rule entry) :
    Calls Tryd.prog 17 #[.agg #[.slice ra rn rc, .slice ua un uc, .slice ea en ec]] w fun e w' => e = .returned (.tuple #[.agg (i64s (mapL rows)).toArray, .nilIface]) ∧ Below w.heap.size w w' := by
  have h200 : rn ≤ 200 := by rw [← hrn]; exact hG.many.2
  have hD0 := heap_alloc2_old w (.cells #[.slice ra rn rc, .slice ua un uc, .slice ea en ec] 25) (.cells Tryd.zeroCells30 30)
  have hR0 := heap_alloc2_new w (.cells #[.slice ra rn rc, .slice ua un uc, .slice ea en ec] 25) (.cells Tryd.zeroCells30 30)
  have hB0 := ((Below.refl w.heap.size w).alloc (Nat.le_refl _) (.cells #[.slice ra rn rc, .slice ua un uc, .slice ea en ec] 25)).alloc (by simp) (.cells Tryd.zeroCells30 30)
  have hrg := right_c ra ua ea rn rc un uc en ec rows rule entry hrn hun hen (by omega) h2 h3 _ (h.below hB0)
  have H := Lib.hid h
  have Hrn := Lib.hid hrn
  have HG := Lib.hid hG
  have HR := Lib.hid hrg
  have HD0 := Lib.hid hD0
  have HR0 := Lib.hid hR0
  have HB0 := Lib.hid hB0
  clear h hrn hG hrg hD0 hR0 hB0 hun hen
  go_enter Tryd.func17, Tryd.ntmps17
  go_wp2_with fail
  refine HR.out.mono ?_
  rintro e w2 ⟨⟨v, rfl, hv⟩, hb2⟩
  obtain rfl : v = true := hv.2 HG.out
  have hD2 := (hb2.block _ (block_lt HD0.out)).trans HD0.out
  have hR2 := (hb2.block _ (block_lt HR0.out)).trans HR0.out
  have hB2 := HB0.out.trans (hb2.mono HB0.out.size)
  have i0 := cell_block hD2 0
  have i1 := cell_block hD2 1
  have i2 := cell_block hD2 2
  simp at i0 i1 i2
  have hof := of_c ra ua ea rn rc un uc en ec rows rule entry Hrn.out h200 HG.out.leads w2 (H.out.below hB2)
  have HOf := Lib.hid hof
  have HR2 := Lib.hid hR2
  have HB2 := Lib.hid hB2
  clear hv hb2 hD2 hR2 hB2 hof HR HD0 HR0 HB0
  go_wp2_with fail
  refine HOf.out.mono ?_
  rintro e w3 ⟨fa, fc, rfl, _, hb3⟩
  have hR3 := (hb3.block _ (block_lt HR2.out)).trans HR2.out
  have hB3 := HB2.out.trans (hb3.mono HB2.out.size)
  have hln : (i64s (mapL rows)).length = 257 := by rw [i64s_length]; exact mapL_len rows
  have hst := store_map_new w3 (mapL_len rows)
  have hnew := heap_alloc_new w3 (.cells (i64s (mapL rows)).toArray 30)
  have hR4 := block_alloc (x := .cells (i64s (mapL rows)).toArray 30) hR3
  have hl := load_map (mapL_len rows) hnew
  have hst2 := store_map hR4 zc30_size (mapL_len rows)
  have hrb := setRow_heap _ _ _ (i64s (mapL rows)).toArray _ _ hR4
  have hB6 := below_setRow (hB3.alloc hB3.size (.cells (i64s (mapL rows)).toArray 30)) (Nat.le_succ _) (i64s (mapL rows)).toArray
  have hlv := run_loadVar_row (P := Tryd.prog) _ _ _ 30 _ _ _ hrb Tryd.underlying30 rfl (by rw [info30]; simp [i64s_length, mapL_len])
  have HLv := Lib.hid hlv
  have HB6 := Lib.hid hB6
  clear hR3 hB3 hnew hR4 hrb hB6 hlv hb3 i0 i1 i2
  go_wp2_with fail
  refine wp_load_run hl rfl rfl ?_
  go_wp2
  (try simp only [Exit.inBlock, Exit.then])
  refine bodyPost_ret (v := .tuple #[.agg (i64s (mapL rows)).toArray, .nilIface]) ?_ rfl ?_
  · rw [results_cell_tmp (p := 2) (u := 3) (ty := 30) rfl]
    simp [asAddr, HLv.out, Result.andThen]
  · exact ⟨rfl, HB6.out⟩
end Cl
end Go.Proofs.YtfkjijjmphbglaaDoor
