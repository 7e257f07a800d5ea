/- classes.Spread where it answers an error. -/
import Derived.Test.YtfkjijjmphbglaaDoorSpread
import Derived.Test.YtfkjijjmphbglaaDoorErr
namespace Go.Proofs.YtfkjijjmphbglaaDoor
open Go Go.RowKit Kt
namespace Cl
open Sb
set_option maxHeartbeats 4000000 in
set_option maxRecDepth 100000 in
theorem spread_no (C : List Int) (many : Int) (hC : C.length = 256) (ra : Option Addr) (rc rn : Nat) (rws : List IRow) (hrn : rws.length = rn) (h30 : rn ≤ 1000) (w : World) (X : Value) (hX : w.cell? ⟨0, 0, none⟩ = some X) (hr : Rd w ra (rws.map IRow.v)) (hok : ∀ r ∈ rws, r.ok w) (hno : (okm C many && !rws.any (sprO many)) = false) :
    Calls Tryd.prog 26 #[.agg (i64s (C ++ [many])).toArray, .slice ra rn rc] w fun e w' => e = .returned (.tuple #[.slice none 0 0, X]) ∧ Below w.heap.size w w' := by
  have hL : (C ++ [many]).length = 257 := by simp [hC]
  have hnew := heap_alloc_new w (.cells (i64s (C ++ [many])).toArray 30)
  have hb1 := (Below.refl w.heap.size w).alloc (Nat.le_refl _) (.cells (i64s (C ++ [many])).toArray 30)
  have hl := load_map hL hnew
  have k1 : (i64s (C ++ [many])).toArray[256]? = some (.int .i64 many) := by
    have : (C ++ [many])[256]? = some many := by rw [List.getElem?_append_right (by omega), hC]; rfl
    simp only [i64s, List.getElem?_toArray, List.getElem?_map, this, Option.map_some]
  have HMR := Lib.hid fun W => mright_c C many hC W
  have hsk : ∀ W, Below w.heap.size w W → W.cell? ⟨0, 0, none⟩ = some X := fun W hb => (hb.cell (p := ⟨0, 0, none⟩) (lt_of_cell hX)).trans hX
  obtain ⟨W1, hW1⟩ : ∃ W1, w.alloc (.cells (i64s (C ++ [many])).toArray 30) = W1 := ⟨_, rfl⟩
  rw [hW1] at hl hnew hb1
  have hany := fun W (hb : Below W1.heap.size W1 W) (hc : W.cell? ⟨w.heap.size, 256, none⟩ = some (.int .i64 many)) => spr_any ra rc rn rws w.heap.size many W hrn (by omega) (hr.keep (hb1.trans (hb.mono hb1.size))) (fun r hr => spread1_c r w.heap.size many W (by have := (hok r hr).cap; have := (hok r hr).max; unfold maxLen at this; omega) hc)
  have HA := Lib.hid hany
  have HW1 := Lib.hid hW1
  have HB1 := Lib.hid hb1
  have Hnew := Lib.hid hnew
  have SK := Lib.hid hsk
  have K1 := Lib.hid k1
  have Hno := Lib.hid hno
  clear hL hnew hb1 k1 hr hok hrn hW1 hany hC hsk hX hno
  go_enter Tryd.func26, Tryd.ntmps26
  go_wp2_with fail
  rw [HW1.out]
  refine wp_load_run hl rfl rfl ?_
  go_wp2_with fail
  refine (HMR.out _).mono ?_
  rintro e w2 ⟨rfl, hb2⟩
  have hB2 := HB1.out.trans (hb2.mono HB1.out.size)
  have hg := SK.out _ hB2
  have hn2 := (hb2.block _ (block_lt Hnew.out)).trans Hnew.out
  have k0 := cell_block hn2 256
  rw [K1.out] at k0
  have HA2 := Lib.hid (HA.out w2 hb2 k0)
  have HB2 := Lib.hid hB2
  clear hl HMR HA hb2 hB2 hn2 k0
  cases hm : okm C many with
  | false =>
    clear hm
    go_wp2
    go_quiet (fail)
    go_wp2
    go_ret2
    exact ⟨rfl, below_drewN HB2.out _⟩
  | true =>
    have ha : rws.any (sprO many) = true := by
      have := Hno.out
      rw [hm] at this
      simpa using this
    rw [ha] at HA2
    clear hm ha
    go_wp2_with fail
    refine HA2.out.mono ?_
    rintro e w3 ⟨rfl, rfl⟩
    go_wp2
    go_quiet (fail)
    go_wp2
    go_ret2
    exact ⟨rfl, below_drewN HB2.out _⟩
end Cl
end Go.Proofs.YtfkjijjmphbglaaDoor
