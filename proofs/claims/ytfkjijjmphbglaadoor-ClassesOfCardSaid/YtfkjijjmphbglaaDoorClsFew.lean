/- dofferlaw22.ClassesFewest returns true. -/
import Derived.Test.YtfkjijjmphbglaaDoorClsAlive
import Derived.Test.YtfkjijjmphbglaaDoorClsLaw
namespace Go.Proofs.YtfkjijjmphbglaaDoor
open Go Go.RowKit Kt
namespace Cl
open Sb
/-- The DFA in its box D, its Map in its box M. -/
structure Fw (w : World) (D M : Nat) (dv : Array Value) (L : List Int) (W : World) : Prop where
  d : W.heap[D]? = some (.cells dv 25 (0, 0))
  m : W.heap[M]? = some (.cells (i64s L).toArray 30 (0, 0))
  below : Below w.heap.size w W
theorem Fw.step {w : World} {D M : Nat} {dv : Array Value} {L : List Int} {W W' : World} (h : Fw w D M dv L W) (hb : Below W.heap.size W W') : Fw w D M dv L W' :=
  ⟨(hb.block _ (block_lt h.d)).trans h.d, (hb.block _ (block_lt h.m)).trans h.m, h.below.trans (hb.mono h.below.size)⟩
/-- Does a row tell two bytes apart? -/
def apart (b c : Nat) (rows : List (List Int)) : Bool := rows.any fun r => r.getD b 0 != r.getD c 0
def ApR (w : World) (D M : Nat) (dv : Array Value) (L : List Int) (rows : List (List Int)) (b c n : Nat) (ap i : Value) (W : World) : Prop :=
  ∃ k : Nat, k ≤ n ∧ i = .int .i64 (k : Int) ∧ ap = .bool (apart b c (rows.take k)) ∧ Fw w D M dv L W
theorem apart_step {rows : List (List Int)} {k : Nat} (hk : k < rows.length) (b c : Nat) : apart b c (rows.take (k + 1)) = (apart b c (rows.take k) || (rows[k].getD b 0 != rows[k].getD c 0)) := by
  unfold apart
  rw [← List.take_append_getElem hk, List.any_append]
  simp
theorem apart_klass {rows : List (List Int)} (h : rows.length ≤ 200) (h1 : ∀ r ∈ rows, r.length = 256) (h2 : ∀ r ∈ rows, r.any (oth rows.length) = false) {b c : Nat} (hb : b < 256) (hc : c < 256) : apart b c rows = (((klass rows b : Nat) : Int) != ((klass rows c : Nat) : Int)) := by
  have hk := klass_iff h h1 h2 hb hc
  unfold apart
  rw [Bool.eq_iff_iff]
  simp only [List.any_eq_true, bne_iff_ne, ne_eq, Int.natCast_inj]
  rw [hk]
  constructor
  · rintro ⟨r, hr, hn⟩ h
    exact hn (h r hr)
  · intro h
    apply Classical.byContradiction
    intro hx
    exact h fun r hr => Classical.byContradiction fun hn => hx ⟨r, hr, hn⟩
set_option maxHeartbeats 8000000 in
set_option maxRecDepth 100000 in
theorem fewest_c (ra ua ea : Option Addr) (rn rc un uc en ec : Nat) (rows : List (List Int)) (rule entry : List Int) (hrn : rows.length = rn) (hun : rule.length = un) (hen : entry.length = en) (h1 : rn ≤ 9223372036854775807) (h2 : un ≤ 9223372036854775807) (h3 : en ≤ 9223372036854775807) (w : World) (h : Df w ra ua ea rows rule entry) :
    Calls Tryd.prog 3 #[.agg #[.slice ra rn rc, .slice ua un uc, .slice ea en ec]] w fun e w' => e = .returned (.bool true) ∧ Below w.heap.size w w' := by
  obtain ⟨dv, hdv⟩ : ∃ dv : Array Value, dv = #[.slice ra rn rc, .slice ua un uc, .slice ea en ec] := ⟨_, rfl⟩
  have hD0 := heap_alloc_new w (.cells #[.slice ra rn rc, .slice ua un uc, .slice ea en ec] 25)
  have hB0 := (Below.refl w.heap.size w).alloc (Nat.le_refl _) (.cells #[.slice ra rn rc, .slice ua un uc, .slice ea en ec] 25)
  have HA := Lib.hid (alive_c (w.alloc (.cells #[.slice ra rn rc, .slice ua un uc, .slice ea en ec] 25)))
  have H := Lib.hid h
  have Hrn := Lib.hid hrn
  have Hun := Lib.hid hun
  have Hen := Lib.hid hen
  have HD0 := Lib.hid hD0
  have HB0 := Lib.hid hB0
  have Hdv := Lib.hid hdv
  clear h hrn hun hen hD0 hB0 hdv
  go_enter Tryd.func3, Tryd.ntmps3
  go_wp2_with fail
  refine HA.out.mono ?_
  rintro e w2 ⟨rfl, hb2⟩
  have hD2 := (hb2.block _ (block_lt HD0.out)).trans HD0.out
  have hB2 := HB0.out.trans (hb2.mono HB0.out.size)
  have i0 := cell_block hD2 0
  have i1 := cell_block hD2 1
  have i2 := cell_block hD2 2
  simp at i0 i1 i2
  have HD2 := Lib.hid hD2
  have HB2 := Lib.hid hB2
  clear hb2 hD2 hB2 HA
  by_cases h20 : rn ≤ 20
  · have hd : decide (20 < (rn : Int)) = false := by simp; omega
    have hrg := right_c ra ua ea rn rc un uc en ec rows rule entry Hrn.out Hun.out Hen.out h1 h2 h3 _ (H.out.below HB2.out)
    have HR := Lib.hid hrg
    clear hrg
    go_wp2_with fail
    refine HR.out.mono ?_
    rintro e w3 ⟨⟨v, rfl, hv⟩, hb3⟩
    have hD3 := (hb3.block _ (block_lt HD2.out)).trans HD2.out
    have hB3 := HB2.out.trans (hb3.mono HB2.out.size)
    have i0 := cell_block hD3 0
    have i1 := cell_block hD3 1
    have i2 := cell_block hD3 2
    simp at i0 i1 i2
    have HD3 := Lib.hid hD3
    have HB3 := Lib.hid hB3
    have Hv := Lib.hid hv
    clear hb3 hD3 hB3 HR hv
    cases v with
    | false =>
      go_wp2
      go_ret
      exact ⟨rfl, HB3.out⟩
    | true =>
      have hG := Hv.out.1 rfl
      have hof := cof_c ra ua ea rn rc un uc en ec rows rule entry Hrn.out Hun.out Hen.out h2 h3 hG _ (H.out.below HB3.out)
      have hakl : ∀ b c : Nat, b < 256 → c < 256 → apart b c rows = (((klass rows b : Nat) : Int) != ((klass rows c : Nat) : Int)) := fun b c hb hc => apart_klass hG.many.2 H.out.w256 hG.leads hb hc
      have HK := Lib.hid hakl
      have HOf := Lib.hid hof
      clear hof hakl hG Hv
      go_wp2_with fail
      refine HOf.out.mono ?_
      rintro e w4 ⟨rfl, hb4⟩
      have hD4 := (hb4.block _ (block_lt HD3.out)).trans HD3.out
      have hB4 := HB3.out.trans (hb4.mono HB3.out.size)
      have hln : (i64s (mapL rows)).length = 257 := by rw [i64s_length]; exact mapL_len _
      have hst := store_map_new w4 (mapL_len rows)
      have hF0 : Fw w w.heap.size w4.heap.size dv (mapL rows) (w4.alloc (.cells (i64s (mapL rows)).toArray 30)) := ⟨by rw [Hdv.out]; exact block_alloc hD4, heap_alloc_new w4 _, hB4.alloc hB4.size _⟩
      have HF0 := Lib.hid hF0
      have HMa := Lib.hid (fun b (hb : b < 256) => mapL_at rows hb)
      clear hb4 hD4 hB4 hF0 i0 i1 i2 HOf
      generalize mapL rows = L at *
      go_wp2
      go_loopw [5, 6, 7, 9, 40] (fun b _ _ _ _ W => ∃ kb : Nat, kb ≤ 256 ∧ b = .int .i64 (kb : Int) ∧ Fw w w.heap.size w4.heap.size dv L W) (fun b _ _ _ _ _ => 256 - (intOf b).toNat)
      case atStart => exact ⟨0, by omega, rfl, HF0.out⟩
      case round =>
        clear hst
        obtain ⟨b, hb, rfl, hF⟩ := hrel
        have HF := Lib.hid hF
        clear hF
        by_cases hlt : b < 256
        · have hbd : decide ((b : Int) < 256) = true := by simp; omega
          have hbI : (b : Int) < 256 := by omega
          go_wp2
          go_loopw [6, 7, 9, 40] (fun c _ _ _ W => ∃ kc : Nat, kc ≤ b ∧ c = .int .i64 (kc : Int) ∧ Fw w w.heap.size w4.heap.size dv L W) (fun c _ _ _ _ => b - (intOf c).toNat)
          case atStart => exact ⟨0, by omega, rfl, HF.out⟩
          case round =>
            obtain ⟨c, hc, rfl, hF⟩ := hrel
            by_cases hlc : c < b
            · have hcI : (c : Int) < 256 := by omega
              have hdd := hF.d
              rw [Hdv.out] at hdd
              have i0 := cell_block hdd 0
              simp at i0
              have HF2 := Lib.hid hF
              clear hF hdd
              go_wp2
              go_loopw [7, 9, 40] (fun ap _ i W => ApR w w.heap.size w4.heap.size dv L rows b c rn ap i W) (fun _ _ i _ => rn - (intOf i).toNat)
              case atStart => exact ⟨0, by omega, rfl, rfl, HF2.out⟩
              case round =>
                obtain ⟨k, hk, rfl, rfl, hF⟩ := hrel
                clear i0
                by_cases hlk : k < rn
                · have hkl : k < rows.length := by rw [Hrn.out]; exact hlk
                  obtain ⟨bb, o, ha, hrg⟩ := row_at H.out.w256 (H.out.below hF.below).rr k hkl
                  subst ha
                  have h256 := H.out.w256 _ (List.getElem_mem hkl)
                  have has := apart_step hkl b c
                  generalize rows[k] = row at *
                  have hl := load_row h256 hrg
                  unfold rv at hl
                  have hst := store_row wr h256
                  have hln : (i64s row).length = 256 := by rw [i64s_length]; exact h256
                  have hnew := heap_alloc_new wr (.cells (i64s row).toArray 35)
                  have hF2 := hF.step ((Below.refl wr.heap.size wr).alloc (Nat.le_refl _) (.cells (i64s row).toArray 35))
                  have hbx : (i64s row)[b]? = some (.int .i64 (row.getD b 0)) := by
                    have : b < row.length := by omega
                    simp [i64s, List.getD_eq_getElem?_getD, this]
                  have hcx : (i64s row)[c]? = some (.int .i64 (row.getD c 0)) := by
                    have : c < row.length := by omega
                    simp [i64s, List.getD_eq_getElem?_getD, this]
                  have k0 := cell_block hnew b
                  have k1 := cell_block hnew c
                  rw [List.getElem?_toArray, hbx] at k0
                  rw [List.getElem?_toArray, hcx] at k1
                  obtain ⟨W2, hW2⟩ : ∃ W2, wr.alloc (.cells (i64s row).toArray 35) = W2 := ⟨_, rfl⟩
                  rw [hW2] at k0 k1 hF2
                  have HF3 := Lib.hid hF2
                  have HW2 := Lib.hid hW2
                  have Has := Lib.hid has
                  clear hF hrg hnew hF2 hW2 has hbx hcx h256
                  generalize row.getD b 0 = x at *
                  generalize row.getD c 0 = y at *
                  generalize apart b c (rows.take k) = ap at *
                  cases ap with
                  | true =>
                    go_wp2_with fail
                    refine wp_load_run hl rfl rfl ?_
                    go_wp2_with fail
                    rw [HW2.out]
                    go_quiet (fail)
                    go_wp2
                    go_roundw
                    case rel => exact ⟨k + 1, by omega, by go_num, by rw [Has.out]; rfl, HF3.out.step (below_drewN (Below.refl _ _) _)⟩
                    case measure => simp [intOf]; omega
                  | false =>
                    go_wp2_with fail
                    refine wp_load_run hl rfl rfl ?_
                    go_wp2_with fail
                    rw [HW2.out]
                    go_quiet (fail)
                    go_wp2
                    go_roundw
                    case rel => exact ⟨k + 1, by omega, by go_num, by rw [Has.out, Bool.false_or], HF3.out.step (below_drewN (Below.refl _ _) _)⟩
                    case measure => simp [intOf]; omega
                · have hkn : k = rn := by omega
                  subst hkn
                  rw [List.take_of_length_le (by rw [Hrn.out]; exact Nat.le_refl _), HK.out b c hlt (by omega)]
                  have k0 := cell_block hF.m b
                  have k1 := cell_block hF.m c
                  have e0 := HMa.out b hlt
                  have e1 := HMa.out c (by omega)
                  have e2 : (i64s L)[b]? = some (.int .i64 (klass rows b : Nat)) := by simp [i64s, e0]
                  have e3 : (i64s L)[c]? = some (.int .i64 (klass rows c : Nat)) := by simp [i64s, e1]
                  rw [List.getElem?_toArray, e2] at k0
                  rw [List.getElem?_toArray, e3] at k1
                  have HF3 := Lib.hid hF
                  clear hF e0 e1 e2 e3
                  generalize ((klass rows b : Nat) : Int) = x at *
                  generalize ((klass rows c : Nat) : Int) = y at *
                  have hne : ((x != y) != (x != y)) = false := by simp
                  go_wp2
                  go_quiet (fail)
                  go_wp2
                  go_roundw
                  case rel => exact ⟨c + 1, by omega, by go_num, HF3.out.step (below_drewN (Below.refl _ _) _)⟩
                  case measure => simp [intOf]; omega
            · have hcb : c = b := by omega
              subst hcb
              have HF2 := Lib.hid hF
              clear hF
              go_wp2
              go_roundw
              case rel => exact ⟨c + 1, by omega, by go_num, HF2.out⟩
              case measure => simp [intOf]; omega
        · have hb256 : b = 256 := by omega
          subst hb256
          have hbd : decide (((256 : Nat) : Int) < 256) = false := by decide
          go_wp2
          go_ret
          exact ⟨rfl, HF.out.below⟩
  · have hd : decide (20 < (rn : Int)) = true := by simp; omega
    go_wp2
    go_ret
    exact ⟨rfl, HB2.out⟩
end Cl
end Go.Proofs.YtfkjijjmphbglaaDoor
