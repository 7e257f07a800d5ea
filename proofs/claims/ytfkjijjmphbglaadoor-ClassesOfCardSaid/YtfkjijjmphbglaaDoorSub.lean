/- subset.Right: whether a DFA is right. -/
import Derived.Test.YtfkjijjmphbglaaDoorSubFind
import Derived.Deep.MidRow
import Derived.Deep.WholeRow
import Derived.Laws.StructEq
import Derived.ChangeKeysEq
namespace Go.Proofs.YtfkjijjmphbglaaDoor
open Go Go.RowKit Kt
namespace Sb
theorem oth_nat (m : Nat) (x : Int) : oth m x = false ↔ 0 ≤ x ∧ x < m := by
  unfold oth
  rw [Bool.or_eq_false_iff, decide_eq_false_iff_not, decide_eq_false_iff_not]
  omega
/-- A row's value. -/
def rv (r : List Int) : Value := .agg (i64s r).toArray
/-- A row of zeros. -/
def zrow : List Int := List.replicate 256 0
theorem zrow_len : zrow.length = 256 := List.length_replicate
theorem zc35 : Tryd.zeroCells35 = (i64s zrow).toArray := by kernel_rfl
/-- A DFA whose three lists are read. -/
structure Df (w : World) (ra ua ea : Option Addr) (rows : List (List Int)) (rule entry : List Int) : Prop where
  w256 : ∀ r ∈ rows, r.length = 256
  rr : Rd w ra (rows.flatMap i64s)
  ru : Rd w ua (i64s rule)
  re : Rd w ea (i64s entry)
theorem Df.below {w W : World} {ra ua ea : Option Addr} {rows : List (List Int)} {rule entry : List Int} (h : Df w ra ua ea rows rule entry) (hb : Below w.heap.size w W) : Df W ra ua ea rows rule entry :=
  ⟨h.w256, h.rr.keep hb, h.ru.keep hb, h.re.keep hb⟩
theorem info35 : (Tryd.prog.info? 35).map (·.size) = some 256 := by kernel_rfl
theorem i64s_one (r : List Int) : (i64s r).toArray.all (·.oneCell') = true := all_oneCell_toArray (oneCell_i64s r)
theorem Z_size : Tryd.zeroCells35.size = 256 := by kernel_rfl
theorem row_at {w : World} {ra : Option Addr} {rows : List (List Int)} (h6 : ∀ r ∈ rows, r.length = 256) (h : Rd w ra (rows.flatMap i64s)) (k : Nat) (hk : k < rows.length) :
    ∃ b o, ra = some ⟨b, o, none⟩ ∧ w.rangeAt b (o + k * 256) (i64s rows[k]) := by
  obtain ⟨b, o, ha, hc⟩ := h.struct 256 (fun z hz => by rw [i64s_length]; exact h6 z hz) k hk (by omega)
  refine ⟨b, o, ha, fun j v hv => ?_⟩
  have hj : j < 256 := by
    have := (List.getElem?_eq_some_iff.1 hv).1
    rwa [i64s_length, h6 _ (List.getElem_mem hk)] at this
  rw [Nat.add_assoc]
  exact hc j v hv hj
theorem load_row {w : World} {b o : Nat} {r : List Int} (hr : r.length = 256) (h : w.rangeAt b o (i64s r)) : (Instr.loadAt 35 (.pointer (some ⟨b, o, none⟩))).run Tryd.prog w = .ok (rv r) w :=
  run_loadAt_mid w b o 35 (i64s r) _ h Tryd.underlying35 rfl (by rw [info35, i64s_length, hr])
theorem store_row (w : World) {r : List Int} (hr : r.length = 256) : (storeCells ⟨w.heap.size, 0, none⟩ (i64s r) 0).run Tryd.prog (w.alloc (.cells Tryd.zeroCells35 35)) = .ok () (w.alloc (.cells (i64s r).toArray 35)) := by
  have := run_storeCells_new (P := Tryd.prog) w 35 Tryd.zeroCells35 (i64s r).toArray (by rw [info35]; simp [i64s_length, hr]) (by rw [Z_size]; simp [i64s_length, hr]) (i64s_one r)
  simpa using this
/-- Loads and stores whose runs are known. -/
theorem wp_load_run {P : Program} {op : Oper} {a : Act} {w : World} {K : Act → World → Prop} {Q : Exit → Act → World → Prop} {p v : Value} {ty : TypeId} {x : Operand} (hrun : (Instr.loadAt ty p).run P w = .ok v w) (ho : op.op = .load ty x) (hx : a.eval x = p)
    (h : K (a.put op.dst v) w) : op.wp P a w K Q := by
  unfold Oper.wp execOp
  simp only [ho, hx, Sem.run_bind, hrun, Sem.run_pure, Result.andThen_ok]
  exact h
/-- What Right asks. -/
structure Good (rows : List (List Int)) (rule entry : List Int) : Prop where
  many : 1 ≤ rows.length ∧ rows.length ≤ 200
  ru : rule.length = rows.length
  en : 1 ≤ entry.length ∧ entry.length ≤ 8
  leads : ∀ r ∈ rows, r.any (oth rows.length) = false
  strange : rule.any (strg 0) = false
  entry : entry.any (oth rows.length) = false
  first : rows.head? = some (zrow)
  none : rule.head? = some (-1)
def RgP (rows : List (List Int)) (rule entry : List Int) (e : Ending) : Prop := ∃ v, e = .returned (.bool v) ∧ (v = true ↔ Good rows rule entry)
theorem rg_no {rows : List (List Int)} {rule entry : List Int} (h : ¬ Good rows rule entry) : RgP rows rule entry (.returned (.bool false)) := ⟨false, rfl, by simp; exact h⟩
theorem rg_yes {rows : List (List Int)} {rule entry : List Int} (h : Good rows rule entry) : RgP rows rule entry (.returned (.bool true)) := ⟨true, rfl, by simp; exact h⟩
theorem part_int {cs : Array Value} {off : Nat} {x : Int} (h : cs[off]? = some (.int .i64 x)) (w : World) : (part 3 cs off).run Tryd.prog w = .ok (.int .i64 x) w := by
  simp [part, isAgg, Sem.run_bind, run_underlying Tryd.underlying3, h]
theorem eq_items (d : Nat) (xs ys : List Int) (w : World) : ∀ (is : List Nat), (∀ i ∈ is, i < xs.length ∧ i < ys.length) →
    (Op.eqItems (d + 1) 3 1 (i64s xs).toArray (i64s ys).toArray is).run Tryd.prog w = .ok (is.all fun i => xs.getD i 0 == ys.getD i 0) w
  | [], _ => by simp [Op.eqItems]
  | i :: is, h => by
    obtain ⟨h1, h2⟩ := h i (by simp)
    have e1 : (i64s xs).toArray[i * 1]? = some (.int .i64 (xs.getD i 0)) := by
      simp [i64s, h1, List.getD_eq_getElem?_getD]
    have e2 : (i64s ys).toArray[i * 1]? = some (.int .i64 (ys.getD i 0)) := by
      simp [i64s, h2, List.getD_eq_getElem?_getD]
    simp only [Op.eqItems, Sem.run_bind, part_int e1, part_int e2, run_equalIn_int w d 3 .i64 .i64 _ _ Tryd.underlying3, Result.andThen_ok, List.all_cons]
    cases hv : (xs.getD i 0 == ys.getD i 0)
    · simp
    · simpa using eq_items d xs ys w is (fun j hj => h j (by simp [hj]))
theorem all_eq {xs ys : List Int} (h : xs.length = ys.length) : ((List.range xs.length).all fun i => xs.getD i 0 == ys.getD i 0) = decide (xs = ys) := by
  rw [Bool.eq_iff_iff, List.all_eq_true, decide_eq_true_iff]
  constructor
  · intro hh
    apply List.ext_getElem h
    intro i h1 h2
    have := hh i (by simpa using h1)
    simpa [List.getD_eq_getElem?_getD, h1, h2] using this
  · rintro rfl i _
    simp
/-- Two rows held against one another. -/
theorem eq_row {xs ys : List Int} (hx : xs.length = 256) (hy : ys.length = 256) (w : World) : (Op.equalIn 10000 35 (.agg (i64s xs).toArray) (.agg (i64s ys).toArray)).run Tryd.prog w = .ok (decide (xs = ys)) w := by
  obtain ⟨i, hi⟩ : ∃ i, Tryd.prog.info? 3 = some i := Option.isSome_iff_exists.1 (by kernel_rfl)
  have hce : Tryd.prog.cellsOf 3 = 1 := by kernel_rfl
  rw [show (10000 : Nat) = 9999 + 1 from rfl, run_equalIn_array (P := Tryd.prog) w 9999 _ _ Tryd.underlying35 hi, hce,
    show (9999 : Nat) = 9998 + 1 from rfl, eq_items 9998 xs ys w _ (fun i hi => by simp at hi; omega), ← hx, all_eq (by rw [hx, hy])]
theorem eq_zero {r : List Int} (hr : r.length = 256) (w : World) : (Op.equalIn 10000 35 (.agg (i64s r).toArray) (.agg Tryd.zeroCells35)).run Tryd.prog w = .ok (decide (r = zrow)) w := by
  rw [zc35]
  exact eq_row hr zrow_len w
/-- The loop over the rows. -/
def RgR (w : World) (rows : List (List Int)) (n : Nat) (i : Value) (W : World) : Prop := ∃ k : Nat, k ≤ n ∧ i = .int .i64 (k : Int) ∧ (∀ r ∈ rows.take k, r.any (oth n) = false) ∧ Below w.heap.size w W
set_option maxHeartbeats 4000000 in
set_option maxRecDepth 100000 in
theorem right_c (ra ua ea : Option Addr) (rn rc un uc en ec : Nat) (rows : List (List Int)) (rule entry : List Int) (hrn : rows.length = rn) (hun : rule.length = un) (hen : entry.length = en) (h1 : rn ≤ 9223372036854775807) (h2 : un ≤ 9223372036854775807) (h3 : en ≤ 9223372036854775807) (w : World) (h : Df w ra ua ea rows rule entry) :
    Calls Tryd.prog 16 #[.agg #[.slice ra rn rc, .slice ua un uc, .slice ea en ec]] w fun e w' => RgP rows rule entry e ∧ Below w.heap.size w w' := by
  have H := Lib.hid h
  have Hrn := Lib.hid hrn
  have Hun := Lib.hid hun
  have Hen := Lib.hid hen
  have hB0 := ((Below.refl w.heap.size w).alloc (Nat.le_refl _) (.cells #[.slice ra rn rc, .slice ua un uc, .slice ea en ec] 25)).alloc (by simp) (.cells #[.int .i64 (rn : Int)] 3)
  have HB0 := Lib.hid hB0
  clear h hrn hun hen hB0
  by_cases hG : 1 ≤ rn ∧ rn ≤ 200 ∧ un = rn ∧ 1 ≤ en ∧ en ≤ 8
  · obtain ⟨g1, g2, rfl, g4, g5⟩ := hG
    have d1 : decide ((un : Int) < 1) = false := by simp; omega
    have d2 : decide (200 < (un : Int)) = false := by simp; omega
    have d4 : decide ((en : Int) < 1) = false := by simp; omega
    have d5 : decide (8 < (en : Int)) = false := by simp; omega
    have hF0 := heap_alloc2_old w (.cells #[.slice ra un rc, .slice ua un uc, .slice ea en ec] 25) (.cells #[.int .i64 (un : Int)] 3)
    have hM0 := heap_alloc2_new w (.cells #[.slice ra un rc, .slice ua un uc, .slice ea en ec] 25) (.cells #[.int .i64 (un : Int)] 3)
    obtain ⟨wz, hwz⟩ : ∃ wz, (w.alloc (.cells #[.slice ra un rc, .slice ua un uc, .slice ea en ec] 25)).alloc (.cells #[.int .i64 (un : Int)] 3) = wz := ⟨_, rfl⟩
    have HBz := HB0
    rw [hwz] at hF0 hM0 HBz
    have Hwz := Lib.hid hwz
    have HF1 := Lib.hid hF0
    have HM1 := Lib.hid hM0
    clear hF0 hM0 hwz
    go_enter Tryd.func16, Tryd.ntmps16
    go_wp2
    rw [Hwz.out]
    go_loopw [6, 40] (fun _ i W => RgR wz rows un i W) (fun _ i _ => un - (intOf i).toNat)
    case atStart => exact ⟨0, Nat.zero_le _, rfl, by simp, Below.refl _ _⟩
    case round =>
      obtain ⟨k, hk, rfl, hno, hB⟩ := hrel
      have hM := (hB.block _ (block_lt HM1.out)).trans HM1.out
      by_cases hlt : k < un
      · have hkl : k < rows.length := by rw [Hrn.out]; exact hlt
        obtain ⟨b, o, ha, hrg⟩ := row_at H.out.w256 (H.out.below (HBz.out.trans (hB.mono HBz.out.size))).rr k hkl
        subst ha
        have h256 := H.out.w256 _ (List.getElem_mem hkl)
        have hnx : rows[k].any (oth un) = false → ∀ r ∈ rows.take (k + 1), r.any (oth un) = false := fun h r hr => by
          rw [← List.take_append_getElem hkl] at hr
          rcases List.mem_append.1 hr with h1 | h1
          · exact hno r h1
          · simp at h1; subst h1; exact h
        have hbad : rows[k].any (oth un) = true → ¬ Good rows rule entry := fun h g => by
          have := g.leads _ (List.getElem_mem hkl)
          rw [Hrn.out, h] at this
          cases this
        generalize rows[k] = row at *
        have hl := load_row h256 hrg
        have hst := store_row wr h256
        have hln : (i64s row).length = 256 := by rw [i64s_length]; exact h256
        have hb2 := (Below.refl wr.heap.size wr).alloc (Nat.le_refl _) (.cells (i64s row).toArray 35)
        have hM2 := (hb2.block _ (block_lt hM)).trans hM
        have hany := oth_any (some ⟨wr.heap.size, 0, none⟩) 256 256 un (w.heap.size + 1) row _ h256 (by omega) (Rd.new wr (i64s row).toArray 35 (0, 0) (i64s row) (by simp)) (cell_block hM2 0)
        have Hnx := Lib.hid hnx
        have Hbad := Lib.hid hbad
        have HA := Lib.hid hany
        have HB := Lib.hid (hB.trans (hb2.mono hB.size))
        clear hnx hbad hany hno hrg hM hM2 hb2 hB h256
        unfold rv at hl
        cases hv : row.any (oth un) with
        | true =>
          rw [hv] at HA
          have Hv := Lib.hid hv
          clear hv
          go_wp2_with fail
          refine wp_load_run hl rfl rfl ?_
          go_wp2_with fail
          refine HA.out.mono ?_
          rintro e w5 ⟨rfl, rfl⟩
          go_wp2
          go_ret
          exact ⟨rg_no (Hbad.out Hv.out), HBz.out.trans (HB.out.mono HBz.out.size)⟩
        | false =>
          rw [hv] at HA
          have Hv := Lib.hid hv
          clear hv
          go_wp2_with fail
          refine wp_load_run hl rfl rfl ?_
          go_wp2_with fail
          refine HA.out.mono ?_
          rintro e w5 ⟨rfl, rfl⟩
          go_wp2
          go_roundw
          case rel => exact ⟨k + 1, by omega, by go_num, Hnx.out Hv.out, HB.out⟩
          case measure => simp [intOf]; omega
      · have hkn : k = un := by omega
        subst hkn
        rw [List.take_of_length_le (Nat.le_of_eq Hrn.out)] at hno
        have hF := (hB.block _ (block_lt HF1.out)).trans HF1.out
        have hBw := HBz.out.trans (hB.mono HBz.out.size)
        have hDf := H.out.below hBw
        have c0 := cell_block hF 0
        have c1 := cell_block hF 1
        have c2 := cell_block hF 2
        simp at c0 c1 c2
        have cM := cell_block hM 0
        have hst := strg_any ua uc k 0 0 rule wr Hun.out h2 hDf.ru
        have hot := oth_any ea ec en k (w.heap.size + 1) entry wr Hen.out h3 hDf.re cM
        have Hst := Lib.hid hst
        have Hot := Lib.hid hot
        have Hno := Lib.hid hno
        have HBw := Lib.hid hBw
        have HDf := Lib.hid hDf
        clear hst hot hno hBw hDf hF hM hB
        cases hs : rule.any (strg 0) with
        | true =>
          rw [hs] at Hst
          have Hs := Lib.hid hs
          clear hs
          go_wp2_with fail
          refine Hst.out.mono ?_
          rintro e w5 ⟨rfl, rfl⟩
          go_wp2
          go_ret
          exact ⟨rg_no (fun g => by have := g.strange; rw [Hs.out] at this; cases this), HBw.out⟩
        | false =>
          rw [hs] at Hst
          have Hs := Lib.hid hs
          clear hs
          cases ho : entry.any (oth k) with
          | true =>
            rw [ho] at Hot
            have Ho := Lib.hid ho
            clear ho
            go_wp2_with fail
            refine Hst.out.mono ?_
            rintro e w5 ⟨rfl, rfl⟩
            go_wp2_with fail
            refine Hot.out.mono ?_
            rintro e w5 ⟨rfl, rfl⟩
            go_wp2
            go_ret
            exact ⟨rg_no (fun g => by have := g.entry; rw [Hrn.out, Ho.out] at this; cases this), HBw.out⟩
          | false =>
            rw [ho] at Hot
            have Ho := Lib.hid ho
            clear ho
            have hr0 : 0 < rows.length := by rw [Hrn.out]; omega
            have hu0 : 0 < rule.length := by rw [Hun.out]; omega
            obtain ⟨b, o, ha, hrg⟩ := row_at HDf.out.w256 HDf.out.rr 0 hr0
            obtain ⟨ub, uo, hua, hu1⟩ := HDf.out.ru.i64 0 hu0
            subst ha hua
            rw [Nat.zero_mul, Nat.add_zero] at hrg
            rw [Nat.add_zero] at hu1
            have h256 := HDf.out.w256 _ (List.getElem_mem hr0)
            have hh1 : rows.head? = some rows[0] := by rw [List.head?_eq_getElem?, List.getElem?_eq_getElem hr0]
            have hh2 : rule.head? = some rule[0] := by rw [List.head?_eq_getElem?, List.getElem?_eq_getElem hu0]
            generalize rows[0] = row at *
            generalize rule[0] = u0 at *
            have hl := load_row h256 hrg
            unfold rv at hl
            have heq := fun w => eq_zero h256 w
            have hk0 : 0 < k := by omega
            have Hh1 := Lib.hid hh1
            have Hh2 := Lib.hid hh2
            clear hh1 hh2 hrg h256
            by_cases hr : row = zrow
            · have hrd : decide (row = zrow) = true := by simp [hr]
              simp only [hrd] at heq
              have Hr := Lib.hid hr
              clear hr hrd
              by_cases hu : u0 = -1
              · have hub : (u0 == -1) = true := by simp [hu]
                have Hu := Lib.hid hu
                clear hu
                go_wp2_with fail
                refine Hst.out.mono ?_
                rintro e w5 ⟨rfl, rfl⟩
                go_wp2_with fail
                refine Hot.out.mono ?_
                rintro e w5 ⟨rfl, rfl⟩
                go_wp2_with fail
                refine wp_load_run hl rfl rfl ?_
                go_wp2
                go_ret
                refine ⟨?_, HBw.out⟩
                exact rg_yes ⟨by rw [Hrn.out]; exact ⟨g1, g2⟩, by rw [Hun.out, Hrn.out], by rw [Hen.out]; exact ⟨g4, g5⟩, by rw [Hrn.out]; exact Hno.out, Hs.out, by rw [Hrn.out]; exact Ho.out, by rw [Hh1.out, Hr.out], by rw [Hh2.out, Hu.out]⟩
              · have hub : (u0 == -1) = false := by simp [hu]
                have Hu := Lib.hid hu
                clear hu
                go_wp2_with fail
                refine Hst.out.mono ?_
                rintro e w5 ⟨rfl, rfl⟩
                go_wp2_with fail
                refine Hot.out.mono ?_
                rintro e w5 ⟨rfl, rfl⟩
                go_wp2_with fail
                refine wp_load_run hl rfl rfl ?_
                go_wp2
                go_ret
                refine ⟨?_, HBw.out⟩
                exact rg_no (fun g => Hu.out (by have := g.none; rw [Hh2.out] at this; simpa using this))
            · have hrd : decide (row = zrow) = false := by simp [hr]
              simp only [hrd] at heq
              have Hr := Lib.hid hr
              clear hr hrd
              go_wp2_with fail
              refine Hst.out.mono ?_
              rintro e w5 ⟨rfl, rfl⟩
              go_wp2_with fail
              refine Hot.out.mono ?_
              rintro e w5 ⟨rfl, rfl⟩
              go_wp2_with fail
              refine wp_load_run hl rfl rfl ?_
              go_wp2
              go_ret
              refine ⟨?_, HBw.out⟩
              exact rg_no (fun g => Hr.out (by have := g.first; rw [Hh1.out] at this; simpa using this))
  · have hbad : ¬ Good rows rule entry := fun g => hG ⟨by rw [← Hrn.out]; exact g.many.1, by rw [← Hrn.out]; exact g.many.2, by rw [← Hun.out, ← Hrn.out]; exact g.ru, by rw [← Hen.out]; exact g.en.1, by rw [← Hen.out]; exact g.en.2⟩
    have Hbad := Lib.hid hbad
    clear hbad
    by_cases c1 : rn < 1
    · have hrn0 : rn = 0 := by omega
      subst hrn0
      go_enter Tryd.func16, Tryd.ntmps16
      go_wp2
      go_ret
      exact ⟨rg_no Hbad.out, HB0.out⟩
    · have d1 : decide ((rn : Int) < 1) = false := by simp; omega
      by_cases c2 : 200 < rn
      · have d2 : decide (200 < (rn : Int)) = true := by simp; omega
        go_enter Tryd.func16, Tryd.ntmps16
        go_wp2
        go_ret
        exact ⟨rg_no Hbad.out, HB0.out⟩
      · have d2 : decide (200 < (rn : Int)) = false := by simp; omega
        by_cases c3 : un = rn
        · subst c3
          by_cases c4 : en < 1
          · have hen0 : en = 0 := by omega
            subst hen0
            go_enter Tryd.func16, Tryd.ntmps16
            go_wp2
            go_ret
            exact ⟨rg_no Hbad.out, HB0.out⟩
          · have d4 : decide ((en : Int) < 1) = false := by simp; omega
            have d5 : decide (8 < (en : Int)) = true := by simp; omega
            go_enter Tryd.func16, Tryd.ntmps16
            go_wp2
            go_ret
            exact ⟨rg_no Hbad.out, HB0.out⟩
        · have d3 : ((un : Int) == (rn : Int)) = false := by simp; omega
          have d3' : ((un : Int) != (rn : Int)) = true := by simp; omega
          go_enter Tryd.func16, Tryd.ntmps16
          go_wp2
          go_ret
          exact ⟨rg_no Hbad.out, HB0.out⟩
end Sb
end Go.Proofs.YtfkjijjmphbglaaDoor
