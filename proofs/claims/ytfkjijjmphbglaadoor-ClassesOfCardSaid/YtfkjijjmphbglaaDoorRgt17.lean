/- dofferref17.Right: the document's answer on a DFA. -/
import Derived.Test.YtfkjijjmphbglaaDoorArr
namespace Go.Proofs.YtfkjijjmphbglaaDoor
open Go Go.RowKit Kt
namespace Cl
open Sb
theorem Z28_size : Tryd.zeroCells28.size = 256 := by kernel_rfl
theorem zc28 : Tryd.zeroCells28 = (i64s zrow).toArray := by kernel_rfl
theorem load_at28 {w : World} {b o : Nat} {r : List Int} (hr : r.length = 256) (h : w.rangeAt b o (i64s r)) : (Instr.loadAt 28 (.pointer (some ⟨b, o, none⟩))).run Tryd.prog w = .ok (rv r) w :=
  run_loadAt_mid w b o 28 (i64s r) _ h Tryd.underlying28 rfl (by rw [info28, i64s_length, hr])
theorem store_new28 (w : World) {r : List Int} (hr : r.length = 256) : (storeCells ⟨w.heap.size, 0, none⟩ (i64s r) 0).run Tryd.prog (w.alloc (.cells Tryd.zeroCells28 28)) = .ok () (w.alloc (.cells (i64s r).toArray 28)) := by
  have := run_storeCells_new (P := Tryd.prog) w 28 Tryd.zeroCells28 (i64s r).toArray (by rw [info28]; simp [i64s_length, hr]) (by rw [Z28_size]; simp [i64s_length, hr]) (i64s_one r)
  simpa using this
/-- What holds of the rows below k. -/
structure Rok (rows : List (List Int)) (rule : List Int) (n k : Nat) : Prop where
  leads : ∀ r ∈ rows.take k, r.any (oth n) = false
  strange : ∀ x ∈ rule.take k, strg 0 x = false
  first : 0 < k → ∃ r, rows.head? = some r ∧ ∀ x ∈ r, x = 0
theorem Rok.next {rows : List (List Int)} {rule : List Int} {n k : Nat} (h : Rok rows rule n k) (hk : k < rows.length) (hu : k < rule.length) (h1 : rows[k].any (oth n) = false) (h2 : strg 0 rule[k] = false) (h3 : k = 0 → ∀ x ∈ rows[k], x = 0) : Rok rows rule n (k + 1) where
  leads := fun r hr => by
    rw [← List.take_append_getElem hk] at hr
    rcases List.mem_append.1 hr with h4 | h4
    · exact h.leads r h4
    · simp only [List.mem_singleton] at h4; subst h4; exact h1
  strange := fun x hx => by
    rw [← List.take_append_getElem hu] at hx
    rcases List.mem_append.1 hx with h4 | h4
    · exact h.strange x h4
    · simp only [List.mem_singleton] at h4; subst h4; exact h2
  first := fun _ => by
    by_cases h0 : 0 < k
    · exact h.first h0
    · have : k = 0 := by omega
      subst this
      exact ⟨rows[0], by rw [List.head?_eq_getElem?, List.getElem?_eq_getElem hk], h3 rfl⟩
def RrR (w : World) (rows : List (List Int)) (rule : List Int) (n : Nat) (i : Value) (W : World) : Prop := ∃ k : Nat, k ≤ n ∧ i = .int .i64 (k : Int) ∧ Rok rows rule n k ∧ Below w.heap.size w W
def RsR (W0 : World) (row : List Int) (n k : Nat) (i : Value) (W : World) : Prop := ∃ c : Nat, c ≤ 256 ∧ i = .int .i64 (c : Int) ∧ (∀ x ∈ row.take c, oth n x = false ∧ (k = 0 → x = 0)) ∧ W0 = W
def ReR (W0 : World) (entry : List Int) (n m : Nat) (i : Value) (W : World) : Prop := ∃ k : Nat, k ≤ m ∧ i = .int .i64 (k : Int) ∧ (∀ x ∈ entry.take k, oth n x = false) ∧ W0 = W
set_option maxHeartbeats 8000000 in
set_option maxRecDepth 100000 in
theorem dright_c (ra ua ea : Option Addr) (rn rc un uc en ec : Nat) (rows : List (List Int)) (rule entry : List Int) (hrn : rows.length = rn) (hun : rule.length = un) (hen : entry.length = en) (h1 : rn ≤ 9223372036854775807) (h2 : un ≤ 9223372036854775807) (h3 : en ≤ 9223372036854775807) (w : World) (h : Df w ra ua ea rows rule entry) :
    Calls Tryd.prog 20 #[.agg #[.slice ra rn rc, .slice ua un uc, .slice ea en ec]] w fun e w' => RgP rows rule entry e ∧ Below w.heap.size w w' := by
  have H := Lib.hid h
  have Hrn := Lib.hid hrn
  have Hun := Lib.hid hun
  have Hen := Lib.hid hen
  have hB0 := ((Below.refl w.heap.size w).alloc (Nat.le_refl _) (.cells #[.slice ra rn rc, .slice ua un uc, .slice ea en ec] 38))
  have HB0 := Lib.hid hB0
  clear h hrn hun hen hB0
  by_cases hG : 1 ≤ rn ∧ rn ≤ 200 ∧ un = rn ∧ 1 ≤ en ∧ en ≤ 8
  · obtain ⟨g1, g2, rfl, g4, g5⟩ := hG
    have d1 : decide ((un : Int) < 1) = false := by simp; omega
    have d2 : decide (200 < (un : Int)) = false := by simp; omega
    have d4 : decide ((en : Int) < 1) = false := by simp; omega
    have d5 : decide (8 < (en : Int)) = false := by simp; omega
    have hF0 := heap_alloc_new w (.cells #[.slice ra un rc, .slice ua un uc, .slice ea en ec] 38)
    obtain ⟨wz, hwz⟩ : ∃ wz, (w.alloc (.cells #[.slice ra un rc, .slice ua un uc, .slice ea en ec] 38)) = wz := ⟨_, rfl⟩
    have HBz := HB0
    rw [hwz] at hF0 HBz
    have Hwz := Lib.hid hwz
    have HF1 := Lib.hid hF0
    clear hF0 hwz
    go_enter Tryd.func20, Tryd.ntmps20
    go_wp2
    rw [Hwz.out]
    go_loopw [4, 5, 7, 41, 61] (fun _ _ _ i _ W => RrR wz rows rule un i W) (fun _ _ _ i _ _ => un - (intOf i).toNat)
    case atStart => exact ⟨0, Nat.zero_le _, rfl, ⟨by simp, by simp, fun h => by omega⟩, Below.refl _ _⟩
    case round =>
      obtain ⟨k, hk, rfl, hno, hB⟩ := hrel
      by_cases hlt : k < un
      · have hkl : k < rows.length := by rw [Hrn.out]; exact hlt
        have hul : k < rule.length := by rw [Hun.out]; exact hlt
        have hDw := H.out.below (HBz.out.trans (hB.mono HBz.out.size))
        obtain ⟨b, o, ha, hrg⟩ := row_at H.out.w256 hDw.rr k hkl
        obtain ⟨ub, uo, hua, hu1⟩ := hDw.ru.i64 k hul
        have h256 := H.out.w256 _ (List.getElem_mem hkl)
        have hnx := hno.next hkl hul
        have hbad1 : rows[k].any (oth un) = true → ¬ Sb.Good rows rule entry := fun h g => by
          have := g.leads _ (List.getElem_mem hkl)
          rw [Hrn.out, h] at this
          cases this
        have hbad2 : strg 0 rule[k] = true → ¬ Sb.Good rows rule entry := fun h g => by
          have := List.any_eq_false.1 g.strange _ (List.getElem_mem hul)
          exact this h
        have hbad3 : k = 0 → (∃ x ∈ rows[k], x ≠ 0) → ¬ Sb.Good rows rule entry := fun h hx g => by
          subst h
          obtain ⟨x, hx, hx0⟩ := hx
          have := g.first
          rw [List.head?_eq_getElem?, List.getElem?_eq_getElem hkl] at this
          simp only [Option.some.injEq] at this
          rw [this] at hx
          exact hx0 (List.eq_of_mem_replicate hx)
        generalize rows[k] = row at *
        generalize rule[k] = u at *
        subst ha hua
        have hF := (hB.block _ (block_lt HF1.out)).trans HF1.out
        have hl := load_at28 h256 hrg
        unfold rv at hl
        have hst := store_new28 wr h256
        have hln : (i64s row).length = 256 := by rw [i64s_length]; exact h256
        have hnew := heap_alloc_new wr (.cells (i64s row).toArray 28)
        have hb2 := (Below.refl wr.heap.size wr).alloc (Nat.le_refl _) (.cells (i64s row).toArray 28)
        have hF2 := (hb2.block _ (block_lt hF)).trans hF
        have hu2 := (hb2.cell (p := ⟨ub, uo + k, none⟩) (lt_of_cell hu1)).trans hu1
        have hB2 := hB.trans (hb2.mono hB.size)
        have hl2 := load_arr (C := row) Tryd.underlying28 info28 h256 (fun i x hx => hx) hnew
        have j1 := cell_block hF2 1
        simp at j1
        obtain ⟨W2, hW2⟩ : ∃ W2, wr.alloc (.cells (i64s row).toArray 28) = W2 := ⟨_, rfl⟩
        rw [hW2] at hB2
        have HW2 := Lib.hid hW2
        have HB2 := Lib.hid hB2
        have Hnx := Lib.hid hnx
        have Hb1 := Lib.hid hbad1
        have Hb2 := Lib.hid hbad2
        have Hb3 := Lib.hid hbad3
        have H256 := Lib.hid h256
        clear hno hB hDw hrg hnx hbad1 hbad2 hbad3 hF hnew hb2 hF2 hW2 hB2 h256 hu1 hkl hul
        cases hs : strg 0 u with
        | true =>
          have hs2 := hs
          unfold strg at hs2
          have Hs := Lib.hid hs
          clear hs
          by_cases hu0 : u < -1
          · have e1 : decide (u < -1) = true := by simpa using hu0
            clear hs2 hl2
            go_wp2_with fail
            refine wp_load_run hl rfl rfl ?_
            go_wp2
            go_ret
            rw [HW2.out]
            exact ⟨rg_no (Hb2.out Hs.out), HBz.out.trans (HB2.out.mono HBz.out.size)⟩
          · have e1 : decide (u < -1) = false := by simpa using hu0
            have e2 : decide (47 < u) = true := by simp [e1] at hs2; simp; omega
            clear hs2 hl2
            go_wp2_with fail
            refine wp_load_run hl rfl rfl ?_
            go_wp2
            go_ret
            rw [HW2.out]
            exact ⟨rg_no (Hb2.out Hs.out), HBz.out.trans (HB2.out.mono HBz.out.size)⟩
        | false =>
          have hs2 := hs
          unfold strg at hs2
          rw [Bool.or_eq_false_iff, decide_eq_false_iff_not, decide_eq_false_iff_not] at hs2
          have e1 : decide (u < -1) = false := by simp; omega
          have e2 : decide (47 < u) = false := by simp; omega
          have Hs := Lib.hid hs
          clear hs hs2
          obtain ⟨wo, hwo⟩ : ∃ wo, wo = wr := ⟨_, rfl⟩
          subst hwo
          go_wp2_with fail
          refine wp_load_run hl rfl rfl ?_
          go_wp2_with fail
          refine wp_load_run hl2 rfl rfl ?_
          rw [HW2.out]
          go_wp2
          go_loopw [7, 61] (fun _ i W => RsR W2 row un k i W) (fun _ i _ => 256 - (intOf i).toNat)
          case atStart => exact ⟨0, by omega, rfl, by simp, rfl⟩
          case round =>
            clear hl hl2 hst
            obtain ⟨c, hc, rfl, hno, rfl⟩ := hrel
            by_cases hlc : c < 256
            · have hcl : c < row.length := by rw [H256.out]; exact hlc
              have hix := fun w => index_int Tryd.underlying28 c hlc (List.getElem?_eq_getElem hcl) w
              have hmem := List.getElem_mem hcl
              have hnx2 : (oth un row[c] = false ∧ (k = 0 → row[c] = 0)) → ∀ x ∈ row.take (c + 1), oth un x = false ∧ (k = 0 → x = 0) := fun h x hx => by
                rw [← List.take_append_getElem hcl] at hx
                rcases List.mem_append.1 hx with h4 | h4
                · exact hno x h4
                · simp only [List.mem_singleton] at h4; subst h4; exact h
              have hbx : oth un row[c] = true → ¬ Sb.Good rows rule entry := fun h => Hb1.out (List.any_eq_true.2 ⟨_, hmem, h⟩)
              have hby : k = 0 → row[c] ≠ 0 → ¬ Sb.Good rows rule entry := fun h hx => Hb3.out h ⟨_, hmem, hx⟩
              generalize row[c] = x at *
              have Hn2 := Lib.hid hnx2
              have Hbx := Lib.hid hbx
              have Hby := Lib.hid hby
              clear hno hnx2 hbx hby hmem hcl
              by_cases x0 : x < 0
              · have p1 : decide (x < 0) = true := by simpa using x0
                have ho : oth un x = true := by simp [oth, x0]
                have Ho := Lib.hid ho
                clear ho
                go_wp2
                go_ret
                exact ⟨rg_no (Hbx.out Ho.out), HBz.out.trans (HB2.out.mono HBz.out.size)⟩
              · have p1 : decide (x < 0) = false := by simpa using x0
                by_cases xn : (un : Int) ≤ x
                · have p2 : decide ((un : Int) ≤ x) = true := by simpa using xn
                  have ho : oth un x = true := by simp [oth, xn]
                  have Ho := Lib.hid ho
                  clear ho
                  go_wp2
                  go_ret
                  exact ⟨rg_no (Hbx.out Ho.out), HBz.out.trans (HB2.out.mono HBz.out.size)⟩
                · have p2 : decide ((un : Int) ≤ x) = false := by simpa using xn
                  have ho : oth un x = false := by simp [oth, x0, xn]
                  have Ho := Lib.hid ho
                  clear ho
                  by_cases k0 : k = 0
                  · have p3 : ((k : Int) == 0) = true := by simp [k0]
                    by_cases xz : x = 0
                    · have p4 : (x != 0) = false := by simp [xz]
                      have p5 : (x == 0) = true := by simp [xz]
                      have Hk := Lib.hid k0
                      have Hz := Lib.hid xz
                      clear k0 xz
                      go_wp2
                      go_roundw
                      case rel => exact ⟨c + 1, by omega, by go_num, Hn2.out ⟨Ho.out, fun _ => Hz.out⟩, rfl⟩
                      case measure => simp [intOf]; omega
                    · have p4 : (x != 0) = true := by simp [xz]
                      have p5 : (x == 0) = false := by simp [xz]
                      have Hk := Lib.hid k0
                      have Hz := Lib.hid xz
                      clear k0 xz
                      go_wp2
                      go_ret
                      exact ⟨rg_no (Hby.out Hk.out Hz.out), HBz.out.trans (HB2.out.mono HBz.out.size)⟩
                  · have p3 : ((k : Int) == 0) = false := by simp; omega
                    have Hk := Lib.hid k0
                    clear k0
                    go_wp2
                    go_roundw
                    case rel => exact ⟨c + 1, by omega, by go_num, Hn2.out ⟨Ho.out, fun h => absurd h Hk.out⟩, rfl⟩
                    case measure => simp [intOf]; omega
            · have hc256 : c = 256 := by omega
              subst hc256
              have hd : decide (((256 : Nat) : Int) < 256) = false := by decide
              rw [List.take_of_length_le (by rw [H256.out]; exact Nat.le_refl _)] at hno
              have hnext := Hnx.out (List.any_eq_false.2 fun x hx => by rw [(hno x hx).1]; simp) Hs.out (fun h x hx => (hno x hx).2 h)
              have Hnext := Lib.hid hnext
              clear hno hnext
              go_wp2
              go_roundw
              case rel => exact ⟨k + 1, by omega, by go_num, Hnext.out, HB2.out⟩
              case measure => simp [intOf]; omega
      · have hkn : k = un := by omega
        subst hkn
        have hd : decide ((k : Int) < (k : Int)) = false := by simp
        have hF := (hB.block _ (block_lt HF1.out)).trans HF1.out
        have hBw := HBz.out.trans (hB.mono HBz.out.size)
        have hDf := H.out.below hBw
        have c0 := cell_block hF 0
        have c1 := cell_block hF 1
        have c2 := cell_block hF 2
        simp at c0 c1 c2
        have hr0 : 0 < rows.length := by rw [Hrn.out]; omega
        have hu0 : 0 < rule.length := by rw [Hun.out]; omega
        obtain ⟨ub, uo, hua, hu1⟩ := hDf.ru.i64 0 hu0
        subst hua
        rw [Nat.add_zero] at hu1
        have hh2 : rule.head? = some rule[0] := by rw [List.head?_eq_getElem?, List.getElem?_eq_getElem hu0]
        generalize rule[0] = u0 at *
        obtain ⟨wo, hwo⟩ : ∃ wo, wo = wr := ⟨_, rfl⟩
        subst hwo
        have HDf := Lib.hid hDf
        have HBw := Lib.hid hBw
        have Hno := Lib.hid hno
        have Hh2 := Lib.hid hh2
        clear hF hB hBw hDf hno hh2 hr0 hu0
        go_wp2
        go_loopw [9, 84] (fun _ i W => ReR wo entry k en i W) (fun _ i _ => en - (intOf i).toNat)
        case atStart => exact ⟨0, by omega, rfl, by simp, rfl⟩
        case round =>
          obtain ⟨j, hj, rfl, hne, rfl⟩ := hrel
          by_cases hlj : j < en
          · have hjl : j < entry.length := by rw [Hen.out]; exact hlj
            obtain ⟨eb, eo, hea, he1⟩ := HDf.out.re.i64 j hjl
            have hmem := List.getElem_mem hjl
            have hnx2 : oth k entry[j] = false → ∀ x ∈ entry.take (j + 1), oth k x = false := fun h x hx => by
              rw [← List.take_append_getElem hjl] at hx
              rcases List.mem_append.1 hx with h4 | h4
              · exact hne x h4
              · simp only [List.mem_singleton] at h4; subst h4; exact h
            have hbx : oth k entry[j] = true → ¬ Sb.Good rows rule entry := fun h g => by
              have := List.any_eq_false.1 g.entry _ hmem
              rw [Hrn.out] at this
              exact this h
            generalize entry[j] = x at *
            subst hea
            have Hn2 := Lib.hid hnx2
            have Hbx := Lib.hid hbx
            clear hne hnx2 hbx hmem hjl
            by_cases x0 : x < 0
            · have p1 : decide (x < 0) = true := by simpa using x0
              have ho : oth k x = true := by simp [oth, x0]
              have Ho := Lib.hid ho
              clear ho
              go_wp2
              go_ret
              exact ⟨rg_no (Hbx.out Ho.out), HBw.out⟩
            · have p1 : decide (x < 0) = false := by simpa using x0
              by_cases xn : (k : Int) ≤ x
              · have p2 : decide ((k : Int) ≤ x) = true := by simpa using xn
                have ho : oth k x = true := by simp [oth, xn]
                have Ho := Lib.hid ho
                clear ho
                go_wp2
                go_ret
                exact ⟨rg_no (Hbx.out Ho.out), HBw.out⟩
              · have p2 : decide ((k : Int) ≤ x) = false := by simpa using xn
                have ho : oth k x = false := by simp [oth, x0, xn]
                have Ho := Lib.hid ho
                clear ho
                go_wp2
                go_roundw
                case rel => exact ⟨j + 1, by omega, by go_num, Hn2.out Ho.out, rfl⟩
                case measure => simp [intOf]; omega
          · have hjn : j = en := by omega
            subst hjn
            have hd2 : decide ((j : Int) < (j : Int)) = false := by simp
            rw [List.take_of_length_le (by rw [Hen.out]; exact Nat.le_refl _)] at hne
            have Hne := Lib.hid hne
            clear hne
            have hk0 : 0 < k := by omega
            by_cases hu : u0 = -1
            · have hub : (u0 == -1) = true := by simp [hu]
              have Hu := Lib.hid hu
              clear hu
              go_wp2
              go_ret
              refine ⟨?_, HBw.out⟩
              obtain ⟨r0, hr1, hr2⟩ := Hno.out.first hk0
              have hr0 : r0 = zrow := by
                have hl0 := H.out.w256 r0 (List.mem_of_head? hr1)
                unfold zrow
                rw [← hl0]
                exact List.eq_replicate_of_mem hr2
              have hL := Hno.out.leads
              have hS := Hno.out.strange
              rw [List.take_of_length_le (by rw [Hrn.out]; exact Nat.le_refl _)] at hL
              rw [List.take_of_length_le (by rw [Hun.out]; exact Nat.le_refl _)] at hS
              exact rg_yes ⟨by rw [Hrn.out]; exact ⟨g1, g2⟩, by rw [Hun.out, Hrn.out], by rw [Hen.out]; exact ⟨g4, g5⟩, by rw [Hrn.out]; exact hL, List.any_eq_false.2 fun x hx => by rw [hS x hx]; simp, by rw [Hrn.out]; exact List.any_eq_false.2 fun x hx => by rw [Hne.out x hx]; simp, by rw [hr1, hr0], by rw [Hh2.out, Hu.out]⟩
            · have hub : (u0 == -1) = false := by simp [hu]
              have Hu := Lib.hid hu
              clear hu
              go_wp2
              go_ret
              refine ⟨?_, HBw.out⟩
              exact rg_no (fun g => Hu.out (by have := g.none; rw [Hh2.out] at this; simpa using this))
  · have hbad : ¬ Sb.Good rows rule entry := fun g => hG ⟨by rw [← Hrn.out]; exact g.many.1, by rw [← Hrn.out]; exact g.many.2, by rw [← Hun.out, ← Hrn.out]; exact g.ru, by rw [← Hen.out]; exact g.en.1, by rw [← Hen.out]; exact g.en.2⟩
    have Hbad := Lib.hid hbad
    clear hbad
    by_cases c1 : rn < 1
    · have hrn0 : rn = 0 := by omega
      subst hrn0
      go_enter Tryd.func20, Tryd.ntmps20
      go_wp2
      go_ret
      exact ⟨rg_no Hbad.out, HB0.out⟩
    · have d1 : decide ((rn : Int) < 1) = false := by simp; omega
      by_cases c2 : 200 < rn
      · have d2 : decide (200 < (rn : Int)) = true := by simp; omega
        go_enter Tryd.func20, Tryd.ntmps20
        go_wp2
        go_ret
        exact ⟨rg_no Hbad.out, HB0.out⟩
      · have d2 : decide (200 < (rn : Int)) = false := by simp; omega
        by_cases c3 : un = rn
        · subst c3
          by_cases c4 : en < 1
          · have hen0 : en = 0 := by omega
            subst hen0
            go_enter Tryd.func20, Tryd.ntmps20
            go_wp2
            go_ret
            exact ⟨rg_no Hbad.out, HB0.out⟩
          · have d4 : decide ((en : Int) < 1) = false := by simp; omega
            have d5 : decide (8 < (en : Int)) = true := by simp; omega
            go_enter Tryd.func20, Tryd.ntmps20
            go_wp2
            go_ret
            exact ⟨rg_no Hbad.out, HB0.out⟩
        · have d3 : ((un : Int) == (rn : Int)) = false := by simp; omega
          have d3' : ((un : Int) != (rn : Int)) = true := by simp; omega
          go_enter Tryd.func20, Tryd.ntmps20
          go_wp2
          go_ret
          exact ⟨rg_no Hbad.out, HB0.out⟩
end Cl
end Go.Proofs.YtfkjijjmphbglaaDoor
