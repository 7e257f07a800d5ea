/- classes.Matrix: where states lead, class by class. -/
import Derived.Test.YtfkjijjmphbglaaDoorClsAlive
import Derived.Test.YtfkjijjmphbglaaDoorIOut
import Derived.Test.YtfkjijjmphbglaaDoorSpread
namespace Go.Proofs.YtfkjijjmphbglaaDoor
open Go Go.RowKit Kt
namespace Cl
open Sb
/-- A row, class by class. -/
def mrow (fs : List Nat) (r : List Int) : List Int := fs.map fun f => r.getD f 0
theorem mrow_len (fs : List Nat) (r : List Int) : (mrow fs r).length = fs.length := by simp [mrow]
/-- Memory of Matrix behind its preparation. -/
structure Ms (w : World) (base : Nat) (rows : List (List Int)) (fs : List Nat) (v : Value) (k : Nat) (L : List IRow) (W : World) : Prop where
  out : IOut base v L W
  many : L.length = k
  ls : L.map (·.l) = (rows.take k).map (mrow fs)
  below : Below w.heap.size w W
def MxR (w : World) (base : Nat) (rows : List (List Int)) (fs : List Nat) (n : Nat) (W0 : World) (o i : Value) (W : World) : Prop := ∃ (k : Nat) (a : Option Addr) (cap : Nat) (L : List IRow), k ≤ n ∧ i = .int .i64 (k : Int) ∧ o = .slice a k cap ∧ Ms w base rows fs (.slice a k cap) k L W ∧ Below base W0 W
def MyR (W0 : World) (row : List Int) (fs : List Nat) (m : Nat) (s i : Value) (W : World) : Prop := ∃ (j : Nat) (a : Option Addr) (cap : Nat), j ≤ m ∧ i = .int .i64 (j : Int) ∧ s = .slice a j cap ∧ W.ownsRow W0.heap.size 3 1 (.slice a j cap) j (i64s (mrow (fs.take j) row)) ∧ Below W0.heap.size W0 W
set_option maxHeartbeats 8000000 in
set_option maxRecDepth 100000 in
theorem cmat_c (ra ua ea : Option Addr) (rn rc un uc en ec : Nat) (rows : List (List Int)) (rule entry : List Int) (hrn : rows.length = rn) (hun : rule.length = un) (hen : entry.length = en) (h2 : un ≤ 9223372036854775807) (h3 : en ≤ 9223372036854775807) (hG : Sb.Good rows rule entry) (w : World) (h : Df w ra ua ea rows rule entry) :
    Calls Tryd.prog 19 #[.agg #[.slice ra rn rc, .slice ua un uc, .slice ea en ec]] w fun e w' => ∃ (a : Option Addr) (cap : Nat) (L : List IRow), e = .returned (.tuple #[.slice a rn cap, .nilIface]) ∧ L.length = rn ∧ Rd w' a (L.map IRow.v) ∧ (∀ r ∈ L, r.ok w') ∧ L.map (·.l) = rows.map (mrow (fsts rows 256)) ∧ Below w.heap.size w w' := by
  have h200 : rn ≤ 200 := by rw [← hrn]; exact hG.many.2
  have hD0 := heap_alloc_new w (.cells #[.slice ra rn rc, .slice ua un uc, .slice ea en ec] 25)
  have hB0 := (Below.refl w.heap.size w).alloc (Nat.le_refl _) (.cells #[.slice ra rn rc, .slice ua un uc, .slice ea en ec] 25)
  have hrg := right_c ra ua ea rn rc un uc en ec rows rule entry hrn hun hen (by omega) h2 h3 _ (h.below hB0)
  have H := Lib.hid h
  have Hrn := Lib.hid hrn
  have HG := Lib.hid hG
  have HR := Lib.hid hrg
  have HD0 := Lib.hid hD0
  have HB0 := Lib.hid hB0
  clear h hrn hG hrg hD0 hB0 hun hen
  go_enter Tryd.func19, Tryd.ntmps19
  go_wp2_with fail
  refine HR.out.mono ?_
  rintro e w2 ⟨⟨v, rfl, hv⟩, hb2⟩
  obtain rfl : v = true := hv.2 HG.out
  have hD2 := (hb2.block _ (block_lt HD0.out)).trans HD0.out
  have hB2 := HB0.out.trans (hb2.mono HB0.out.size)
  have i0 := cell_block hD2 0
  have i1 := cell_block hD2 1
  have i2 := cell_block hD2 2
  simp at i0 i1 i2
  have HOf := Lib.hid (of_c ra ua ea rn rc un uc en ec rows rule entry Hrn.out h200 HG.out.leads w2 (H.out.below hB2))
  have HD2 := Lib.hid hD2
  have HB2 := Lib.hid hB2
  clear hv hb2 hD2 hB2 HR HD0 HB0
  go_wp2_with fail
  refine HOf.out.mono ?_
  rintro e w3 ⟨fa, fc, rfl, hfr, hb3⟩
  have hD3 := (hb3.block _ (block_lt HD2.out)).trans HD2.out
  have hB3 := HB2.out.trans (hb3.mono HB2.out.size)
  have hlt3 := block_lt hD3
  obtain ⟨ML, hML⟩ : ∃ ML, mapL rows = ML := ⟨_, rfl⟩
  obtain ⟨fs, hfs⟩ : ∃ fs, fsts rows 256 = fs := ⟨_, rfl⟩
  have hfl : fs.length ≤ 256 := by rw [← hfs]; exact fsts_len rows 256
  have hfb : ∀ f ∈ fs, f < 256 := fun f hf => by
    obtain ⟨j, hj⟩ := List.getElem?_of_mem hf
    rw [← hfs] at hj
    exact ((ok_st (colb rows) 256).fst j f hj).1
  have hml := mapL_len rows
  rw [hML] at hml
  have hln : (i64s ML).length = 257 := by rw [i64s_length]; exact hml
  have hst := store_map_new w3 hml
  rw [hML, hfs]
  rw [hfs] at hfr
  have hb4 := (Below.refl w3.heap.size w3).alloc (Nat.le_refl _) (.cells (i64s ML).toArray 30)
  have hD4 := block_alloc (x := .cells (i64s ML).toArray 30) hD3
  have i0 := cell_block hD4 0
  simp at i0
  have hB4 := hB3.trans (hb4.mono hB3.size)
  have hfr4 := hfr.keep hb4
  obtain ⟨W4, hW4⟩ : ∃ W4, w3.alloc (.cells (i64s ML).toArray 30) = W4 := ⟨_, rfl⟩
  have HW4 := Lib.hid hW4
  rw [hW4] at hB4 hfr4 hb4
  have hM0 : Ms w W4.heap.size rows fs (.slice none 0 0) 0 [] W4 := ⟨IOut.nil _ _, rfl, by simp, hB4⟩
  have HM0 := Lib.hid hM0
  have HFr := Lib.hid hfr4
  have HFb := Lib.hid hfb
  have Hfs := Lib.hid hfs
  have HB4 := Lib.hid hB4
  obtain ⟨m, hm⟩ : ∃ m, fs.length = m := ⟨_, rfl⟩
  rw [hm]
  rw [hm] at hfl
  have Hm := Lib.hid hm
  clear hD3 hB3 hfr hb3 HOf i1 i2 hW4 hB4 hfr4 hM0 hfb hfs hML hm hD4 hb4 hlt3
  go_wp2
  rw [HW4.out]
  clear hst hln i0
  go_loopw [6, 8, 9, 11, 24, 30] (fun o _ _ _ i _ W => MxR w W4.heap.size rows fs rn W4 o i W) (fun _ _ _ _ i _ _ => rn - (intOf i).toNat)
  case atStart => exact ⟨0, none, 0, [], by omega, rfl, rfl, HM0.out, Below.refl _ _⟩
  case round =>
    clear HM0
    obtain ⟨k, a, cap, L, hk, rfl, rfl, hM, hbW⟩ := hrel
    obtain ⟨wo, hwo⟩ : ∃ wo, wo = wr := ⟨_, rfl⟩
    subst hwo
    by_cases hlt : k < rn
    · have hd : decide ((k : Int) < (rn : Int)) = true := by simp; omega
      have hkl : k < rows.length := by rw [Hrn.out]; exact hlt
      obtain ⟨bb, o, ha, hrg⟩ := row_at H.out.w256 (H.out.below hM.below).rr k hkl
      subst ha
      have h256 := H.out.w256 _ (List.getElem_mem hkl)
      have htk : (rows.take (k + 1)).map (mrow fs) = (rows.take k).map (mrow fs) ++ [mrow fs rows[k]] := by
        rw [← List.take_append_getElem hkl, List.map_append]
        simp
      generalize rows[k] = row at *
      have hl := load_row h256 hrg
      unfold rv at hl
      have hst := store_row wo h256
      have hln : (i64s row).length = 256 := by rw [i64s_length]; exact h256
      have hnew := heap_alloc_new wo (.cells (i64s row).toArray 35)
      have hbn := (Below.refl wo.heap.size wo).alloc (Nat.le_refl _) (.cells (i64s row).toArray 35)
      obtain ⟨W5, hW5⟩ : ∃ W5, wo.alloc (.cells (i64s row).toArray 35) = W5 := ⟨_, rfl⟩
      rw [hW5] at hnew hbn
      have hsz5 : wo.heap.size < W5.heap.size := by rw [← hW5]; simp
      have HW5 := Lib.hid hW5
      have Hnew := Lib.hid hnew
      have Hbn := Lib.hid hbn
      have HM := Lib.hid hM
      have Htk := Lib.hid htk
      have H256 := Lib.hid h256
      have HbW := Lib.hid hbW
      have hfr5 := HFr.out.below (B := W4.heap.size) (W4.heap.size |> fun _ => (hbW.trans (hbn.mono hbW.size))) (fun p hp hne => by
        obtain ⟨p', hp', hlt'⟩ := Rd.lt HFr.out hne
        rw [hp] at hp'
        cases hp'
        exact hlt')
      have HFr5 := Lib.hid hfr5
      clear hW5 hnew hbn hM htk h256 hrg hfr5 hbW
      go_wp2_with fail
      refine wp_load_run hl rfl rfl ?_
      go_wp2
      rw [HW5.out]
      clear hl hst hln
      go_loopw [9, 11, 30] (fun s _ i W => MyR W5 row fs m s i W) (fun _ _ i _ => m - (intOf i).toNat)
      case atStart => exact ⟨0, none, 0, by omega, rfl, rfl, ⟨rfl, .inl ⟨rfl, rfl⟩⟩, Below.refl _ _⟩
      case round =>
        obtain ⟨j, sa, sc, hj, rfl, rfl, hown, hB⟩ := hrel
        by_cases hlj : j < m
        · have hd2 : decide ((j : Int) < (m : Int)) = true := by simp; omega
          have hjf : j < fs.length := by rw [Hm.out]; exact hlj
          have hji : j < (Mk.ints fs).length := by simp [Mk.ints]; exact hjf
          obtain ⟨fb, fo, hfa, hfc⟩ := (HFr5.out.keep hB).i64 j hji
          subst hfa
          have hfv : (Mk.ints fs)[j] = ((fs[j] : Nat) : Int) := by simp [Mk.ints]
          rw [hfv] at hfc
          have hf256 := HFb.out _ (List.getElem_mem hjf)
          have hmr : mrow (fs.take (j + 1)) row = mrow (fs.take j) row ++ [row.getD fs[j] 0] := by
            unfold mrow
            rw [← List.take_append_getElem hjf, List.map_append]
            simp
          generalize fs[j] = f at *
          have hrx : (i64s row)[f]? = some (.int .i64 (row.getD f 0)) := by
            have : f < row.length := by rw [H256.out]; exact hf256
            simp [i64s, List.getD_eq_getElem?_getD, this]
          have q0 := cell_block ((hB.block _ (block_lt Hnew.out)).trans Hnew.out) f
          rw [List.getElem?_toArray, hrx] at q0
          have hfI : (f : Int) < 256 := by omega
          generalize row.getD f 0 = x at *
          have b2 := (Below.refl wr.heap.size wr).alloc (Nat.le_refl _) (.cells #[.int .i64 x] 3)
          have hszr := hB.size
          obtain ⟨v', w6, hrun, own2, gr2, _⟩ := Mk.elI.append W5.heap.size (ty := 23) (own_keep hown b2) 1 1 rfl (Rd.new wr #[.int .i64 x] 3 (0, 0) (i64s [x]) rfl) (fun h => by cases h) (oneCell_i64s _) (by unfold maxLen; omega) (by omega) (by simp; omega)
          obtain ⟨a2, c2, rfl, _, _, _, _⟩ := rd_own own2
          have hg := below_grown (B := W5.heap.size) (own_keep hown b2) gr2 (Nat.le_refl _) (by simp; omega)
          have hB6 := (hB.alloc hB.size (.cells #[.int .i64 x] 3)).trans hg
          rw [← i64s_append, ← hmr] at own2
          have HO2 := Lib.hid own2
          have HB6 := Lib.hid hB6
          clear hown own2 gr2 hg hB hB6 b2 hmr hrx hjf hfv hji
          go_wp2_with (at_builtin; (with_reducible apply wpList_append_run hrun); rfl; rfl; rfl; rfl; rfl)
          go_roundw
          case rel => first | exact ⟨j + 1, a2, c2, by omega, by go_num, rfl, HO2.out, HB6.out⟩ | ((repeat apply Exists.intro); refine ⟨?r, ?f⟩; (case f => (and_intros <;> rfl)); exact ⟨j + 1, a2, c2, by omega, by go_num, rfl, HO2.out, HB6.out⟩)
          case measure => simp [intOf]; omega
        · have hjm : j = m := by omega
          subst hjm
          have hd2 : decide ((j : Int) < (j : Int)) = false := by simp
          rw [List.take_of_length_le (by rw [Hm.out]; exact Nat.le_refl _)] at hown
          obtain ⟨hok, hrv, hpl⟩ := IRow.of_own hown (by rw [mrow_len, Hm.out])
          have hbo := Hbn.out.trans (hB.mono (Nat.le_of_lt hsz5))
          have hb4o := HbW.out.size
          have hout := HM.out.out.step hbo
          have howb : ∀ p : Addr, sa = some p → p.block < wr.heap.size ∧ (Value.slice a k cap).ownBlock ≠ some p.block := fun p hp => by
            obtain ⟨h1, h2⟩ := hpl p hp
            refine ⟨h2, fun he => ?_⟩
            have := (HM.out.out.own.lt _ he).2
            omega
          obtain ⟨a2, c2, w6, hrun, hO2, hB2⟩ := hout.push HM.out.many (by omega) (by have := hbo.size; omega) (IRow.mk sa sc (mrow fs row)) hok howb
          rw [hrv] at hrun
          have hMs : Ms w W4.heap.size rows fs (.slice a2 (k + 1) c2) (k + 1) (L ++ [IRow.mk sa sc (mrow fs row)]) w6 := ⟨hO2, by rw [List.length_append, HM.out.many]; rfl, by rw [List.map_append, HM.out.ls, Htk.out]; rfl, (HM.out.below.trans (hbo.mono HM.out.below.size)).trans (hB2.mono HB4.out.size)⟩
          have HMs := Lib.hid hMs
          have HbW6 := Lib.hid ((HbW.out.trans (hbo.mono HbW.out.size)).trans hB2)
          clear hown hok hrv hpl hbo hout howb hO2 hB2 hMs hB
          go_wp2_with (at_builtin; (with_reducible apply wpList_append_run hrun); rfl; rfl; rfl; rfl; rfl)
          go_roundw
          case rel => first | exact ⟨k + 1, a2, c2, _, hlt, by go_num, rfl, HMs.out, HbW6.out⟩ | ((repeat apply Exists.intro); refine ⟨?r, ?f⟩; (case f => (and_intros <;> rfl)); exact ⟨k + 1, a2, c2, _, hlt, by go_num, rfl, HMs.out, HbW6.out⟩)
          case measure => simp [intOf]; omega
    · have hkn : k = rn := by omega
      subst hkn
      have hd : decide ((k : Int) < (k : Int)) = false := by simp
      have hls := hM.ls
      rw [List.take_of_length_le (by rw [Hrn.out]; exact Nat.le_refl _)] at hls
      have HRd := Lib.hid (Rd.own (show wo.ownsRow W4.heap.size 23 1 (.slice a k cap) k (L.map IRow.v) from by rw [← hM.many]; have := hM.out.own; rw [hM.many] at this ⊢; exact this))
      have HM := Lib.hid hM
      have Hls := Lib.hid hls
      clear hM hls hbW
      go_wp2
      go_ret2
      exact ⟨a, cap, L, rfl, HM.out.many, HRd.out, HM.out.out.ok, by rw [Hfs.out]; exact Hls.out, HM.out.below⟩
end Cl
end Go.Proofs.YtfkjijjmphbglaaDoor
