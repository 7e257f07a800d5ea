/- dofferref22.Matrix: the document's matrix. -/
import Derived.Test.YtfkjijjmphbglaaDoorRof
import Derived.Test.YtfkjijjmphbglaaDoorCmat
import Derived.Test.YtfkjijjmphbglaaDoorClsKl
namespace Go.Proofs.YtfkjijjmphbglaaDoor
open Go Go.RowKit Kt
namespace Cl
open Sb
/-- A short row under way: the classes whose first byte is over. -/
def srow (fs : List Nat) (r : List Int) (c : Nat) : List Int := fs.map fun f => if f < c then r.getD f 0 else 0
theorem srow_len (fs : List Nat) (r : List Int) (c : Nat) : (srow fs r c).length = fs.length := by simp [srow]
theorem srow_zero (fs : List Nat) (r : List Int) : srow fs r 0 = List.replicate fs.length 0 := by
  unfold srow
  apply List.ext_getElem (by simp)
  intro i h1 h2
  simp
theorem srow_end (fs : List Nat) (r : List Int) (h : ∀ f ∈ fs, f < 256) : srow fs r 256 = mrow fs r := by
  unfold srow mrow
  exact List.map_congr_left fun f hf => by rw [if_pos (h f hf)]
theorem srow_set {rows : List (List Int)} (h : rows.length ≤ 200) (h1 : ∀ r ∈ rows, r.length = 256) (h2 : ∀ r ∈ rows, r.any (oth rows.length) = false) {r : List Int} (hr : r ∈ rows) {c : Nat} (hc : c < 256) :
    (srow (fsts rows 256) r c).set (klass rows c) (r.getD c 0) = srow (fsts rows 256) r (c + 1) := by
  have ok := ok_st (colb rows) 256
  obtain ⟨j, f, e1, e2, e3, e4⟩ := ok.lt c hc
  rw [klass_get rows hc] at e1
  simp only [Option.some.injEq] at e1
  subst e1
  have hf := (ok.fst _ _ e2)
  have hsame : r.getD f 0 = r.getD c 0 := (colb_iff h (by omega) hc rows h1 h2).1 e3 r hr
  apply List.ext_getElem?
  intro i
  by_cases hi : i = klass rows c
  · rw [hi]
    have hl : klass rows c < (srow (fsts rows 256) r c).length := by rw [srow_len]; exact klass_lt rows hc
    rw [List.getElem?_set_self hl]
    have e5 : (fsts rows 256)[klass rows c]? = some f := e2
    unfold srow
    rw [List.getElem?_map, e5]
    simp only [Option.map_some]
    rw [if_pos (by omega), hsame]
  · rw [List.getElem?_set_ne (fun e => hi e.symm)]
    unfold srow
    rw [List.getElem?_map, List.getElem?_map]
    cases e5 : (fsts rows 256)[i]? with
    | none => rfl
    | some g =>
      simp only [Option.map_some]
      have hg := ok.fst i g e5
      have hgc : g ≠ c := by
        rintro rfl
        have := hg.2
        rw [klass_get rows hc] at this
        simp only [Option.some.injEq] at this
        exact hi this.symm
      by_cases hgl : g < c
      · rw [if_pos hgl, if_pos (by omega)]
      · rw [if_neg hgl, if_neg (by omega)]
def NyR (W0 : World) (row : List Int) (fs : List Nat) (S : Nat) (i : Value) (W : World) : Prop := ∃ c : Nat, c ≤ 256 ∧ i = .int .i64 (c : Int) ∧ W.heap[S]? = some (.cells (i64s (srow fs row c)).toArray 3 (0, 0)) ∧ Mod [S] W0 W
theorem made_ints {W : World} {base S m : Nat} (own : W.ownsRow base 3 1 (.slice (some ⟨S, 0, none⟩) m m) m (madeCells (Value.int .i64 0).cells (m * 1)).toList) : W.heap[S]? = some (.cells (i64s (List.replicate m 0)).toArray 3 (0, 0)) := by
  rcases own.2 with ⟨h, _⟩ | ⟨g, cap, cur, hv, _, h2, h3, _, h5, h6⟩
  · cases h
  · cases hv
    rw [h2]
    have e1 : cur.toList.length = m * 1 := by simpa using h5
    rw [List.take_of_length_le (by omega)] at h6
    have e2 : ((Value.int IntKind.i64 0).cells) = #[.int .i64 0] := rfl
    rw [e2, toList_madeCells_one] at h6
    have e3 : cur = (i64s (List.replicate m 0)).toArray := by
      apply Array.toList_inj.1
      rw [h6]
      simp [i64s]
    rw [e3]
theorem build0 (w : World) : (Instr.buildSlice 41 0 #[]).run Tryd.prog w = .ok (.slice (some ⟨w.heap.size, 0, none⟩) 0 0) (w.alloc (.cells #[] 23)) := by kernel_rfl
set_option maxHeartbeats 8000000 in
set_option maxRecDepth 100000 in
theorem rmat_c (ra ua ea : Option Addr) (rn rc un uc en ec : Nat) (rows : List (List Int)) (rule entry : List Int) (hrn : rows.length = rn) (hG : Sb.Good rows rule entry) (w : World) (h : Df w ra ua ea rows rule entry) :
    Calls Tryd.prog 23 #[.agg #[.slice ra rn rc, .slice ua un uc, .slice ea en ec]] w fun e w' => ∃ (a : Option Addr) (cap : Nat) (L : List IRow), e = .returned (.slice a rn cap) ∧ L.length = rn ∧ Rd w' a (L.map IRow.v) ∧ (∀ r ∈ L, r.ok w') ∧ L.map (·.l) = rows.map (mrow (fsts rows 256)) ∧ Below w.heap.size w w' := by
  have h200 : rn ≤ 200 := by rw [← hrn]; exact hG.many.2
  have hD0 := heap_alloc_new w (.cells #[.slice ra rn rc, .slice ua un uc, .slice ea en ec] 38)
  have hB0 := (Below.refl w.heap.size w).alloc (Nat.le_refl _) (.cells #[.slice ra rn rc, .slice ua un uc, .slice ea en ec] 38)
  have hof := rof_c ra ua ea rn rc un uc en ec rows rule entry hrn h200 hG.leads _ (h.below hB0)
  have hset := fun (r : List Int) (hr : r ∈ rows) (c : Nat) (hc : c < 256) => srow_set (rows := rows) (by omega) h.w256 hG.leads hr hc
  have hkl := fun (c : Nat) (hc : c < 256) => klass_lt rows hc
  have hkm := fun (c : Nat) (hc : c < 256) => show (Mk.ints (cl rows 256))[c]? = some ((klass rows c : Nat) : Int) from by
    have hl : (Mk.ints (cl rows 256)).length = 256 := by simp [Mk.ints, cl_len]
    have := mapL_at rows hc
    unfold mapL at this
    rwa [List.getElem?_append_left (by omega)] at this
  have hCl : (Mk.ints (cl rows 256)).length = 256 := by simp [Mk.ints, cl_len]
  obtain ⟨C, hC⟩ : ∃ C, Mk.ints (cl rows 256) = C := ⟨_, rfl⟩
  obtain ⟨fs, hfs⟩ : ∃ fs, fsts rows 256 = fs := ⟨_, rfl⟩
  have hfl : fs.length ≤ 256 := by rw [← hfs]; exact fsts_len rows 256
  have hfb : ∀ f ∈ fs, f < 256 := fun f hf => by
    obtain ⟨j, hj⟩ := List.getElem?_of_mem hf
    rw [← hfs] at hj
    exact ((ok_st (colb rows) 256).fst j f hj).1
  obtain ⟨m, hm⟩ : ∃ m, fs.length = m := ⟨_, rfl⟩
  rw [hC, hfs, hm] at hof
  rw [hC] at hkm hCl
  simp only [hfs] at hset hkl
  rw [hm] at hfl
  have H := Lib.hid h
  have Hrn := Lib.hid hrn
  have HOf := Lib.hid hof
  have HSet := Lib.hid hset
  have HKl := Lib.hid hkl
  have HKm := Lib.hid hkm
  have HFb := Lib.hid hfb
  have Hfs := Lib.hid hfs
  have Hm := Lib.hid hm
  have HD0 := Lib.hid hD0
  have HB0 := Lib.hid hB0
  have HCl := Lib.hid hCl
  clear h hrn hG hof hset hkl hkm hD0 hB0 hfb hC hfs hm hCl
  have hb0 := build0
  go_enter Tryd.func23, Tryd.ntmps23
  go_wp2_with fail
  refine HOf.out.mono ?_
  rintro e w3 ⟨rfl, hb3⟩
  have hD3 := (hb3.block _ (block_lt HD0.out)).trans HD0.out
  have hB3 := HB0.out.trans (hb3.mono HB0.out.size)
  have hw3 := hB3.size
  have hst := store_new28 w3 HCl.out
  have hln : (i64s C).length = 256 := by rw [i64s_length]; exact HCl.out
  have hD4 := block_alloc (x := .cells #[] 23) (block_alloc (x := .cells (i64s C).toArray 28) hD3)
  have hC4 := block_alloc (x := .cells #[] 23) (heap_alloc_new w3 (.cells (i64s C).toArray 28))
  have hB4 := (hB3.alloc hB3.size (.cells (i64s C).toArray 28)).alloc (by have := hB3.size; simp; omega) (.cells #[] 23)
  have hO4 := own_new (w3.alloc (.cells (i64s C).toArray 28)) (w3.heap.size + 1) 23 1 0 #[] (by simp) (by unfold maxLen; omega) rfl
  have i0 := cell_block hD4 0
  simp at i0
  obtain ⟨W4, hW4⟩ : ∃ W4, (w3.alloc (.cells (i64s C).toArray 28)).alloc (.cells #[] 23) = W4 := ⟨_, rfl⟩
  have hs4 : W4.heap.size = w3.heap.size + 1 + 1 := by rw [← hW4]; simp
  have HW4 := Lib.hid hW4
  rw [hW4] at hB4 hC4 hO4
  (try simp only [World.size_alloc] at hO4)
  have hM0 : Ms w (w3.heap.size + 1) rows fs (.slice (some ⟨w3.heap.size + 1, 0, none⟩) 0 0) 0 [] W4 := ⟨⟨hO4, by simp, by simp⟩, rfl, by simp, hB4⟩
  have HM0 := Lib.hid hM0
  have HC4 := Lib.hid hC4
  have HB4 := Lib.hid hB4
  clear hD3 hB3 hb3 HOf hW4 hB4 hM0 hD4 hC4 hO4
  go_wp2
  rw [HW4.out]
  clear hst hln i0 hb0
  go_loopw [5, 7, 8, 9, 19] (fun o _ _ _ i W => MxR w (w3.heap.size + 1) rows fs rn W4 o i W) (fun _ _ _ _ i _ => rn - (intOf i).toNat)
  case atStart => exact ⟨0, some ⟨w3.heap.size + 1, 0, none⟩, 0, [], by omega, rfl, rfl, HM0.out, Below.refl _ _⟩
  case round =>
    clear HM0
    obtain ⟨k, a, cap, L, hk, rfl, rfl, hM, hbW⟩ := hrel
    obtain ⟨wo, hwo⟩ : ∃ wo, wo = wr := ⟨_, rfl⟩
    subst hwo
    have hwo4 := hbW.size
    by_cases hlt : k < rn
    · have hd : decide ((k : Int) < (rn : Int)) = true := by simp; omega
      have hkl : k < rows.length := by rw [Hrn.out]; exact hlt
      obtain ⟨bb, o, ha, hrg⟩ := row_at H.out.w256 (H.out.below hM.below).rr k hkl
      subst ha
      have h256 := H.out.w256 _ (List.getElem_mem hkl)
      have htk : (rows.take (k + 1)).map (mrow fs) = (rows.take k).map (mrow fs) ++ [mrow fs rows[k]] := by
        rw [← List.take_append_getElem hkl, List.map_append]
        simp
      have hset := HSet.out _ (List.getElem_mem hkl)
      generalize rows[k] = row at *
      have hl := load_at28 h256 hrg
      unfold rv at hl
      have hst := store_new28 wo h256
      have hln : (i64s row).length = 256 := by rw [i64s_length]; exact h256
      have hnew := heap_alloc_new wo (.cells (i64s row).toArray 28)
      have hbn := (Below.refl wo.heap.size wo).alloc (Nat.le_refl _) (.cells (i64s row).toArray 28)
      obtain ⟨W6, hmk, own, gr⟩ := Mk.elI.make (wo.heap.size + 1) (wo.alloc (.cells (i64s row).toArray 28)) .i64 .i64 (m : Int) m rfl (by omega) (by unfold maxLen; omega) (by simp)
      (try simp only [World.size_alloc] at hmk own)
      have hb6 : Below wo.heap.size wo W6 := hbn.trans (below_made gr (by simp))
      have hS6 : W6.heap[wo.heap.size + 1]? = some (.cells (i64s (srow fs row 0)).toArray 3 (0, 0)) := by
        have hmi := made_ints own
        rw [srow_zero, Hm.out]
        exact hmi
      have hR6 : W6.heap[wo.heap.size]? = some (.cells (i64s row).toArray 28 (0, 0)) := (gr.block _ (by simp) (by simp)).trans hnew
      have hC6 : W6.heap[w3.heap.size]? = some (.cells (i64s C).toArray 28 (0, 0)) := (hb6.block _ (by omega)).trans ((hbW.block _ (by omega)).trans HC4.out)
      have HR6 := Lib.hid hR6
      have HC6 := Lib.hid hC6
      have HS6 := Lib.hid hS6
      have Hb6 := Lib.hid hb6
      have HM := Lib.hid hM
      have Htk := Lib.hid htk
      have H256 := Lib.hid h256
      have HbW := Lib.hid hbW
      have HSt := Lib.hid hset
      clear own gr hb6 hS6 hR6 hC6 hnew hbn hM htk h256 hrg hbW hset
      go_wp2_with fail
      refine wp_load_run hl rfl rfl ?_
      go_wp2
      clear hl hst hln hmk
      go_loopw [9] (fun i W => NyR W6 row fs (wo.heap.size + 1) i W) (fun i _ => 256 - (intOf i).toNat)
      case atStart => exact ⟨0, by omega, rfl, HS6.out, Mod.refl _ _⟩
      case round =>
        obtain ⟨c, hc, rfl, hS, hMd⟩ := hrel
        by_cases hlc : c < 256
        · have hcI : (c : Int) < 256 := by omega
          have hkc := HKl.out c hlc
          have hkmc := HKm.out c hlc
          have hst := HSt.out c hlc
          have hkm2 : klass rows c < m := by rw [← Hm.out]; exact hkc
          generalize klass rows c = kc at *
          have q0 := cell_block (mod_lt_block hMd HC6.out (by have := hwo4; simp; omega)) c
          have q1 := cell_block (mod_lt_block hMd HR6.out (by simp)) c
          have e0 : (i64s C)[c]? = some (.int .i64 (kc : Int)) := by simp [i64s, hkmc]
          have e1 : (i64s row)[c]? = some (.int .i64 (row.getD c 0)) := by
            have : c < row.length := by rw [H256.out]; exact hlc
            simp [i64s, List.getD_eq_getElem?_getD, this]
          rw [List.getElem?_toArray, e0] at q0
          rw [List.getElem?_toArray, e1] at q1
          have hsl : kc < (srow fs row c).length := by rw [srow_len]; exact hkc
          have k0 := cell_block hS kc
          have k1 := frozen_block hS kc
          have k2 : (i64s (srow fs row c)).toArray[kc]? = some (.int .i64 (srow fs row c)[kc]) := by simp [i64s, hsl]
          rw [k2] at k0
          have hS2 := block_setCell (i := kc) hS (.int .i64 (row.getD c 0))
          have e2 : (i64s (srow fs row c)).toArray.setIfInBounds kc (.int .i64 (row.getD c 0)) = (i64s (srow fs row (c + 1))).toArray := by
            rw [← hst]; simp [i64s]
          rw [e2] at hS2
          have hM2 := hMd.setCell (p := ⟨wo.heap.size + 1, kc, none⟩) (.inl (List.mem_singleton.2 rfl)) (.int .i64 (row.getD c 0))
          have HS2 := Lib.hid hS2
          have HM2 := Lib.hid hM2
          generalize (srow fs row c)[kc] = old at k0
          clear hS hMd k2 hS2 e2 hM2 hst e0 e1 hkmc hkc hsl
          generalize row.getD c 0 = x at *
          go_wp2
          go_region
          all_goals (
            go_wp2
            go_roundw
            case rel => first | exact ⟨c + 1, hlc, by go_num, HS2.out, HM2.out.drew⟩ | ((repeat apply Exists.intro); (refine ⟨?_, ?_⟩); rotate_left 1; (focus (and_intros <;> rfl)); exact ⟨c + 1, hlc, by go_num, HS2.out, HM2.out.drew⟩))
          all_goals (first | (simp [intOf]; omega) | skip)
        · have hc256 : c = 256 := by omega
          subst hc256
          have hd2 : decide (((256 : Nat) : Int) < 256) = false := by decide
          rw [srow_end _ _ HFb.out] at hS
          have hszr := hMd.size
          have hSlt := block_lt hS
          have hown : wr.ownsRow (wo.heap.size + 1) 3 1 (.slice (some ⟨wo.heap.size + 1, 0, none⟩) m m) m (i64s (mrow fs row)) := ⟨by rw [i64s_length, mrow_len, Hm.out, Nat.mul_one], .inr ⟨wo.heap.size + 1, m, _, rfl, Nat.le_refl _, hS, Nat.le_refl _, by unfold maxLen; omega, by simp [i64s_length, mrow_len, Hm.out], by rw [List.take_of_length_le (by simp [i64s_length, mrow_len, Hm.out])]⟩⟩
          obtain ⟨hok, hrv, hpl⟩ := IRow.of_own hown (by rw [mrow_len, Hm.out])
          have hbo : Below wo.heap.size wo wr := Hb6.out.trans (hMd.toBelow (B := wo.heap.size) Hb6.out.size (by simp))
          have hout := HM.out.out.step hbo
          have howb : ∀ p : Addr, some (⟨wo.heap.size + 1, 0, none⟩ : Addr) = some p → p.block < wr.heap.size ∧ (Value.slice a k cap).ownBlock ≠ some p.block := fun p hp => by
            obtain ⟨h1, h2⟩ := hpl p hp
            refine ⟨h2, fun he => ?_⟩
            have := (HM.out.out.own.lt _ he).2
            omega
          obtain ⟨a2, c2, w6, hrun, hO2, hB2⟩ := hout.push HM.out.many (by omega) (by have := hbo.size; omega) (IRow.mk (some ⟨wo.heap.size + 1, 0, none⟩) m (mrow fs row)) hok howb
          rw [hrv] at hrun
          have hMs : Ms w (w3.heap.size + 1) rows fs (.slice a2 (k + 1) c2) (k + 1) (L ++ [IRow.mk (some ⟨wo.heap.size + 1, 0, none⟩) m (mrow fs row)]) w6 := ⟨hO2, by rw [List.length_append, HM.out.many]; rfl, by rw [List.map_append, HM.out.ls, Htk.out]; rfl, (HM.out.below.trans (hbo.mono HM.out.below.size)).trans (hB2.mono (by omega))⟩
          have HMs := Lib.hid hMs
          have HbW6 := Lib.hid ((HbW.out.trans (hbo.mono (by omega))).trans hB2)
          clear hown hok hrv hpl hbo hout howb hO2 hB2 hMs hMd hS
          go_wp2_with (at_builtin; (with_reducible apply wpList_append_run hrun); rfl; rfl; rfl; rfl; rfl)
          go_roundw
          case rel => first | exact ⟨k + 1, a2, c2, _, hlt, by go_num, rfl, HMs.out, HbW6.out⟩ | ((repeat apply Exists.intro); refine ⟨?r, ?f⟩; (case f => (and_intros <;> rfl)); exact ⟨k + 1, a2, c2, _, hlt, by go_num, rfl, HMs.out, HbW6.out⟩)
          case measure => simp [intOf]; omega
    · have hkn : k = rn := by omega
      subst hkn
      have hd : decide ((k : Int) < (k : Int)) = false := by simp
      have hls := hM.ls
      rw [List.take_of_length_le (by rw [Hrn.out]; exact Nat.le_refl _)] at hls
      have HRd := Lib.hid (Rd.own (show wo.ownsRow (w3.heap.size + 1) 23 1 (.slice a k cap) k (L.map IRow.v) from by rw [← hM.many]; have := hM.out.own; rw [hM.many] at this ⊢; exact this))
      have HM := Lib.hid hM
      have Hls := Lib.hid hls
      clear hM hls hbW
      go_wp2
      go_ret
      exact ⟨a, cap, L, rfl, HM.out.many, HRd.out, HM.out.out.ok, by rw [Hfs.out]; exact Hls.out, HM.out.below⟩
end Cl
end Go.Proofs.YtfkjijjmphbglaaDoor
