/- dofferlaw22.ClassesOf returns true. Condition: the sentinel errors lie as laid. -/
import Derived.Test.YtfkjijjmphbglaaDoorCmatNo
import Derived.Test.YtfkjijjmphbglaaDoorRmat
import Derived.Test.YtfkjijjmphbglaaDoorDof
import Derived.Test.YtfkjijjmphbglaaDoorSpreadNo
import Derived.Test.YtfkjijjmphbglaaDoorSame
namespace Go.Proofs.YtfkjijjmphbglaaDoor
open Go Go.RowKit Kt
namespace Cl
open Sb
theorem zc30_many : (Tryd.zeroCells30)[256]? = some (.int .i64 0) := by kernel_rfl
theorem store_z30 (w : World) : (storeCells ⟨w.heap.size, 0, none⟩ Tryd.zeroCells30.toList 0).run Tryd.prog (w.alloc (.cells Tryd.zeroCells30 30)) = .ok () (w.alloc (.cells Tryd.zeroCells30 30)) := by
  have h := store_map_new w (L := List.replicate 257 0) List.length_replicate
  have e : Tryd.zeroCells30.toList = i64s (List.replicate 257 0) := by rw [zc30]
  rw [e]
  rw [h, zc30]
/-- Memory behind the preparation: the DFA in its box, the document's in its own. -/
structure Lw (w W4 : World) (X : Nat) (dv xv : Array Value) (W : World) : Prop where
  d : W.heap[w.heap.size]? = some (.cells dv 25 (0, 0))
  x : W.heap[X]? = some (.cells xv 38 (0, 0))
  below : Below w.heap.size w W
  b4 : Below W4.heap.size W4 W
theorem Lw.step {w W4 : World} {X : Nat} {dv xv : Array Value} {W W' : World} (h : Lw w W4 X dv xv W) (hb : Below W.heap.size W W') : Lw w W4 X dv xv W' :=
  ⟨(hb.block _ (block_lt h.d)).trans h.d, (hb.block _ (block_lt h.x)).trans h.x, h.below.trans (hb.mono h.below.size), h.b4.trans (hb.mono h.b4.size)⟩
set_option maxHeartbeats 8000000 in
set_option maxRecDepth 100000 in
theorem clsof_c (ra ua ea : Option Addr) (rn rc un uc en ec : Nat) (rows : List (List Int)) (rule entry : List Int) (hrn : rows.length = rn) (hun : rule.length = un) (hen : entry.length = en) (h1 : rn ≤ 9223372036854775807) (h2 : un ≤ 9223372036854775807) (h3 : en ≤ 9223372036854775807) (w : World) (A : Nat → Addr) (hS : Sent 222 w A Er.egs) (h : Df w ra ua ea rows rule entry) :
    Calls Tryd.prog 4 #[.agg #[.slice ra rn rc, .slice ua un uc, .slice ea en ec]] w fun e w' => e = .returned (.bool true) ∧ Below w.heap.size w w' := by
  obtain ⟨dv, hdv⟩ : ∃ dv : Array Value, dv = #[.slice ra rn rc, .slice ua un uc, .slice ea en ec] := ⟨_, rfl⟩
  have hD0 := heap_alloc_new w (.cells #[.slice ra rn rc, .slice ua un uc, .slice ea en ec] 25)
  have hB0 := (Below.refl w.heap.size w).alloc (Nat.le_refl _) (.cells #[.slice ra rn rc, .slice ua un uc, .slice ea en ec] 25)
  have HAl := Lib.hid (alive_c (w.alloc (.cells #[.slice ra rn rc, .slice ua un uc, .slice ea en ec] 25)))
  have HSn := Lib.hid fun W (hb : Below w.heap.size w W) => hS.keep hb
  have H := Lib.hid h
  have Hrn := Lib.hid hrn
  have Hun := Lib.hid hun
  have Hen := Lib.hid hen
  have HD0 := Lib.hid hD0
  have HB0 := Lib.hid hB0
  have Hdv := Lib.hid hdv
  clear h hrn hun hen hD0 hB0 hdv hS
  go_enter Tryd.func4, Tryd.ntmps4
  go_wp2_with fail
  refine HAl.out.mono ?_
  rintro e w2 ⟨rfl, hb2⟩
  have hD2 := (hb2.block _ (block_lt HD0.out)).trans HD0.out
  have hB2 := HB0.out.trans (hb2.mono HB0.out.size)
  have i0 := cell_block hD2 0
  have i1 := cell_block hD2 1
  have i2 := cell_block hD2 2
  simp at i0 i1 i2
  have HDo := Lib.hid (dof_c ra ua ea rn rc un uc en ec rows rule entry Hrn.out h1 h2 h3 w2 (H.out.below hB2))
  have HD2 := Lib.hid hD2
  have HB2 := Lib.hid hB2
  clear hb2 hD2 hB2 HAl HD0 HB0
  go_wp2_with fail
  refine HDo.out.mono ?_
  rintro e w3 (⟨rfl, hb3⟩ | ⟨xa, xc, h30, rfl, hxr, hb3⟩)
  · have HB3 := Lib.hid (HB2.out.trans (hb3.mono HB2.out.size))
    clear hb3 HDo i0 i1 i2
    go_wp2
    go_ret
    refine ⟨rfl, HB3.out.alloc HB3.out.size _⟩
  · have hD3 := (hb3.block _ (block_lt HD2.out)).trans HD2.out
    have hB3 := HB2.out.trans (hb3.mono HB2.out.size)
    obtain ⟨xv, hxv⟩ : ∃ xv : Array Value, xv = #[.slice xa rn xc, .slice ua un uc, .slice ea en ec] := ⟨_, rfl⟩
    have hxn := heap_alloc_new w3 (.cells #[.slice xa rn xc, .slice ua un uc, .slice ea en ec] 38)
    have hbn := (Below.refl w3.heap.size w3).alloc (Nat.le_refl _) (.cells #[.slice xa rn xc, .slice ua un uc, .slice ea en ec] 38)
    have hD4 := block_alloc (x := .cells #[.slice xa rn xc, .slice ua un uc, .slice ea en ec] 38) hD3
    have i0 := cell_block hD4 0
    have i1 := cell_block hD4 1
    have i2 := cell_block hD4 2
    simp at i0 i1 i2
    have hL4 : Lw w (w3.alloc (.cells #[.slice xa rn xc, .slice ua un uc, .slice ea en ec] 38)) w3.heap.size dv xv (w3.alloc (.cells #[.slice xa rn xc, .slice ua un uc, .slice ea en ec] 38)) := ⟨by rw [Hdv.out]; exact hD4, by rw [hxv]; exact hxn, hB3.alloc hB3.size _, Below.refl _ _⟩
    obtain ⟨W4, hW4⟩ : ∃ W4, w3.alloc (.cells #[.slice xa rn xc, .slice ua un uc, .slice ea en ec] 38) = W4 := ⟨_, rfl⟩
    have hDf3 := H.out.below hB3
    have hXf : Df W4 xa ua ea rows rule entry := by
      rw [← hW4]
      exact ⟨H.out.w256, hxr.keep hbn, hDf3.ru.keep hbn, hDf3.re.keep hbn⟩
    rw [hW4] at hL4
    have HL4 := Lib.hid hL4
    have HXf := Lib.hid hXf
    have HW4 := Lib.hid hW4
    have Hxv := Lib.hid hxv
    clear hb3 hD3 hB3 hxn hbn hD4 hL4 hXf hDf3 hxr hW4 hxv HDo HD2 HB2
    by_cases hG : Sb.Good rows rule entry
    · have hlC : (Mk.ints (cl rows 256)).length = 256 := by simp [Mk.ints, cl_len]
      have hcof := cof_c ra ua ea rn rc un uc en ec rows rule entry Hrn.out Hun.out Hen.out h2 h3 hG W4 (H.out.below HL4.out.below)
      obtain ⟨N, hN⟩ : ∃ N, (fsts rows 256).length = N := ⟨_, rfl⟩
      have hokm := okm_cl rows N hN
      have hsm := fun r (hr : r ∈ rows) => sprd_mrow (rows := rows) hG.many.2 H.out.w256 hG.leads hr
      have hmr := fun r => mrow_len (fsts rows 256) r
      have hcm := fun W (hb : Below W4.heap.size W4 W) (hw : Below w.heap.size w W) => cmat_c ra ua ea rn rc un uc en ec rows rule entry Hrn.out Hun.out Hen.out h2 h3 hG W (H.out.below hw)
      have hdr := fun W (hb : Below W4.heap.size W4 W) => dright_c xa ua ea rn xc un uc en ec rows rule entry Hrn.out Hun.out Hen.out h1 h2 h3 W (HXf.out.below hb)
      have hro := fun W (hb : Below W4.heap.size W4 W) => rof_c xa ua ea rn xc un uc en ec rows rule entry Hrn.out (by omega) hG.leads W (HXf.out.below hb)
      have hrm := fun W (hb : Below W4.heap.size W4 W) => rmat_c xa ua ea rn xc un uc en ec rows rule entry Hrn.out hG W (HXf.out.below hb)
      have hmL : mapL rows = Mk.ints (cl rows 256) ++ [(N : Int)] := by unfold mapL; rw [hN]
      rw [hmL] at hcof
      obtain ⟨C, hC⟩ : ∃ C, Mk.ints (cl rows 256) = C := ⟨_, rfl⟩
      obtain ⟨fs, hfs⟩ : ∃ fs, fsts rows 256 = fs := ⟨_, rfl⟩
      rw [hC] at hlC hcof hokm
      simp only [hC, hfs] at hsm hmr hcm hro hrm
      rw [hfs] at hN
      rw [hN] at hmr
      simp only [hN] at hro
      have HG := Lib.hid hG
      have HlC := Lib.hid hlC
      have HOf := Lib.hid hcof
      have HOk := Lib.hid hokm
      have HSm := Lib.hid hsm
      have HMr := Lib.hid hmr
      have HCm := Lib.hid hcm
      have HDr := Lib.hid hdr
      have HRo := Lib.hid hro
      have HRm := Lib.hid hrm
      clear hG hlC hcof hokm hsm hmr hcm hdr hro hrm hmL hC hfs hN
      go_wp2_with fail
      rw [HW4.out]
      refine HOf.out.mono ?_
      rintro e w5 ⟨rfl, hb5⟩
      have hL5 := HL4.out.step hb5
      have hCl : (C ++ [(N : Int)]).length = 257 := by simp [HlC.out]
      have hln : (i64s (C ++ [(N : Int)])).length = 257 := by rw [i64s_length]; exact hCl
      have hst := store_map_new w5 hCl
      have hmn := heap_alloc_new w5 (.cells (i64s (C ++ [(N : Int)])).toArray 30)
      have hL6 := hL5.step ((Below.refl w5.heap.size w5).alloc (Nat.le_refl _) (.cells (i64s (C ++ [(N : Int)])).toArray 30))
      have hdd := hL6.d
      rw [Hdv.out] at hdd
      have i0 := cell_block hdd 0
      have i1 := cell_block hdd 1
      have i2 := cell_block hdd 2
      simp at i0 i1 i2
      have HMa := Lib.hid (HCm.out _ hL6.b4 hL6.below)
      have HL6 := Lib.hid hL6
      have Hmn := Lib.hid hmn
      have HCl := Lib.hid hCl
      clear hb5 hL5 hL6 hmn hdd HOf hCl
      go_wp2_with fail
      refine HMa.out.mono ?_
      rintro e w7 ⟨ma, mc, L, rfl, hLl, hLr, hLk, hLs, hb7⟩
      have hL7 := HL6.out.step hb7
      have hm7 := (hb7.block _ (block_lt Hmn.out)).trans Hmn.out
      have hxx := hL7.x
      rw [Hxv.out] at hxx
      have j0 := cell_block hxx 0
      have j1 := cell_block hxx 1
      have j2 := cell_block hxx 2
      simp at j0 j1 j2
      have HDr7 := Lib.hid (HDr.out w7 hL7.b4)
      have HL7 := Lib.hid hL7
      have Hm7 := Lib.hid hm7
      have HLl := Lib.hid hLl
      have HLr := Lib.hid hLr
      have HLk := Lib.hid hLk
      have HLs := Lib.hid hLs
      have Hb7 := Lib.hid hb7
      clear hb7 hL7 hm7 hxx HMa i0 i1 i2 hLl hLr hLk hLs hst hln
      go_wp2_with fail
      refine HDr7.out.mono ?_
      rintro e w8 ⟨⟨v, rfl, hv⟩, hb8⟩
      obtain rfl : v = true := hv.2 HG.out
      have hL8 := HL7.out.step hb8
      have hxx := hL8.x
      rw [Hxv.out] at hxx
      have j0 := cell_block hxx 0
      have j1 := cell_block hxx 1
      have j2 := cell_block hxx 2
      simp at j0 j1 j2
      have HRo8 := Lib.hid (HRo.out w8 hL8.b4)
      have HL8 := Lib.hid hL8
      have Hb8 := Lib.hid hb8
      clear hv hb8 hL8 hxx HDr7
      go_wp2_with fail
      refine HRo8.out.mono ?_
      rintro e w9 ⟨rfl, hb9⟩
      have hL9 := HL8.out.step hb9
      have hst := store_new28 w9 HlC.out
      have hln : (i64s C).length = 256 := by rw [i64s_length]; exact HlC.out
      have hkn := heap_alloc_new w9 (.cells (i64s C).toArray 28)
      have hL10 := hL9.step ((Below.refl w9.heap.size w9).alloc (Nat.le_refl _) (.cells (i64s C).toArray 28))
      have hb10 := hb9.trans (((Below.refl w9.heap.size w9).alloc (Nat.le_refl _) (.cells (i64s C).toArray 28)).mono hb9.size)
      have hxx := hL10.x
      rw [Hxv.out] at hxx
      have j0 := cell_block hxx 0
      have j1 := cell_block hxx 1
      have j2 := cell_block hxx 2
      simp at j0 j1 j2
      have HRm10 := Lib.hid (HRm.out _ hL10.b4)
      have HL10 := Lib.hid hL10
      have Hkn := Lib.hid hkn
      have Hb10 := Lib.hid hb10
      clear hb9 hL9 hL10 hkn hb10 hxx HRo8
      go_wp2_with fail
      refine HRm10.out.mono ?_
      rintro e w11 ⟨na, nc, L2, rfl, hLl2, hLr2, hLk2, hLs2, hb11⟩
      have hL11 := HL10.out.step hb11
      have hb711 := Hb8.out.trans ((Hb10.out.trans (hb11.mono Hb10.out.size)).mono Hb8.out.size)
      have hm11 := (hb711.block _ (block_lt Hm7.out)).trans Hm7.out
      have hk11 := (hb11.block _ (block_lt Hkn.out)).trans Hkn.out
      have hlC := load_arr (C := C) Tryd.underlying28 info28 HlC.out (fun i x hx => by rw [List.getElem?_append_left (List.getElem?_eq_some_iff.1 hx).1]; exact hx) hm11
      have hlK := load_arr (C := C) Tryd.underlying28 info28 HlC.out (fun i x hx => hx) hk11
      have hlM := load_map HCl.out hm11
      have k0 := cell_block hm11 256
      have k1 : (i64s (C ++ [(N : Int)])).toArray[256]? = some (.int .i64 (N : Int)) := by
        have : (C ++ [(N : Int)])[256]? = some (N : Int) := by rw [List.getElem?_append_right (by rw [HlC.out]; omega), HlC.out]; rfl
        simp only [i64s, List.getElem?_toArray, List.getElem?_map, this, Option.map_some]
      rw [k1] at k0
      have heq := fun W => eq_arr28 HlC.out HlC.out W
      have hdt : decide (C = C) = true := by simp
      simp only [hdt] at heq
      have HMR := Lib.hid fun W => mright_c C (N : Int) HlC.out W
      have Hm11 := Lib.hid hm11
      have HL11 := Lib.hid hL11
      have HLl2 := Lib.hid hLl2
      have HLr2 := Lib.hid hLr2
      have HLk2 := Lib.hid hLk2
      have HLs2 := Lib.hid hLs2
      have Hb711 := Lib.hid hb711
      clear hb711 hL11 hm11 hk11 hLl2 hLr2 hLk2 hLs2 hb11 k1 hdt hst hln j0 j1 j2 HRm10
      go_wp2_with fail
      refine wp_load_run hlC rfl rfl ?_
      go_wp2_with fail
      refine wp_load_run hlK rfl rfl ?_
      go_wp2_with fail
      refine wp_load_run hlM rfl rfl ?_
      go_wp2_with fail
      refine (HMR.out _).mono ?_
      rintro e w12 ⟨rfl, hb12⟩
      rw [HOk.out]
      have hL12 := HL11.out.step hb12
      have hb712 := Hb711.out.trans (hb12.mono Hb711.out.size)
      have hk1 := fun r hr => (HLk.out r hr).keep hb712
      have hk2 := fun r hr => (HLk2.out r hr).keep hb12
      have hr1 := HLr.out.keep hb712
      have hr2 := HLr2.out.keep hb12
      have hm12 := (hb12.block _ (block_lt Hm11.out)).trans Hm11.out
      have hlM := load_map HCl.out hm12
      have hsp := fun W (hb : Below w12.heap.size w12 W) => spread_c C (N : Int) HlC.out ma mc rn L HLl.out (by omega) W (hr1.keep hb) (fun r hr => (hk1 r hr).keep hb) HOk.out (List.any_eq_false.2 fun r hr => by
        have hrl : r.l ∈ L.map (·.l) := List.mem_map_of_mem hr
        rw [HLs.out] at hrl
        obtain ⟨q, _, hq⟩ := List.mem_map.1 hrl
        have := HMr.out q
        rw [hq] at this
        unfold sprO
        rw [this]
        simp)
      have HL12 := Lib.hid hL12
      have Hk1 := Lib.hid hk1
      have Hk2 := Lib.hid hk2
      have Hr1 := Lib.hid hr1
      have Hr2 := Lib.hid hr2
      have HSp := Lib.hid hsp
      have hsf : sflat C L = rows.flatMap i64s := by
        have e1 : (L.map fun r => sprd C r.l) = rows := by
          have e2 : (L.map fun r => sprd C r.l) = (L.map (·.l)).map (sprd C) := by rw [List.map_map]; rfl
          rw [e2, HLs.out, List.map_map]
          have e3 : rows.map (sprd C ∘ mrow fs) = rows.map id := List.map_congr_left fun r hr => HSm.out r hr
          rw [e3, List.map_id]
        unfold sflat
        rw [e1]
      have Hsf := Lib.hid hsf
      have Hm12 := Lib.hid hm12
      clear hb12 hL12 hb712 hk1 hk2 hr1 hr2 hm12 hsp hlC hlK heq k0 HMR HL11 Hm11 hlM hsf
      go_wp2
      go_loopw [12, 94] (fun _ i W => ∃ k n : Nat, k ≤ rn ∧ i = .int .i64 (k : Int) ∧ W = w12.drewN n) (fun _ i _ => rn - (intOf i).toNat)
      case atStart => exact ⟨0, 0, by omega, rfl, rfl⟩
      case round =>
        obtain ⟨k, nk, hk, rfl, rfl⟩ := hrel
        by_cases hlt : k < rn
        · have hd : decide ((k : Int) < (rn : Int)) = true := by simp; omega
          have hk1 : k < L.length := by rw [HLl.out]; exact hlt
          have hk2 : k < L2.length := by rw [HLl2.out]; exact hlt
          have hkr : k < rows.length := by rw [Hrn.out]; exact hlt
          obtain ⟨b1, o1, ha1, hc1⟩ := Hr1.out.map_at k hk1
          obtain ⟨b2, o2, ha2, hc2⟩ := Hr2.out.map_at k hk2
          have q1 := Hk1.out _ (List.getElem_mem hk1)
          have q2 := Hk2.out _ (List.getElem_mem hk2)
          have e1 : L[k].l = mrow fs rows[k] := by
            have : (L.map (·.l))[k]? = (rows.map (mrow fs))[k]? := by rw [HLs.out]
            simpa [hk1, hkr] using this
          have e2 : L2[k].l = mrow fs rows[k] := by
            have : (L2.map (·.l))[k]? = (rows.map (mrow fs))[k]? := by rw [HLs2.out]
            simpa [hk2, hkr] using this
          have hml := HMr.out rows[k]
          generalize mrow fs rows[k] = row at *
          generalize L[k] = r1 at *
          generalize L2[k] = r2 at *
          obtain ⟨a1, c1, l1⟩ := r1
          obtain ⟨a2, c2, l2⟩ := r2
          simp only at e1 e2
          subst e1 e2
          have r1 := q1.rd
          have r2 := q2.rd
          unfold IRow.v at hc1 hc2
          simp only at hc1 hc2 r1 r2
          rw [hml] at hc1 hc2
          subst ha1 ha2
          have sk : ∀ W, Below w12.heap.size w12 W → W.cell? ⟨b1, o1 + k, none⟩ = some (.slice a1 N c1) ∧ W.cell? ⟨b2, o2 + k, none⟩ = some (.slice a2 N c2) := fun W hb => ⟨(hb.cell (p := ⟨b1, o1 + k, none⟩) (lt_of_cell hc1)).trans hc1, (hb.cell (p := ⟨b2, o2 + k, none⟩) (lt_of_cell hc2)).trans hc2⟩
          have SK := Lib.hid sk
          have R1 := Lib.hid r1
          have R2 := Lib.hid r2
          have HN63 : N ≤ 9223372036854775807 := by
            have h1 := q1.cap
            have h2 := q1.max
            unfold maxLen at h2
            simp only at h1 h2
            omega
          have Hml := Lib.hid hml
          have y0 : Below w12.heap.size w12 (w12.drewN (nk + 1)) := below_drewN (Below.refl _ _) (nk + 1)
          have yr : Below w12.heap.size w12 (w12.drewN nk) := below_drewN (Below.refl _ _) nk
          have yd : Below w12.heap.size w12 (w12.drewN nk).drew := yr.drew
          clear sk hc1 hc2 q1 q2 r1 r2 hml hk1 hk2 hkr
          go_wp2_with fail
          go_region_held3 (fun W => W.cell? ⟨b1, o1 + k, none⟩ = some (.slice a1 N c1) ∧ W.cell? ⟨b2, o2 + k, none⟩ = some (.slice a2 N c2))
            (first | with_reducible exact SK.out _ y0 | with_reducible exact SK.out _ yr | with_reducible exact SK.out _ yd | exact SK.out _ (below_drewN (Below.refl _ _) _))
            (first | (go_at_call 25; (with_reducible refine (Sm.same_eq a1 a2 c1 c2 N N l2 _ Hml.out Hml.out HN63 (R1.out.keep y0) (R2.out.keep y0)).mono ?_); rintro e w13 ⟨rfl, n13, rfl⟩))
          all_goals (
            go_wp2
            go_roundw)
          case rel => exact ⟨k + 1, nk + 1 + n13, by omega, by go_num, by first | rfl | (simp [World.drewN, World.drew]; omega)⟩
          case measure => simp [intOf]; omega
        · have hkn : k = rn := by omega
          have hd : decide ((k : Int) < (rn : Int)) = false := by simp; omega
          have hbk : Below w12.heap.size w12 (w12.drewN nk) := below_drewN (Below.refl _ _) nk
          have hlM2 := load_map (w := w12.drewN nk) HCl.out Hm12.out
          have HSp2 := Lib.hid (HSp.out _ hbk)
          have HLk2' := Lib.hid (HL12.out.step hbk)
          clear hbk
          go_wp2_with fail
          refine wp_load_run hlM2 rfl rfl ?_
          go_wp2_with fail
          refine HSp2.out.mono ?_
          rintro e w14 ⟨oa, oc, rfl, hout, hb14⟩
          rw [Hsf.out] at hout
          have hL14 := HLk2'.out.step hb14
          have hdd := hL14.d
          rw [Hdv.out] at hdd
          have i0 := cell_block hdd 0
          simp at i0
          have HO := Lib.hid hout
          have HL14 := Lib.hid hL14
          clear hout hL14 hdd hb14 hlM2
          go_wp2
          go_loopw [14, 126] (fun _ i W => ∃ k n : Nat, k ≤ rn ∧ i = .int .i64 (k : Int) ∧ W = w14.drewN n) (fun _ i _ => rn - (intOf i).toNat)
          case atStart => exact ⟨0, 0, by omega, rfl, rfl⟩
          case round =>
            clear i0
            obtain ⟨j, nj, hj, rfl, rfl⟩ := hrel
            by_cases hlj : j < rn
            · have hd2 : decide ((j : Int) < (rn : Int)) = true := by simp; omega
              have hjr : j < rows.length := by rw [Hrn.out]; exact hlj
              obtain ⟨ob, oo, hoa, hog⟩ := row_at H.out.w256 HO.out j hjr
              obtain ⟨rb, ro, hra, hrg⟩ := row_at H.out.w256 (H.out.below HL14.out.below).rr j hjr
              have h256 := H.out.w256 _ (List.getElem_mem hjr)
              generalize rows[j] = row at *
              subst hoa
              have hdd := HL14.out.d
              rw [Hdv.out, hra] at hdd
              have i0 := cell_block hdd 0
              simp at i0
              have hu35 := Tryd.underlying35
              have hi35 : (Tryd.prog.info? 35).map (·.size) = some (i64s row).length := by rw [info35, i64s_length, h256]
              have hln : (i64s row).length = 256 := by rw [i64s_length]; exact h256
              have h1c := oneCell_i64s row
              have heq : ∀ W : World, (Op.equalIn 10000 35 (.agg (i64s row).toArray) (.agg (i64s row).toArray)).run Tryd.prog W = .ok true W := fun W => by
                have := eq_row h256 h256 W
                simpa using this
              have sk : ∀ W, Below w14.heap.size w14 W → W.rangeAt ob (oo + j * 256) (i64s row) ∧ W.rangeAt rb (ro + j * 256) (i64s row) ∧ W.cell? ⟨w.heap.size, 0, none⟩ = some (.slice (some ⟨rb, ro, none⟩) rn rc) := fun W hb => ⟨fun q v hq => (hb.cell (p := ⟨ob, oo + j * 256 + q, none⟩) (lt_of_cell (hog q v hq))).trans (hog q v hq), fun q v hq => (hb.cell (p := ⟨rb, ro + j * 256 + q, none⟩) (lt_of_cell (hrg q v hq))).trans (hrg q v hq), (hb.cell (p := ⟨w.heap.size, 0, none⟩) (lt_of_cell i0)).trans i0⟩
              have SK := Lib.hid sk
              have y0 : Below w14.heap.size w14 (w14.drewN (nj + 1)) := below_drewN (Below.refl _ _) (nj + 1)
              have yr : Below w14.heap.size w14 (w14.drewN nj) := below_drewN (Below.refl _ _) nj
              have yd : Below w14.heap.size w14 (w14.drewN nj).drew := yr.drew
              clear sk i0 hdd hog hrg h256 hjr
              go_wp2_with fail
              refine wp_region_noPanic ?_
              refine wp_region_held_drew (S := fun W => W.rangeAt ob (oo + j * 256) (i64s row) ∧ W.rangeAt rb (ro + j * 256) (i64s row) ∧ W.cell? ⟨w.heap.size, 0, none⟩ = some (.slice (some ⟨rb, ro, none⟩) rn rc)) (by kernel_rfl) (SK.out _ yd) (fun hHeld => ?_)
              (refine wpAnyH_take (i := 0) (v := ?v0) (by simp only [List.getElem?_toArray, List.getElem?_cons_succ, List.getElem?_cons_zero]; rfl) (by kernel_rfl) (by kernel_rfl) (by kernel_rfl) (fun _ _ _ h => False.elim h) (Or.inl ⟨by rfl, ?hy0⟩) (by assumption) ?rest0; (case hy0 => (intro w hSw; (try dsimp only at hSw); go_simp; (try with_reducible rfl))); (try simp only [Act.put, List.setIfInBounds_toArray, List.set_cons_zero, List.set_cons_succ]))
              (refine wpAnyH_take (i := 1) (v := ?v1) (by simp only [List.getElem?_toArray, List.getElem?_cons_succ, List.getElem?_cons_zero]; rfl) (by kernel_rfl) (by kernel_rfl) (by kernel_rfl) (fun _ _ _ h => False.elim h) (Or.inl ⟨by rfl, ?hy1⟩) (by assumption) ?rest1; (case hy1 => (intro w hSw; (try dsimp only at hSw); go_simp; (try with_reducible rfl))); (try simp only [Act.put, List.setIfInBounds_toArray, List.set_cons_zero, List.set_cons_succ]))
              (refine wpAnyH_take (i := 2) (v := ?v2) (by simp only [List.getElem?_toArray, List.getElem?_cons_succ, List.getElem?_cons_zero]; rfl) (by kernel_rfl) (by kernel_rfl) (by kernel_rfl) (fun _ _ _ h => False.elim h) (Or.inl ⟨by rfl, ?hy2⟩) (by assumption) ?rest2; (case hy2 => (intro w hSw; (try dsimp only at hSw); go_simp; (try with_reducible rfl))); (try simp only [Act.put, List.setIfInBounds_toArray, List.set_cons_zero, List.set_cons_succ]))
              (refine wpAnyH_take (i := 3) (oi := _) (v := _) (by simp only [List.getElem?_toArray, List.getElem?_cons_succ, List.getElem?_cons_zero]; rfl) (by kernel_rfl) (by kernel_rfl) (by kernel_rfl) (fun _ _ _ h => False.elim h) (yieldsIf_load_mid (by rfl) _ _ rfl _ _ rfl _ _ (fun w h => h.1) hu35 rfl hi35) (by assumption) ?rest3; (try simp only [Act.put, List.setIfInBounds_toArray, List.set_cons_zero, List.set_cons_succ]))
              (refine wpAnyH_take (i := 4) (v := ?v4) (by simp only [List.getElem?_toArray, List.getElem?_cons_succ, List.getElem?_cons_zero]; rfl) (by kernel_rfl) (by kernel_rfl) (by kernel_rfl) (fun _ _ _ h => False.elim h) (Or.inl ⟨by rfl, ?hy4⟩) (by assumption) ?rest4; (case hy4 => (intro w hSw; (try dsimp only at hSw); go_simp; (try with_reducible rfl))); (try simp only [Act.put, List.setIfInBounds_toArray, List.set_cons_zero, List.set_cons_succ]))
              (refine wpAnyH_take (i := 5) (v := ?v5) (by simp only [List.getElem?_toArray, List.getElem?_cons_succ, List.getElem?_cons_zero]; rfl) (by kernel_rfl) (by kernel_rfl) (by kernel_rfl) (fun _ _ _ h => False.elim h) (Or.inl ⟨by rfl, ?hy5⟩) (by assumption) ?rest5; (case hy5 => (intro w hSw; (try dsimp only at hSw); go_simp; (try with_reducible rfl))); (try simp only [Act.put, List.setIfInBounds_toArray, List.set_cons_zero, List.set_cons_succ]))
              (refine wpAnyH_take (i := 6) (v := ?v6) (by simp only [List.getElem?_toArray, List.getElem?_cons_succ, List.getElem?_cons_zero]; rfl) (by kernel_rfl) (by kernel_rfl) (by kernel_rfl) (fun _ _ _ h => False.elim h) (Or.inl ⟨by rfl, ?hy6⟩) (by assumption) ?rest6; (case hy6 => (intro w hSw; (try dsimp only at hSw); go_simp; (try with_reducible rfl))); (try simp only [Act.put, List.setIfInBounds_toArray, List.set_cons_zero, List.set_cons_succ]))
              (refine wpAnyH_take (i := 7) (v := ?v7) (by simp only [List.getElem?_toArray, List.getElem?_cons_succ, List.getElem?_cons_zero]; rfl) (by kernel_rfl) (by kernel_rfl) (by kernel_rfl) (fun _ _ _ h => False.elim h) (Or.inl ⟨by rfl, ?hy7⟩) (by assumption) ?rest7; (case hy7 => (intro w hSw; (try dsimp only at hSw); go_simp; (try with_reducible rfl))); (try simp only [Act.put, List.setIfInBounds_toArray, List.set_cons_zero, List.set_cons_succ]))
              (refine wpAnyH_take (i := 8) (oi := _) (v := _) (by simp only [List.getElem?_toArray, List.getElem?_cons_succ, List.getElem?_cons_zero]; rfl) (by kernel_rfl) (by kernel_rfl) (by kernel_rfl) (fun _ _ _ h => False.elim h) (yieldsIf_load_mid (by rfl) _ _ rfl _ _ rfl _ _ (fun w h => h.2.1) hu35 rfl hi35) (by assumption) ?rest8; (try simp only [Act.put, List.setIfInBounds_toArray, List.set_cons_zero, List.set_cons_succ]))
              (refine wpAnyH_take (i := 9) (v := ?v9) (by simp only [List.getElem?_toArray, List.getElem?_cons_succ, List.getElem?_cons_zero]; rfl) (by kernel_rfl) (by kernel_rfl) (by kernel_rfl) (fun _ _ _ h => False.elim h) (Or.inl ⟨by rfl, ?hy9⟩) (by assumption) ?rest9; (case hy9 => (intro w hSw; (try dsimp only at hSw); go_simp; (try with_reducible rfl))); (try simp only [Act.put, List.setIfInBounds_toArray, List.set_cons_zero, List.set_cons_succ]))
              refine wpAnyH_done (by kernel_rfl) ?_ _
              refine NoPanic.normal ?_
              go_wp2
              go_roundw
              case rel => exact ⟨j + 1, nj + 1, by omega, by go_num, by first | rfl | (simp [World.drewN, World.drew]; omega)⟩
              case measure => simp [intOf]; omega
            · have hd2 : decide ((j : Int) < (rn : Int)) = false := by simp; omega
              go_wp2
              go_ret
              exact ⟨rfl, below_drewN HL14.out.below _⟩
    · have hE4 := (HSn.out _ HL4.out.below).cell 0 (by simp [Er.egs])
      have HOf := Lib.hid (cof_no ra ua ea rn rc un uc en ec rows rule entry Hrn.out Hun.out Hen.out h1 h2 h3 hG W4 (H.out.below HL4.out.below) _ hE4)
      have HG := Lib.hid hG
      clear hE4 hG
      go_wp2_with fail
      rw [HW4.out]
      refine HOf.out.mono ?_
      rintro e w5 ⟨rfl, hb5⟩
      have hL5 := HL4.out.step hb5
      have hst := store_z30 w5
      have hzs : Tryd.zeroCells30.size = 257 := by rw [zc30]; simp [i64s_length]
      have hbm := (Below.refl w5.heap.size w5).alloc (Nat.le_refl _) (.cells Tryd.zeroCells30 30)
      have hL6 := hL5.step hbm
      have hmn := heap_alloc_new w5 (.cells Tryd.zeroCells30 30)
      have hdd := hL6.d
      rw [Hdv.out] at hdd
      have i0 := cell_block hdd 0
      have i1 := cell_block hdd 1
      have i2 := cell_block hdd 2
      simp at i0 i1 i2
      have hE6 := (HSn.out _ hL6.below).cell 0 (by simp [Er.egs])
      have HMa := Lib.hid (cmat_no ra ua ea rn rc un uc en ec rows rule entry Hrn.out Hun.out Hen.out h1 h2 h3 HG.out _ (H.out.below hL6.below) _ hE6)
      have HL6 := Lib.hid hL6
      have Hmn := Lib.hid hmn
      clear hb5 hL5 hbm hL6 hmn hdd hE6 HOf
      go_wp2_with fail
      refine HMa.out.mono ?_
      rintro e w7 ⟨rfl, hb7⟩
      have hL7 := HL6.out.step hb7
      have hm7 := (hb7.block _ (block_lt Hmn.out)).trans Hmn.out
      have hxx := hL7.x
      rw [Hxv.out] at hxx
      have j0 := cell_block hxx 0
      have j1 := cell_block hxx 1
      have j2 := cell_block hxx 2
      simp at j0 j1 j2
      have HDr := Lib.hid (dright_c xa ua ea rn xc un uc en ec rows rule entry Hrn.out Hun.out Hen.out h1 h2 h3 w7 (HXf.out.below hL7.b4))
      have HL7 := Lib.hid hL7
      have Hm7 := Lib.hid hm7
      clear hb7 hL7 hm7 hxx HMa i0 i1 i2
      go_wp2_with fail
      refine HDr.out.mono ?_
      rintro e w8 ⟨⟨v, rfl, hv⟩, hb8⟩
      have hvf : v = false := by
        cases v with
        | false => rfl
        | true => exact absurd (hv.1 rfl) HG.out
      subst hvf
      have hL8 := HL7.out.step hb8
      have hm8 := (hb8.block _ (block_lt Hm7.out)).trans Hm7.out
      have k0 := cell_block hm8 256
      rw [zc30_many] at k0
      have HN1 := Lib.hid (Er.num_at A 0 4 3 (by omega) rfl (by omega) w8 (HSn.out _ hL8.below))
      have HL8 := Lib.hid hL8
      clear hv hb8 hL8 hm8 HDr j0 j1 j2
      go_wp2_with fail
      refine HN1.out.mono ?_
      rintro e w9 ⟨rfl, hb9⟩
      have hL9 := HL8.out.step hb9
      have HN2 := Lib.hid (Er.num_at A 0 4 3 (by omega) rfl (by omega) w9 (HSn.out _ hL9.below))
      have HL9 := Lib.hid hL9
      clear hb9 hL9 HN1
      go_wp2_with fail
      refine HN2.out.mono ?_
      rintro e w10 ⟨rfl, hb10⟩
      have hL10 := HL9.out.step hb10
      go_wp2
      go_ret
      exact ⟨by first | rfl | simp, hL10.below⟩
end Cl
end Go.Proofs.YtfkjijjmphbglaaDoor
