/- The law CombAgain: its walk. -/
import Derived.Test.YteekonojmpihlaaDoorQCbAgP
import Derived.Test.YteekonojmpihlaaDoorQCbLay
import Derived.Test.YteekonojmpihlaaDoorQCbAlive
import Derived.Test.YteekonojmpihlaaDoorQErr
import Derived.Deep.RegionHeld3
namespace Go.Proofs.YteekonojmpihlaaDoor
namespace Kt
end Kt
open Go Go.RowKit Kt
namespace Cb
set_option maxHeartbeats 8000000 in
set_option maxRecDepth 100000 in
theorem ag_law (c : Cs) (A : Nat → Addr) (w : World) (hI : Is w c) (hS : Sent 204 w A [1]) :
    Calls Tryd.prog 7 #[cv c] w fun e w' => e = .returned (.bool true) ∧ Below w.heap.size w w' := by
  obtain ⟨RC, hRC⟩ : ∃ R, rightC c = R := ⟨_, rfl⟩
  have hRi : ∀ W, Below w.heap.size w W → Calls Tryd.prog 39 #[cv c] W fun e w' => e = .returned (.bool RC) ∧ Below W.heap.size W w' := fun W hb => by rw [← hRC]; exact Right_c c W (hI.below hb)
  have hRows : RC = true → ∀ W, Below w.heap.size w W → Calls Tryd.prog 38 #[cv c] W fun e w' => ∃ (a : Option Addr) (cap : Nat) (L : List IRow), e = .returned (.tuple #[.slice a c.base.length cap, .nilIface]) ∧ L.length = c.base.length ∧ Rd w' a (L.map IRow.v) ∧ (∀ r ∈ L, r.ok w') ∧ L.map (·.l) = rowsC c ∧ Below W.heap.size W w' := fun hr W hb => rows_c c (hRC.trans hr) W (hI.below hb)
  have hRno : RC = false → ∀ W, Below w.heap.size w W → Calls Tryd.prog 38 #[cv c] W fun e w' => e = .returned (.tuple #[.slice none 0 0, .iface 204 (.pointer (some (A 1)))]) ∧ Below W.heap.size W w' := fun hr W hb => rows_no c (hRC.trans hr) W (hI.below hb) _ ((hS.keep hb).cell 1 (by simp))
  have hAl : ∀ W, Calls Tryd.prog 34 #[] W fun e w' => e = .returned (.bool true) ∧ Below W.heap.size W w' := alive_c
  have hg : RC = true → Good c ∧ layable (rowsC c) = true := fun hr => ⟨good_of (hRC.trans hr), rowsC_layable (hRC.trans hr)⟩
  have hlen := rowsC_len c
  have hown := rowsC_own (c := c)
  have hw0 : RC = true → ((rowsC c).getD 0 []).length = c.wide.toNat := fun hr => by
    have := (hg hr).1.many
    unfold rowsC
    rw [List.getD_eq_getElem?_getD, List.getElem?_map, List.getElem?_range (by omega)]
    exact rowC_len _ _ _
  obtain ⟨P, hP⟩ : ∃ P, Value.pointer (some (A 1)) = P := ⟨_, rfl⟩
  rw [hP] at hRno
  obtain ⟨rows, hrows⟩ : ∃ r, rowsC c = r := ⟨_, rfl⟩
  rw [hrows] at hRows hg hlen hown hw0
  have hcv : cv c = .agg #[.int .i64 c.wide, .slice c.a1 c.base.length c.c1, .slice c.a2 c.dflt.length c.c2, .slice c.a3 c.next.length c.c3, .slice c.a4 c.check.length c.c4] := rfl
  have hgw : RC = true → 1 ≤ c.wide ∧ c.wide ≤ 256 ∧ c.base.length ≤ 200 := fun hr => by have := (hg hr).1.wide; have := (hg hr).1.many; omega
  have hly : RC = true → layable rows = true := fun hr => (hg hr).2
  obtain ⟨n1, hn1⟩ : ∃ n1, c.base.length = n1 := ⟨_, rfl⟩
  obtain ⟨n2, hn2⟩ : ∃ n2, c.dflt.length = n2 := ⟨_, rfl⟩
  obtain ⟨n3, hn3⟩ : ∃ n3, c.next.length = n3 := ⟨_, rfl⟩
  obtain ⟨n4, hn4⟩ : ∃ n4, c.check.length = n4 := ⟨_, rfl⟩
  obtain ⟨wd, hwd⟩ : ∃ wd, c.wide = wd := ⟨_, rfl⟩
  obtain ⟨A1, hA1⟩ : ∃ A, c.a1 = A := ⟨_, rfl⟩
  obtain ⟨A2, hA2⟩ : ∃ A, c.a2 = A := ⟨_, rfl⟩
  obtain ⟨A3, hA3⟩ : ∃ A, c.a3 = A := ⟨_, rfl⟩
  obtain ⟨A4, hA4⟩ : ∃ A, c.a4 = A := ⟨_, rfl⟩
  obtain ⟨k1, hk1⟩ : ∃ k, c.c1 = k := ⟨_, rfl⟩
  obtain ⟨k2, hk2⟩ : ∃ k, c.c2 = k := ⟨_, rfl⟩
  obtain ⟨k3, hk3⟩ : ∃ k, c.c3 = k := ⟨_, rfl⟩
  obtain ⟨k4, hk4⟩ : ∃ k, c.c4 = k := ⟨_, rfl⟩
  rw [hn1, hn2, hn3, hn4, hwd, hA1, hA2, hA3, hA4, hk1, hk2, hk3, hk4] at hcv
  rw [hcv] at hRi hRows hRno
  rw [hn1] at hRows hlen hown hgw
  rw [hwd] at hgw hw0 hown
  rw [hcv]
  obtain ⟨W1, hW1⟩ : ∃ W1, w.alloc (.cells #[.int .i64 wd, .slice A1 n1 k1, .slice A2 n2 k2, .slice A3 n3 k3, .slice A4 n4 k4] 71 (0, 0)) = W1 := ⟨_, rfl⟩
  have b1 : Below w.heap.size w W1 := by rw [← hW1]; exact (Below.refl _ _).alloc (Nat.le_refl _) _
  have s1 : W1.heap[w.heap.size]? = some (.cells #[.int .i64 wd, .slice A1 n1 k1, .slice A2 n2 k2, .slice A3 n3 k3, .slice A4 n4 k4] 71 (0, 0)) := by rw [← hW1]; exact heap_alloc_new _ _
  have HRi := Lib.hid hRi
  have HRows := Lib.hid hRows
  have HRno := Lib.hid hRno
  have HAl := Lib.hid (hAl W1)
  have HGW := Lib.hid hgw
  have HW0 := Lib.hid hw0
  have HLen := Lib.hid hlen
  have HOwn := Lib.hid hown
  have HLy := Lib.hid hly
  have HB1 := Lib.hid b1
  have HW1 := Lib.hid hW1
  have HS1 := Lib.hid s1
  clear hRi hRows hRno hAl hg hcv hgw hw0 hlen hown hly b1 hW1 s1 hRC hI hS hn1 hn2 hn3 hn4 hwd hA1 hA2 hA3 hA4 hk1 hk2 hk3 hk4 hP hrows
  go_enter Tryd.func7, Tryd.ntmps7
  go_upto_region 1 with (fail)
  rw [HW1.out]
  go_wp2_with fail
  refine HAl.out.mono ?_
  rintro _ w2 ⟨rfl, hb2⟩
  have hB2 := HB1.out.trans (hb2.mono HB1.out.size)
  have s2 := (hb2.block _ (block_lt HS1.out)).trans HS1.out
  obtain ⟨z0, z1, z2, z3, z4⟩ := box5 s2
  have HB2 := Lib.hid hB2
  have HS2 := Lib.hid s2
  clear hb2 hB2 s2 HAl HB1 HW1 HS1
  by_cases gn1 : (30 : Int) < (n1 : Int)
  · go_wp2
    go_ret
    exact ⟨rfl, HB2.out⟩
  have dn1 : decide ((30 : Int) < (n1 : Int)) = false := by simp; omega
  by_cases gn2 : (50 : Int) < (n2 : Int)
  · go_wp2
    go_ret
    exact ⟨rfl, HB2.out⟩
  have dn2 : decide ((50 : Int) < (n2 : Int)) = false := by simp; omega
  by_cases gn3 : (200 : Int) < (n3 : Int)
  · go_wp2
    go_ret
    exact ⟨rfl, HB2.out⟩
  have dn3 : decide ((200 : Int) < (n3 : Int)) = false := by simp; omega
  by_cases gn4 : (200 : Int) < (n4 : Int)
  · go_wp2
    go_ret
    exact ⟨rfl, HB2.out⟩
  have dn4 : decide ((200 : Int) < (n4 : Int)) = false := by simp; omega
  have HSk : Hid (∀ W, Below w2.heap.size w2 W → W.cell? ⟨w.heap.size, 0, none⟩ = some (.int .i64 wd) ∧ W.cell? ⟨w.heap.size, 1, none⟩ = some (.slice A1 n1 k1) ∧ W.cell? ⟨w.heap.size, 2, none⟩ = some (.slice A2 n2 k2) ∧ W.cell? ⟨w.heap.size, 3, none⟩ = some (.slice A3 n3 k3) ∧ W.cell? ⟨w.heap.size, 4, none⟩ = some (.slice A4 n4 k4)) := Lib.hid (fun W hb => box5 ((hb.block _ (block_lt HS2.out)).trans HS2.out))
  cases RC with
  | false =>
    go_wp2_with fail
    refine (HRno.out (by first | rfl | trivial) _ HB2.out).mono ?_
    rintro _ w6 ⟨rfl, hb6⟩
    have HB6 := Lib.hid (HB2.out.trans (hb6.mono HB2.out.size))
    clear z0 z1 z2 z3 z4
    obtain ⟨z0, z1, z2, z3, z4⟩ := HSk.out w6 hb6
    clear hb6
    go_wp2_with fail
    refine (HRi.out _ HB6.out).mono ?_
    rintro _ w7 ⟨rfl, hb7⟩
    have HB7 := Lib.hid (HB6.out.trans (hb7.mono HB6.out.size))
    clear hb7
    go_wp2
    go_ret
    exact ⟨rfl, HB7.out⟩
  | true =>
    obtain ⟨g1, g2, g3⟩ := HGW.out (by first | rfl | trivial)
    have hw0 := HW0.out (by first | rfl | trivial)
    have hly := HLy.out (by first | rfl | trivial)
    obtain ⟨m, rfl⟩ : ∃ m : Nat, wd = (m : Int) := ⟨wd.toNat, by omega⟩
    rw [Int.toNat_natCast] at hw0
    have hown := HOwn.out
    rw [Int.toNat_natCast] at hown
    have HWd := Lib.hid hw0
    have HLay := Lib.hid hly
    have HO := Lib.hid hown
    clear hw0 hly hown HW0 HLy HOwn HGW
    go_wp2_with fail
    refine (HRows.out (by first | rfl | trivial) _ HB2.out).mono ?_
    rintro _ w6 ⟨ra, rcap, L, rfl, hLl, hLr, hLo, hLm, hb6⟩
    have HLr := Lib.hid hLr
    have HLo := Lib.hid hLo
    have HLl := Lib.hid hLl
    have HLm := Lib.hid hLm
    have hcl := lay_c ra n1 rcap L rows hLm hLl (by omega) HLay.out w6 hLr hLo
    have HCl := Lib.hid hcl
    have Hb6 := Lib.hid hb6
    clear hLl hLr hLo hLm hcl hb6 z0 z1 z2 z3 z4
    go_wp2_with fail
    refine HCl.out.mono ?_
    rintro _ w7 ⟨c2, rfl, e1, e2, e3, e4, e5, hI2, hb7⟩
    have hld : Laid rows c2 := ⟨e1, e2, e3, e4, e5⟩
    have hbl2 : c2.base.length = n1 := by rw [e2, (layL_inv (lyF_of HLay.out).wide.2 (lyF_of HLay.out).len).bl]; exact HLen.out
    have hcv2 : cv c2 = .agg #[.int .i64 (m : Int), .slice c2.a1 n1 c2.c1, .slice c2.a2 c2.dflt.length c2.c2, .slice c2.a3 c2.next.length c2.c3, .slice c2.a4 c2.check.length c2.c4] := by
      unfold cv cells
      rw [hbl2, e1, HWd.out]
    have hR2 : ∀ W, Below w7.heap.size w7 W → Calls Tryd.prog 38 #[cv c2] W fun e w' => ∃ (a : Option Addr) (cap : Nat) (L : List IRow), e = .returned (.tuple #[.slice a c2.base.length cap, .nilIface]) ∧ L.length = c2.base.length ∧ Rd w' a (L.map IRow.v) ∧ (∀ r ∈ L, r.ok w') ∧ L.map (·.l) = rowsC c2 ∧ Below W.heap.size W w' := fun W hb => rows_c c2 (laid_right hld HLay.out) W (hI2.below hb)
    rw [hcv2, laid_rows hld HLay.out, hbl2] at hR2
    rw [hcv2]
    generalize c2.a1 = B1 at *
    generalize c2.a2 = B2 at *
    generalize c2.a3 = B3 at *
    generalize c2.a4 = B4 at *
    generalize c2.c1 = q1 at *
    generalize c2.c2 = q2 at *
    generalize c2.c3 = q3 at *
    generalize c2.c4 = q4 at *
    generalize c2.dflt.length = p2 at *
    generalize c2.next.length = p3 at *
    generalize c2.check.length = p4 at *
    obtain ⟨W8, hW8⟩ : ∃ W, w7.alloc (.cells #[.int .i64 (m : Int), .slice B1 n1 q1, .slice B2 p2 q2, .slice B3 p3 q3, .slice B4 p4 q4] 71 (0, 0)) = W := ⟨_, rfl⟩
    have b8 : Below w7.heap.size w7 W8 := by rw [← hW8]; exact (Below.refl _ _).alloc (Nat.le_refl _) _
    have s8 : W8.heap[w7.heap.size]? = some (.cells #[.int .i64 (m : Int), .slice B1 n1 q1, .slice B2 p2 q2, .slice B3 p3 q3, .slice B4 p4 q4] 71 (0, 0)) := by rw [← hW8]; exact heap_alloc_new _ _
    obtain ⟨y0, y1, y2, y3, y4⟩ := box5 s8
    have HR2 := Lib.hid (hR2 W8 b8)
    have HW8 := Lib.hid hW8
    have HB8 := Lib.hid (hb7.trans (b8.mono hb7.size))
    have HY : Hid (∀ W, Below W8.heap.size W8 W → W.cell? ⟨w7.heap.size, 0, none⟩ = some (.int .i64 (m : Int))) := Lib.hid (fun W hb => (box5 ((hb.block _ (block_lt s8)).trans s8)).1)
    clear hR2 hW8 b8 s8 hb7 hcv2 hbl2 hld e1 e2 e3 e4 e5 hI2 HCl
    go_upto_region 9 with (fail)
    rw [HW8.out]
    clear HW8
    go_wp2_with fail
    refine HR2.out.mono ?_
    rintro _ w9 ⟨rb, rcap2, L2, rfl, hLl2, hLr2, hLo2, hLm2, hb9⟩
    have hk : ∀ W, Below w9.heap.size w9 W → Below w6.heap.size w6 W := fun W hb => (HB8.out.trans (hb9.mono HB8.out.size)).trans (hb.mono (by have := HB8.out.size; have := hb9.size; omega))
    have HK := Lib.hid hk
    have HX : Hid (∀ W, Below w9.heap.size w9 W → W.cell? ⟨w.heap.size, 0, none⟩ = some (.int .i64 (m : Int)) ∧ W.cell? ⟨w7.heap.size, 0, none⟩ = some (.int .i64 (m : Int))) := Lib.hid (fun W hb => ⟨(HSk.out W (Hb6.out.trans ((hk W hb).mono Hb6.out.size))).1, HY.out W (hb9.trans (hb.mono hb9.size))⟩)
    have HLr2 := Lib.hid hLr2
    have HLo2 := Lib.hid hLo2
    have HLl2 := Lib.hid hLl2
    have HLm2 := Lib.hid hLm2
    have HBw : Hid (∀ W, Below w9.heap.size w9 W → Below w.heap.size w W) := Lib.hid (fun W hb => by
      have h1 := HB2.out.trans (Hb6.out.mono HB2.out.size)
      exact h1.trans ((hk W hb).mono h1.size))
    clear hLl2 hLr2 hLo2 hLm2 hk hb9 y0 y1 y2 y3 y4 HR2 HY HSk HB8
    obtain ⟨z0, y0⟩ := HX.out w9 (Below.refl _ _)
    go_wp2
    clear z0 y0
    go_loopw [7, 72] (fun _ i W => ∃ k : Nat, k ≤ n1 ∧ i = .int .i64 (k : Int) ∧ Below w9.heap.size w9 W) (fun _ i _ => n1 - (intOf i).toNat)
    case atStart => exact ⟨0, Nat.zero_le _, rfl, Below.refl _ _⟩
    case round =>
      obtain ⟨k, hk, rfl, hB⟩ := hrel
      by_cases hlt : k < n1
      · have hki : (k : Int) < (n1 : Int) := by omega
        have hki0 : (0 : Int) ≤ (k : Int) := by omega
        have h1 : k < L.length := by rw [HLl.out]; exact hlt
        have h2 : k < L2.length := by rw [HLl2.out]; exact hlt
        obtain ⟨b, o, ha, hc⟩ := (HLr.out.keep (HK.out wr hB)).map_at k h1
        obtain ⟨b2, o2, ha2, hc2⟩ := (HLr2.out.keep hB).map_at k h2
        have hll : L[k].l = L2[k].l := by
          have e1 : (L.map (·.l))[k]? = some L[k].l := by rw [List.getElem?_map, List.getElem?_eq_getElem h1]; rfl
          have e2 : (L2.map (·.l))[k]? = some L2[k].l := by rw [List.getElem?_map, List.getElem?_eq_getElem h2]; rfl
          rw [HLm.out] at e1
          rw [HLm2.out] at e2
          exact Option.some.inj (e1.symm.trans e2)
        have ok1 := (HLo.out _ (List.getElem_mem h1)).keep (HK.out wr hB)
        have ok2 := (HLo2.out _ (List.getElem_mem h2)).keep hB
        generalize L[k] = r1 at *
        generalize L2[k] = r2 at *
        obtain ⟨xa, xc, xl⟩ := r1
        obtain ⟨ya, yc, yl⟩ := r2
        simp only at hll
        subst hll
        have hrx := ok1.rd
        have hry := ok2.rd
        have hxl : xl.length ≤ 9223372036854775807 := by have h3 := ok1.cap; have h4 := ok1.max; unfold maxLen at h4; simp only at h3 h4; omega
        unfold IRow.v at hc hc2
        simp only at hc hc2 hrx hry
        obtain ⟨xn, hxn⟩ : ∃ n, xl.length = n := ⟨_, rfl⟩
        rw [hxn] at hc hc2 hxl
        have hsame : ∀ W, Below wr.heap.size wr W → Calls Tryd.prog 40 #[.slice xa xn xc, .slice ya xn yc] W fun e w' => e = .returned (.bool true) ∧ ∃ n, W.drewN n = w' := fun W hb => Sm.same_eq xa ya xc yc xn xn xl W hxn hxn hxl (hrx.keep hb) (hry.keep hb)
        have HSame := Lib.hid hsame
        have HC : Hid (∀ W, Below wr.heap.size wr W → W.cell? ⟨b, o + k, none⟩ = some (.slice xa xn xc) ∧ W.cell? ⟨b2, o2 + k, none⟩ = some (.slice ya xn yc)) := Lib.hid (fun W hb => ⟨(hb.cell (p := ⟨b, o + k, none⟩) (lt_of_cell hc)).trans hc, (hb.cell (p := ⟨b2, o2 + k, none⟩) (lt_of_cell hc2)).trans hc2⟩)
        have HB := Lib.hid hB
        subst ha ha2
        clear hsame hc hc2 hrx hry ok1 ok2 h1 h2 hxn hxl hB
        go_wp2_with fail
        have n0 : Below wr.heap.size wr wr.drew := (Below.refl _ _).drew
        refine wp_region_noPanic ?_
        refine wp_region_held_drew (S := fun W => W.cell? ⟨b, o + k, none⟩ = some (.slice xa xn xc) ∧ W.cell? ⟨b2, o2 + k, none⟩ = some (.slice ya xn yc)) (by kernel_rfl) (HC.out _ n0) (fun hHeld => ?_)
        (refine wpAnyH_take (i := 0) (v := ?v0n1) (by simp only [List.getElem?_toArray, List.getElem?_cons_succ, List.getElem?_cons_zero]; rfl) (by kernel_rfl) (by kernel_rfl) (by kernel_rfl) (fun _ _ _ h => False.elim h) (Or.inl ⟨by rfl, ?hy0n1⟩) (by assumption) ?rest0n1; (case hy0n1 => (intro w hSw; (try dsimp only at hSw); go_simp; (try with_reducible rfl))); (try simp only [Act.put, List.setIfInBounds_toArray, List.set_cons_zero, List.set_cons_succ]))
        (refine wpAnyH_take (i := 1) (v := ?v1n2) (by simp only [List.getElem?_toArray, List.getElem?_cons_succ, List.getElem?_cons_zero]; rfl) (by kernel_rfl) (by kernel_rfl) (by kernel_rfl) (fun _ _ _ h => False.elim h) (Or.inl ⟨by rfl, ?hy1n2⟩) (by assumption) ?rest1n2; (case hy1n2 => (intro w hSw; (try dsimp only at hSw); go_simp; (try with_reducible rfl))); (try simp only [Act.put, List.setIfInBounds_toArray, List.set_cons_zero, List.set_cons_succ]))
        (refine wpAnyH_take (i := 2) (v := ?v2n3) (by simp only [List.getElem?_toArray, List.getElem?_cons_succ, List.getElem?_cons_zero]; rfl) (by kernel_rfl) (by kernel_rfl) (by kernel_rfl) (fun _ _ _ h => False.elim h) (Or.inl ⟨by rfl, ?hy2n3⟩) (by assumption) ?rest2n3; (case hy2n3 => (intro w hSw; (try dsimp only at hSw); go_simp; (try with_reducible rfl))); (try simp only [Act.put, List.setIfInBounds_toArray, List.set_cons_zero, List.set_cons_succ]))
        (refine wpAnyH_take (i := 3) (v := ?v3n4) (by simp only [List.getElem?_toArray, List.getElem?_cons_succ, List.getElem?_cons_zero]; rfl) (by kernel_rfl) (by kernel_rfl) (by kernel_rfl) (fun _ _ _ h => False.elim h) (Or.inl ⟨by rfl, ?hy3n4⟩) (by assumption) ?rest3n4; (case hy3n4 => (intro w hSw; (try dsimp only at hSw); go_simp; (try with_reducible rfl))); (try simp only [Act.put, List.setIfInBounds_toArray, List.set_cons_zero, List.set_cons_succ]))
        (refine wpAnyH_take (i := 4) (v := ?v4n5) (by simp only [List.getElem?_toArray, List.getElem?_cons_succ, List.getElem?_cons_zero]; rfl) (by kernel_rfl) (by kernel_rfl) (by kernel_rfl) (fun _ _ _ h => False.elim h) (Or.inl ⟨by rfl, ?hy4n5⟩) (by assumption) ?rest4n5; (case hy4n5 => (intro w hSw; (try dsimp only at hSw); go_simp; (try with_reducible rfl))); (try simp only [Act.put, List.setIfInBounds_toArray, List.set_cons_zero, List.set_cons_succ]))
        (refine wpAnyH_take (i := 5) (v := ?v5n6) (by simp only [List.getElem?_toArray, List.getElem?_cons_succ, List.getElem?_cons_zero]; rfl) (by kernel_rfl) (by kernel_rfl) (by kernel_rfl) (fun _ _ _ h => False.elim h) (Or.inl ⟨by rfl, ?hy5n6⟩) (by assumption) ?rest5n6; (case hy5n6 => (intro w hSw; (try dsimp only at hSw); go_simp; (try with_reducible rfl))); (try simp only [Act.put, List.setIfInBounds_toArray, List.set_cons_zero, List.set_cons_succ]))
        (refine wpAnyH_take (i := 6) (v := ?v6n7) (by simp only [List.getElem?_toArray, List.getElem?_cons_succ, List.getElem?_cons_zero]; rfl) (by kernel_rfl) (by kernel_rfl) (by kernel_rfl) (fun _ _ _ h => False.elim h) (Or.inl ⟨by rfl, ?hy6n7⟩) (by assumption) ?rest6n7; (case hy6n7 => (intro w hSw; (try dsimp only at hSw); go_simp; (try with_reducible rfl))); (try simp only [Act.put, List.setIfInBounds_toArray, List.set_cons_zero, List.set_cons_succ]))
        (refine wpAnyH_take (i := 7) (v := ?v7n8) (by simp only [List.getElem?_toArray, List.getElem?_cons_succ, List.getElem?_cons_zero]; rfl) (by kernel_rfl) (by kernel_rfl) (by kernel_rfl) (fun _ _ _ h => False.elim h) (Or.inl ⟨by rfl, ?hy7n8⟩) (by assumption) ?rest7n8; (case hy7n8 => (intro w hSw; (try dsimp only at hSw); go_simp; (try with_reducible rfl))); (try simp only [Act.put, List.setIfInBounds_toArray, List.set_cons_zero, List.set_cons_succ]))
        (refine wpAnyH_ready (rs := [8]) (by kernel_rfl) (by simp) ?_; refine AllReadyH.cons (o := _) (by simp only [List.getElem?_toArray, List.getElem?_cons_succ, List.getElem?_cons_zero]; rfl) (fun K hK => ?_) AllReadyH.nil; go_simp; ((with_reducible refine (HSame.out _ n0).mono ?_); rintro e x1 ⟨rfl, nx1, hbx1⟩; have m1 : Below wr.heap.size wr x1 := (by rw [← hbx1]; exact below_drewN n0 nx1)); refine hK.out _ _ (by exact HC.out _ m1) (fun hHeld => ?_); clear hK K; (try simp only [Act.put, List.setIfInBounds_toArray, List.set_cons_zero, List.set_cons_succ]))
        (refine wpAnyH_take (i := 9) (v := ?v9n9) (by simp only [List.getElem?_toArray, List.getElem?_cons_succ, List.getElem?_cons_zero]; rfl) (by kernel_rfl) (by kernel_rfl) (by kernel_rfl) (fun _ _ _ h => False.elim h) (Or.inl ⟨by rfl, ?hy9n9⟩) (by assumption) ?rest9n9; (case hy9n9 => (intro w hSw; (try dsimp only at hSw); go_simp; (try with_reducible rfl))); (try simp only [Act.put, List.setIfInBounds_toArray, List.set_cons_zero, List.set_cons_succ]))
        refine wpAnyH_done (by kernel_rfl) ?_ _
        refine NoPanic.normal ?_
        have HM1 := Lib.hid m1
        clear m1 hbx1 hHeld n0
        go_wp2
        go_roundw
        case rel => first | exact ⟨k + 1, hlt, by go_num, HB.out.trans (HM1.out.mono HB.out.size)⟩ | ((repeat apply Exists.intro); (refine ⟨?_, ?_⟩); rotate_left 1; (focus (and_intros <;> rfl)); exact ⟨k + 1, hlt, by go_num, HB.out.trans (HM1.out.mono HB.out.size)⟩)
        case measure => simp [intOf]; omega
      · obtain rfl : k = n1 := by omega
        have hkk : ¬ ((k : Int) < (k : Int)) := by omega
        have hcall : ∀ W, Below wr.heap.size wr W → Calls Tryd.prog 37 #[.slice ra k rcap] W fun e w' => e = .returned (.int .i64 (ownAll rows : Nat)) ∧ Below W.heap.size W w' := fun W hb => Own_c ra k rcap L rows HLm.out HLl.out (by omega) HLay.out W (HLr.out.keep (HK.out W (hB.trans (hb.mono hB.size)))) (fun r hr => (HLo.out r hr).keep (HK.out W (hB.trans (hb.mono hB.size))))
        have HCall := Lib.hid hcall
        have HC : Hid (∀ W, Below wr.heap.size wr W → W.cell? ⟨w.heap.size, 0, none⟩ = some (.int .i64 (m : Int))) := Lib.hid (fun W hb => (HX.out W (hB.trans (hb.mono hB.size))).1)
        have hpm : k * m ≤ 200 * 256 := Nat.mul_le_mul (by omega) (by omega)
        obtain ⟨T, hT⟩ : ∃ T, k * m = T := ⟨_, rfl⟩
        have hTi : (k : Int) * (m : Int) = (T : Int) := by rw [← hT]; simp
        have ho := HO.out
        rw [hT] at ho hpm
        have hTw : IntKind.i64.wrap (T : Int) = (T : Int) := by rw [IntKind.wrap_i64]; omega
        have hmul : IntKind.i64.wrap ((k : Int) * (m : Int)) = (T : Int) := by rw [hTi]; exact hTw
        obtain ⟨S, hS⟩ : ∃ S, ownAll rows = S := ⟨_, rfl⟩
        rw [hS] at HCall ho
        have hle : (S : Int) ≤ (T : Int) := by omega
        have HB := Lib.hid hB
        clear hcall ho hpm hT hS hTi hTw hB
        go_wp2_with fail
        have n0 : Below wr.heap.size wr wr.drew := (Below.refl _ _).drew
        refine wp_region_noPanic ?_
        refine wp_region_held_drew (S := fun W => W.cell? ⟨w.heap.size, 0, none⟩ = some (.int .i64 (m : Int))) (by kernel_rfl) (HC.out _ n0) (fun hHeld => ?_)
        (refine wpAnyH_take (i := 0) (v := ?v0n10) (by simp only [List.getElem?_toArray, List.getElem?_cons_succ, List.getElem?_cons_zero]; rfl) (by kernel_rfl) (by kernel_rfl) (by kernel_rfl) (fun _ _ _ h => False.elim h) (Or.inl ⟨by rfl, ?hy0n10⟩) (by assumption) ?rest0n10; (case hy0n10 => (intro w hSw; (try dsimp only at hSw); go_simp; (try with_reducible rfl))); (try simp only [Act.put, List.setIfInBounds_toArray, List.set_cons_zero, List.set_cons_succ]))
        (refine wpAnyH_take (i := 2) (v := ?v2n11) (by simp only [List.getElem?_toArray, List.getElem?_cons_succ, List.getElem?_cons_zero]; rfl) (by kernel_rfl) (by kernel_rfl) (by kernel_rfl) (fun _ _ _ h => False.elim h) (Or.inl ⟨by rfl, ?hy2n11⟩) (by assumption) ?rest2n11; (case hy2n11 => (intro w hSw; (try dsimp only at hSw); go_simp; (try with_reducible rfl))); (try simp only [Act.put, List.setIfInBounds_toArray, List.set_cons_zero, List.set_cons_succ]))
        (refine wpAnyH_take (i := 3) (v := ?v3n12) (by simp only [List.getElem?_toArray, List.getElem?_cons_succ, List.getElem?_cons_zero]; rfl) (by kernel_rfl) (by kernel_rfl) (by kernel_rfl) (fun _ _ _ h => False.elim h) (Or.inl ⟨by rfl, ?hy3n12⟩) (by assumption) ?rest3n12; (case hy3n12 => (intro w hSw; (try dsimp only at hSw); go_simp; (try with_reducible rfl))); (try simp only [Act.put, List.setIfInBounds_toArray, List.set_cons_zero, List.set_cons_succ]))
        (refine wpAnyH_take (i := 4) (v := ?v4n13) (by simp only [List.getElem?_toArray, List.getElem?_cons_succ, List.getElem?_cons_zero]; rfl) (by kernel_rfl) (by kernel_rfl) (by kernel_rfl) (fun _ _ _ h => False.elim h) (Or.inl ⟨by rfl, ?hy4n13⟩) (by assumption) ?rest4n13; (case hy4n13 => (intro w hSw; (try dsimp only at hSw); go_simp; (try with_reducible rfl))); (try simp only [Act.put, List.setIfInBounds_toArray, List.set_cons_zero, List.set_cons_succ]))
        (refine wpAnyH_take (i := 5) (v := ?v5n14) (by simp only [List.getElem?_toArray, List.getElem?_cons_succ, List.getElem?_cons_zero]; rfl) (by kernel_rfl) (by kernel_rfl) (by kernel_rfl) (fun _ _ _ h => False.elim h) (Or.inl ⟨by rfl, ?hy5n14⟩) (by assumption) ?rest5n14; (case hy5n14 => (intro w hSw; (try dsimp only at hSw); go_simp; (try with_reducible rfl))); (try simp only [Act.put, List.setIfInBounds_toArray, List.set_cons_zero, List.set_cons_succ]))
        (refine wpAnyH_take (i := 6) (v := ?v6n15) (by simp only [List.getElem?_toArray, List.getElem?_cons_succ, List.getElem?_cons_zero]; rfl) (by kernel_rfl) (by kernel_rfl) (by kernel_rfl) (fun _ _ _ h => False.elim h) (Or.inl ⟨by rfl, ?hy6n15⟩) (by assumption) ?rest6n15; (case hy6n15 => (intro w hSw; (try dsimp only at hSw); go_simp; (try with_reducible rfl))); (try simp only [Act.put, List.setIfInBounds_toArray, List.set_cons_zero, List.set_cons_succ]))
        (refine wpAnyH_ready (rs := [1]) (by kernel_rfl) (by simp) ?_; refine AllReadyH.cons (o := _) (by simp only [List.getElem?_toArray, List.getElem?_cons_succ, List.getElem?_cons_zero]; rfl) (fun K hK => ?_) AllReadyH.nil; go_simp; ((with_reducible refine (HCall.out _ n0).mono ?_); rintro e x1 ⟨rfl, hbx1⟩; have m1 := n0.trans (hbx1.mono n0.size)); refine hK.out _ _ (by exact HC.out _ m1) (fun hHeld => ?_); clear hK K; (try simp only [Act.put, List.setIfInBounds_toArray, List.set_cons_zero, List.set_cons_succ]))
        (refine wpAnyH_take (i := 7) (v := ?v7n16) (by simp only [List.getElem?_toArray, List.getElem?_cons_succ, List.getElem?_cons_zero]; rfl) (by kernel_rfl) (by kernel_rfl) (by kernel_rfl) (fun _ _ _ h => False.elim h) (Or.inl ⟨by rfl, ?hy7n16⟩) (by assumption) ?rest7n16; (case hy7n16 => (intro w hSw; (try dsimp only at hSw); go_simp; (try with_reducible rfl))); (try simp only [Act.put, List.setIfInBounds_toArray, List.set_cons_zero, List.set_cons_succ]))
        (refine wpAnyH_take (i := 8) (v := ?v8n17) (by simp only [List.getElem?_toArray, List.getElem?_cons_succ, List.getElem?_cons_zero]; rfl) (by kernel_rfl) (by kernel_rfl) (by kernel_rfl) (fun _ _ _ h => False.elim h) (Or.inl ⟨by rfl, ?hy8n17⟩) (by assumption) ?rest8n17; (case hy8n17 => (intro w hSw; (try dsimp only at hSw); go_simp; (try with_reducible rfl))); (try simp only [Act.put, List.setIfInBounds_toArray, List.set_cons_zero, List.set_cons_succ]))
        refine wpAnyH_done (by kernel_rfl) ?_ _
        refine NoPanic.normal ?_
        have HM1 := Lib.hid m1
        clear m1 hbx1 hHeld n0
        go_wp2
        go_ret
        exact ⟨by simp [hle], HBw.out _ (HB.out.trans (HM1.out.mono HB.out.size))⟩
end Cb
end Go.Proofs.YteekonojmpihlaaDoor
