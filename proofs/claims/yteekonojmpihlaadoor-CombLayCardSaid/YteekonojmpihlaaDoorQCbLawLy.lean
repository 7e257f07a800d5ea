/- The law CombLay: its walk. -/
import Derived.Test.YteekonojmpihlaaDoorQCbRLay
import Derived.Test.YteekonojmpihlaaDoorQCbRLa
import Derived.Test.YteekonojmpihlaaDoorQCbSame
import Derived.Test.YteekonojmpihlaaDoorQCbLayNo
import Derived.Test.YteekonojmpihlaaDoorQCbAlive
import Derived.Test.YteekonojmpihlaaDoorQCbLong
import Derived.Test.YteekonojmpihlaaDoorQErr
import Derived.Deep.RegionHeld3
namespace Go.Proofs.YteekonojmpihlaaDoor
namespace Kt
end Kt
open Go Go.RowKit Kt
namespace Cb
theorem laid_lens {rows : List (List Int)} {c : Cs} (h : Laid rows c) (hy : layable rows = true) : c.base.length = rows.length ∧ c.dflt.length = rows.length ∧ c.next.length ≤ 51200 ∧ c.check.length ≤ 51200 := by
  have hlo := lyF_of hy
  have hi := layL_inv hlo.wide.2 hlo.len
  have h1 := hi.le
  rw [ord_len] at h1
  have h2 := hlo.many
  have h3 := hi.len
  rw [h.base, h.dflt, h.next, h.check]
  refine ⟨hi.bl, by simp, by omega, by omega⟩
theorem laid_same {rows : List (List Int)} {c d : Cs} (h : Laid rows c) (k : Laid rows d) : sameC c d = true := by
  unfold sameC
  rw [h.wide, h.base, h.dflt, h.next, h.check, k.wide, k.base, k.dflt, k.next, k.check]
  simp
set_option maxHeartbeats 8000000 in
set_option maxRecDepth 100000 in
theorem ly_law (ra : Option Addr) (n rc : Nat) (L0 : List IRow) (rows : List (List Int)) (hL : L0.map (·.l) = rows) (hn : L0.length = n) (hnM : n ≤ 9223372036854775807) (A : Nat → Addr) (w : World) (hr : Rd w ra (L0.map IRow.v)) (hok : ∀ r ∈ L0, r.ok w) (hS : Sent 204 w A Er.egs) :
    Calls Tryd.prog 8 #[.slice ra n rc] w fun e w' => e = .returned (.bool true) ∧ Below w.heap.size w w' := by
  have hAl : ∀ W, Calls Tryd.prog 34 #[] W fun e w' => e = .returned (.bool true) ∧ Below W.heap.size W w' := alive_c
  have hrn : rows.length = n := by rw [← hL, List.length_map]; exact hn
  have hX : ∀ W, Below w.heap.size w W → W.cell? ⟨1, 0, none⟩ = some (Er.ev A 1) := fun W hb => (hS.keep hb).cell 1 (by simp [Er.egs])
  have hSn : ∀ W, Below w.heap.size w W → Calls Tryd.prog 27 #[Er.ev A 1] W fun e w' => e = .returned (.int .i64 4) ∧ Below W.heap.size W w' := fun W hb => Er.num_at A 1 4 3 (by omega) rfl (by omega) W (hS.keep hb)
  have hmx : ∀ r ∈ L0, r.l.length ≤ 9223372036854775807 := fun r h => by have h3 := (hok r h).cap; have h4 := (hok r h).max; unfold maxLen at h4; omega
  have hlong : ∀ W, Below w.heap.size w W → Calls Tryd.prog 35 #[.slice ra n rc] W fun e w' => e = .returned (.bool (longL rows)) ∧ W = w' := fun W hb => long_c ra n rc L0 rows hL hn hnM hmx W (hr.keep hb)
  have hLa : ∀ W, Below w.heap.size w W → Calls Tryd.prog 41 #[.slice ra n rc] W fun e w' => e = .returned (.bool (layable rows)) ∧ W = w' := fun W hb => rlayable_c ra n rc L0 rows hL hn hnM hmx W (hr.keep hb) (fun r h => (hok r h).keep hb)
  have HAl := Lib.hid (hAl w)
  have HLong := Lib.hid hlong
  have HLa := Lib.hid hLa
  have HSn := Lib.hid hSn
  have HX := Lib.hid hX
  have HL := Lib.hid (And.intro hL (And.intro hn (And.intro hrn (And.intro hr hok))))
  clear hAl hX hSn hlong hLa hmx hL hn hrn hr hok hS
  go_enter Tryd.func8, Tryd.ntmps8
  go_wp2_with fail
  refine HAl.out.mono ?_
  rintro _ w2 ⟨rfl, hb2⟩
  have HB2 := Lib.hid hb2
  have HLg := Lib.hid (HLong.out w2 hb2)
  clear hb2 HAl HLong
  go_wp2_with fail
  refine HLg.out.mono ?_
  rintro _ _ ⟨rfl, rfl⟩
  clear HLg
  obtain ⟨LG, hLG⟩ : ∃ b, longL rows = b := ⟨_, rfl⟩
  rw [hLG]
  cases LG with
  | true =>
    clear hLG
    go_wp2
    go_ret
    exact ⟨rfl, HB2.out⟩
  | false =>
    have hsm : n ≤ 30 ∧ ∀ r ∈ rows, r.length ≤ 60 := by
      unfold longL at hLG
      rw [Bool.or_eq_false_iff, decide_eq_false_iff_not, List.any_eq_false, HL.out.2.2.1] at hLG
      exact ⟨by omega, fun r h => by have := hLG.2 r h; simpa using this⟩
    have hn30 := hsm.1
    clear hLG hsm
    obtain ⟨LY, hLY⟩ : ∃ b, layable rows = b := ⟨_, rfl⟩
    obtain ⟨hL, hn, hrn, hr, hok⟩ := HL.out
    rw [hLY] at HLa
    cases LY with
    | false =>
      have hno := lay_no ra n rc L0 rows hL hn (by omega) hLY w2 (hr.keep HB2.out) (fun r h => (hok r h).keep HB2.out) _ (HX.out w2 HB2.out)
      have hOwn : ∀ W, Below w.heap.size w W → Calls Tryd.prog 37 #[.slice ra n rc] W fun e w' => e = .returned (.int .i64 0) ∧ Below W.heap.size W w' := fun W hb => Own_no ra n rc L0 rows hL hn (by omega) hLY W (hr.keep hb) (fun r h => (hok r h).keep hb)
      have HNo := Lib.hid hno
      have HOwn := Lib.hid hOwn
      obtain ⟨EV, hEV⟩ : ∃ e, Er.ev A 1 = e := ⟨_, rfl⟩
      rw [hEV] at HNo HSn
      clear hL hn hrn hr hok hLY hno hOwn HL HX hEV
      go_wp2_with fail
      refine HNo.out.mono ?_
      rintro _ w3 ⟨rfl, hb3⟩
      have HB3 := Lib.hid (HB2.out.trans (hb3.mono HB2.out.size))
      have hcv0 : cv cs0 = .agg #[.int .i64 0, .slice none 0 0, .slice none 0 0, .slice none 0 0, .slice none 0 0] := rfl
      rw [hcv0]
      clear hb3 hcv0
      obtain ⟨W4, hW4⟩ : ∃ W, w3.alloc (.cells #[.int .i64 0, .slice none 0 0, .slice none 0 0, .slice none 0 0, .slice none 0 0] 71 (0, 0)) = W := ⟨_, rfl⟩
      have b4 : Below w3.heap.size w3 W4 := by rw [← hW4]; exact (Below.refl _ _).alloc (Nat.le_refl _) _
      have s4 : W4.heap[w3.heap.size]? = some (.cells #[.int .i64 0, .slice none 0 0, .slice none 0 0, .slice none 0 0, .slice none 0 0] 71 (0, 0)) := by rw [← hW4]; exact heap_alloc_new _ _
      obtain ⟨z0, z1, z2, z3, z4⟩ := box5 s4
      have HB4 := Lib.hid (HB3.out.trans (b4.mono HB3.out.size))
      have HLaW := Lib.hid (HLa.out W4 HB4.out)
      have HNumW := Lib.hid (HSn.out W4 HB4.out)
      have HW4 := Lib.hid hW4
      clear b4 s4 hW4 HLa HSn
      go_upto_region 6 with (fail)
      rw [HW4.out]
      go_wp2_with fail
      refine HLaW.out.mono ?_
      rintro _ _ ⟨rfl, rfl⟩
      go_wp2_with fail
      refine HNumW.out.mono ?_
      rintro _ w5 ⟨rfl, hb5⟩
      have HB5 := Lib.hid (HB4.out.trans (hb5.mono HB4.out.size))
      clear hb5
      go_wp2_with fail
      refine (HOwn.out w5 HB5.out).mono ?_
      rintro _ w6 ⟨rfl, hb6⟩
      have HB6 := Lib.hid (HB5.out.trans (hb6.mono HB5.out.size))
      clear hb6
      go_wp2
      go_ret
      exact ⟨rfl, HB6.out⟩
    | true =>
      have hlo := lyF_of hLY
      obtain ⟨f, hf⟩ : ∃ f, (rows.getD 0 []).length = f := ⟨_, rfl⟩
      rw [hf] at hlo
      have hcl := lay_c ra n rc L0 rows hL hn (by omega) hLY w2 (hr.keep HB2.out) (fun r h => (hok r h).keep HB2.out)
      have hLr : ∀ W, Below w.heap.size w W → Calls Tryd.prog 44 #[.slice ra n rc] W fun e w' => ∃ c : Cs, e = .returned (cv c) ∧ Laid rows c ∧ Is w' c ∧ Below W.heap.size W w' := fun W hb => rlay_c ra n rc L0 rows hL hn hLY W (hr.keep hb) (fun r h => (hok r h).keep hb)
      have hOwn : ∀ W, Below w.heap.size w W → Calls Tryd.prog 37 #[.slice ra n rc] W fun e w' => e = .returned (.int .i64 (ownAll rows : Nat)) ∧ Below W.heap.size W w' := fun W hb => Own_c ra n rc L0 rows hL hn (by omega) hLY W (hr.keep hb) (fun r h => (hok r h).keep hb)
      have hsl : ∀ k, ownSum rows k ≤ k * 256 := ownSum_le (fun r hrm => by have := hlo.len r hrm; have := hlo.wide; omega)
      have hrowk : ∀ k, k < n → ∀ W, Below w.heap.size w W → ∃ (rk : IRow) (b o : Nat), ra = some (⟨b, o, none⟩ : Addr) ∧ W.cell? ⟨b, o + k, none⟩ = some (.slice rk.a f rk.cap) ∧ rk.l.length = f ∧ L0[k]? = some rk ∧ rk.ok W ∧ ownSum rows (k + 1) = ownSum rows k + ownN rk.l ∧ Calls Tryd.prog 42 #[.slice rk.a f rk.cap, .int .i64 (n : Int)] W fun e w' => e = .returned (.int .i64 (ownN rk.l : Nat)) ∧ W = w' := fun k hk W hb => by
        have hkL : k < L0.length := by omega
        obtain ⟨b, o, ha, hc⟩ := (hr.keep hb).map_at k hkL
        have hg : rows[k]? = some L0[k].l := by rw [← hL, List.getElem?_map, List.getElem?_eq_getElem hkL]; rfl
        have hm : L0[k].l ∈ rows := by rw [← hL]; exact List.mem_map_of_mem (List.getElem_mem hkL)
        have hl := hlo.len _ hm
        have hw := hlo.wide
        have hokk := (hok _ (List.getElem_mem hkL)).keep hb
        refine ⟨L0[k], b, o, ha, ?_, hl, List.getElem?_eq_getElem hkL, hokk, ownSum_succ hg, rown_c L0[k].l L0[k].a f L0[k].cap n hl (by omega) (fun e => by rw [e] at hl; simp at hl; omega) (by omega) (fun x hx => by have := hlo.num _ hm x hx; omega) W hokk.rd⟩
        rw [hc]
        unfold IRow.v
        rw [hl]
      have hall := ownSum_all (rows := rows) (k := n) (by rw [hrn]; exact Nat.le_refl _)
      have hmap : L0.map (·.l) = rows := hL
      have HCl := Lib.hid hcl
      have HLr := Lib.hid hLr
      have HOwn := Lib.hid hOwn
      have HSl := Lib.hid hsl
      have HRow := Lib.hid hrowk
      have HAll := Lib.hid hall
      have HLay := Lib.hid hLY
      have HHf := Lib.hid hf
      have HRn := Lib.hid hrn
      clear hcl hLr hOwn hsl hrowk hall hlo hL hn hrn hr hok hLY hf HX HSn hmap
      go_wp2_with fail
      refine HCl.out.mono ?_
      rintro _ w3 ⟨c2, rfl, e1, e2, e3, e4, e5, hI2, hb3⟩
      have hld : Laid rows c2 := ⟨e1, e2, e3, e4, e5⟩
      have hlens := laid_lens hld HLay.out
      have hcv2 : cv c2 = .agg #[.int .i64 (f : Int), .slice c2.a1 n c2.c1, .slice c2.a2 c2.dflt.length c2.c2, .slice c2.a3 c2.next.length c2.c3, .slice c2.a4 c2.check.length c2.c4] := by
        unfold cv cells
        rw [hlens.1, HRn.out, e1, HHf.out]
      have hR2 : ∀ W, Below w3.heap.size w3 W → Calls Tryd.prog 38 #[cv c2] W fun e w' => ∃ (a : Option Addr) (cap : Nat) (L : List IRow), e = .returned (.tuple #[.slice a c2.base.length cap, .nilIface]) ∧ L.length = c2.base.length ∧ Rd w' a (L.map IRow.v) ∧ (∀ r ∈ L, r.ok w') ∧ L.map (·.l) = rowsC c2 ∧ Below W.heap.size W w' := fun W hb => rows_c c2 (laid_right hld HLay.out) W (hI2.below hb)
      rw [laid_rows hld HLay.out, hlens.1, HRn.out] at hR2
      have hRt : ∀ W, Below w3.heap.size w3 W → Calls Tryd.prog 39 #[cv c2] W fun e w' => e = .returned (.bool true) ∧ Below W.heap.size W w' := fun W hb => by
        have h := Right_c c2 W (hI2.below hb)
        rw [laid_right hld HLay.out] at h
        exact h
      have hSm : ∀ c3, Laid rows c3 → ∀ W, Is W c3 → Below w3.heap.size w3 W → Calls Tryd.prog 43 #[cv c2, cv c3] W fun e w' => e = .returned (.bool true) ∧ Below W.heap.size W w' := fun c3 h3 W hI3 hb => by
        have hl3 := laid_lens h3 HLay.out
        have hr3 := HRn.out
        have h := rsame_c c2 c3 W (hI2.below hb) hI3 (by omega) (by omega)
        rw [laid_same hld h3] at h
        exact h
      rw [hcv2] at hR2 hRt hSm
      rw [hcv2]
      generalize c2.a1 = B1 at *
      generalize c2.a2 = B2 at *
      generalize c2.a3 = B3 at *
      generalize c2.a4 = B4 at *
      generalize c2.c1 = q1 at *
      generalize c2.c2 = q2 at *
      generalize c2.c3 = q3 at *
      generalize c2.c4 = q4 at *
      generalize c2.dflt.length = p2 at *
      generalize c2.next.length = p3 at *
      generalize c2.check.length = p4 at *
      obtain ⟨W4, hW4⟩ : ∃ W, w3.alloc (.cells #[.int .i64 (f : Int), .slice B1 n q1, .slice B2 p2 q2, .slice B3 p3 q3, .slice B4 p4 q4] 71 (0, 0)) = W := ⟨_, rfl⟩
      have b4 : Below w3.heap.size w3 W4 := by rw [← hW4]; exact (Below.refl _ _).alloc (Nat.le_refl _) _
      have s4 : W4.heap[w3.heap.size]? = some (.cells #[.int .i64 (f : Int), .slice B1 n q1, .slice B2 p2 q2, .slice B3 p3 q3, .slice B4 p4 q4] 71 (0, 0)) := by rw [← hW4]; exact heap_alloc_new _ _
      have hb4 : Below w.heap.size w W4 := (HB2.out.trans (hb3.mono HB2.out.size)).trans (b4.mono (by have := HB2.out.size; have := hb3.size; omega))
      obtain ⟨CB, hCB⟩ : ∃ x, w3.heap.size = x := ⟨_, rfl⟩
      rw [hCB] at s4
      have HC : Hid (∀ W, Below W4.heap.size W4 W → W.cell? ⟨CB, 0, none⟩ = some (.int .i64 (f : Int)) ∧ W.cell? ⟨CB, 1, none⟩ = some (.slice B1 n q1) ∧ W.cell? ⟨CB, 2, none⟩ = some (.slice B2 p2 q2) ∧ W.cell? ⟨CB, 3, none⟩ = some (.slice B3 p3 q3) ∧ W.cell? ⟨CB, 4, none⟩ = some (.slice B4 p4 q4)) := Lib.hid (fun W hb => box5 ((hb.block _ (block_lt s4)).trans s4))
      have HBw : Hid (∀ W, Below W4.heap.size W4 W → Below w.heap.size w W) := Lib.hid (fun W hb => hb4.trans (hb.mono hb4.size))
      have HR2 : Hid _ := Lib.hid (fun W (hb : Below W4.heap.size W4 W) => hR2 W (b4.trans (hb.mono b4.size)))
      have HRt : Hid _ := Lib.hid (fun W (hb : Below W4.heap.size W4 W) => hRt W (b4.trans (hb.mono b4.size)))
      have HSm : Hid _ := Lib.hid (fun c3 h3 W hI (hb : Below W4.heap.size W4 W) => hSm c3 h3 W hI (b4.trans (hb.mono b4.size)))
      have HW4 := Lib.hid hW4
      have HLaW := Lib.hid (HLa.out W4 hb4)
      clear hR2 hRt hSm hW4 b4 s4 hb4 hb3 hcv2 hlens hld e1 e2 e3 e4 e5 hI2 HCl HLa
      go_upto_region 6 with (fail)
      rw [HW4.out]
      try rw [hCB]
      clear hCB HW4
      go_wp2_with fail
      refine HLaW.out.mono ?_
      rintro _ _ ⟨rfl, rfl⟩
      clear HLaW
      go_wp2
      go_loopw [5, 7, 38] (fun s _ i W => ∃ k : Nat, k ≤ n ∧ i = .int .i64 (k : Int) ∧ s = .int .i64 (ownSum rows k : Nat) ∧ W = W4) (fun _ _ i _ => n - (intOf i).toNat)
      case atStart => exact ⟨0, Nat.zero_le _, rfl, rfl, (by first | rfl | trivial)⟩
      case round =>
        obtain ⟨k, hk, rfl, rfl, rfl⟩ := hrel
        by_cases hlt : k < n
        · as_aux_lemma =>
            obtain ⟨rk, b, o, rfl, hc, _, _, _, hs, hcall⟩ := HRow.out k hlt wr (HBw.out wr (Below.refl _ _))
            have hki : (k : Int) < (n : Int) := by omega
            have hs2 := HSl.out (k + 1)
            obtain ⟨S, hS⟩ : ∃ S, ownSum rows k = S := ⟨_, rfl⟩
            obtain ⟨T, hT⟩ : ∃ T, ownN rk.l = T := ⟨_, rfl⟩
            rw [hS, hT] at hs
            rw [hT] at hcall
            rw [hs] at hs2
            rw [hS]
            have HCl2 := Lib.hid hcall
            have HS := Lib.hid hs
            clear hcall hs hS hT
            go_wp2_with fail
            refine HCl2.out.mono ?_
            rintro _ _ ⟨rfl, rfl⟩
            go_wp2
            go_roundw
            case rel => exact ⟨k + 1, hlt, by go_num, by rw [HS.out]; go_num, (by first | trivial | rfl)⟩
            case measure => simp [intOf]; omega
        · obtain rfl : k = n := by omega
          as_aux_lemma =>
            have hnlt : ¬ (k : Int) < (k : Int) := by omega
            rw [HAll.out]
            have n0 : Below wr.heap.size wr wr.drew := (Below.refl _ _).drew
            go_wp2_with fail
            refine wp_region_noPanic ?_
            refine wp_region_held_drew (S := fun W => W.cell? ⟨CB, 0, none⟩ = some (.int .i64 (f : Int)) ∧ W.cell? ⟨CB, 1, none⟩ = some (.slice B1 k q1) ∧ W.cell? ⟨CB, 2, none⟩ = some (.slice B2 p2 q2) ∧ W.cell? ⟨CB, 3, none⟩ = some (.slice B3 p3 q3) ∧ W.cell? ⟨CB, 4, none⟩ = some (.slice B4 p4 q4)) (by kernel_rfl) (HC.out _ n0) (fun hHeld => ?_)
            (refine wpAnyH_take (i := 0) (v := ?v0n1) (by simp only [List.getElem?_toArray, List.getElem?_cons_succ, List.getElem?_cons_zero]; rfl) (by kernel_rfl) (by kernel_rfl) (by kernel_rfl) (fun _ _ _ h => False.elim h) (Or.inl ⟨by rfl, ?hy0n1⟩) (by assumption) ?rest0n1; (case hy0n1 => (intro w hSw; (try dsimp only at hSw); go_simp; (try with_reducible rfl))); (try simp only [Act.put, List.setIfInBounds_toArray, List.set_cons_zero, List.set_cons_succ]))
            (refine wpAnyH_take (i := 1) (v := ?v1n2) (by simp only [List.getElem?_toArray, List.getElem?_cons_succ, List.getElem?_cons_zero]; rfl) (by kernel_rfl) (by kernel_rfl) (by kernel_rfl) (fun _ _ _ h => False.elim h) (Or.inl ⟨by rfl, ?hy1n2⟩) (by assumption) ?rest1n2; (case hy1n2 => (intro w hSw; (try dsimp only at hSw); go_simp; (try with_reducible rfl))); (try simp only [Act.put, List.setIfInBounds_toArray, List.set_cons_zero, List.set_cons_succ]))
            (refine wpAnyH_take (i := 2) (v := ?v2n3) (by simp only [List.getElem?_toArray, List.getElem?_cons_succ, List.getElem?_cons_zero]; rfl) (by kernel_rfl) (by kernel_rfl) (by kernel_rfl) (fun _ _ _ h => False.elim h) (Or.inl ⟨by rfl, ?hy2n3⟩) (by assumption) ?rest2n3; (case hy2n3 => (intro w hSw; (try dsimp only at hSw); go_simp; (try with_reducible rfl))); (try simp only [Act.put, List.setIfInBounds_toArray, List.set_cons_zero, List.set_cons_succ]))
            (refine wpAnyH_take (i := 3) (v := ?v3n4) (by simp only [List.getElem?_toArray, List.getElem?_cons_succ, List.getElem?_cons_zero]; rfl) (by kernel_rfl) (by kernel_rfl) (by kernel_rfl) (fun _ _ _ h => False.elim h) (Or.inl ⟨by rfl, ?hy3n4⟩) (by assumption) ?rest3n4; (case hy3n4 => (intro w hSw; (try dsimp only at hSw); go_simp; (try with_reducible rfl))); (try simp only [Act.put, List.setIfInBounds_toArray, List.set_cons_zero, List.set_cons_succ]))
            (refine wpAnyH_take (i := 4) (v := ?v4n5) (by simp only [List.getElem?_toArray, List.getElem?_cons_succ, List.getElem?_cons_zero]; rfl) (by kernel_rfl) (by kernel_rfl) (by kernel_rfl) (fun _ _ _ h => False.elim h) (Or.inl ⟨by rfl, ?hy4n5⟩) (by assumption) ?rest4n5; (case hy4n5 => (intro w hSw; (try dsimp only at hSw); go_simp; (try with_reducible rfl))); (try simp only [Act.put, List.setIfInBounds_toArray, List.set_cons_zero, List.set_cons_succ]))
            (refine wpAnyH_ready (rs := [5]) (by kernel_rfl) (by simp) ?_; refine AllReadyH.cons (o := _) (by simp only [List.getElem?_toArray, List.getElem?_cons_succ, List.getElem?_cons_zero]; rfl) (fun K hK => ?_) AllReadyH.nil; go_simp; ((with_reducible refine (HLr.out _ (HBw.out _ n0)).mono ?_); rintro e x1 ⟨c3, rfl, hl3, hI3, hbx1⟩; have m1 := n0.trans (hbx1.mono n0.size)); refine hK.out _ _ (by exact HC.out _ m1) (fun hHeld => ?_); clear hK K; (try simp only [Act.put, List.setIfInBounds_toArray, List.set_cons_zero, List.set_cons_succ]))
            (refine wpAnyH_ready (rs := [6]) (by kernel_rfl) (by simp) ?_; refine AllReadyH.cons (o := _) (by simp only [List.getElem?_toArray, List.getElem?_cons_succ, List.getElem?_cons_zero]; rfl) (fun K hK => ?_) AllReadyH.nil; go_simp; ((with_reducible refine (HSm.out c3 hl3 _ hI3 m1).mono ?_); rintro e x2 ⟨rfl, hbx2⟩; have m2 := m1.trans (hbx2.mono m1.size)); refine hK.out _ _ (by exact HC.out _ m2) (fun hHeld => ?_); clear hK K; (try simp only [Act.put, List.setIfInBounds_toArray, List.set_cons_zero, List.set_cons_succ]))
            (refine wpAnyH_take (i := 7) (v := ?v7n6) (by simp only [List.getElem?_toArray, List.getElem?_cons_succ, List.getElem?_cons_zero]; rfl) (by kernel_rfl) (by kernel_rfl) (by kernel_rfl) (fun _ _ _ h => False.elim h) (Or.inl ⟨by rfl, ?hy7n6⟩) (by assumption) ?rest7n6; (case hy7n6 => (intro w hSw; (try dsimp only at hSw); go_simp; (try with_reducible rfl))); (try simp only [Act.put, List.setIfInBounds_toArray, List.set_cons_zero, List.set_cons_succ]))
            (refine wpAnyH_take (i := 8) (v := ?v8n7) (by simp only [List.getElem?_toArray, List.getElem?_cons_succ, List.getElem?_cons_zero]; rfl) (by kernel_rfl) (by kernel_rfl) (by kernel_rfl) (fun _ _ _ h => False.elim h) (Or.inl ⟨by rfl, ?hy8n7⟩) (by assumption) ?rest8n7; (case hy8n7 => (intro w hSw; (try dsimp only at hSw); go_simp; (try with_reducible rfl))); (try simp only [Act.put, List.setIfInBounds_toArray, List.set_cons_zero, List.set_cons_succ]))
            (refine wpAnyH_take (i := 9) (v := ?v9n8) (by simp only [List.getElem?_toArray, List.getElem?_cons_succ, List.getElem?_cons_zero]; rfl) (by kernel_rfl) (by kernel_rfl) (by kernel_rfl) (fun _ _ _ h => False.elim h) (Or.inl ⟨by rfl, ?hy9n8⟩) (by assumption) ?rest9n8; (case hy9n8 => (intro w hSw; (try dsimp only at hSw); go_simp; (try with_reducible rfl))); (try simp only [Act.put, List.setIfInBounds_toArray, List.set_cons_zero, List.set_cons_succ]))
            (refine wpAnyH_take (i := 10) (v := ?v10n9) (by simp only [List.getElem?_toArray, List.getElem?_cons_succ, List.getElem?_cons_zero]; rfl) (by kernel_rfl) (by kernel_rfl) (by kernel_rfl) (fun _ _ _ h => False.elim h) (Or.inl ⟨by rfl, ?hy10n9⟩) (by assumption) ?rest10n9; (case hy10n9 => (intro w hSw; (try dsimp only at hSw); go_simp; (try with_reducible rfl))); (try simp only [Act.put, List.setIfInBounds_toArray, List.set_cons_zero, List.set_cons_succ]))
            (refine wpAnyH_ready (rs := [11]) (by kernel_rfl) (by simp) ?_; refine AllReadyH.cons (o := _) (by simp only [List.getElem?_toArray, List.getElem?_cons_succ, List.getElem?_cons_zero]; rfl) (fun K hK => ?_) AllReadyH.nil; go_simp; ((with_reducible refine (HRt.out _ m2).mono ?_); rintro e x3 ⟨rfl, hbx3⟩; have m3 := m2.trans (hbx3.mono m2.size)); refine hK.out _ _ (by exact HC.out _ m3) (fun hHeld => ?_); clear hK K; (try simp only [Act.put, List.setIfInBounds_toArray, List.set_cons_zero, List.set_cons_succ]))
            (refine wpAnyH_take (i := 12) (v := ?v12n10) (by simp only [List.getElem?_toArray, List.getElem?_cons_succ, List.getElem?_cons_zero]; rfl) (by kernel_rfl) (by kernel_rfl) (by kernel_rfl) (fun _ _ _ h => False.elim h) (Or.inl ⟨by rfl, ?hy12n10⟩) (by assumption) ?rest12n10; (case hy12n10 => (intro w hSw; (try dsimp only at hSw); go_simp; (try with_reducible rfl))); (try simp only [Act.put, List.setIfInBounds_toArray, List.set_cons_zero, List.set_cons_succ]))
            (refine wpAnyH_take (i := 13) (v := ?v13n11) (by simp only [List.getElem?_toArray, List.getElem?_cons_succ, List.getElem?_cons_zero]; rfl) (by kernel_rfl) (by kernel_rfl) (by kernel_rfl) (fun _ _ _ h => False.elim h) (Or.inl ⟨by rfl, ?hy13n11⟩) (by assumption) ?rest13n11; (case hy13n11 => (intro w hSw; (try dsimp only at hSw); go_simp; (try with_reducible rfl))); (try simp only [Act.put, List.setIfInBounds_toArray, List.set_cons_zero, List.set_cons_succ]))
            (refine wpAnyH_take (i := 14) (v := ?v14n12) (by simp only [List.getElem?_toArray, List.getElem?_cons_succ, List.getElem?_cons_zero]; rfl) (by kernel_rfl) (by kernel_rfl) (by kernel_rfl) (fun _ _ _ h => False.elim h) (Or.inl ⟨by rfl, ?hy14n12⟩) (by assumption) ?rest14n12; (case hy14n12 => (intro w hSw; (try dsimp only at hSw); go_simp; (try with_reducible rfl))); (try simp only [Act.put, List.setIfInBounds_toArray, List.set_cons_zero, List.set_cons_succ]))
            (refine wpAnyH_take (i := 15) (v := ?v15n13) (by simp only [List.getElem?_toArray, List.getElem?_cons_succ, List.getElem?_cons_zero]; rfl) (by kernel_rfl) (by kernel_rfl) (by kernel_rfl) (fun _ _ _ h => False.elim h) (Or.inl ⟨by rfl, ?hy15n13⟩) (by assumption) ?rest15n13; (case hy15n13 => (intro w hSw; (try dsimp only at hSw); go_simp; (try with_reducible rfl))); (try simp only [Act.put, List.setIfInBounds_toArray, List.set_cons_zero, List.set_cons_succ]))
            (refine wpAnyH_take (i := 17) (v := ?v17n14) (by simp only [List.getElem?_toArray, List.getElem?_cons_succ, List.getElem?_cons_zero]; rfl) (by kernel_rfl) (by kernel_rfl) (by kernel_rfl) (fun _ _ _ h => False.elim h) (Or.inl ⟨by rfl, ?hy17n14⟩) (by assumption) ?rest17n14; (case hy17n14 => (intro w hSw; (try dsimp only at hSw); go_simp; (try with_reducible rfl))); (try simp only [Act.put, List.setIfInBounds_toArray, List.set_cons_zero, List.set_cons_succ]))
            (refine wpAnyH_ready (rs := [16]) (by kernel_rfl) (by simp) ?_; refine AllReadyH.cons (o := _) (by simp only [List.getElem?_toArray, List.getElem?_cons_succ, List.getElem?_cons_zero]; rfl) (fun K hK => ?_) AllReadyH.nil; go_simp; ((with_reducible refine (HOwn.out _ (HBw.out _ m3)).mono ?_); rintro e x4 ⟨rfl, hbx4⟩; have m4 := m3.trans (hbx4.mono m3.size)); refine hK.out _ _ (by exact HC.out _ m4) (fun hHeld => ?_); clear hK K; (try simp only [Act.put, List.setIfInBounds_toArray, List.set_cons_zero, List.set_cons_succ]))
            (refine wpAnyH_take (i := 18) (v := ?v18n15) (by simp only [List.getElem?_toArray, List.getElem?_cons_succ, List.getElem?_cons_zero]; rfl) (by kernel_rfl) (by kernel_rfl) (by kernel_rfl) (fun _ _ _ h => False.elim h) (Or.inl ⟨by rfl, ?hy18n15⟩) (by assumption) ?rest18n15; (case hy18n15 => (intro w hSw; (try dsimp only at hSw); go_simp; (try with_reducible rfl))); (try simp only [Act.put, List.setIfInBounds_toArray, List.set_cons_zero, List.set_cons_succ]))
            (refine wpAnyH_take (i := 19) (v := ?v19n16) (by simp only [List.getElem?_toArray, List.getElem?_cons_succ, List.getElem?_cons_zero]; rfl) (by kernel_rfl) (by kernel_rfl) (by kernel_rfl) (fun _ _ _ h => False.elim h) (Or.inl ⟨by rfl, ?hy19n16⟩) (by assumption) ?rest19n16; (case hy19n16 => (intro w hSw; (try dsimp only at hSw); go_simp; (try with_reducible rfl))); (try simp only [Act.put, List.setIfInBounds_toArray, List.set_cons_zero, List.set_cons_succ]))
            refine wpAnyH_done (by kernel_rfl) ?_ _
            refine NoPanic.normal ?_
            have HM4 := Lib.hid m4
            obtain ⟨z0, z1, z2, z3, z4⟩ := HC.out _ m4
            have HR5 := Lib.hid (HR2.out _ m4)
            clear m1 m2 m3 m4 n0 hHeld hbx1 hbx2 hbx3 hbx4 hI3 HSm HRt HLr HOwn HSl HAll
            go_wp2_with fail
            refine HR5.out.mono ?_
            rintro _ w9 ⟨rb, rcap2, L2, rfl, hLl2, hLr2, hLo2, hLm2, hb9⟩
            have HLr2 := Lib.hid hLr2
            have HLo2 := Lib.hid hLo2
            have HLl2 := Lib.hid hLl2
            have HLm2 := Lib.hid hLm2
            have HB9 : Hid (∀ W, Below w9.heap.size w9 W → Below w.heap.size w W) := Lib.hid (fun W hb => HBw.out W ((HM4.out.trans (hb9.mono HM4.out.size)).trans (hb.mono (by have := HM4.out.size; have := hb9.size; omega))))
            clear hLl2 hLr2 hLo2 hLm2 hb9 z0 z1 z2 z3 z4 HR5 HR2 HC HM4
            go_wp2
            go_loopw [9, 85] (fun _ i W => ∃ j : Nat, j ≤ k ∧ i = .int .i64 (j : Int) ∧ Below w9.heap.size w9 W) (fun _ i _ => k - (intOf i).toNat)
            case atStart => exact ⟨0, Nat.zero_le _, rfl, Below.refl _ _⟩
            case round =>
              obtain ⟨j, hj, rfl, hB⟩ := hrel
              by_cases hlt2 : j < k
              · as_aux_lemma =>
                  have hji : (j : Int) < (k : Int) := by omega
                  have hji0 : (0 : Int) ≤ (j : Int) := by omega
                  have h2 : j < L2.length := by rw [HLl2.out]; exact hlt2
                  obtain ⟨r1, b, o, ha, hc, hlf, hg1, ok1, _, _⟩ := HRow.out j hlt2 wr (HB9.out wr hB)
                  obtain ⟨b2, o2, ha2, hc2⟩ := (HLr2.out.keep hB).map_at j h2
                  have hll : r1.l = L2[j].l := by
                    have e1 : (L0.map (·.l))[j]? = some r1.l := by rw [List.getElem?_map, hg1]; rfl
                    have e2 : (L2.map (·.l))[j]? = some L2[j].l := by rw [List.getElem?_map, List.getElem?_eq_getElem h2]; rfl
                    rw [HL.out.1] at e1
                    rw [HLm2.out] at e2
                    exact Option.some.inj (e1.symm.trans e2)
                  have ok2 := (HLo2.out _ (List.getElem_mem h2)).keep hB
                  generalize L2[j] = r2 at *
                  obtain ⟨xa, xc, xl⟩ := r1
                  obtain ⟨ya, yc, yl⟩ := r2
                  simp only at hll
                  subst hll
                  have hrx := ok1.rd
                  have hry := ok2.rd
                  have hxl : xl.length ≤ 9223372036854775807 := by have h3 := ok1.cap; have h4 := ok1.max; unfold maxLen at h4; simp only at h3 h4; omega
                  unfold IRow.v at hc2
                  simp only at hc hc2 hrx hry hlf
                  rw [hlf] at hc2 hxl
                  have hsame : ∀ W, Below wr.heap.size wr W → Calls Tryd.prog 40 #[.slice ya f yc, .slice xa f xc] W fun e w' => e = .returned (.bool true) ∧ ∃ n, W.drewN n = w' := fun W hb => Sm.same_eq ya xa yc xc f f xl W hlf hlf hxl (hry.keep hb) (hrx.keep hb)
                  have HSame := Lib.hid hsame
                  have HCc : Hid (∀ W, Below wr.heap.size wr W → W.cell? ⟨b, o + j, none⟩ = some (.slice xa f xc) ∧ W.cell? ⟨b2, o2 + j, none⟩ = some (.slice ya f yc)) := Lib.hid (fun W hb => ⟨(hb.cell (p := ⟨b, o + j, none⟩) (lt_of_cell hc)).trans hc, (hb.cell (p := ⟨b2, o2 + j, none⟩) (lt_of_cell hc2)).trans hc2⟩)
                  have HB := Lib.hid hB
                  subst ha ha2
                  clear hsame hc hc2 hrx hry ok1 ok2 h2 hlf hxl hB hg1
                  go_wp2_with fail
                  have n0 : Below wr.heap.size wr wr.drew := (Below.refl _ _).drew
                  refine wp_region_noPanic ?_
                  refine wp_region_held_drew (S := fun W => W.cell? ⟨b, o + j, none⟩ = some (.slice xa f xc) ∧ W.cell? ⟨b2, o2 + j, none⟩ = some (.slice ya f yc)) (by kernel_rfl) (HCc.out _ n0) (fun hHeld => ?_)
                  (refine wpAnyH_take (i := 0) (v := ?v0n17) (by simp only [List.getElem?_toArray, List.getElem?_cons_succ, List.getElem?_cons_zero]; rfl) (by kernel_rfl) (by kernel_rfl) (by kernel_rfl) (fun _ _ _ h => False.elim h) (Or.inl ⟨by rfl, ?hy0n17⟩) (by assumption) ?rest0n17; (case hy0n17 => (intro w hSw; (try dsimp only at hSw); go_simp; (try with_reducible rfl))); (try simp only [Act.put, List.setIfInBounds_toArray, List.set_cons_zero, List.set_cons_succ]))
                  (refine wpAnyH_take (i := 1) (v := ?v1n18) (by simp only [List.getElem?_toArray, List.getElem?_cons_succ, List.getElem?_cons_zero]; rfl) (by kernel_rfl) (by kernel_rfl) (by kernel_rfl) (fun _ _ _ h => False.elim h) (Or.inl ⟨by rfl, ?hy1n18⟩) (by assumption) ?rest1n18; (case hy1n18 => (intro w hSw; (try dsimp only at hSw); go_simp; (try with_reducible rfl))); (try simp only [Act.put, List.setIfInBounds_toArray, List.set_cons_zero, List.set_cons_succ]))
                  (refine wpAnyH_take (i := 2) (v := ?v2n19) (by simp only [List.getElem?_toArray, List.getElem?_cons_succ, List.getElem?_cons_zero]; rfl) (by kernel_rfl) (by kernel_rfl) (by kernel_rfl) (fun _ _ _ h => False.elim h) (Or.inl ⟨by rfl, ?hy2n19⟩) (by assumption) ?rest2n19; (case hy2n19 => (intro w hSw; (try dsimp only at hSw); go_simp; (try with_reducible rfl))); (try simp only [Act.put, List.setIfInBounds_toArray, List.set_cons_zero, List.set_cons_succ]))
                  (refine wpAnyH_take (i := 3) (v := ?v3n20) (by simp only [List.getElem?_toArray, List.getElem?_cons_succ, List.getElem?_cons_zero]; rfl) (by kernel_rfl) (by kernel_rfl) (by kernel_rfl) (fun _ _ _ h => False.elim h) (Or.inl ⟨by rfl, ?hy3n20⟩) (by assumption) ?rest3n20; (case hy3n20 => (intro w hSw; (try dsimp only at hSw); go_simp; (try with_reducible rfl))); (try simp only [Act.put, List.setIfInBounds_toArray, List.set_cons_zero, List.set_cons_succ]))
                  (refine wpAnyH_take (i := 4) (v := ?v4n21) (by simp only [List.getElem?_toArray, List.getElem?_cons_succ, List.getElem?_cons_zero]; rfl) (by kernel_rfl) (by kernel_rfl) (by kernel_rfl) (fun _ _ _ h => False.elim h) (Or.inl ⟨by rfl, ?hy4n21⟩) (by assumption) ?rest4n21; (case hy4n21 => (intro w hSw; (try dsimp only at hSw); go_simp; (try with_reducible rfl))); (try simp only [Act.put, List.setIfInBounds_toArray, List.set_cons_zero, List.set_cons_succ]))
                  (refine wpAnyH_take (i := 5) (v := ?v5n22) (by simp only [List.getElem?_toArray, List.getElem?_cons_succ, List.getElem?_cons_zero]; rfl) (by kernel_rfl) (by kernel_rfl) (by kernel_rfl) (fun _ _ _ h => False.elim h) (Or.inl ⟨by rfl, ?hy5n22⟩) (by assumption) ?rest5n22; (case hy5n22 => (intro w hSw; (try dsimp only at hSw); go_simp; (try with_reducible rfl))); (try simp only [Act.put, List.setIfInBounds_toArray, List.set_cons_zero, List.set_cons_succ]))
                  (refine wpAnyH_take (i := 6) (v := ?v6n23) (by simp only [List.getElem?_toArray, List.getElem?_cons_succ, List.getElem?_cons_zero]; rfl) (by kernel_rfl) (by kernel_rfl) (by kernel_rfl) (fun _ _ _ h => False.elim h) (Or.inl ⟨by rfl, ?hy6n23⟩) (by assumption) ?rest6n23; (case hy6n23 => (intro w hSw; (try dsimp only at hSw); go_simp; (try with_reducible rfl))); (try simp only [Act.put, List.setIfInBounds_toArray, List.set_cons_zero, List.set_cons_succ]))
                  (refine wpAnyH_take (i := 7) (v := ?v7n24) (by simp only [List.getElem?_toArray, List.getElem?_cons_succ, List.getElem?_cons_zero]; rfl) (by kernel_rfl) (by kernel_rfl) (by kernel_rfl) (fun _ _ _ h => False.elim h) (Or.inl ⟨by rfl, ?hy7n24⟩) (by assumption) ?rest7n24; (case hy7n24 => (intro w hSw; (try dsimp only at hSw); go_simp; (try with_reducible rfl))); (try simp only [Act.put, List.setIfInBounds_toArray, List.set_cons_zero, List.set_cons_succ]))
                  (refine wpAnyH_ready (rs := [8]) (by kernel_rfl) (by simp) ?_; refine AllReadyH.cons (o := _) (by simp only [List.getElem?_toArray, List.getElem?_cons_succ, List.getElem?_cons_zero]; rfl) (fun K hK => ?_) AllReadyH.nil; go_simp; ((with_reducible refine (HSame.out _ n0).mono ?_); rintro e x1 ⟨rfl, nx1, hbx1⟩; have m1 : Below wr.heap.size wr x1 := (by rw [← hbx1]; exact below_drewN n0 nx1)); refine hK.out _ _ (by exact HCc.out _ m1) (fun hHeld => ?_); clear hK K; (try simp only [Act.put, List.setIfInBounds_toArray, List.set_cons_zero, List.set_cons_succ]))
                  (refine wpAnyH_take (i := 9) (v := ?v9n25) (by simp only [List.getElem?_toArray, List.getElem?_cons_succ, List.getElem?_cons_zero]; rfl) (by kernel_rfl) (by kernel_rfl) (by kernel_rfl) (fun _ _ _ h => False.elim h) (Or.inl ⟨by rfl, ?hy9n25⟩) (by assumption) ?rest9n25; (case hy9n25 => (intro w hSw; (try dsimp only at hSw); go_simp; (try with_reducible rfl))); (try simp only [Act.put, List.setIfInBounds_toArray, List.set_cons_zero, List.set_cons_succ]))
                  refine wpAnyH_done (by kernel_rfl) ?_ _
                  refine NoPanic.normal ?_
                  have HM1 := Lib.hid m1
                  clear m1 hbx1 hHeld n0
                  go_wp2
                  go_roundw
                  case rel => first | exact ⟨j + 1, hlt2, by go_num, HB.out.trans (HM1.out.mono HB.out.size)⟩ | ((repeat apply Exists.intro); (refine ⟨?_, ?_⟩); rotate_left 1; (focus (and_intros <;> rfl)); exact ⟨j + 1, hlt2, by go_num, HB.out.trans (HM1.out.mono HB.out.size)⟩)
                  case measure => simp [intOf]; omega
              · obtain rfl : j = k := by omega
                have hkk : ¬ ((j : Int) < (j : Int)) := by omega
                go_wp2
                go_ret
                exact ⟨rfl, HB9.out wr hB⟩
end Cb
end Go.Proofs.YteekonojmpihlaaDoor
