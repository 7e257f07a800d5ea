/- The law CombSlots: its walk. -/
import Derived.Test.YteekonojmpihlaaDoorQCbLayR
import Derived.Test.YteekonojmpihlaaDoorQCbLay
import Derived.Test.YteekonojmpihlaaDoorQCbLayNo
import Derived.Test.YteekonojmpihlaaDoorQCbAlive
import Derived.Test.YteekonojmpihlaaDoorQCbLong
import Derived.Test.YteekonojmpihlaaDoorQErr
namespace Go.Proofs.YteekonojmpihlaaDoor
namespace Kt
end Kt
open Go Go.RowKit Go.Maps Kt
namespace Cb
theorem cntS_take (l : List Int) (k : Nat) (h : k < l.length) : cntS (l.take (k + 1)) = cntS (l.take k) + if 0 ≤ l.getD k 0 then 1 else 0 := by
  have e : l.getD k 0 = l[k] := by rw [List.getD_eq_getElem?_getD, List.getElem?_eq_getElem h]; rfl
  rw [e, ← List.take_append_getElem h]
  unfold cntS
  rw [List.countP_append, List.countP_singleton]
  simp
theorem cntS_le (l : List Int) : cntS l ≤ l.length := List.countP_le_length
/-- A row's own places are those that do not bear the common number. -/
theorem count_eq_filter (l : List Int) (c : Int) : ∀ n, n ≤ l.length → ((List.range n).filter fun i => decide (l.getD i 0 ≠ c)).length + (l.take n).count c = n
  | 0, _ => by simp
  | n + 1, h => by
    have ih := count_eq_filter l c n (by omega)
    have e : l.getD n 0 = l[n] := by rw [List.getD_eq_getElem?_getD, List.getElem?_eq_getElem (by omega)]; rfl
    rw [List.range_succ, List.filter_append, List.length_append, ← List.take_append_getElem (by omega : n < l.length), List.count_append]
    by_cases hc : l[n] = c
    · rw [List.filter_cons_of_neg (by rw [e]; simp [hc])]
      have : [l[n]].count c = 1 := by rw [hc]; simp
      rw [this]
      simp only [List.filter_nil, List.length_nil]
      omega
    · rw [List.filter_cons_of_pos (by rw [e]; simp [hc])]
      have : [l[n]].count c = 0 := by rw [List.count_eq_zero]; simp; exact fun h => hc h.symm
      rw [this]
      simp only [List.filter_nil, List.length_cons, List.length_nil]
      omega
theorem ownN_count (l : List Int) : ownN l + l.count (cmn l) = l.length := by
  have h := count_eq_filter l (cmn l) l.length (Nat.le_refl _)
  rw [List.take_length] at h
  exact h
structure Rg2 (w : World) (b r n : Nat) (D : DataW Unit) (row : List Int) (cnt : Nat) (W : World) : Prop where
  ex : ∃ left : Lit → Bool, W.ranges Tryd.prog 3 (plainElem Tryd.prog 3) b r n D left cnt ∧ (∀ x : Int, left (.int .i64 x) = true → x ∈ row)
  below : Below w.heap.size w W
set_option maxHeartbeats 8000000 in
set_option maxRecDepth 100000 in
theorem slots_law (ra : Option Addr) (n rc : Nat) (L0 : List IRow) (rows : List (List Int)) (hL : L0.map (·.l) = rows) (hn : L0.length = n) (hnM : n ≤ 9223372036854775807) (A : Nat → Addr) (w : World) (hr : Rd w ra (L0.map IRow.v)) (hok : ∀ r ∈ L0, r.ok w) (hS : Sent 204 w A [1]) :
    Calls Tryd.prog 6 #[.slice ra n rc] w fun e w' => e = .returned (.bool true) ∧ Below w.heap.size w w' := by
  have hAl : ∀ W, Calls Tryd.prog 34 #[] W fun e w' => e = .returned (.bool true) ∧ Below W.heap.size W w' := alive_c
  have hrn : rows.length = n := by rw [← hL, List.length_map]; exact hn
  have hX : ∀ W, Below w.heap.size w W → W.cell? ⟨1, 0, none⟩ = some (.iface 204 (.pointer (some (A 1)))) := fun W hb => (hS.keep hb).cell 1 (by simp)
  obtain ⟨P, hP⟩ : ∃ P, Value.pointer (some (A 1)) = P := ⟨_, rfl⟩
  rw [hP] at hX
  have hmx : ∀ r ∈ L0, r.l.length ≤ 9223372036854775807 := fun r h => by have h3 := (hok r h).cap; have h4 := (hok r h).max; unfold maxLen at h4; omega
  have hlong : ∀ W, Below w.heap.size w W → Calls Tryd.prog 35 #[.slice ra n rc] W fun e w' => e = .returned (.bool (longL rows)) ∧ W = w' := fun W hb => long_c ra n rc L0 rows hL hn hnM hmx W (hr.keep hb)
  have HAl := Lib.hid (hAl w)
  have HLong := Lib.hid hlong
  have HX := Lib.hid hX
  have HL := Lib.hid (And.intro hL (And.intro hn (And.intro hrn (And.intro hr hok))))
  clear hAl hX hlong hmx hL hn hrn hr hok hS hP
  go_enter Tryd.func6, Tryd.ntmps6
  go_wp2_with fail
  refine HAl.out.mono ?_
  rintro _ w2 ⟨rfl, hb2⟩
  have HB2 := Lib.hid hb2
  have HLg := Lib.hid (HLong.out w2 hb2)
  clear hb2 HAl HLong
  go_wp2_with fail
  refine HLg.out.mono ?_
  rintro _ _ ⟨rfl, rfl⟩
  clear HLg
  obtain ⟨LG, hLG⟩ : ∃ b, longL rows = b := ⟨_, rfl⟩
  rw [hLG]
  cases LG with
  | true =>
    clear hLG
    go_wp2
    go_ret
    exact ⟨rfl, HB2.out⟩
  | false =>
    have hsm : n ≤ 30 ∧ ∀ r ∈ rows, r.length ≤ 60 := by
      unfold longL at hLG
      rw [Bool.or_eq_false_iff, decide_eq_false_iff_not, List.any_eq_false, HL.out.2.2.1] at hLG
      exact ⟨by omega, fun r h => by have := hLG.2 r h; simpa using this⟩
    have HSm := Lib.hid hsm
    have hn30 := hsm.1
    clear hLG hsm
    obtain ⟨LY, hLY⟩ : ∃ b, layable rows = b := ⟨_, rfl⟩
    obtain ⟨hL, hn, hrn, hr, hok⟩ := HL.out
    cases LY with
    | false =>
      have hno := lay_no ra n rc L0 rows hL hn (by omega) hLY w2 (hr.keep HB2.out) (fun r h => (hok r h).keep HB2.out) _ (HX.out w2 HB2.out)
      have HNo := Lib.hid hno
      clear hL hn hrn hr hok hLY hno HL HX
      go_wp2_with fail
      refine HNo.out.mono ?_
      rintro _ w3 ⟨rfl, hb3⟩
      have HB3 := Lib.hid (HB2.out.trans (hb3.mono HB2.out.size))
      have hcv0 : cv cs0 = .agg #[.int .i64 0, .slice none 0 0, .slice none 0 0, .slice none 0 0, .slice none 0 0] := rfl
      rw [hcv0]
      clear hb3 hcv0
      obtain ⟨W4, hW4⟩ : ∃ W, w3.alloc (.cells #[.int .i64 0, .slice none 0 0, .slice none 0 0, .slice none 0 0, .slice none 0 0] 71 (0, 0)) = W := ⟨_, rfl⟩
      have b4 : Below w3.heap.size w3 W4 := by rw [← hW4]; exact (Below.refl _ _).alloc (Nat.le_refl _) _
      have s4 : W4.heap[w3.heap.size]? = some (.cells #[.int .i64 0, .slice none 0 0, .slice none 0 0, .slice none 0 0, .slice none 0 0] 71 (0, 0)) := by rw [← hW4]; exact heap_alloc_new _ _
      obtain ⟨z0, z1, z2, z3, z4⟩ := box5 s4
      have HB4 := Lib.hid (HB3.out.trans (b4.mono HB3.out.size))
      have HW4 := Lib.hid hW4
      clear b4 s4 hW4
      go_upto_region 6 with (fail)
      rw [HW4.out]
      go_wp2
      go_ret
      exact ⟨rfl, HB4.out⟩
    | true =>
      have hlo := lyF_of hLY
      have hcl := lay_c ra n rc L0 rows hL hn (by omega) hLY w2 (hr.keep HB2.out) (fun r h => (hok r h).keep HB2.out)
      have hOwn : ∀ W, Below w.heap.size w W → Calls Tryd.prog 37 #[.slice ra n rc] W fun e w' => e = .returned (.int .i64 (ownAll rows : Nat)) ∧ Below W.heap.size W w' := fun W hb => Own_c ra n rc L0 rows hL hn (by omega) hLY W (hr.keep hb) (fun r h => (hok r h).keep hb)
      have hrowk : ∀ k, k < n → ∀ V, Below w.heap.size w V → ∃ (rk : IRow) (b o f : Nat), ra = some (⟨b, o, none⟩ : Addr) ∧ V.cell? ⟨b, o + k, none⟩ = some (.slice rk.a f rk.cap) ∧ rk.l.length = f ∧ 1 ≤ f ∧ f ≤ 60 ∧ rows[k]? = some rk.l ∧ (∀ x ∈ rk.l, (Lit.int .i64 x).wf = true) ∧ ∀ V', Below V.heap.size V V' → Rd V' rk.a (i64s rk.l) := fun k hk V hV => by
        have hkL : k < L0.length := by omega
        obtain ⟨b, o, ha, hc⟩ := (hr.keep hV).map_at k hkL
        have hm : L0[k].l ∈ rows := by rw [← hL]; exact List.mem_map_of_mem (List.getElem_mem hkL)
        have hl := hlo.len _ hm
        have := hlo.wide
        refine ⟨L0[k], b, o, L0[k].l.length, ha, hc, rfl, by omega, HSm.out.2 _ hm, by rw [← hL, List.getElem?_map, List.getElem?_eq_getElem hkL]; rfl, fun x hx => ?_, fun V' hb => ((hok _ (List.getElem_mem hkL)).keep (hV.trans (hb.mono hV.size))).rd⟩
        have h1 := hlo.num _ hm x hx
        have h2 := hlo.many
        exact WalkArith.wf_i64 (by omega)
      have hsl : ∀ k, ownSum rows k ≤ k * 60 := ownSum_le HSm.out.2
      have hcnt : ∀ c, Laid rows c → cntS c.check = ownAll rows := fun c hc => laid_cnt hc hLY
      have HCl := Lib.hid hcl
      have HOwn := Lib.hid hOwn
      have HRow := Lib.hid hrowk
      have HSl := Lib.hid hsl
      have HCnt := Lib.hid hcnt
      have HRn := Lib.hid hrn
      have hf256 := hlo.wide.2
      have hckl : ∀ c, Laid rows c → c.check.length ≤ 60000 ∧ c.dflt.length = n := fun c hc => by
        have h1 := (layL_inv hlo.wide.2 hlo.len).le
        rw [(ord_perm rows).length_eq, List.length_range, hrn] at h1
        rw [hc.check, hc.dflt, List.length_map]
        exact ⟨by omega, hrn⟩
      have HCk := Lib.hid hckl
      clear hL hn hrn hr hok hcl hOwn hrowk hsl hlo hLY hcnt HL HX HSm hckl hf256
      go_wp2_with fail
      refine HCl.out.mono ?_
      rintro _ w3 ⟨c, rfl, e1, e2, e3, e4, e5, hI, hb3⟩
      have hld : Laid rows c := ⟨e1, e2, e3, e4, e5⟩
      have hcn := HCnt.out c hld
      obtain ⟨hck, hdl⟩ := HCk.out c hld
      have HB3 := Lib.hid (HB2.out.trans (hb3.mono HB2.out.size))
      have hcv : cv c = .agg #[.int .i64 c.wide, .slice c.a1 c.base.length c.c1, .slice c.a2 n c.c2, .slice c.a3 c.next.length c.c3, .slice c.a4 c.check.length c.c4] := by
        unfold cv cells
        rw [hdl]
      rw [hcv]
      have r2 := hI.r2
      have r4 := hI.r4
      rw [e3] at r2
      generalize c.wide = wd at *
      generalize c.a1 = A1 at *
      generalize c.a2 = A2 at *
      generalize c.a3 = A3 at *
      generalize c.a4 = A4 at *
      generalize c.c1 = k1 at *
      generalize c.c2 = k2 at *
      generalize c.c3 = k3 at *
      generalize c.c4 = k4 at *
      generalize c.base.length = n1 at *
      generalize c.next.length = n3 at *
      generalize c.check = ck at *
      obtain ⟨n4, hn4⟩ : ∃ n4, ck.length = n4 := ⟨_, rfl⟩
      rw [hn4]
      obtain ⟨W4, hW4⟩ : ∃ W, w3.alloc (.cells #[.int .i64 wd, .slice A1 n1 k1, .slice A2 n k2, .slice A3 n3 k3, .slice A4 n4 k4] 71 (0, 0)) = W := ⟨_, rfl⟩
      have b4 : Below w3.heap.size w3 W4 := by rw [← hW4]; exact (Below.refl _ _).alloc (Nat.le_refl _) _
      have s4 : W4.heap[w3.heap.size]? = some (.cells #[.int .i64 wd, .slice A1 n1 k1, .slice A2 n k2, .slice A3 n3 k3, .slice A4 n4 k4] 71 (0, 0)) := by rw [← hW4]; exact heap_alloc_new _ _
      obtain ⟨z0, z1, z2, z3, z4⟩ := box5 s4
      have HSk : Hid (∀ V, Below W4.heap.size W4 V → V.cell? ⟨w3.heap.size, 2, none⟩ = some (.slice A2 n k2) ∧ Rd V A2 (i64s (rows.map cmn)) ∧ Rd V A4 (i64s ck)) := Lib.hid (fun V hb => ⟨(box5 ((hb.block _ (block_lt s4)).trans s4)).2.2.1, (r2.keep b4).keep hb, (r4.keep b4).keep hb⟩)
      have HB4 := Lib.hid (HB3.out.trans (b4.mono HB3.out.size))
      have HW4 := Lib.hid hW4
      have HN4 := Lib.hid hn4
      have HCn := Lib.hid hcn
      have hn4b : n4 ≤ 60000 := by omega
      clear b4 s4 hW4 hcv hb3 hI hld e1 e2 e3 e4 e5 r2 r4 hn4 hcn hck hdl HCnt HCk HCl HB3
      go_upto_region 6 with (fail)
      rw [HW4.out]
      clear HW4
      go_wp2
      clear z0 z1 z2 z3 z4
      go_loopw [5, 7, 34] (fun t _ i W => ∃ k : Nat, k ≤ n4 ∧ i = .int .i64 (k : Int) ∧ t = .int .i64 (cntS (ck.take k) : Nat) ∧ W = W4) (fun _ _ i _ => n4 - (intOf i).toNat)
      case atStart => exact ⟨0, Nat.zero_le _, rfl, rfl, rfl⟩
      case round =>
        obtain ⟨k, hk, rfl, rfl, hWe⟩ := hrel
        subst hWe
        by_cases hlt : k < n4
        · have hki : (k : Int) < (n4 : Int) := by omega
          obtain ⟨b, o, ha, hc⟩ := rd_i64 ((HSk.out wr (Below.refl _ _)).2.2) k (by rw [HN4.out]; exact hlt)
          have hs := cntS_take ck k (by rw [HN4.out]; exact hlt)
          have hsle := cntS_le (ck.take k)
          rw [List.length_take] at hsle
          generalize ck.getD k 0 = x at *
          obtain ⟨T, hT⟩ : ∃ T, cntS (ck.take k) = T := ⟨_, rfl⟩
          rw [hT] at hs hsle
          rw [hT]
          subst ha
          have hTb : T ≤ 60000 := by omega
          clear hT hsle
          by_cases hx : 0 ≤ x
          · have hx1 : decide (0 ≤ x) = true := by simpa using hx
            rw [if_pos hx] at hs
            have HS := Lib.hid hs
            clear hs
            go_wp2
            go_roundw
            case rel => exact ⟨k + 1, hlt, by go_num, by rw [HS.out]; go_num, (by first | trivial | rfl)⟩
            case measure => simp [intOf]; omega
          · have hx1 : decide (0 ≤ x) = false := by simpa using hx
            rw [if_neg hx] at hs
            have HS := Lib.hid hs
            clear hs
            go_wp2
            go_roundw
            case rel => exact ⟨k + 1, hlt, by go_num, by rw [HS.out]; rfl, (by first | trivial | rfl)⟩
            case measure => simp [intOf]; omega
        · obtain rfl : k = n4 := by omega
          have hkk : ¬ ((k : Int) < (k : Int)) := by omega
          have htk : ck.take k = ck := List.take_of_length_le (by rw [HN4.out]; exact Nat.le_refl _)
          rw [htk, HCn.out]
          obtain ⟨z2, _, _⟩ := HSk.out wr (Below.refl _ _)
          clear htk
          obtain ⟨wo, hwo⟩ : ∃ wo, wo = wr := ⟨_, rfl⟩
          subst hwo
          obtain ⟨OA, hOA⟩ : ∃ x, ownAll rows = x := ⟨_, rfl⟩
          have hOAb : OA ≤ 60000 := by rw [← hOA, ← HCn.out]; exact Nat.le_trans (cntS_le _) (by rw [HN4.out]; exact hn4b)
          rw [hOA] at HOwn ⊢
          have HOA := Lib.hid hOA
          clear hOA HCn
          go_wp2
          clear z2
          go_loopw [8, 9, 10, 11, 13, 15, 51, 59] (fun s _ _ _ _ _ i _ W => ∃ j : Nat, j ≤ n ∧ i = .int .i64 (j : Int) ∧ s = .int .i64 (ownSum rows j : Nat) ∧ Below wo.heap.size wo W) (fun _ _ _ _ _ _ i _ _ => n - (intOf i).toNat)
          case atStart => exact ⟨0, Nat.zero_le _, rfl, rfl, Below.refl _ _⟩
          case round =>
            obtain ⟨j, hj, rfl, rfl, hB⟩ := hrel
            by_cases hlj : j < n
            · have hji : (j : Int) < (n : Int) := by omega
              have hj0 : (0 : Int) ≤ (j : Int) := by omega
              obtain ⟨rk, b, o, f, ha, hc, hfl, hf1, hf60, hg, hwf, hrd⟩ := HRow.out j hlj wr (HB4.out.trans (hB.mono HB4.out.size))
              have hs := ownSum_succ hg
              have hsl := HSl.out j
              have hoc := ownN_count rk.l
              have hnd : rk.l ≠ [] := fun e => by rw [e] at hfl; simp at hfl; omega
              have hcm := isCmn_cmn hnd
              have hdf : (rows.map cmn)[j]? = some (cmn rk.l) := by rw [List.getElem?_map, hg]; rfl
              obtain ⟨ca, cc, row⟩ := rk
              simp only at hc hfl hs hoc hnd hcm hdf hwf hrd hg
              obtain ⟨S, hS⟩ : ∃ S, ownSum rows j = S := ⟨_, rfl⟩
              rw [hS] at hs hsl
              rw [hS]
              rw [hfl] at hoc
              obtain ⟨ON, hON⟩ : ∃ x, ownN row = x := ⟨_, rfl⟩
              rw [hON] at hs hoc
              subst ha
              obtain ⟨wi, hwi⟩ : ∃ wi, wi = wr := ⟨_, rfl⟩
              subst hwi
              obtain ⟨M, hM⟩ : ∃ M, wi.heap.size = M := ⟨_, rfl⟩
              obtain ⟨W5, hW5⟩ : ∃ W, wi.alloc (.map #[] 0) = W := ⟨_, rfl⟩
              have b5 : Below wi.heap.size wi W5 := by rw [← hW5]; exact (Below.refl _ _).alloc (Nat.le_refl _) _
              have o5 : OwnC W5 M 0 (.map []) := by rw [← hW5, ← hM]; exact World.ownsMap_made wi Tryd.prog 3 _
              have d5 : CntD (.map []) [] := ⟨fun _ => rfl, fun _ => rfl⟩
              have hmm := @run_makeMap Tryd.prog
              have HRd := Lib.hid hrd
              have HW := Lib.hid hwf
              have HB := Lib.hid hB
              have HM := Lib.hid hM
              have HW5 := Lib.hid hW5
              have HB5 := Lib.hid b5
              have HO5 := Lib.hid o5
              have HD5 := Lib.hid d5
              have HFl := Lib.hid hfl
              have HCm := Lib.hid hcm
              have HDf := Lib.hid hdf
              have HS := Lib.hid hs
              have hSb : S ≤ 60000 := by omega
              have HOC := Lib.hid hoc
              clear hrd hwf hB hM hW5 b5 o5 d5 hfl hcm hdf hs hnd hg hS hON hsl hoc
              go_upto_region 22 with (fail)
              rw [HW5.out, HM.out]
              clear hmm
              go_wp2
              clear hc
              go_loopw [13, 59] (fun _ i W => ∃ k : Nat, k ≤ f ∧ i = .int .i64 (k : Int) ∧ Below wi.heap.size wi W ∧ ∃ D, OwnC W M k D ∧ CntD D (row.take k)) (fun _ i _ => f - (intOf i).toNat)
              case atStart => exact ⟨0, Nat.zero_le _, rfl, HB5.out, _, HO5.out, by rw [List.take_zero]; exact HD5.out⟩
              case round =>
                clear HW5 HB5 HO5 HD5
                obtain ⟨k, hk, rfl, hB, D, hO, hD⟩ := hrel
                by_cases hlt : k < f
                · obtain ⟨b', o', ha, hc⟩ := rd_i64 (HRd.out wr hB) k (by rw [HFl.out]; exact hlt)
                  have hkl : k < row.length := by rw [HFl.out]; exact hlt
                  have hgd : row.getD k 0 = row[k] := by rw [List.getD_eq_getElem?_getD, List.getElem?_eq_getElem hkl]; rfl
                  have hxw := HW.out _ (List.getElem_mem hkl)
                  have htk : row.take (k + 1) = row.take k ++ [row[k]] := (List.take_append_getElem hkl).symm
                  rw [hgd] at hc
                  generalize row[k] = x at *
                  have hg := cnt_get hO hD x hxw
                  obtain ⟨w', D', hrun, hO', hD', hgr⟩ := cnt_inc hO hD (by unfold maxLen; omega) (by rw [List.length_take]; omega) x hxw
                  have hle : (row.take k).count x ≤ k := Nat.le_trans List.count_le_length (by rw [List.length_take]; omega)
                  rw [← htk] at hD'
                  generalize hC : (row.take k).count x = C at *
                  have hwr : IntKind.i64.wrap ((C : Int) + 1) = (C : Int) + 1 := by rw [IntKind.wrap_i64]; omega
                  have hB' := hB.grown hgr (by have := hB.size; exact this) (fun j hj => by cases hj; rw [HM.out]; exact Nat.le_refl _)
                  have HO' := Lib.hid hO'
                  have HD' := Lib.hid hD'
                  have HB' := Lib.hid hB'
                  subst ha
                  have hlti : (k : Int) < (f : Int) := by omega
                  clear hO hD hO' hD' hgr hB' hgd hkl htk hxw hC hle hB
                  go_wp2
                  go_roundw
                  case rel => exact ⟨k + 1, hlt, by go_num, HB'.out, D', HO'.out, HD'.out⟩
                  case measure => simp [intOf]; omega
                · obtain rfl : k = f := by omega
                  rw [List.take_of_length_le (by rw [HFl.out]; exact Nat.le_refl _)] at hD
                  obtain ⟨wa, hwa⟩ : ∃ wo, wo = wr := ⟨_, rfl⟩
                  subst hwa
                  have HO := Lib.hid hO
                  have HD := Lib.hid hD
                  have HBa := Lib.hid hB
                  clear hO hD hB hlt
                  go_wp2_with (first
                    | (at_range; refine wpList_range_own _ rfl _ 74 rfl 3 3 (int_keyed Tryd.underlying3) Tryd.underlying74 _ M k _ rfl HO.out ?_; intro w0 hrg0 hg0 hs0)
                    | go_in)
                  go_frame
                  have HRg0 := Lib.hid (show Rg2 wi M wa.heap.size k D row (Maps.size D) w0 from ⟨⟨_, hrg0, fun x hx => by
                    rw [HD.out.has x] at hx
                    simpa using hx⟩, HBa.out.grown hg0 HBa.out.size (fun j hj => by cases hj)⟩)
                  clear hrg0 hg0 hs0
                  go_loopw [15] (fun _ W => ∃ (cnt : Nat), Rg2 wi M wa.heap.size k D row cnt W) (fun _ W => W.rangeLeft M wa.heap.size)
                  case atStart => exact ⟨_, HRg0.out⟩
                  case round =>
                    clear HRg0
                    obtain ⟨cnt, hR⟩ := hrel
                    obtain ⟨⟨left, hrg, hin⟩, hbl⟩ := hR
                    have hbo := HB.out.trans (hbl.mono HB.out.size)
                    obtain ⟨z2, rd2, _⟩ := HSk.out wr hbo
                    have hmj : j < (rows.map cmn).length := by rw [List.length_map, HRn.out]; exact hlj
                    obtain ⟨b3, o3, ha3, hc3⟩ := rd_i64 rd2 j hmj
                    have hgd : (rows.map cmn).getD j 0 = cmn row := by rw [List.getD_eq_getElem?_getD, HDf.out]; rfl
                    rw [hgd] at hc3
                    have hcmem := HCm.out.mem
                    have hbest := HCm.out.best
                    have hcw := HW.out _ hcmem
                    have hoc := HOC.out
                    generalize cmn row = cm at *
                    obtain ⟨C, hC⟩ : ∃ C, row.count cm = C := ⟨_, rfl⟩
                    rw [hC] at hoc
                    have hget := cnt_get (World.ranges.owns hrg) HD.out cm hcw
                    rw [hC] at hget
                    have HIn := Lib.hid hin
                    have HBl := Lib.hid hbl
                    have HBo := Lib.hid hbo
                    have HRG := Lib.hid hrg
                    have HBest := Lib.hid hbest
                    have HCeq := Lib.hid hC
                    have HR3 := Lib.hid rd2
                    subst ha3
                    clear hin hbl hbo hmj hgd hcmem hbest rd2 hC
                    go_wp2_with (first
                      | (at_next; refine wpList_next_ranges_ii _ rfl _ rfl 3 3 .i64 .i64 (int_keyed Tryd.underlying3) Tryd.underlying3 Tryd.underlying3 M wa.heap.size k _ _ _ rfl hrg ?_ ?_)
                      | go_in)
                    · intro hc0 hl0
                      have hsub : (k : Int) - (C : Int) = (ON : Int) := by omega
                      have hw1 : IntKind.i64.wrap ((k : Int) - (C : Int)) = (ON : Int) := by rw [IntKind.wrap_i64]; omega
                      have hw2 : IntKind.i64.wrap ((S : Int) + (ON : Int)) = (S : Int) + (ON : Int) := by rw [IntKind.wrap_i64]; omega
                      have hw3 : IntKind.i64.wrap (ON : Int) = (ON : Int) := by rw [IntKind.wrap_i64]; omega
                      clear hrg hl0
                      go_wp2
                      go_roundw
                      case rel => exact ⟨j + 1, hlj, by go_num, by rw [HS.out]; go_num, HBo.out⟩
                      case measure => simp [intOf]; omega
                    · intro x c w1 cnt1 hwx hwc hlx hat hrg1 hlt1 hg1 hs1 hen
                      have hxr := HIn.out x hlx
                      have hcx : c = (row.count x : Int) := by
                        have h1 := hat (.lit (.int .i64 0))
                        rw [HD.out.cnt x] at h1
                        simp at h1
                        exact h1.symm
                      have hb1 := HBl.out.grown hg1 HBl.out.size (fun j hj => by cases hj; have := HBa.out.size; omega)
                      have hbo1 := HB.out.trans (hb1.mono HB.out.size)
                      obtain ⟨z2', rd2', _⟩ := HSk.out w1 hbo1
                      have hnb := HBest.out x hxr
                      have hcc : ¬ (C : Int) < (row.count x : Int) := by
                        unfold better at hnb
                        rw [HCeq.out] at hnb
                        simp only [Bool.or_eq_false_iff, decide_eq_false_iff_not] at hnb
                        omega
                      have hget1 := cnt_get (World.ranges.owns hrg1) HD.out cm hcw
                      rw [HCeq.out] at hget1
                      have hm1 := hrg1.left_eq
                      have hm0 := HRG.out.left_eq
                      have hc31 : w1.cell? ⟨b3, o3 + j, none⟩ = some (.int .i64 cm) := by
                        obtain ⟨b4, o4, ha4, hc4⟩ := rd_i64 rd2' j (by rw [List.length_map, HRn.out]; exact hlj)
                        cases ha4
                        rw [hc4, List.getD_eq_getElem?_getD, HDf.out]
                        rfl
                      have HR1 := Lib.hid (show Rg2 wi M wa.heap.size k D row cnt1 w1 from ⟨⟨_, hrg1, fun y hy => by
                        rw [Bool.and_eq_true] at hy
                        exact HIn.out y hy.1⟩, hb1⟩)
                      subst hcx
                      obtain ⟨CX, hCX⟩ : ∃ CX : Int, (row.count x : Int) = CX := ⟨_, rfl⟩
                      rw [hCX] at hcc hen
                      rw [hCX]
                      have hcd : decide ((C : Int) < CX) = false := decide_eq_false hcc
                      have HM1 := Lib.hid hm1
                      have HM0 := Lib.hid hm0
                      clear hCX hat hrg1 hg1 hb1 hxr hlx hrg hs1 hwc hm1 hm0 hbo1 rd2' hnb hget z2 hc3
                      go_wp2
                      go_roundw
                      case rel => exact ⟨cnt1, HR1.out⟩
                      case measure => rw [HM1.out, HM0.out]; exact hlt1
            · obtain rfl : j = n := by omega
              have hjj : ¬ ((j : Int) < (j : Int)) := by omega
              have hall := ownSum_all (rows := rows) (k := j) (by rw [HRn.out]; exact Nat.le_refl _)
              rw [hall, HOA.out]
              have HOw := Lib.hid (HOwn.out wr (HB4.out.trans (hB.mono HB4.out.size)))
              have HBf := Lib.hid (HB4.out.trans (hB.mono HB4.out.size))
              clear hall hB
              go_wp2_with fail
              refine HOw.out.mono ?_
              rintro _ w9 ⟨rfl, hb9⟩
              have HB9 := Lib.hid (HBf.out.trans (hb9.mono HBf.out.size))
              clear hb9
              go_wp2
              go_ret
              exact ⟨by simp, HB9.out⟩
end Cb
end Go.Proofs.YteekonojmpihlaaDoor
