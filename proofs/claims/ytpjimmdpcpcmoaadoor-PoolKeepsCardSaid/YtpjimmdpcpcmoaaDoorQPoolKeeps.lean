/- dofferlaw30.PoolKeeps. Conditions: the sentinels, and the table of TrailingZeros64, read as laid. -/
import Derived.Test.YtpjimmdpcpcmoaaDoorQPoolKp
import Derived.Deep.CutBlock
namespace Go.Proofs.YtpjimmdpcpcmoaaDoor
open Go Go.RowKit Kt
namespace Po
set_option maxRecDepth 100000 in
set_option maxHeartbeats 8000000 in
/-- The law PoolKeeps. -/
theorem keeps_c (E : Nat → Addr) (i0 : Int) (a : Option Addr) (cap : Nat) (l : List AcT) (w : World) (hl : l.length ≤ 9223372036854775807) (hr : Rd w a (l.flatMap ac5)) (hw : ∀ x ∈ l, (Lit.int .i64 x.n).wf = true ∧ (Lit.int .i64 x.m).wf = true) (hT : Bt.Tab w) (hs : Sent 169 w E Er.egs) :
    Calls Tryd.prog 3 #[.int .i64 i0, .slice a l.length cap] w fun e w' => e = .returned (.bool true) ∧ Below w.heap.size w w' := by
  have hal := alive_c E w hT hs
  obtain ⟨N, hN⟩ : ∃ N, l.length = N := ⟨_, rfl⟩
  rw [hN] at hl ⊢
  obtain ⟨q, hq, hq20⟩ := low i0 20 (by omega) (by omega)
  have HAl := Lib.hid hal
  have HT := Lib.hid hT
  have HS := Lib.hid hs
  have HR := Lib.hid hr
  have HW := Lib.hid hw
  have HN := Lib.hid hN
  have HQ := Lib.hid hq
  clear hal hT hs hr hw hN hq
  go_enter Tryd.func3, Tryd.ntmps3
  go_wp2_with fail
  with_reducible refine HAl.out.mono ?_
  rintro e w1 ⟨rfl, hb1⟩
  have HB1 := Lib.hid hb1
  clear hb1 HAl
  by_cases h80 : 80 < N
  · have hd : decide ((80 : Int) < (N : Int)) = true := by simp; omega
    go_wp2_with fail
    go_ret
    exact ⟨rfl, HB1.out⟩
  · have hd : decide ((80 : Int) < (N : Int)) = false := by simp; omega
    go_wp2_with fail
    obtain ⟨n, hn⟩ : ∃ n : Nat, q + 1 = n := ⟨_, rfl⟩
    have hwn : wrap64 (1 + (q : Int)) = (n : Int) := by rw [← hn]; unfold wrap64; omega
    have hn1 : 1 ≤ n := by omega
    have hn2 : n ≤ 20 := by omega
    rw [HQ.out, hwn]
    clear HQ hwn hn hq20
    generalize IntKind.u64.wrap i0 = j0
    with_reducible refine (show Calls Tryd.prog 10 #[.int .i64 (n : Int), .int .i64 4] w1 _ from new_yes n 4 hn1 (by omega) (by decide) (by decide) w1).mono ?_
    rintro e w2 ⟨p, L, rfl, hP, hL, hb2⟩
    have hmm := @run_makeMap Tryd.prog
    have hB2 := HB1.out.trans (hb2.mono HB1.out.size)
    have b3 := (Below.refl w2.heap.size w2).alloc (Nat.le_refl _) (.map #[] 0)
    have hK0 : KpS w (w2.alloc (.map #[] 0)) p w2.heap.size n (new n 4) [] (new n 4).own L := by
      refine ⟨hP.below b3, fun k hk => by have := hL k hk; have := HB1.out.size; omega, MapZ.made w2 _ _ _, fun hm => ?_, hB2.size, Ow.start n, by simp [new], hB2.trans (b3.mono hB2.size)⟩
      have := hP.lts _ hm
      omega
    have H0 := Lib.hid (show ∃ L m o, KpS w (w2.alloc (.map #[] 0)) p w2.heap.size n m o m.own L from ⟨L, _, _, hK0⟩)
    clear hP hL hb2 hB2 b3 hK0
    go_wp2_with fail
    clear hmm
    go_loopw [10, 11, 12, 13, 14, 15, 16, 17, 19, 40, 119] (fun _ _ _ _ _ _ _ _ _ i _ W => ∃ j : Nat, j ≤ N ∧ i = .int .i64 (j : Int) ∧ ∃ L m o, KpS w W p w2.heap.size n m o m.own L) (fun _ _ _ _ _ _ _ _ _ i _ _ => N - (iv i).toNat)
    case atStart => exact ⟨0, Nat.zero_le _, rfl, H0.out⟩
    case round =>
      clear H0
      obtain ⟨j, hj, rfl, L, m, o, hK⟩ := hrel
      by_cases hjN : j < N
      · obtain ⟨b, off, ha, hcs⟩ := (HR.out.keep hK.B).struct 5 (by intro z _; rfl) j (by rw [HN.out]; exact hjN) (by omega)
        have k0 := hcs 0 _ rfl (by omega)
        have k1 := hcs 1 _ rfl (by omega)
        have k2 := hcs 2 _ rfl (by omega)
        have k3 := hcs 3 _ rfl (by omega)
        have k4 := hcs 4 _ rfl (by omega)
        have hwf := HW.out _ (List.getElem_mem (by rw [HN.out]; exact hjN : j < l.length))
        clear hcs
        subst ha
        generalize l[j]'(by rw [HN.out]; exact hjN) = act at *
        obtain ⟨kd, x, y, t, c⟩ := act
        simp only [Nat.add_zero] at k0 k1 k2 k3 k4 hwf
        rw [← Nat.add_assoc] at k1 k2 k3 k4
        generalize c.toNat = cn at *
        have hB5 := (Below.refl wr.heap.size wr).alloc (Nat.le_refl _) (.cells #[.int .i64 kd, .int .i64 x, .int .i64 y, .int .i64 t, .int .u8 (cn : Int)] 32)
        have hs5 := heap_alloc_new wr (.cells #[.int .i64 kd, .int .i64 x, .int .i64 y, .int .i64 t, .int .u8 (cn : Int)] 32)
        have hK5 := hK.below hB5
        obtain ⟨W5, hW5⟩ : ∃ W5, wr.alloc (.cells #[.int .i64 kd, .int .i64 x, .int .i64 y, .int .i64 t, .int .u8 (cn : Int)] 32) = W5 := ⟨_, rfl⟩
        rw [hW5] at hs5 hK5
        have hkeep : ∀ (W : World) (m' : Md) (o' : List (Int × Int)) (ow : List Int) (L' : List Nat), KpS w W p w2.heap.size n m' o' ow L' → Mod (w2.heap.size :: L) W5 W → W.heap[wr.heap.size]? = some (.cells #[.int .i64 kd, .int .i64 x, .int .i64 y, .int .i64 t, .int .u8 (cn : Int)] 32 (0, 0)) := fun W m' o' ow L' _ hM => by
          refine (hM.block _ (block_lt hs5) fun hm => ?_).trans hs5
          rcases List.mem_cons.1 hm with h1 | h1
          · have := hK.mz.lt; omega
          · have := hK.i.lts _ h1; omega
        have z0 := cell_block hs5 0
        have z1 := cell_block hs5 1
        have z2 := cell_block hs5 2
        have HK := Lib.hid hK5
        have HKeep := Lib.hid hkeep
        have HWf := Lib.hid hwf
        have HW5 := Lib.hid hW5
        simp only [List.getElem?_toArray, List.getElem?_cons_zero, List.getElem?_cons_succ] at z0 z1 z2
        have y0 := z0
        have y1 := z1
        have y2 := z2
        rw [← hW5] at z0 z1 z2
        clear hK hwf hB5 hs5 hK5 hkeep hW5
        go_upto_block 2 with (fail)
        rw [HW5.out]
        clear z0 z1 z2 k0 k1 k2 k3 k4 HW5
        go_cut [11, 12, 13, 14, 15, 16] (fun _ _ _ _ _ _ W => ∃ L m o, KpS w W p w2.heap.size n m o m.own L)
        case first =>
          by_cases h0 : kd = 0
          · subst h0
            by_cases he : opnE m x y = 0
            · have HO := Lib.hid (open_yes x y HWf.out.1 W5 HK.out.i he)
              go_wp2_with fail
              with_reducible refine HO.out.mono ?_
              rintro e w6 ⟨L', rfl, hP, hM, hF⟩
              have HK6 := Lib.hid (show KpS w w6 p w2.heap.size n (opn m x y) o (opn m x y).own L' by rw [opn_own]; exact HK.out.act hP hM hF (by rw [opn_own]))
              clear hP hM hF y0 y1 y2 HO
              go_wp2
              go_meet
              case rel => exact ⟨L', _, o, HK6.out⟩
            · have HO := Lib.hid (open_no E x y HWf.out.1 W5 HK.out.i (HS.out.keep HK.out.B) he)
              go_wp2_with fail
              with_reducible refine HO.out.mono ?_
              rintro e w6 ⟨rfl, rfl⟩
              clear y0 y1 y2 HO
              go_wp2
              go_meet
              case rel => exact ⟨L, m, o, HK.out⟩
          · have k0 : (kd == 0) = false := by simpa using h0
            by_cases h1 : kd = 1
            · subst h1
              by_cases he : clsE m x = 0
              · have HO := Lib.hid (close_yes x HWf.out.1 W5 HK.out.i he)
                go_wp2_with fail
                with_reducible refine HO.out.mono ?_
                rintro e w6 ⟨L', rfl, hP, hM, hF⟩
                have HK6 := Lib.hid (show KpS w w6 p w2.heap.size n (cls m x) o (cls m x).own L' by rw [cls_own]; exact HK.out.act hP hM hF (by rw [cls_own]))
                clear hP hM hF y0 y1 y2 HO
                go_wp2
                go_meet
                case rel => exact ⟨L', _, o, HK6.out⟩
              · have HO := Lib.hid (close_no E x HWf.out.1 W5 HK.out.i (HS.out.keep HK.out.B) he)
                go_wp2_with fail
                with_reducible refine HO.out.mono ?_
                rintro e w6 ⟨rfl, rfl⟩
                clear y0 y1 y2 HO
                go_wp2
                go_meet
                case rel => exact ⟨L, m, o, HK.out⟩
            · have k1 : (kd == 1) = false := by simpa using h1
              by_cases h2 : kd = 2
              · subst h2
                by_cases he : takE m x = 0
                · obtain ⟨c', i, hc, hch, hfr, hti⟩ := takE_zero he
                  obtain ⟨hi, hoi, hrest⟩ := free1_some hfr
                  have hx0 := (HK.out.i.ok.cr _ (crd_mem hc)).1
                  simp only at hx0
                  have hin : i < n := by rw [← HK.out.n]; exact hi
                  have ht := take_yes x HWf.out.1 W5 HK.out.i (HT.out.below HK.out.B) he
                  rw [hti] at ht
                  obtain ⟨ho1, ho2⟩ := HK.out.ow.take hi hoi hx0
                  have hown : (tak m x).own = m.own.set i x := by unfold tak; rw [if_pos he, hti]
                  have hol : o.length < maxLen := by rw [HK.out.ow.len]; have := used_le m.own; have := HK.out.n; unfold maxLen; omega
                  have HO := Lib.hid ht
                  have HX := Lib.hid (And.intro ho1 (And.intro ho2 (And.intro hown hol)))
                  clear hrest ht hc hch hfr hti hoi hi hx0 ho1 ho2 hown hol he
                  go_wp2_with fail
                  with_reducible refine HO.out.mono ?_
                  rintro e w6 ⟨L', rfl, hP, hM, hF⟩
                  have hK6 := HK.out.act hP hM hF (tak_len m x)
                  have hbx := HKeep.out w6 _ _ _ _ hK6 (hM.sub (by intro k hk; simp [hk]))
                  have v1 := cell_block hbx 1
                  have hwi : (Lit.int .i64 (i : Int)).wf = true := WalkArith.wf_i64 (by omega)
                  have hlook := hK6.look (i : Int) hwi
                  rw [HX.out.1] at hlook
                  simp only [zv, Option.isSome_none] at hlook
                  obtain ⟨w7, hrun, hz7, hg7⟩ := hK6.mz.set (t := 30) Tryd.underlying30 Tryd.underlying3 Tryd.underlying3 HX.out.2.2.2 (i : Int) x hwi HWf.out.1 HX.out.1
                  have HK7 := Lib.hid (show KpS w w7 p w2.heap.size n (tak m x) (o ++ [((i : Int), x)]) (tak m x).own L' by rw [HX.out.2.2.1]; exact hK6.put (Mod.of_grown hg7) hz7 HX.out.2.1)
                  simp only [List.getElem?_toArray, List.getElem?_cons_zero, List.getElem?_cons_succ] at v1
                  clear hP hM hF hK6 hbx hz7 hg7 y0 y1 y2 HO HX hwi
                  go_wp2
                  go_meet
                  case rel => exact ⟨L', _, _, HK7.out⟩
                · have hne : ee E (takE m x) = Er.ev E (Er.egs.getD ((takE m x).toNat - 1) 0) := by unfold ee; rw [if_neg he]
                  have ht := take_no E x HWf.out.1 W5 HK.out.i (HT.out.below HK.out.B) (HS.out.keep HK.out.B) he
                  rw [hne] at ht
                  unfold Er.ev at ht
                  generalize E (Er.egs.getD ((takE m x).toNat - 1) 0) = qq at *
                  have HO := Lib.hid ht
                  clear ht hne he
                  go_wp2_with fail
                  with_reducible refine HO.out.mono ?_
                  rintro e w6 ⟨rfl, hb6⟩
                  have HK6 := Lib.hid (HK.out.below hb6)
                  clear hb6 y0 y1 y2 HO
                  go_wp2
                  go_meet
                  case rel => exact ⟨L, m, o, HK6.out⟩
              · have k2 : (kd == 2) = false := by simpa using h2
                by_cases he : hldE m x y = 0
                · obtain ⟨c', hc, hy0, hi, hoi⟩ := hldE_zero he
                  obtain ⟨i, rfl⟩ : ∃ i : Nat, y = (i : Int) := ⟨y.toNat, by omega⟩
                  simp only [Int.toNat_natCast] at hi hoi
                  have hx0 := (HK.out.i.ok.cr _ (crd_mem hc)).1
                  simp only at hx0
                  have ht := give_yes E x (i : Int) HWf.out.1 W5 HK.out.i (HS.out.keep HK.out.B) he
                  obtain ⟨ho1, ho2⟩ := HK.out.ow.give HK.out.mz.nd hi hoi hx0
                  have hown : (giv m x (i : Int)).own = m.own.set i (-1) := by unfold giv; rw [if_pos he, Int.toNat_natCast]
                  have HO := Lib.hid ht
                  have HX := Lib.hid (And.intro ho1 (And.intro ho2 hown))
                  clear ht hc hoi hi hx0 ho1 ho2 hown he hy0
                  go_wp2_with fail
                  with_reducible refine HO.out.mono ?_
                  rintro e w6 ⟨L', rfl, hP, hM, hF⟩
                  have hK6 := HK.out.act hP hM hF (giv_len m x (i : Int))
                  have hbx := HKeep.out w6 _ _ _ _ hK6 (hM.sub (by intro k hk; simp [hk]))
                  have v1 := cell_block hbx 1
                  have v2 := cell_block hbx 2
                  have hlook := hK6.look (i : Int) HWf.out.2
                  rw [HX.out.1] at hlook
                  simp only [zv, Option.isSome_some] at hlook
                  obtain ⟨w7, hrun, hz7, hg7⟩ := hK6.mz.del (t := 30) Tryd.underlying30 Tryd.underlying3 (i : Int) HWf.out.2 (by rw [HX.out.1]; rfl) 0
                  have HK7 := Lib.hid (show KpS w w7 p w2.heap.size n (giv m x (i : Int)) _ (giv m x (i : Int)).own L' by rw [HX.out.2.2]; exact hK6.put (Mod.of_grown hg7) hz7 HX.out.2.1)
                  simp only [List.getElem?_toArray, List.getElem?_cons_zero, List.getElem?_cons_succ] at v1 v2
                  clear hP hM hF hK6 hbx hz7 hg7 y0 y1 y2 HO HX
                  go_wp2
                  go_meet
                  case rel => exact ⟨L', _, _, HK7.out⟩
                · have hne : ee E (hldE m x y) = Er.ev E (Er.egs.getD ((hldE m x y).toNat - 1) 0) := by unfold ee; rw [if_neg he]
                  have ht := give_no E x y HWf.out.1 W5 HK.out.i (HS.out.keep HK.out.B) he
                  rw [hne] at ht
                  unfold Er.ev at ht
                  generalize E (Er.egs.getD ((hldE m x y).toNat - 1) 0) = qq at *
                  have HO := Lib.hid ht
                  clear ht hne he
                  go_wp2_with fail
                  with_reducible refine HO.out.mono ?_
                  rintro e w6 ⟨rfl, rfl⟩
                  clear y0 y1 y2 HO
                  go_wp2
                  go_meet
                  case rel => exact ⟨L, m, o, HK.out⟩
        case rest =>
          clear y0 y1 y2 HK HKeep HWf
          obtain ⟨L, m, o, hK⟩ := hcut
          have hac := accounts_c wc hK.i
          have HK := Lib.hid hK
          have HAc := Lib.hid hac
          clear hK hac
          go_wp2_with fail
          with_reducible refine HAc.out.mono ?_
          rintro e w7 ⟨v, zs, rfl, hz1, hz2, hz3, hrow, hb7⟩
          obtain ⟨ra, rc, rfl, _, _, hrd, _⟩ := rd_own hrow
          have hK7 := HK.out.below hb7
          have hsum := sum_acc hK7.i.ok hz1
          have hul := used_le m.own
          have hnn := hK7.n
          have hcr : ∀ q ∈ zs, ∃ c, crd m.acc q = some c ∧ (held m.own q : Int) ≤ c := fun q hq => by
            have h1 := hz1.mem_iff.1 hq
            obtain ⟨c, hc⟩ := Option.ne_none_iff_exists'.1 (fun h => crd_none.1 h h1)
            exact ⟨c, hc, (hK7.i.ok.cr _ (crd_mem hc)).2.2.2⟩
          obtain ⟨Z, hZ⟩ : ∃ Z, zs.length = Z := ⟨_, rfl⟩
          have hZl : Z ≤ 64 := by rw [← hZ, hz1.length_eq, List.length_map]; exact hK7.i.ok.a1
          have hln := hK7.len 3
          obtain ⟨U, hU⟩ : ∃ U, used m.own = U := ⟨_, rfl⟩
          rw [hU] at hln hsum hul
          have HU := Lib.hid hU
          have HK7 := Lib.hid hK7
          have HRd := Lib.hid hrd
          have HQ := Lib.hid (And.intro hZ (And.intro hsum (And.intro hcr (And.intro hz3 hnn))))
          have hUn : U ≤ 20 := by omega
          rw [hZ]
          clear hz1 hz2 hz3 hrow hb7 hrd hK7 hsum hul hnn hcr hZ hU HK HAc
          go_wp2_with fail
          go_loopw [17, 19, 119] (fun s _ i W => ∃ k : Nat, k ≤ Z ∧ i = .int .i64 (k : Int) ∧ s = .int .i64 ((((zs.take k).map (held m.own)).sum : Nat) : Int) ∧ w7 = W) (fun _ _ i _ => Z - (iv i).toNat)
          case atStart => exact ⟨0, Nat.zero_le _, rfl, by simp, rfl⟩
          case round =>
            obtain ⟨k, hk, rfl, rfl, rfl⟩ := hrel
            by_cases hkZ : k < Z
            · have hkl : k < zs.length := by rw [HQ.out.1]; exact hkZ
              obtain ⟨b2, off2, rfl, kc⟩ := HRd.out.i64 k hkl
              have hin : zs[k] ∈ zs := List.getElem_mem hkl
              obtain ⟨c2, hc2, hle⟩ := HQ.out.2.2.1 _ hin
              have hwf2 := HQ.out.2.2.2.1 _ hin
              have hs1 : ((zs.take (k + 1)).map (held m.own)).sum = ((zs.take k).map (held m.own)).sum + held m.own zs[k] := by
                rw [← List.take_append_getElem hkl, List.map_append, List.sum_append]
                simp
              have hs2 := sum_le zs (held m.own) (k + 1)
              rw [HQ.out.2.1] at hs2
              generalize zs[k] = q at *
              have hH := held_c q hwf2 w7 HK7.out.i
              have hC := credit_c q hwf2 w7 HK7.out.i
              rw [hc2] at hC
              simp only [Option.getD_some] at hC
              obtain ⟨H, hHH⟩ : ∃ H, held m.own q = H := ⟨_, rfl⟩
              obtain ⟨S1, hS1⟩ : ∃ S1, ((zs.take k).map (held m.own)).sum = S1 := ⟨_, rfl⟩
              rw [hHH] at hH hle hs1
              rw [hS1] at hs1 ⊢
              have hd : decide (c2 < (H : Int)) = false := by simp; omega
              have HH := Lib.hid hH
              have HC := Lib.hid hC
              have HS1 := Lib.hid hs1
              have hb : S1 + H ≤ 20 := by omega
              clear hin hc2 hle hwf2 hs1 hs2 hH hC hHH hS1 hkl
              go_wp2_with fail
              with_reducible refine HH.out.mono ?_
              rintro e w8 ⟨rfl, rfl⟩
              go_wp2_with fail
              with_reducible refine HC.out.mono ?_
              rintro e w8 ⟨rfl, rfl⟩
              go_wp2_with fail
              with_reducible refine HH.out.mono ?_
              rintro e w8 ⟨rfl, rfl⟩
              go_wp2_with fail
              go_roundw
              case rel => exact ⟨k + 1, by omega, by go_num, by rw [HS1.out]; go_num, by first | rfl | trivial⟩
              case measure => simp [iv]; omega
            · obtain rfl : k = Z := by omega
              rw [List.take_of_length_le (by rw [HQ.out.1]; exact Nat.le_refl _), HQ.out.2.1]
              have hu := used_c w7 HK7.out.i
              have hf := free_c w7 HK7.out.i
              rw [HU.out] at hu
              rw [HU.out, HQ.out.2.2.2.2] at hf
              have hUm : U ≤ n := by have := used_le m.own; have h1 := HQ.out.2.2.2.2; have h2 := HU.out; omega
              have hsm : (U : Int) + ((n - U : Nat) : Int) = (n : Int) := by omega
              obtain ⟨F, hF⟩ : ∃ F : Int, ((n - U : Nat) : Int) = F := ⟨_, rfl⟩
              rw [hF] at hf hsm
              have hwr : wrap64 ((U : Int) + F) = (n : Int) := by rw [hsm]; unfold wrap64; omega
              have HUs := Lib.hid hu
              have HFr := Lib.hid hf
              clear hu hf hF hUm
              go_wp2_with (first
                | (go_at_call 18; (with_reducible refine HUs.out.mono ?_); rintro e w8 ⟨rfl, rfl⟩)
                | (go_at_call 19; (with_reducible refine HFr.out.mono ?_); rintro e w8 ⟨rfl, rfl⟩))
              go_roundw
              case rel => exact ⟨j + 1, by omega, by go_num, L, m, o, HK7.out⟩
              case measure => simp [iv]; omega
      · obtain rfl : j = N := by omega
        have HB := Lib.hid hK.B
        clear hK
        go_wp2_with fail
        go_ret
        exact ⟨rfl, HB.out⟩
end Po
end Go.Proofs.YtpjimmdpcpcmoaaDoor
