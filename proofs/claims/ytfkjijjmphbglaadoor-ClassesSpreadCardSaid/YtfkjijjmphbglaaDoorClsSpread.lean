/- dofferlaw22.ClassesSpread returns true (written by gen_clsspread.py). Condition: the sentinel errors lie as laid. -/
import Derived.Test.YtfkjijjmphbglaaDoorSpreadNo
import Derived.Test.YtfkjijjmphbglaaDoorClsBytes
import Derived.Test.YtfkjijjmphbglaaDoorClsFew
namespace Go.Proofs.YtfkjijjmphbglaaDoor
open Go Go.RowKit Kt
namespace Cl
open Sb
theorem map_cell {C : List Int} {many : Int} {c : Nat} (hc : c < C.length) : (i64s (C ++ [many])).toArray[c]? = some (.int .i64 (C.getD c 0)) := by
  have h : (C ++ [many])[c]? = some (C.getD c 0) := by rw [List.getElem?_append_left hc, List.getD_eq_getElem?_getD, List.getElem?_eq_getElem hc]; rfl
  simp only [i64s, List.getElem?_toArray, List.getElem?_map, h, Option.map_some]
def BlR (W9 : World) (i : Value) (W : World) : Prop := ∃ c : Nat, c ≤ 256 ∧ i = .int .i64 (c : Int) ∧ Below W9.heap.size W9 W
theorem sprO_step {rws : List IRow} {many : Int} {k : Nat} (hk : k < rws.length) (m : Bool) : (m && !(rws.take (k + 1)).any (sprO many)) = ((m && !(rws.take k).any (sprO many)) && ((rws[k].l.length : Int) == many)) := by
  rw [← List.take_append_getElem hk, List.any_append]
  simp only [List.any_cons, List.any_nil, Bool.or_false, sprO, Bool.not_or, Bool.and_assoc]
  congr 2
  rw [Bool.eq_iff_iff]
  simp
set_option maxHeartbeats 16000000 in
set_option maxRecDepth 100000 in
theorem cspread_c (C : List Int) (many cls : Int) (hC : C.length = 256) (ra : Option Addr) (rc rn : Nat) (rws : List IRow) (hrn : rws.length = rn) (h63 : rn ≤ 9223372036854775807) (w : World) (A : Nat → Addr) (hS : Sent 222 w A Er.egs) (hr : Rd w ra (rws.map IRow.v)) (hok : ∀ r ∈ rws, r.ok w) :
    Calls Tryd.prog 5 #[.agg (i64s (C ++ [many])).toArray, .slice ra rn rc, .int .i64 cls] w fun e w' => e = .returned (.bool true) ∧ Below w.heap.size w w' := by
  have hL : (C ++ [many]).length = 257 := by simp [hC]
  have hnew := heap_alloc_new w (.cells (i64s (C ++ [many])).toArray 30)
  have hb1 := (Below.refl w.heap.size w).alloc (Nat.le_refl _) (.cells (i64s (C ++ [many])).toArray 30)
  have k1 : (i64s (C ++ [many])).toArray[256]? = some (.int .i64 many) := by
    have : (C ++ [many])[256]? = some many := by rw [List.getElem?_append_right (by omega), hC]; rfl
    simp only [i64s, List.getElem?_toArray, List.getElem?_map, this, Option.map_some]
  have HMR := Lib.hid fun W => mright_c C many hC W
  have HRR := Lib.hid fun W => rright_c C many hC W
  have HBy := Lib.hid fun W => bytes_c C many cls hC W
  have HSn := Lib.hid fun W (hb : Below w.heap.size w W) => hS.keep hb
  have HAl := Lib.hid (alive_c (w.alloc (.cells (i64s (C ++ [many])).toArray 30)))
  have H := Lib.hid hr
  have HO := Lib.hid hok
  have Hrn := Lib.hid hrn
  have HC := Lib.hid hC
  have HLn := Lib.hid hL
  have K1 := Lib.hid k1
  have HB1 := Lib.hid hb1
  have Hnew := Lib.hid hnew
  clear hL hnew hb1 k1 hr hok hrn hC hS
  go_enter Tryd.func5, Tryd.ntmps5
  go_wp2_with fail
  refine HAl.out.mono ?_
  rintro e w2 ⟨rfl, hb2⟩
  have hBx := (hb2.block _ (block_lt Hnew.out)).trans Hnew.out
  have hB2 := HB1.out.trans (hb2.mono HB1.out.size)
  have hl := load_arr (C := C) Tryd.underlying28 info28 HC.out (fun i x hx => by rw [List.getElem?_append_left (List.getElem?_eq_some_iff.1 hx).1]; exact hx) hBx
  have k0 := cell_block hBx 256
  rw [K1.out] at k0
  have HBx := Lib.hid hBx
  have HB2 := Lib.hid hB2
  clear hBx hB2 hb2 HAl Hnew HB1
  by_cases h20 : rn ≤ 20
  case neg =>
    have hd : decide (20 < (rn : Int)) = true := by simp; omega
    clear hl k0
    go_wp2
    go_ret
    exact ⟨rfl, HB2.out⟩
  have hd : decide (20 < (rn : Int)) = false := by simp; omega
  go_wp2_with fail
  refine wp_load_run hl rfl rfl ?_
  go_wp2_with fail
  refine (HRR.out _).mono ?_
  rintro e w3 ⟨rfl, hb3⟩
  have hBx3 := (hb3.block _ (block_lt HBx.out)).trans HBx.out
  have hB3 := HB2.out.trans (hb3.mono HB2.out.size)
  have HBx := Lib.hid hBx3
  have HB0 := Lib.hid hB3
  have k0 := cell_block hBx3 256
  rw [K1.out] at k0
  obtain ⟨m, hm⟩ : ∃ m, okm C many = m := ⟨_, rfl⟩
  rw [hm]
  have Hm := Lib.hid hm
  clear hb3 hBx3 hB3 HB2 HRR hm hl
  go_wp2
  go_loopw [8, 10, 31] (fun al _ i W => ∃ k : Nat, k ≤ rn ∧ i = .int .i64 (k : Int) ∧ al = .bool (m && !(rws.take k).any (sprO many)) ∧ w3 = W) (fun _ _ i _ => rn - (intOf i).toNat)
  case atStart => exact ⟨0, by omega, rfl, by simp, rfl⟩
  case round =>
    obtain ⟨k, hk, rfl, rfl, rfl⟩ := hrel
    by_cases hlt : k < rn
    · have hd2 : decide ((k : Int) < (rn : Int)) = true := by simp; omega
      have hkl : k < rws.length := by rw [Hrn.out]; exact hlt
      obtain ⟨b, o, ha, hc⟩ := (H.out.keep HB0.out).map_at k hkl
      subst ha
      have hst := sprO_step (many := many) hkl m
      have hr63 := (HO.out _ (List.getElem_mem hkl)).cap
      have hr64 := (HO.out _ (List.getElem_mem hkl)).max
      unfold maxLen at hr64
      generalize rws[k] = r at *
      obtain ⟨sa, sc, sl⟩ := r
      unfold IRow.v at hc
      simp only at hc hst hr63 hr64
      generalize sl.length = sn at *
      have Hst := Lib.hid hst
      clear hst
      generalize (m && !(rws.take k).any (sprO many)) = al at *
      by_cases h300 : sn ≤ 300
      · have hd3 : decide (300 < (sn : Int)) = false := by simp; omega
        cases al with
        | true =>
          go_wp2
          go_roundw
          case rel => exact ⟨k + 1, hlt, by go_num, by rw [Hst.out, Bool.true_and], by first | trivial | rfl⟩
          case measure => simp [intOf]; omega
        | false =>
          go_wp2
          go_roundw
          case rel => exact ⟨k + 1, hlt, by go_num, by rw [Hst.out, Bool.false_and], by first | trivial | rfl⟩
          case measure => simp [intOf]; omega
      · have hd3 : decide (300 < (sn : Int)) = true := by simp; omega
        go_wp2
        go_ret
        exact ⟨rfl, HB0.out⟩
    have hkn : k = rn := by omega
    subst hkn
    have hd2 : decide ((k : Int) < (k : Int)) = false := by simp
    rw [List.take_of_length_le (by rw [Hrn.out]; exact Nat.le_refl _)]
    have hl := load_map HLn.out HBx.out
    have HnE := Lib.hid ((HSn.out _ HB0.out).cell 0 (by simp [Er.egs]))
    obtain ⟨rn, hrk⟩ : ∃ rn, rn = k := ⟨_, rfl⟩
    subst hrk
    cases hal : (m && !rws.any (sprO many)) with
    | true =>
      obtain ⟨hmt, hnt⟩ := Bool.and_eq_true_iff.1 hal
      have hnf : rws.any (sprO many) = false := by simpa using hnt
      subst hmt
      have Hall := Lib.hid hnf
      have HSp := Lib.hid (spread_c C many HC.out ra rc rn rws Hrn.out (by omega) w3 (H.out.keep HB0.out) (fun r hr => (HO.out r hr).keep HB0.out) Hm.out hnf)
      clear hal hnt hnf k0
      go_wp2_with fail
      refine wp_load_run hl rfl rfl ?_
      go_wp2_with fail
      refine HSp.out.mono ?_
      rintro e w5 ⟨oa, oc, rfl, hout, hb5⟩
      have hl := load_map HLn.out ((hb5.block _ (block_lt HBx.out)).trans HBx.out)
      have HOut := Lib.hid hout
      clear hout HSp
      go_wp2_with fail
      refine wp_load_run hl rfl rfl ?_
      go_wp2_with fail
      refine (HMR.out _).mono ?_
      rintro e w6 ⟨rfl, hb6⟩
      rw [Hm.out]
      have hout := HOut.out.keep hb6
      have hb6 := hb5.trans (hb6.mono hb5.size)
      have HOut := Lib.hid hout
      clear hb5 hl hout
      -- the class's bytes
      have hn7 := (hb6.block _ (block_lt HBx.out)).trans HBx.out
      have hl := load_map HLn.out hn7
      go_wp2_with fail
      refine wp_load_run hl rfl rfl ?_
      go_wp2_with fail
      refine (HBy.out _).mono ?_
      rintro e w8 ⟨rs, rfl, hrs, hb8⟩
      obtain ⟨r0, r1, r2, r3, rfl⟩ := St.four hrs.len
      have HHas := Lib.hid fun (c : Nat) (hc : c < 256) W => St.has_c [r0, r1, r2, r3] _ hrs c hc W
      simp only [St.sv, St.vals, List.map_cons, List.map_nil] at HHas ⊢
      have hnS := heap_alloc_new w8 (.cells #[.int .u64 (r0 : Int), .int .u64 (r1 : Int), .int .u64 (r2 : Int), .int .u64 (r3 : Int)] 56)
      have hb9 := (Below.refl w8.heap.size w8).alloc (Nat.le_refl _) (.cells #[.int .u64 (r0 : Int), .int .u64 (r1 : Int), .int .u64 (r2 : Int), .int .u64 (r3 : Int)] 56)
      have hb89 := (hb6.trans (hb8.mono hb6.size)).trans (hb9.mono (Nat.le_trans hb6.size hb8.size))
      have hout := (HOut.out.keep hb8).keep hb9
      obtain ⟨W9, hW9⟩ : ∃ W9, w8.alloc (.cells #[.int .u64 (r0 : Int), .int .u64 (r1 : Int), .int .u64 (r2 : Int), .int .u64 (r3 : Int)] 56) = W9 := ⟨_, rfl⟩
      rw [hW9] at hnS hb89 hout
      have HW9 := Lib.hid hW9
      have HnS := Lib.hid hnS
      have Hb9 := Lib.hid hb89
      clear hrs hb8 hnS hb9 hb89 hW9 hn7 hl
      go_wp2
      rw [HW9.out]
      go_loopw [14] (fun i W => BlR W9 i W) (fun i _ => 256 - (intOf i).toNat)
      case atStart => exact ⟨0, by omega, rfl, Below.refl _ _⟩
      case round =>
        obtain ⟨c, hc, rfl, hb⟩ := hrel
        by_cases hlt : c < 256
        · have hcI : (c : Int) < 256 := by omega
          have hw8 : IntKind.u8.wrap (c : Int) = (c : Int) := by rw [IntKind.wrap_u8]; omega
          have hS := (hb.block _ (block_lt HnS.out)).trans HnS.out
          have hMp := (Hb9.out.trans (hb.mono Hb9.out.size)).block _ (block_lt HBx.out)
          have hMp := hMp.trans HBx.out
          have hcx := map_cell (many := many) (show c < C.length from (by rw [HC.out]; exact hlt))
          have sk : ∀ W, Below wr.heap.size wr W → W.cell? ⟨w8.heap.size, 0, none⟩ = some (.int .u64 (r0 : Int)) ∧ W.cell? ⟨w8.heap.size, 1, none⟩ = some (.int .u64 (r1 : Int)) ∧ W.cell? ⟨w8.heap.size, 2, none⟩ = some (.int .u64 (r2 : Int)) ∧ W.cell? ⟨w8.heap.size, 3, none⟩ = some (.int .u64 (r3 : Int)) ∧ W.cell? ⟨w.heap.size, c, none⟩ = some (.int .i64 (C.getD c 0)) := by
            intro W hW
            have h1 := (hW.block _ (block_lt hS)).trans hS
            have h2 := (hW.block _ (block_lt hMp)).trans hMp
            exact ⟨cell_block h1 0, cell_block h1 1, cell_block h1 2, cell_block h1 3, by rw [cell_block h2 c]; exact hcx⟩
          have SK := Lib.hid sk
          have HH := Lib.hid (HHas.out c hlt)
          have Hb := Lib.hid hb
          have y0 : Below wr.heap.size wr wr.drew := (Below.refl _ _).drew
          have yr : Below wr.heap.size wr wr := Below.refl _ _
          clear sk hS hMp hcx hb
          generalize C.getD c 0 = x at *
          obtain ⟨v, hv⟩ : ∃ v, decide (x = cls) = v := ⟨_, rfl⟩
          have hv2 : (x == cls) = v := by rw [← hv]; by_cases h : x = cls <;> simp [h]
          rw [hv] at HH
          clear hv
          cases v
          all_goals (
           go_wp2_with fail
           go_region_held3 (fun W => W.cell? ⟨w8.heap.size, 0, none⟩ = some (.int .u64 (r0 : Int)) ∧ W.cell? ⟨w8.heap.size, 1, none⟩ = some (.int .u64 (r1 : Int)) ∧ W.cell? ⟨w8.heap.size, 2, none⟩ = some (.int .u64 (r2 : Int)) ∧ W.cell? ⟨w8.heap.size, 3, none⟩ = some (.int .u64 (r3 : Int)) ∧ W.cell? ⟨w.heap.size, c, none⟩ = some (.int .i64 x))
             (first | with_reducible exact SK.out _ y1 | with_reducible exact SK.out _ yr | with_reducible exact SK.out _ y0)
             (first | (go_at_call 29; refine (HH.out _).mono ?_; rintro e w10 ⟨rfl, hb10⟩; have y1 := y0.trans (hb10.mono y0.size)))
           all_goals (
             go_wp2
             go_roundw
             case rel => first | exact ⟨c + 1, hlt, by go_num, Hb.out.trans (y1.mono Hb.out.size)⟩ | ((repeat apply Exists.intro); (refine ⟨?_, ?_⟩); rotate_left 1; (focus (and_intros <;> rfl)); exact ⟨c + 1, hlt, by go_num, Hb.out.trans (y1.mono Hb.out.size)⟩))
           all_goals (first | (simp [intOf]; omega) | skip))
        · have hc256 : c = 256 := by omega
          subst hc256
          have hd : decide (((256 : Nat) : Int) < 256) = false := by decide
          have hb9 := Hb9.out.trans (hb.mono Hb9.out.size)
          have hout2 := hout.keep hb
          have HOut2 := Lib.hid hout2
          obtain ⟨W2, hW2⟩ : ∃ W2, W2 = wr := ⟨_, rfl⟩
          subst hW2
          clear hout hout2
          have HB := Lib.hid hb9
          clear hb hb9
          go_wp2
          go_loopw [15, 16, 17, 98] (fun _ _ _ i W => ∃ k : Nat, k ≤ rn ∧ i = .int .i64 (k : Int) ∧ ∃ n, W = W2.drewN n) (fun _ _ _ i _ => rn - (intOf i).toNat)
          case atStart => exact ⟨0, by omega, rfl, 0, rfl⟩
          case round =>
            obtain ⟨k, hk, rfl, nk, rfl⟩ := hrel
            by_cases hlk : k < rn
            · have hkl : k < rws.length := by rw [Hrn.out]; exact hlk
              have hbw : Below W2.heap.size W2 (W2.drewN nk) := below_drewN (Below.refl _ _) _
              obtain ⟨ib, io, hia, hic⟩ := ((H.out.keep (HB0.out.trans (HB.out.mono HB0.out.size))).keep hbw).map_at k hkl
              have hmem := List.getElem_mem hkl
              have hrl : (rws[k].l.length : Int) = many := by
                have := List.any_eq_false.1 Hall.out _ hmem
                simpa [sprO] using this
              have hrok := ((HO.out _ hmem).keep (HB0.out.trans (HB.out.mono HB0.out.size))).keep hbw
              obtain ⟨ob, oo, hoa, horg⟩ := row_at (rows := rws.map fun r => sprd C r.l) (by
                intro r hr
                obtain ⟨q, _, rfl⟩ := List.mem_map.1 hr
                rw [sprd_len, HC.out]) (HOut2.out.keep hbw) k (by rw [List.length_map]; exact hkl)
              have hkm : k < (rws.map fun r => sprd C r.l).length := by rw [List.length_map]; exact hkl
              have hrk : (rws.map fun r => sprd C r.l)[k]'hkm = sprd C rws[k].l := by simp
              rw [hrk] at horg
              clear hrk
              subst hia hoa
              generalize rws[k] = r at *
              obtain ⟨sa, sc, sl⟩ := r
              unfold IRow.v at hic
              simp only at hic hrl horg
              generalize hsl : sl.length = sn at *
              have Hsl := Lib.hid hsl
              have Hrg := Lib.hid horg
              have Hrk := Lib.hid hrok
              clear hsl horg hrok
              go_wp2
              go_loopw [17] (fun i W => ∃ c : Nat, c ≤ 256 ∧ i = .int .i64 (c : Int) ∧ ∃ n, W = W2.drewN n) (fun i _ => 256 - (intOf i).toNat)
              case atStart => exact ⟨0, by omega, rfl, nk, rfl⟩
              case round =>
                obtain ⟨c, hc, rfl, nc, rfl⟩ := hrel
                by_cases hlc : c < 256
                · have hcI : (c : Int) < 256 := by omega
                  obtain ⟨x, hx⟩ : ∃ x, C[c]? = some x := ⟨_, List.getElem?_eq_getElem (by rw [HC.out]; exact hlc)⟩
                  have hxr := okm_lt Hm.out (List.mem_of_getElem? hx)
                  obtain ⟨xn, rfl⟩ : ∃ xn : Nat, x = (xn : Int) := ⟨x.toNat, by omega⟩
                  have hxl : xn < sl.length := by rw [Hsl.out]; omega
                  have hxs : xn < sn := by rw [← Hsl.out]; exact hxl
                  have hbc : Below W2.heap.size (W2.drewN nk) (W2.drewN nc) := ⟨rfl, rfl, rfl, Nat.le_refl _, fun _ _ => rfl⟩
                  obtain ⟨sb, so, hsa, hcs⟩ := (Hrk.out.rd.keep hbc).i64 xn hxl
                  have hsp : (i64s (sprd C sl))[c]? = some (.int .i64 sl[xn]) := by
                    have hcl := (List.getElem?_eq_some_iff.1 hx).1
                    have hcv := (List.getElem?_eq_some_iff.1 hx).2
                    simp [i64s, sprd, hcl, hcv, List.getD_eq_getElem?_getD, hxl]
                  have ho1 := Hrg.out c _ hsp
                  have ho2 : W2.cell? ⟨ob, oo + k * 256 + c, none⟩ = some (.int .i64 sl[xn]) := ho1
                  have hMp := cell_block ((HB.out.block _ (block_lt HBx.out)).trans HBx.out) c
                  have hcx := map_cell (many := many) (List.getElem?_eq_some_iff.1 hx).1
                  have hgc : C.getD c 0 = (xn : Int) := by rw [List.getD_eq_getElem?_getD, hx]; rfl
                  rw [hcx, hgc] at hMp
                  have hMp2 : W2.cell? ⟨w.heap.size, c, none⟩ = some (.int .i64 (xn : Int)) := hMp
                  have hcs2 : W2.cell? ⟨sb, so + xn, none⟩ = some (.int .i64 sl[xn]) := hcs
                  simp only at hsa
                  subst hsa
                  generalize sl[xn] = y at *
                  clear ho1 hMp hcx hsp hx hxl hbc hcs hgc
                  go_wp2
                  go_quiet (fail)
                  go_wp2
                  go_roundw
                  case rel => exact ⟨c + 1, by omega, by go_num, _, rfl⟩
                  case measure => simp [intOf]; omega
                · have hc256 : c = 256 := by omega
                  subst hc256
                  have hd : decide (((256 : Nat) : Int) < 256) = false := by decide
                  go_wp2
                  go_roundw
                  case rel => exact ⟨k + 1, by omega, by go_num, _, rfl⟩
                  case measure => simp [intOf]; omega
            · have hkn : k = rn := by omega
              subst hkn
              have hd : decide ((k : Int) < (k : Int)) = false := by simp
              go_wp2
              go_ret
              exact ⟨rfl, below_drewN (HB0.out.trans (HB.out.mono HB0.out.size)) _⟩
    | false =>
      have HSp := Lib.hid (spread_no C many HC.out ra rc rn rws Hrn.out (by omega) w3 _ HnE.out (H.out.keep HB0.out) (fun r hr => (HO.out r hr).keep HB0.out) (by rw [Hm.out]; exact hal))
      have Hal := Lib.hid hal
      clear hal k0
      go_wp2_with fail
      refine wp_load_run hl rfl rfl ?_
      go_wp2_with fail
      refine HSp.out.mono ?_
      rintro e w5 ⟨rfl, hb5⟩
      have hl := load_map HLn.out ((hb5.block _ (block_lt HBx.out)).trans HBx.out)
      clear HSp
      go_wp2_with fail
      refine wp_load_run hl rfl rfl ?_
      go_wp2_with fail
      refine (HMR.out _).mono ?_
      rintro e w6 ⟨rfl, hb6⟩
      rw [Hm.out]
      have hb6 := hb5.trans (hb6.mono hb5.size)
      clear hb5 hl
      have hmm : (m != m) = false := by simp
      -- the class's bytes
      have hn7 := (hb6.block _ (block_lt HBx.out)).trans HBx.out
      have hl := load_map HLn.out hn7
      go_wp2_with fail
      refine wp_load_run hl rfl rfl ?_
      go_wp2_with fail
      refine (HBy.out _).mono ?_
      rintro e w8 ⟨rs, rfl, hrs, hb8⟩
      obtain ⟨r0, r1, r2, r3, rfl⟩ := St.four hrs.len
      have HHas := Lib.hid fun (c : Nat) (hc : c < 256) W => St.has_c [r0, r1, r2, r3] _ hrs c hc W
      simp only [St.sv, St.vals, List.map_cons, List.map_nil] at HHas ⊢
      have hnS := heap_alloc_new w8 (.cells #[.int .u64 (r0 : Int), .int .u64 (r1 : Int), .int .u64 (r2 : Int), .int .u64 (r3 : Int)] 56)
      have hb9 := (Below.refl w8.heap.size w8).alloc (Nat.le_refl _) (.cells #[.int .u64 (r0 : Int), .int .u64 (r1 : Int), .int .u64 (r2 : Int), .int .u64 (r3 : Int)] 56)
      have hb89 := (hb6.trans (hb8.mono hb6.size)).trans (hb9.mono (Nat.le_trans hb6.size hb8.size))
      skip
      obtain ⟨W9, hW9⟩ : ∃ W9, w8.alloc (.cells #[.int .u64 (r0 : Int), .int .u64 (r1 : Int), .int .u64 (r2 : Int), .int .u64 (r3 : Int)] 56) = W9 := ⟨_, rfl⟩
      rw [hW9] at hnS hb89 
      have HW9 := Lib.hid hW9
      have HnS := Lib.hid hnS
      have Hb9 := Lib.hid hb89
      clear hrs hb8 hnS hb9 hb89 hW9 hn7 hl
      go_wp2
      rw [HW9.out]
      go_loopw [14] (fun i W => BlR W9 i W) (fun i _ => 256 - (intOf i).toNat)
      case atStart => exact ⟨0, by omega, rfl, Below.refl _ _⟩
      case round =>
        obtain ⟨c, hc, rfl, hb⟩ := hrel
        by_cases hlt : c < 256
        · have hcI : (c : Int) < 256 := by omega
          have hw8 : IntKind.u8.wrap (c : Int) = (c : Int) := by rw [IntKind.wrap_u8]; omega
          have hS := (hb.block _ (block_lt HnS.out)).trans HnS.out
          have hMp := (Hb9.out.trans (hb.mono Hb9.out.size)).block _ (block_lt HBx.out)
          have hMp := hMp.trans HBx.out
          have hcx := map_cell (many := many) (show c < C.length from (by rw [HC.out]; exact hlt))
          have sk : ∀ W, Below wr.heap.size wr W → W.cell? ⟨w8.heap.size, 0, none⟩ = some (.int .u64 (r0 : Int)) ∧ W.cell? ⟨w8.heap.size, 1, none⟩ = some (.int .u64 (r1 : Int)) ∧ W.cell? ⟨w8.heap.size, 2, none⟩ = some (.int .u64 (r2 : Int)) ∧ W.cell? ⟨w8.heap.size, 3, none⟩ = some (.int .u64 (r3 : Int)) ∧ W.cell? ⟨w.heap.size, c, none⟩ = some (.int .i64 (C.getD c 0)) := by
            intro W hW
            have h1 := (hW.block _ (block_lt hS)).trans hS
            have h2 := (hW.block _ (block_lt hMp)).trans hMp
            exact ⟨cell_block h1 0, cell_block h1 1, cell_block h1 2, cell_block h1 3, by rw [cell_block h2 c]; exact hcx⟩
          have SK := Lib.hid sk
          have HH := Lib.hid (HHas.out c hlt)
          have Hb := Lib.hid hb
          have y0 : Below wr.heap.size wr wr.drew := (Below.refl _ _).drew
          have yr : Below wr.heap.size wr wr := Below.refl _ _
          clear sk hS hMp hcx hb
          generalize C.getD c 0 = x at *
          obtain ⟨v, hv⟩ : ∃ v, decide (x = cls) = v := ⟨_, rfl⟩
          have hv2 : (x == cls) = v := by rw [← hv]; by_cases h : x = cls <;> simp [h]
          rw [hv] at HH
          clear hv
          cases v
          all_goals (
           go_wp2_with fail
           go_region_held3 (fun W => W.cell? ⟨w8.heap.size, 0, none⟩ = some (.int .u64 (r0 : Int)) ∧ W.cell? ⟨w8.heap.size, 1, none⟩ = some (.int .u64 (r1 : Int)) ∧ W.cell? ⟨w8.heap.size, 2, none⟩ = some (.int .u64 (r2 : Int)) ∧ W.cell? ⟨w8.heap.size, 3, none⟩ = some (.int .u64 (r3 : Int)) ∧ W.cell? ⟨w.heap.size, c, none⟩ = some (.int .i64 x))
             (first | with_reducible exact SK.out _ y1 | with_reducible exact SK.out _ yr | with_reducible exact SK.out _ y0)
             (first | (go_at_call 29; refine (HH.out _).mono ?_; rintro e w10 ⟨rfl, hb10⟩; have y1 := y0.trans (hb10.mono y0.size)))
           all_goals (
             go_wp2
             go_roundw
             case rel => first | exact ⟨c + 1, hlt, by go_num, Hb.out.trans (y1.mono Hb.out.size)⟩ | ((repeat apply Exists.intro); (refine ⟨?_, ?_⟩); rotate_left 1; (focus (and_intros <;> rfl)); exact ⟨c + 1, hlt, by go_num, Hb.out.trans (y1.mono Hb.out.size)⟩))
           all_goals (first | (simp [intOf]; omega) | skip))
        · have hc256 : c = 256 := by omega
          subst hc256
          have hd : decide (((256 : Nat) : Int) < 256) = false := by decide
          have hb9 := Hb9.out.trans (hb.mono Hb9.out.size)
          obtain ⟨W2, hW2⟩ : ∃ W2, W2 = wr := ⟨_, rfl⟩
          subst hW2
          have HB := Lib.hid hb9
          clear hb hb9
          have hnm := Er.num_at A 0 4 3 (by omega) rfl (by omega) W2 (HSn.out _ (HB0.out.trans (HB.out.mono HB0.out.size)))
          have HNm := Lib.hid hnm
          clear hnm
          go_wp2_with fail
          refine HNm.out.mono ?_
          rintro e w11 ⟨rfl, hb11⟩
          go_wp2
          go_ret
          exact ⟨by first | rfl | simp, (HB0.out.trans (HB.out.mono HB0.out.size)).trans (hb11.mono (HB0.out.trans (HB.out.mono HB0.out.size)).size)⟩
end Cl
end Go.Proofs.YtfkjijjmphbglaaDoor
