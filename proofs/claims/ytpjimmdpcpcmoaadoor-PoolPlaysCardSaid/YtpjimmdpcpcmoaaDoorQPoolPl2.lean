/- dofferlaw30.PoolPlays. Conditions: the sentinels, and the table of TrailingZeros64, read as laid. -/
import Derived.Test.YtpjimmdpcpcmoaaDoorQPoolPl1
import Derived.Test.YtpjimmdpcpcmoaaDoorQPoolAlive
import Derived.Deep.CutBlock
namespace Go.Proofs.YtpjimmdpcpcmoaaDoor
open Go Go.RowKit Kt
namespace Po
set_option maxRecDepth 100000 in
set_option maxHeartbeats 8000000 in
/-- The law PoolPlays. -/
theorem plays_c (E : Nat → Addr) (i0 i1 : Int) (a : Option Addr) (cap : Nat) (l : List AcT) (w : World) (hl : l.length ≤ 9223372036854775807) (hr : Rd w a (l.flatMap ac5)) (hw : ∀ x ∈ l, (Lit.int .i64 x.n).wf = true ∧ (Lit.int .i64 x.m).wf = true) (hT : Bt.Tab w) (hs : Sent 169 w E Er.egs) :
    Calls Tryd.prog 5 #[.int .i64 i0, .int .i64 i1, .slice a l.length cap] w fun e w' => e = .returned (.bool true) ∧ Below w.heap.size w w' := by
  have hal := alive_c E w hT hs
  obtain ⟨N, hN⟩ : ∃ N, l.length = N := ⟨_, rfl⟩
  rw [hN] at hl ⊢
  have HAl := Lib.hid hal
  have HT := Lib.hid hT
  have HS := Lib.hid hs
  have HR := Lib.hid hr
  have HW := Lib.hid hw
  have HN := Lib.hid hN
  clear hal hT hs hr hw hN
  go_enter Tryd.func5, Tryd.ntmps5
  go_wp2_with fail
  with_reducible refine HAl.out.mono ?_
  rintro e w1 ⟨rfl, hb1⟩
  have HB1 := Lib.hid hb1
  clear hb1 HAl
  by_cases h80 : 80 < N
  · have hd : decide ((80 : Int) < (N : Int)) = true := by simp; omega
    go_wp2_with fail
    go_ret
    exact ⟨rfl, HB1.out⟩
  · have hd : decide ((80 : Int) < (N : Int)) = false := by simp; omega
    by_cases hg : i0 < 1 ∨ 256 < i0 ∨ i1 < 1 ∨ 64 < i1
    · have HNew := Lib.hid (new_no E i0 i1 w1 (HS.out.keep HB1.out) hg)
      go_wp2_with fail
      with_reducible refine HNew.out.mono ?_
      rintro e w2 ⟨rfl, hb2⟩
      have HRn := Lib.hid (rnew_no i0 i1 w2 hg)
      have hB2 := HB1.out.trans (hb2.mono HB1.out.size)
      have HB2 := Lib.hid hB2
      have HNum := Lib.hid (num_ee E 1 (by decide) (by decide) w2 (HS.out.keep hB2))
      generalize ee E 1 = e1 at *
      clear hb2 hB2 HNew hg
      go_wp2_with fail
      with_reducible refine HRn.out.mono ?_
      rintro e w3 ⟨rfl, rfl⟩
      go_wp2_with fail
      with_reducible refine HNum.out.mono ?_
      rintro e w3 ⟨rfl, hb3⟩
      have HB3 := Lib.hid (HB2.out.trans (hb3.mono HB2.out.size))
      clear hb3
      go_wp2_with fail
      go_ret
      exact ⟨rfl, HB3.out⟩
    · obtain ⟨n, rfl⟩ : ∃ n : Nat, i0 = (n : Int) := ⟨i0.toNat, by omega⟩
      obtain ⟨s, rfl⟩ : ∃ s : Nat, i1 = (s : Int) := ⟨i1.toNat, by omega⟩
      have n1 : 1 ≤ n := by omega
      have n2 : n ≤ 256 := by omega
      have s1 : 1 ≤ s := by omega
      have s2 : s ≤ 64 := by omega
      clear hg
      have HNew := Lib.hid (new_yes n s n1 n2 s1 s2 w1)
      go_wp2_with fail
      with_reducible refine HNew.out.mono ?_
      rintro e w2 ⟨p, L, rfl, hP, hL, hb2⟩
      have HRn := Lib.hid (rnew_yes n s n1 n2 s1 s2 w2)
      have H2 := Lib.hid (And.intro hP (And.intro hL hb2))
      clear hP hL hb2 HNew
      go_wp2_with fail
      with_reducible refine HRn.out.mono ?_
      rintro e w3 ⟨z, M, rfl, hR, hM, hb3⟩
      have hB2 := HB1.out.trans (H2.out.2.2.mono HB1.out.size)
      have h0 : PlS w w3 p z L M (new n s) (new n s) := by
        refine ⟨H2.out.1.below hb3, hR, fun k hk hm => ?_, fun k hk => ?_, fun k hk => ?_, hB2.trans (hb3.mono hB2.size)⟩
        · have := H2.out.1.lts k hk; have := hM k hm; omega
        · have := H2.out.2.1 k hk; have := HB1.out.size; omega
        · have := hM k hk; have := hB2.size; omega
      have H0 := Lib.hid (show ∃ L M m, PlS w w3 p z L M m m from ⟨L, M, _, h0⟩)
      clear h0 hB2 hR hM hb3 H2 HRn
      go_wp2_with fail
      go_loopw [11, 12, 13, 14, 15, 16, 17, 18, 19, 20, 52] (fun _ _ _ _ _ _ _ _ _ _ i W => ∃ j : Nat, j ≤ N ∧ i = .int .i64 (j : Int) ∧ ∃ L M m, PlS w W p z L M m m) (fun _ _ _ _ _ _ _ _ _ _ i _ => N - (iv i).toNat)
      case atStart => exact ⟨0, Nat.zero_le _, rfl, H0.out⟩
      case round =>
        clear H0
        obtain ⟨j, hj, rfl, L, M, m, hK⟩ := hrel
        by_cases hjN : j < N
        · obtain ⟨b, off, ha, hcs⟩ := (HR.out.keep hK.B).struct 5 (by intro z _; rfl) j (by rw [HN.out]; exact hjN) (by omega)
          have k0 := hcs 0 _ rfl (by omega)
          have k1 := hcs 1 _ rfl (by omega)
          have k2 := hcs 2 _ rfl (by omega)
          have k3 := hcs 3 _ rfl (by omega)
          have k4 := hcs 4 _ rfl (by omega)
          have hwf := HW.out _ (List.getElem_mem (by rw [HN.out]; exact hjN : j < l.length))
          clear hcs
          subst ha
          generalize l[j]'(by rw [HN.out]; exact hjN) = act at *
          obtain ⟨kd, x, y, t, c⟩ := act
          simp only [Nat.add_zero] at k0 k1 k2 k3 k4 hwf
          rw [← Nat.add_assoc] at k1 k2 k3 k4
          obtain ⟨cv, hcv⟩ : ∃ cv : Value, .int .u8 (c.toNat : Int) = cv := ⟨_, rfl⟩
          have hB5 := (Below.refl wr.heap.size wr).alloc (Nat.le_refl _) (.cells #[.int .i64 kd, .int .i64 x, .int .i64 y, .int .i64 t, .int .u8 (c.toNat : Int)] 32)
          have hs5 := heap_alloc_new wr (.cells #[.int .i64 kd, .int .i64 x, .int .i64 y, .int .i64 t, .int .u8 (c.toNat : Int)] 32)
          obtain ⟨W5, hW5⟩ : ∃ W5, wr.alloc (.cells #[.int .i64 kd, .int .i64 x, .int .i64 y, .int .i64 t, .int .u8 (c.toNat : Int)] 32) = W5 := ⟨_, rfl⟩
          have hK5 : PlX w W5 p z wr.heap.size (.cells #[.int .i64 kd, .int .i64 x, .int .i64 y, .int .i64 t, .int .u8 (c.toNat : Int)] 32 (0, 0)) m m :=
            ⟨L, M, by rw [← hW5]; exact hK.below hB5, by rw [← hW5]; exact hs5, fun hm => by have := hK.i.lts _ hm; omega, fun hm => by have := hK.r.lts _ hm; omega⟩
          clear hcv
          clear cv
          rw [hW5] at hs5
          have z0 := cell_block hs5 0
          simp only [List.getElem?_toArray, List.getElem?_cons_zero, List.getElem?_cons_succ] at z0
          have y0 := z0
          rw [← hW5] at z0
          have HW5 := Lib.hid hW5
          have HK := Lib.hid hK5
          have HWf := Lib.hid hwf
          generalize hcn : c.toNat = cn at *
          clear hK hwf hB5 hs5 hK5 hW5
          go_upto_block 2 with (fail)
          rw [HW5.out]
          clear z0 k0 k1 k2 k3 k4 HW5
          go_cut [12] (fun g W => g = .bool true ∧ ∃ m', PlX w W p z wr.heap.size (.cells #[.int .i64 kd, .int .i64 x, .int .i64 y, .int .i64 t, .int .u8 (cn : Int)] 32 (0, 0)) m' m')
          case first =>
            have v1 := cell_block HK.out.blk 1
            simp only [List.getElem?_toArray, List.getElem?_cons_zero, List.getElem?_cons_succ] at v1
            by_cases h2 : kd = 2
            · subst h2
              have HTk := Lib.hid (HK.out.takep E HS.out HT.out x HWf.out.1)
              go_wp2_with fail
              with_reducible refine HTk.out.mono ?_
              rintro e w6 ⟨rfl, X6⟩
              have u1 := cell_block X6.blk 1
              simp only [List.getElem?_toArray, List.getElem?_cons_zero, List.getElem?_cons_succ] at u1
              have HTr := Lib.hid (X6.taker x)
              have hr := takE_r m x
              have HX6 := Lib.hid (fun W (X : PlX w W p z wr.heap.size (.cells #[.int .i64 2, .int .i64 x, .int .i64 y, .int .i64 t, .int .u8 (cn : Int)] 32 (0, 0)) (tak m x) (tak m x)) => X.num E HS.out hr.1 hr.2)
              generalize ee E (takE m x) = ev at *
              generalize takE m x = ke at *
              clear X6 hr HTk y0 v1
              go_wp2_with fail
              with_reducible refine HTr.out.mono ?_
              rintro e w7 ⟨rfl, X7⟩
              have HNm := Lib.hid (HX6.out w7 X7)
              clear X7 HX6 HTr u1
              go_wp2_with fail
              with_reducible refine HNm.out.mono ?_
              rintro e w8 ⟨rfl, X8⟩
              have HX8 := Lib.hid X8
              clear X8
              go_wp2_with fail
              go_meet
              case rel => exact ⟨by simp, _, HX8.out⟩
            · by_cases h4 : kd = 4
              · subst h4
                have v2 := cell_block HK.out.blk 2
                have v3 := cell_block HK.out.blk 3
                simp only [List.getElem?_toArray, List.getElem?_cons_zero, List.getElem?_cons_succ] at v2 v3
                have HPl := Lib.hid (HK.out.placer x y t)
                by_cases he : plcE m x y t = 0
                · as_aux_lemma =>
                    obtain ⟨jb, ib, _, _, _, rfl, rfl, hjl, hil, _⟩ := HK.out.byte he
                    have hok := HK.out.ok
                    have hn2 := hok.n2
                    have hs2 := hok.s2
                    rw [he] at HPl
                    have hSet := fun W (X : PlX w W p z wr.heap.size (.cells #[.int .i64 4, .int .i64 x, .int .i64 (jb : Int), .int .i64 (ib : Int), .int .u8 (cn : Int)] 32 (0, 0)) m (put m x jb ib c)) => X.setp E HS.out x jb ib c HWf.out.1
                    have hNum := fun W (X : PlX w W p z wr.heap.size (.cells #[.int .i64 4, .int .i64 x, .int .i64 (jb : Int), .int .i64 (ib : Int), .int .u8 (cn : Int)] 32 (0, 0)) (put m x jb ib c) (put m x jb ib c)) => X.num E HS.out (n := 0) (by decide) (by decide)
                    have hByte := fun W (X : PlX w W p z wr.heap.size (.cells #[.int .i64 4, .int .i64 x, .int .i64 (jb : Int), .int .i64 (ib : Int), .int .u8 (cn : Int)] 32 (0, 0)) m m) => X.byte he
                    have hcl := fun W mp mr (X : PlX w W p z wr.heap.size (.cells #[.int .i64 4, .int .i64 x, .int .i64 (jb : Int), .int .i64 (ib : Int), .int .u8 (cn : Int)] 32 (0, 0)) mp mr) => And.intro (cell_block X.blk 1) (And.intro (cell_block X.blk 2) (And.intro (cell_block X.blk 3) (cell_block X.blk 4)))
                    simp only [List.getElem?_toArray, List.getElem?_cons_zero, List.getElem?_cons_succ] at hcl
                    rw [he, hcn] at hSet
                    generalize ee E 0 = ev at *
                    have HSet := Lib.hid hSet
                    have HNum := Lib.hid hNum
                    have HByte := Lib.hid hByte
                    have HC := Lib.hid hcl
                    clear hSet hNum hByte hok y0 hcl
                    go_wp2_with fail
                    with_reducible refine HPl.out.mono ?_
                    rintro e w6 ⟨rfl, X6⟩
                    have X6d := X6.below (Below.refl w6.heap.size w6).drew
                    obtain ⟨j', i', bb, bc, g, e1, e2, _, _, b2, bj, bi, bf, g1, g2, hst⟩ := HByte.out w6.drew X6d
                    have e1' : j' = jb := by omega
                    have e2' : i' = ib := by omega
                    subst e1' e2'
                    have X7 := hst c
                    rw [hcn] at X7
                    have hc6 := HC.out _ _ _ X6d
                    have hc7 := HC.out _ _ _ X7
                    have k2 : (w6.drew.setCell ⟨g, i', none⟩ (.int .u8 (cn : Int))).cell? ⟨z, 2, none⟩ = some (.slice (some ⟨bb, 0, none⟩) m.own.length bc) := (World.cell?_setCell_far _ _ _ _ (Ne.symm g1)).trans b2
                    have k5 : (w6.drew.setCell ⟨g, i', none⟩ (.int .u8 (cn : Int))).cell? ⟨bb, j', none⟩ = some (.slice (some ⟨g, 0, none⟩) m.size m.size) := (World.cell?_setCell_far _ _ _ _ (Ne.symm g2)).trans bj
                    generalize m.own.length = nn at *
                    generalize m.size = ss at *
                    generalize (get m x (j' : Int) (i' : Int)).toNat = gg at *
                    have HX7 := Lib.hid X7
                    have H6 := Lib.hid (And.intro b2 (And.intro bj (And.intro hc6.2.1 (And.intro hc6.2.2.1 hc6.2.2.2))))
                    have H7 := Lib.hid (And.intro k2 (And.intro k5 (And.intro hc7.2.1 (And.intro hc7.2.2.1 hc7.2.2.2))))
                    have i1 : (j' : Int) < (nn : Int) := by omega
                    have i2 : (i' : Int) < (ss : Int) := by omega
                    have i3 : (0 : Int) ≤ (j' : Int) := by omega
                    have i4 : (0 : Int) ≤ (i' : Int) := by omega
                    clear X6 X6d X7 hst e1 e2 HPl HByte v1 v2 v3 b2 bj hc6 hc7 k2 k5
                    go_wp2_with fail
                    go_region_held3 (fun W => W.cell? ⟨z, 2, none⟩ = some (.slice (some ⟨bb, 0, none⟩) nn bc) ∧ W.cell? ⟨bb, j', none⟩ = some (.slice (some ⟨g, 0, none⟩) ss ss) ∧ W.cell? ⟨wr.heap.size, 2, none⟩ = some (.int .i64 (j' : Int)) ∧ W.cell? ⟨wr.heap.size, 3, none⟩ = some (.int .i64 (i' : Int)) ∧ W.cell? ⟨wr.heap.size, 4, none⟩ = some (.int .u8 (cn : Int))) (first | exact H7.out | exact H6.out) (fail)
                    have hsw : w6.drew.setCell ⟨g, i', none⟩ (.int .u8 (cn : Int)) = (w6.setCell ⟨g, i', none⟩ (.int .u8 (cn : Int))).drew := by first | rfl | simp
                    rw [hsw] at HX7
                    obtain ⟨W7, hW7⟩ : ∃ W7, (w6.setCell ⟨g, i', none⟩ (.int .u8 (cn : Int))).drew = W7 := ⟨_, rfl⟩
                    rw [hW7] at HX7
                    rw [hW7]
                    obtain ⟨t1, t2, t3, t4⟩ := HC.out _ _ _ HX7.out
                    have HS6 := Lib.hid (HSet.out _ HX7.out)
                    clear hW7 hsw
                    clear HX7 HSet H6 H7 HC bi bf
                    go_wp2_with fail
                    with_reducible refine HS6.out.mono ?_
                    rintro e w7 ⟨rfl, X7⟩
                    have HN7 := Lib.hid (HNum.out w7 X7)
                    clear X7 HS6 HNum t1 t2 t3 t4
                    go_wp2_with fail
                    with_reducible refine HN7.out.mono ?_
                    rintro e w8 ⟨rfl, X8⟩
                    have HX8 := Lib.hid X8
                    clear X8
                    go_wp2_with fail
                    go_meet
                    case rel => exact ⟨by simp, _, HX8.out⟩
                · have hr := plcE_r m x y t
                  have hput : put m x y t c = m := by unfold put; rw [if_neg he]
                  have hSet := fun W (X : PlX w W p z wr.heap.size (.cells #[.int .i64 4, .int .i64 x, .int .i64 y, .int .i64 t, .int .u8 (cn : Int)] 32 (0, 0)) m m) => X.setp E HS.out x y t c HWf.out.1
                  have hNum := fun W (X : PlX w W p z wr.heap.size (.cells #[.int .i64 4, .int .i64 x, .int .i64 y, .int .i64 t, .int .u8 (cn : Int)] 32 (0, 0)) m m) => X.num E HS.out hr.1 hr.2
                  rw [hput, hcn] at hSet
                  have hkb : (plcE m x y t == 0) = false := by simpa using he
                  generalize ee E (plcE m x y t) = ev at *
                  generalize plcE m x y t = ke at *
                  have HSet := Lib.hid hSet
                  have HNum := Lib.hid hNum
                  clear hSet hNum hput hr he y0
                  go_wp2_with fail
                  with_reducible refine HPl.out.mono ?_
                  rintro e w6 ⟨rfl, X6⟩
                  have u1 := cell_block X6.blk 1
                  have u2 := cell_block X6.blk 2
                  have u3 := cell_block X6.blk 3
                  have u4 := cell_block X6.blk 4
                  simp only [List.getElem?_toArray, List.getElem?_cons_zero, List.getElem?_cons_succ] at u1 u2 u3 u4
                  have HS6 := Lib.hid (HSet.out w6 X6)
                  clear X6 HPl HSet v1 v2 v3
                  go_wp2_with fail
                  with_reducible refine HS6.out.mono ?_
                  rintro e w7 ⟨rfl, X7⟩
                  have HN7 := Lib.hid (HNum.out w7 X7)
                  clear X7 HS6 HNum u1 u2 u3 u4
                  go_wp2_with fail
                  with_reducible refine HN7.out.mono ?_
                  rintro e w8 ⟨rfl, X8⟩
                  have HX8 := Lib.hid X8
                  clear X8
                  go_wp2_with fail
                  go_meet
                  case rel => exact ⟨by simp, _, HX8.out⟩
              · by_cases h0 : kd = 0
                · as_aux_lemma =>
                    subst h0
                    have hpw := fun W mr (X : PlX w W p z wr.heap.size (.cells #[.int .i64 0, .int .i64 x, .int .i64 y, .int .i64 t, .int .u8 (cn : Int)] 32 (0, 0)) m mr) => X.openp E HS.out x y HWf.out.1
                    have hnm := fun W mr (X : PlX w W p z wr.heap.size (.cells #[.int .i64 0, .int .i64 x, .int .i64 y, .int .i64 t, .int .u8 (cn : Int)] 32 (0, 0)) (opn m x y) mr) => X.num E HS.out (opnE_r m x y).1 (opnE_r m x y).2
                    have hrm := fun W mp (X : PlX w W p z wr.heap.size (.cells #[.int .i64 0, .int .i64 x, .int .i64 y, .int .i64 t, .int .u8 (cn : Int)] 32 (0, 0)) mp m) => X.openr x y
                    have hcl := fun W mp mr (X : PlX w W p z wr.heap.size (.cells #[.int .i64 0, .int .i64 x, .int .i64 y, .int .i64 t, .int .u8 (cn : Int)] 32 (0, 0)) mp mr) => And.intro (cell_block X.blk 1) (cell_block X.blk 2)
                    simp only [List.getElem?_toArray, List.getElem?_cons_zero, List.getElem?_cons_succ] at hcl
                    have X0 : PlX w W5.drew p z wr.heap.size (.cells #[.int .i64 0, .int .i64 x, .int .i64 y, .int .i64 t, .int .u8 (cn : Int)] 32 (0, 0)) m m := HK.out.below (Below.refl _ _).drew
                    generalize ee E (opnE m x y) = ev at *
                    generalize opnE m x y = ke at *
                    generalize opn m x y = m1 at *
                    have HP := Lib.hid hpw
                    have HN := Lib.hid hnm
                    have HM := Lib.hid hrm
                    have HC := Lib.hid hcl
                    clear hpw hnm hrm hcl v1
                    go_wp2_with fail
                    go_region_held3 (fun W => W.cell? ⟨wr.heap.size, 1, none⟩ = some (.int .i64 x) ∧ W.cell? ⟨wr.heap.size, 2, none⟩ = some (.int .i64 y)) (first | exact HC.out _ _ _ X3 | exact HC.out _ _ _ X2 | exact HC.out _ _ _ X1 | exact HC.out _ _ _ X0)
                      (first
                        | (go_at_call 11; first | (with_reducible refine (HP.out _ _ X0).mono ?_; rintro e wa ⟨rfl, X1⟩) | (with_reducible refine (HP.out _ _ X1).mono ?_; rintro e wb ⟨rfl, X2⟩))
                        | (go_at_call 22; first | (with_reducible refine (HN.out _ _ X2).mono ?_; rintro e wc ⟨rfl, X3⟩) | (with_reducible refine (HN.out _ _ X1).mono ?_; rintro e wb ⟨rfl, X2⟩))
                        | (go_at_call 26; first | (with_reducible refine (HM.out _ _ X2).mono ?_; rintro e wc ⟨rfl, X3⟩) | (with_reducible refine (HM.out _ _ X1).mono ?_; rintro e wb ⟨rfl, X2⟩) | (with_reducible refine (HM.out _ _ X0).mono ?_; rintro e wa ⟨rfl, X1⟩)))
                    all_goals
                      have HX3 := Lib.hid X3
                      clear X0 X1 X2 X3
                      go_wp2
                      go_meet
                      case rel => exact ⟨by simp, _, HX3.out⟩
                · by_cases h1 : kd = 1
                  · as_aux_lemma =>
                      subst h1
                      have hpw := fun W mr (X : PlX w W p z wr.heap.size (.cells #[.int .i64 1, .int .i64 x, .int .i64 y, .int .i64 t, .int .u8 (cn : Int)] 32 (0, 0)) m mr) => X.closep E HS.out x HWf.out.1
                      have hnm := fun W mr (X : PlX w W p z wr.heap.size (.cells #[.int .i64 1, .int .i64 x, .int .i64 y, .int .i64 t, .int .u8 (cn : Int)] 32 (0, 0)) (cls m x) mr) => X.num E HS.out (clsE_r m x).1 (clsE_r m x).2
                      have hrm := fun W mp (X : PlX w W p z wr.heap.size (.cells #[.int .i64 1, .int .i64 x, .int .i64 y, .int .i64 t, .int .u8 (cn : Int)] 32 (0, 0)) mp m) => X.closer x
                      have hcl := fun W mp mr (X : PlX w W p z wr.heap.size (.cells #[.int .i64 1, .int .i64 x, .int .i64 y, .int .i64 t, .int .u8 (cn : Int)] 32 (0, 0)) mp mr) => And.intro (cell_block X.blk 1) (cell_block X.blk 2)
                      simp only [List.getElem?_toArray, List.getElem?_cons_zero, List.getElem?_cons_succ] at hcl
                      have X0 : PlX w W5.drew p z wr.heap.size (.cells #[.int .i64 1, .int .i64 x, .int .i64 y, .int .i64 t, .int .u8 (cn : Int)] 32 (0, 0)) m m := HK.out.below (Below.refl _ _).drew
                      generalize ee E (clsE m x) = ev at *
                      generalize clsE m x = ke at *
                      generalize cls m x = m1 at *
                      have HP := Lib.hid hpw
                      have HN := Lib.hid hnm
                      have HM := Lib.hid hrm
                      have HC := Lib.hid hcl
                      clear hpw hnm hrm hcl v1
                      go_wp2_with fail
                      go_region_held3 (fun W => W.cell? ⟨wr.heap.size, 1, none⟩ = some (.int .i64 x) ∧ W.cell? ⟨wr.heap.size, 2, none⟩ = some (.int .i64 y)) (first | exact HC.out _ _ _ X3 | exact HC.out _ _ _ X2 | exact HC.out _ _ _ X1 | exact HC.out _ _ _ X0)
                        (first
                          | (go_at_call 12; first | (with_reducible refine (HP.out _ _ X0).mono ?_; rintro e wa ⟨rfl, X1⟩) | (with_reducible refine (HP.out _ _ X1).mono ?_; rintro e wb ⟨rfl, X2⟩))
                          | (go_at_call 22; first | (with_reducible refine (HN.out _ _ X2).mono ?_; rintro e wc ⟨rfl, X3⟩) | (with_reducible refine (HN.out _ _ X1).mono ?_; rintro e wb ⟨rfl, X2⟩))
                          | (go_at_call 27; first | (with_reducible refine (HM.out _ _ X2).mono ?_; rintro e wc ⟨rfl, X3⟩) | (with_reducible refine (HM.out _ _ X1).mono ?_; rintro e wb ⟨rfl, X2⟩) | (with_reducible refine (HM.out _ _ X0).mono ?_; rintro e wa ⟨rfl, X1⟩)))
                      all_goals
                        have HX3 := Lib.hid X3
                        clear X0 X1 X2 X3
                        go_wp2
                        go_meet
                        case rel => exact ⟨by simp, _, HX3.out⟩
                  · by_cases h3 : kd = 3
                    · as_aux_lemma =>
                        subst h3
                        have hpw := fun W mr (X : PlX w W p z wr.heap.size (.cells #[.int .i64 3, .int .i64 x, .int .i64 y, .int .i64 t, .int .u8 (cn : Int)] 32 (0, 0)) m mr) => X.givep E HS.out x y HWf.out.1
                        have hnm := fun W mr (X : PlX w W p z wr.heap.size (.cells #[.int .i64 3, .int .i64 x, .int .i64 y, .int .i64 t, .int .u8 (cn : Int)] 32 (0, 0)) (giv m x y) mr) => X.num E HS.out (hldE_r m x y).1 (hldE_r m x y).2
                        have hrm := fun W mp (X : PlX w W p z wr.heap.size (.cells #[.int .i64 3, .int .i64 x, .int .i64 y, .int .i64 t, .int .u8 (cn : Int)] 32 (0, 0)) mp m) => X.giver x y
                        have hcl := fun W mp mr (X : PlX w W p z wr.heap.size (.cells #[.int .i64 3, .int .i64 x, .int .i64 y, .int .i64 t, .int .u8 (cn : Int)] 32 (0, 0)) mp mr) => And.intro (cell_block X.blk 1) (cell_block X.blk 2)
                        simp only [List.getElem?_toArray, List.getElem?_cons_zero, List.getElem?_cons_succ] at hcl
                        have X0 : PlX w W5.drew p z wr.heap.size (.cells #[.int .i64 3, .int .i64 x, .int .i64 y, .int .i64 t, .int .u8 (cn : Int)] 32 (0, 0)) m m := HK.out.below (Below.refl _ _).drew
                        generalize ee E (hldE m x y) = ev at *
                        generalize hldE m x y = ke at *
                        generalize giv m x y = m1 at *
                        have HP := Lib.hid hpw
                        have HN := Lib.hid hnm
                        have HM := Lib.hid hrm
                        have HC := Lib.hid hcl
                        clear hpw hnm hrm hcl v1
                        go_wp2_with fail
                        go_region_held3 (fun W => W.cell? ⟨wr.heap.size, 1, none⟩ = some (.int .i64 x) ∧ W.cell? ⟨wr.heap.size, 2, none⟩ = some (.int .i64 y)) (first | exact HC.out _ _ _ X3 | exact HC.out _ _ _ X2 | exact HC.out _ _ _ X1 | exact HC.out _ _ _ X0)
                          (first
                            | (go_at_call 14; first | (with_reducible refine (HP.out _ _ X0).mono ?_; rintro e wa ⟨rfl, X1⟩) | (with_reducible refine (HP.out _ _ X1).mono ?_; rintro e wb ⟨rfl, X2⟩))
                            | (go_at_call 22; first | (with_reducible refine (HN.out _ _ X2).mono ?_; rintro e wc ⟨rfl, X3⟩) | (with_reducible refine (HN.out _ _ X1).mono ?_; rintro e wb ⟨rfl, X2⟩))
                            | (go_at_call 29; first | (with_reducible refine (HM.out _ _ X2).mono ?_; rintro e wc ⟨rfl, X3⟩) | (with_reducible refine (HM.out _ _ X1).mono ?_; rintro e wb ⟨rfl, X2⟩) | (with_reducible refine (HM.out _ _ X0).mono ?_; rintro e wa ⟨rfl, X1⟩)))
                        all_goals
                          have HX3 := Lib.hid X3
                          clear X0 X1 X2 X3
                          go_wp2
                          go_meet
                          case rel => exact ⟨by simp, _, HX3.out⟩
                    · as_aux_lemma =>
                        have hcl := fun W mp mr (X : PlX w W p z wr.heap.size (.cells #[.int .i64 kd, .int .i64 x, .int .i64 y, .int .i64 t, .int .u8 (cn : Int)] 32 (0, 0)) mp mr) => And.intro (cell_block X.blk 1) (And.intro (cell_block X.blk 2) (cell_block X.blk 3))
                        simp only [List.getElem?_toArray, List.getElem?_cons_zero, List.getElem?_cons_succ] at hcl
                        have HC := Lib.hid hcl
                        have HAt := Lib.hid (HK.out.atp E HS.out x y t HWf.out.1)
                        have hPl := fun W (X : PlX w W p z wr.heap.size (.cells #[.int .i64 kd, .int .i64 x, .int .i64 y, .int .i64 t, .int .u8 (cn : Int)] 32 (0, 0)) m m) => X.placer x y t
                        have hNm := fun W (X : PlX w W p z wr.heap.size (.cells #[.int .i64 kd, .int .i64 x, .int .i64 y, .int .i64 t, .int .u8 (cn : Int)] 32 (0, 0)) m m) => num_ee E (plcE m x y t) (plcE_r m x y t).1 (plcE_r m x y t).2 W (HS.out.keep X.B)
                        obtain ⟨_, v2, v3⟩ := HC.out _ _ _ HK.out
                        clear hcl
                        by_cases he : plcE m x y t = 0
                        · obtain ⟨jb, ib, _, _, _, rfl, rfl, hjl, hil, _⟩ := HK.out.byte he
                          have hok := HK.out.ok
                          have hn2 := hok.n2
                          have hs2 := hok.s2
                          have hByte := fun W (X : PlX w W p z wr.heap.size (.cells #[.int .i64 kd, .int .i64 x, .int .i64 (jb : Int), .int .i64 (ib : Int), .int .u8 (cn : Int)] 32 (0, 0)) m m) => X.byte he
                          rw [he] at HAt hPl hNm
                          rw [show ee E 0 = Value.nilIface from rfl] at HAt hNm
                          have HPl := Lib.hid hPl
                          have HNm := Lib.hid hNm
                          have HByte := Lib.hid hByte
                          generalize m.own.length = nn at *
                          generalize m.size = ss at *
                          generalize (get m x (jb : Int) (ib : Int)).toNat = gg at *
                          clear hPl hNm hByte hok y0 he
                          go_wp2_with fail
                          with_reducible refine HAt.out.mono ?_
                          rintro e w6 ⟨rfl, X6⟩
                          obtain ⟨t1, t2, t3⟩ := HC.out _ _ _ X6
                          have HP6 := Lib.hid (HPl.out w6 X6)
                          clear X6 HAt HPl v1 v2 v3
                          go_wp2_with fail
                          with_reducible refine HP6.out.mono ?_
                          rintro e w7 ⟨rfl, X7⟩
                          have X7d := X7.below (Below.refl w7.heap.size w7).drew
                          obtain ⟨j', i', bb, bc, g, e1, e2, _, _, b2, bj, bi, bf, g1, g2, hst⟩ := HByte.out w7.drew X7d
                          have e1' : j' = jb := by omega
                          have e2' : i' = ib := by omega
                          subst e1' e2'
                          obtain ⟨s1, s2, s3⟩ := HC.out _ _ _ X7d
                          have hSk : ∀ W, Below w7.drew.heap.size w7.drew W → W.cell? ⟨wr.heap.size, 2, none⟩ = some (.int .i64 (j' : Int)) ∧ W.cell? ⟨wr.heap.size, 3, none⟩ = some (.int .i64 (i' : Int)) ∧ W.cell? ⟨z, 2, none⟩ = some (.slice (some ⟨bb, 0, none⟩) nn bc) ∧ W.cell? ⟨bb, j', none⟩ = some (.slice (some ⟨g, 0, none⟩) ss ss) ∧ W.cell? ⟨g, i', none⟩ = some (.int .u8 (gg : Int)) := fun W hb => ⟨(hb.cell (lt_of_cell s2)).trans s2, (hb.cell (lt_of_cell s3)).trans s3, (hb.cell (lt_of_cell b2)).trans b2, (hb.cell (lt_of_cell bj)).trans bj, (hb.cell (lt_of_cell bi)).trans bi⟩
                          have HSk := Lib.hid hSk
                          have n0 := Below.refl w7.drew.heap.size w7.drew
                          have HN7 := Lib.hid (HNm.out w7.drew X7d)
                          have HX7 := Lib.hid X7d
                          have i1 : (j' : Int) < (nn : Int) := by omega
                          have i2 : (i' : Int) < (ss : Int) := by omega
                          have i3 : (0 : Int) ≤ (j' : Int) := by omega
                          have i4 : (0 : Int) ≤ (i' : Int) := by omega
                          clear X7 X7d HP6 hst e1 e2 HByte b2 bj bi bf s1 s2 s3 t1 t2 t3 hSk g1 g2 HNm
                          go_wp2_with fail
                          refine wp_region_noPanic ?_
                          refine wp_region_held_drew (S := fun W => W.cell? ⟨wr.heap.size, 2, none⟩ = some (.int .i64 (j' : Int)) ∧ W.cell? ⟨wr.heap.size, 3, none⟩ = some (.int .i64 (i' : Int)) ∧ W.cell? ⟨z, 2, none⟩ = some (.slice (some ⟨bb, 0, none⟩) nn bc) ∧ W.cell? ⟨bb, j', none⟩ = some (.slice (some ⟨g, 0, none⟩) ss ss) ∧ W.cell? ⟨g, i', none⟩ = some (.int .u8 (gg : Int))) (by kernel_rfl) (HSk.out _ n0) (fun hHeld => ?_)
                          (refine wpAnyH_take (i := 0) (v := ?v0n1) (by simp only [List.getElem?_toArray, List.getElem?_cons_succ, List.getElem?_cons_zero]; rfl) (by kernel_rfl) (by kernel_rfl) (by kernel_rfl) (fun _ _ _ h => False.elim h) (Or.inl ⟨by rfl, ?hy0n1⟩) (by assumption) ?rest0n1; (case hy0n1 => (intro w hSw; (try dsimp only at hSw); go_simp; (try with_reducible rfl))); (try simp only [Act.put, List.setIfInBounds_toArray, List.set_cons_zero, List.set_cons_succ]))
                          (refine wpAnyH_take (i := 2) (v := ?v2n2) (by simp only [List.getElem?_toArray, List.getElem?_cons_succ, List.getElem?_cons_zero]; rfl) (by kernel_rfl) (by kernel_rfl) (by kernel_rfl) (fun _ _ _ h => False.elim h) (Or.inl ⟨by rfl, ?hy2n2⟩) (by assumption) ?rest2n2; (case hy2n2 => (intro w hSw; (try dsimp only at hSw); go_simp; (try with_reducible rfl))); (try simp only [Act.put, List.setIfInBounds_toArray, List.set_cons_zero, List.set_cons_succ]))
                          (refine wpAnyH_ready (rs := [1]) (by kernel_rfl) (by simp) ?_; refine AllReadyH.cons (o := _) (by simp only [List.getElem?_toArray, List.getElem?_cons_succ, List.getElem?_cons_zero]; rfl) (fun K hK => ?_) AllReadyH.nil; go_simp; ((with_reducible refine HN7.out.mono ?_); rintro e w8 ⟨rfl, n1⟩); refine hK.out _ _ (by exact HSk.out _ n1) (fun hHeld => ?_); clear hK K; (try simp only [Act.put, List.setIfInBounds_toArray, List.set_cons_zero, List.set_cons_succ]))
                          (refine wpAnyH_take (i := 3) (v := ?v3n3) (by simp only [List.getElem?_toArray, List.getElem?_cons_succ, List.getElem?_cons_zero]; rfl) (by kernel_rfl) (by kernel_rfl) (by kernel_rfl) (fun _ _ _ h => False.elim h) (Or.inl ⟨by rfl, ?hy3n3⟩) (by assumption) ?rest3n3; (case hy3n3 => (intro w hSw; (try dsimp only at hSw); go_simp; (try with_reducible rfl))); (try simp only [Act.put, List.setIfInBounds_toArray, List.set_cons_zero, List.set_cons_succ]))
                          (refine wpAnyH_take (i := 4) (v := ?v4n4) (by simp only [List.getElem?_toArray, List.getElem?_cons_succ, List.getElem?_cons_zero]; rfl) (by kernel_rfl) (by kernel_rfl) (by kernel_rfl) (fun _ _ _ h => False.elim h) (Or.inl ⟨by rfl, ?hy4n4⟩) (by assumption) ?rest4n4; (case hy4n4 => (intro w hSw; (try dsimp only at hSw); go_simp; (try with_reducible rfl))); (try simp only [Act.put, List.setIfInBounds_toArray, List.set_cons_zero, List.set_cons_succ]))
                          (refine wpAnyH_take (i := 5) (v := ?v5n5) (by simp only [List.getElem?_toArray, List.getElem?_cons_succ, List.getElem?_cons_zero]; rfl) (by kernel_rfl) (by kernel_rfl) (by kernel_rfl) (fun _ _ _ h => False.elim h) (Or.inl ⟨by rfl, ?hy5n5⟩) (by assumption) ?rest5n5; (case hy5n5 => (intro w hSw; (try dsimp only at hSw); go_simp; (try with_reducible rfl))); (try simp only [Act.put, List.setIfInBounds_toArray, List.set_cons_zero, List.set_cons_succ]))
                          (refine wpAnyH_take (i := 6) (v := ?v6n6) (by simp only [List.getElem?_toArray, List.getElem?_cons_succ, List.getElem?_cons_zero]; rfl) (by kernel_rfl) (by kernel_rfl) (by kernel_rfl) (fun _ _ _ h => False.elim h) (Or.inl ⟨by rfl, ?hy6n6⟩) (by assumption) ?rest6n6; (case hy6n6 => (intro w hSw; (try dsimp only at hSw); go_simp; (try with_reducible rfl))); (try simp only [Act.put, List.setIfInBounds_toArray, List.set_cons_zero, List.set_cons_succ]))
                          (refine wpAnyH_take (i := 7) (v := ?v7n7) (by simp only [List.getElem?_toArray, List.getElem?_cons_succ, List.getElem?_cons_zero]; rfl) (by kernel_rfl) (by kernel_rfl) (by kernel_rfl) (fun _ _ _ h => False.elim h) (Or.inl ⟨by rfl, ?hy7n7⟩) (by assumption) ?rest7n7; (case hy7n7 => (intro w hSw; (try dsimp only at hSw); go_simp; (try with_reducible rfl))); (try simp only [Act.put, List.setIfInBounds_toArray, List.set_cons_zero, List.set_cons_succ]))
                          (refine wpAnyH_take (i := 8) (v := undef) (by simp only [List.getElem?_toArray, List.getElem?_cons_succ, List.getElem?_cons_zero]; rfl) (by kernel_rfl) (by kernel_rfl) (by kernel_rfl) (fun _ _ _ h => False.elim h) (Or.inr ⟨by rfl, rfl⟩) (by assumption) ?rest8; (try simp only [Act.put, List.setIfInBounds_toArray, List.set_cons_zero, List.set_cons_succ]))
                          (refine wpAnyH_take (i := 9) (v := undef) (by simp only [List.getElem?_toArray, List.getElem?_cons_succ, List.getElem?_cons_zero]; rfl) (by kernel_rfl) (by kernel_rfl) (by kernel_rfl) (fun _ _ _ h => False.elim h) (Or.inr ⟨by rfl, rfl⟩) (by assumption) ?rest9; (try simp only [Act.put, List.setIfInBounds_toArray, List.set_cons_zero, List.set_cons_succ]))
                          (refine wpAnyH_take (i := 10) (v := ?v10n8) (by simp only [List.getElem?_toArray, List.getElem?_cons_succ, List.getElem?_cons_zero]; rfl) (by kernel_rfl) (by kernel_rfl) (by kernel_rfl) (fun _ _ _ h => False.elim h) (Or.inl ⟨by rfl, ?hy10n8⟩) (by assumption) ?rest10n8; (case hy10n8 => (intro w hSw; (try dsimp only at hSw); go_simp; (try with_reducible rfl))); (try simp only [Act.put, List.setIfInBounds_toArray, List.set_cons_zero, List.set_cons_succ]))
                          (refine wpAnyH_take (i := 11) (v := ?v11n9) (by simp only [List.getElem?_toArray, List.getElem?_cons_succ, List.getElem?_cons_zero]; rfl) (by kernel_rfl) (by kernel_rfl) (by kernel_rfl) (fun _ _ _ h => False.elim h) (Or.inl ⟨by rfl, ?hy11n9⟩) (by assumption) ?rest11n9; (case hy11n9 => (intro w hSw; (try dsimp only at hSw); go_simp; (try with_reducible rfl))); (try simp only [Act.put, List.setIfInBounds_toArray, List.set_cons_zero, List.set_cons_succ]))
                          (refine wpAnyH_take (i := 12) (v := ?v12n10) (by simp only [List.getElem?_toArray, List.getElem?_cons_succ, List.getElem?_cons_zero]; rfl) (by kernel_rfl) (by kernel_rfl) (by kernel_rfl) (fun _ _ _ h => False.elim h) (Or.inl ⟨by rfl, ?hy12n10⟩) (by assumption) ?rest12n10; (case hy12n10 => (intro w hSw; (try dsimp only at hSw); go_simp; (try with_reducible rfl))); (try simp only [Act.put, List.setIfInBounds_toArray, List.set_cons_zero, List.set_cons_succ]))
                          (refine wpAnyH_take (i := 13) (v := ?v13n11) (by simp only [List.getElem?_toArray, List.getElem?_cons_succ, List.getElem?_cons_zero]; rfl) (by kernel_rfl) (by kernel_rfl) (by kernel_rfl) (fun _ _ _ h => False.elim h) (Or.inl ⟨by rfl, ?hy13n11⟩) (by assumption) ?rest13n11; (case hy13n11 => (intro w hSw; (try dsimp only at hSw); go_simp; (try with_reducible rfl))); (try simp only [Act.put, List.setIfInBounds_toArray, List.set_cons_zero, List.set_cons_succ]))
                          (refine wpAnyH_take (i := 14) (v := ?v14n12) (by simp only [List.getElem?_toArray, List.getElem?_cons_succ, List.getElem?_cons_zero]; rfl) (by kernel_rfl) (by kernel_rfl) (by kernel_rfl) (fun _ _ _ h => False.elim h) (Or.inl ⟨by rfl, ?hy14n12⟩) (by assumption) ?rest14n12; (case hy14n12 => (intro w hSw; (try dsimp only at hSw); go_simp; (try with_reducible rfl))); (try simp only [Act.put, List.setIfInBounds_toArray, List.set_cons_zero, List.set_cons_succ]))
                          (refine wpAnyH_take (i := 15) (v := ?v15n13) (by simp only [List.getElem?_toArray, List.getElem?_cons_succ, List.getElem?_cons_zero]; rfl) (by kernel_rfl) (by kernel_rfl) (by kernel_rfl) (fun _ _ _ h => False.elim h) (Or.inl ⟨by rfl, ?hy15n13⟩) (by assumption) ?rest15n13; (case hy15n13 => (intro w hSw; (try dsimp only at hSw); go_simp; (try with_reducible rfl))); (try simp only [Act.put, List.setIfInBounds_toArray, List.set_cons_zero, List.set_cons_succ]))
                          (refine wpAnyH_take (i := 16) (v := ?v16n14) (by simp only [List.getElem?_toArray, List.getElem?_cons_succ, List.getElem?_cons_zero]; rfl) (by kernel_rfl) (by kernel_rfl) (by kernel_rfl) (fun _ _ _ h => False.elim h) (Or.inl ⟨by rfl, ?hy16n14⟩) (by assumption) ?rest16n14; (case hy16n14 => (intro w hSw; (try dsimp only at hSw); go_simp; (try with_reducible rfl))); (try simp only [Act.put, List.setIfInBounds_toArray, List.set_cons_zero, List.set_cons_succ]))
                          (refine wpAnyH_take (i := 17) (v := ?v17n15) (by simp only [List.getElem?_toArray, List.getElem?_cons_succ, List.getElem?_cons_zero]; rfl) (by kernel_rfl) (by kernel_rfl) (by kernel_rfl) (fun _ _ _ h => False.elim h) (Or.inl ⟨by rfl, ?hy17n15⟩) (by assumption) ?rest17n15; (case hy17n15 => (intro w hSw; (try dsimp only at hSw); go_simp; (try with_reducible rfl))); (try simp only [Act.put, List.setIfInBounds_toArray, List.set_cons_zero, List.set_cons_succ]))
                          (refine wpAnyH_take (i := 18) (v := ?v18n16) (by simp only [List.getElem?_toArray, List.getElem?_cons_succ, List.getElem?_cons_zero]; rfl) (by kernel_rfl) (by kernel_rfl) (by kernel_rfl) (fun _ _ _ h => False.elim h) (Or.inl ⟨by rfl, ?hy18n16⟩) (by assumption) ?rest18n16; (case hy18n16 => (intro w hSw; (try dsimp only at hSw); go_simp; (try with_reducible rfl))); (try simp only [Act.put, List.setIfInBounds_toArray, List.set_cons_zero, List.set_cons_succ]))
                          (refine wpAnyH_take (i := 19) (v := ?v19n17) (by simp only [List.getElem?_toArray, List.getElem?_cons_succ, List.getElem?_cons_zero]; rfl) (by kernel_rfl) (by kernel_rfl) (by kernel_rfl) (fun _ _ _ h => False.elim h) (Or.inl ⟨by rfl, ?hy19n17⟩) (by assumption) ?rest19n17; (case hy19n17 => (intro w hSw; (try dsimp only at hSw); go_simp; (try with_reducible rfl))); (try simp only [Act.put, List.setIfInBounds_toArray, List.set_cons_zero, List.set_cons_succ]))
                          (refine wpAnyH_take (i := 20) (v := ?v20n18) (by simp only [List.getElem?_toArray, List.getElem?_cons_succ, List.getElem?_cons_zero]; rfl) (by kernel_rfl) (by kernel_rfl) (by kernel_rfl) (fun _ _ _ h => False.elim h) (Or.inl ⟨by rfl, ?hy20n18⟩) (by assumption) ?rest20n18; (case hy20n18 => (intro w hSw; (try dsimp only at hSw); go_simp; (try with_reducible rfl))); (try simp only [Act.put, List.setIfInBounds_toArray, List.set_cons_zero, List.set_cons_succ]))
                          (refine wpAnyH_take (i := 21) (v := ?v21n19) (by simp only [List.getElem?_toArray, List.getElem?_cons_succ, List.getElem?_cons_zero]; rfl) (by kernel_rfl) (by kernel_rfl) (by kernel_rfl) (fun _ _ _ h => False.elim h) (Or.inl ⟨by rfl, ?hy21n19⟩) (by assumption) ?rest21n19; (case hy21n19 => (intro w hSw; (try dsimp only at hSw); go_simp; (try with_reducible rfl))); (try simp only [Act.put, List.setIfInBounds_toArray, List.set_cons_zero, List.set_cons_succ]))
                          (refine wpAnyH_take (i := 22) (v := ?v22n20) (by simp only [List.getElem?_toArray, List.getElem?_cons_succ, List.getElem?_cons_zero]; rfl) (by kernel_rfl) (by kernel_rfl) (by kernel_rfl) (fun _ _ _ h => False.elim h) (Or.inl ⟨by rfl, ?hy22n20⟩) (by assumption) ?rest22n20; (case hy22n20 => (intro w hSw; (try dsimp only at hSw); go_simp; (try with_reducible rfl))); (try simp only [Act.put, List.setIfInBounds_toArray, List.set_cons_zero, List.set_cons_succ]))
                          (refine wpAnyH_take (i := 23) (v := ?v23n21) (by simp only [List.getElem?_toArray, List.getElem?_cons_succ, List.getElem?_cons_zero]; rfl) (by kernel_rfl) (by kernel_rfl) (by kernel_rfl) (fun _ _ _ h => False.elim h) (Or.inl ⟨by rfl, ?hy23n21⟩) (by assumption) ?rest23n21; (case hy23n21 => (intro w hSw; (try dsimp only at hSw); go_simp; (try with_reducible rfl))); (try simp only [Act.put, List.setIfInBounds_toArray, List.set_cons_zero, List.set_cons_succ]))
                          (refine wpAnyH_take (i := 24) (v := ?v24n22) (by simp only [List.getElem?_toArray, List.getElem?_cons_succ, List.getElem?_cons_zero]; rfl) (by kernel_rfl) (by kernel_rfl) (by kernel_rfl) (fun _ _ _ h => False.elim h) (Or.inl ⟨by rfl, ?hy24n22⟩) (by assumption) ?rest24n22; (case hy24n22 => (intro w hSw; (try dsimp only at hSw); go_simp; (try with_reducible rfl))); (try simp only [Act.put, List.setIfInBounds_toArray, List.set_cons_zero, List.set_cons_succ]))
                          (refine wpAnyH_take (i := 25) (v := ?v25n23) (by simp only [List.getElem?_toArray, List.getElem?_cons_succ, List.getElem?_cons_zero]; rfl) (by kernel_rfl) (by kernel_rfl) (by kernel_rfl) (fun _ _ _ h => False.elim h) (Or.inl ⟨by rfl, ?hy25n23⟩) (by assumption) ?rest25n23; (case hy25n23 => (intro w hSw; (try dsimp only at hSw); go_simp; (try with_reducible rfl))); (try simp only [Act.put, List.setIfInBounds_toArray, List.set_cons_zero, List.set_cons_succ]))
                          (refine wpAnyH_take (i := 26) (v := ?v26n24) (by simp only [List.getElem?_toArray, List.getElem?_cons_succ, List.getElem?_cons_zero]; rfl) (by kernel_rfl) (by kernel_rfl) (by kernel_rfl) (fun _ _ _ h => False.elim h) (Or.inl ⟨by rfl, ?hy26n24⟩) (by assumption) ?rest26n24; (case hy26n24 => (intro w hSw; (try dsimp only at hSw); go_simp; (try with_reducible rfl))); (try simp only [Act.put, List.setIfInBounds_toArray, List.set_cons_zero, List.set_cons_succ]))
                          (refine wpAnyH_take (i := 27) (v := ?v27n25) (by simp only [List.getElem?_toArray, List.getElem?_cons_succ, List.getElem?_cons_zero]; rfl) (by kernel_rfl) (by kernel_rfl) (by kernel_rfl) (fun _ _ _ h => False.elim h) (Or.inl ⟨by rfl, ?hy27n25⟩) (by assumption) ?rest27n25; (case hy27n25 => (intro w hSw; (try dsimp only at hSw); go_simp; (try with_reducible rfl))); (try simp only [Act.put, List.setIfInBounds_toArray, List.set_cons_zero, List.set_cons_succ]))
                          (refine wpAnyH_take (i := 28) (v := ?v28n26) (by simp only [List.getElem?_toArray, List.getElem?_cons_succ, List.getElem?_cons_zero]; rfl) (by kernel_rfl) (by kernel_rfl) (by kernel_rfl) (fun _ _ _ h => False.elim h) (Or.inl ⟨by rfl, ?hy28n26⟩) (by assumption) ?rest28n26; (case hy28n26 => (intro w hSw; (try dsimp only at hSw); go_simp; (try with_reducible rfl))); (try simp only [Act.put, List.setIfInBounds_toArray, List.set_cons_zero, List.set_cons_succ]))
                          (refine wpAnyH_take (i := 29) (v := ?v29n27) (by simp only [List.getElem?_toArray, List.getElem?_cons_succ, List.getElem?_cons_zero]; rfl) (by kernel_rfl) (by kernel_rfl) (by kernel_rfl) (fun _ _ _ h => False.elim h) (Or.inl ⟨by rfl, ?hy29n27⟩) (by assumption) ?rest29n27; (case hy29n27 => (intro w hSw; (try dsimp only at hSw); go_simp; (try with_reducible rfl))); (try simp only [Act.put, List.setIfInBounds_toArray, List.set_cons_zero, List.set_cons_succ]))
                          (refine wpAnyH_take (i := 30) (v := ?v30n28) (by simp only [List.getElem?_toArray, List.getElem?_cons_succ, List.getElem?_cons_zero]; rfl) (by kernel_rfl) (by kernel_rfl) (by kernel_rfl) (fun _ _ _ h => False.elim h) (Or.inl ⟨by rfl, ?hy30n28⟩) (by assumption) ?rest30n28; (case hy30n28 => (intro w hSw; (try dsimp only at hSw); go_simp; (try with_reducible rfl))); (try simp only [Act.put, List.setIfInBounds_toArray, List.set_cons_zero, List.set_cons_succ]))
                          (refine wpAnyH_take (i := 31) (v := ?v31n29) (by simp only [List.getElem?_toArray, List.getElem?_cons_succ, List.getElem?_cons_zero]; rfl) (by kernel_rfl) (by kernel_rfl) (by kernel_rfl) (fun _ _ _ h => False.elim h) (Or.inl ⟨by rfl, ?hy31n29⟩) (by assumption) ?rest31n29; (case hy31n29 => (intro w hSw; (try dsimp only at hSw); go_simp; (try with_reducible rfl))); (try simp only [Act.put, List.setIfInBounds_toArray, List.set_cons_zero, List.set_cons_succ]))
                          (refine wpAnyH_take (i := 32) (v := ?v32n30) (by simp only [List.getElem?_toArray, List.getElem?_cons_succ, List.getElem?_cons_zero]; rfl) (by kernel_rfl) (by kernel_rfl) (by kernel_rfl) (fun _ _ _ h => False.elim h) (Or.inl ⟨by rfl, ?hy32n30⟩) (by assumption) ?rest32n30; (case hy32n30 => (intro w hSw; (try dsimp only at hSw); go_simp; (try with_reducible rfl))); (try simp only [Act.put, List.setIfInBounds_toArray, List.set_cons_zero, List.set_cons_succ]))
                          refine wpAnyH_done (by kernel_rfl) ?_ _
                          refine NoPanic.normal ?_
                          have HX8 := Lib.hid (HX7.out.below n1)
                          clear n0 n1 hHeld HN7 HSk HX7
                          go_wp2_with fail
                          go_meet
                          case rel => exact ⟨by simp, _, HX8.out⟩
                        · have hget : get m x y t = 0 := by unfold get; rw [if_neg he]
                          rw [hget] at HAt
                          have hkb : (plcE m x y t == 0) = false := by simpa using he
                          have hkn : (plcE m x y t != 0) = true := by simpa using he
                          generalize ee E (plcE m x y t) = ev at *
                          generalize plcE m x y t = ke at *
                          have HPl := Lib.hid hPl
                          have HNm := Lib.hid hNm
                          clear hPl hNm y0 hget
                          go_wp2_with fail
                          with_reducible refine HAt.out.mono ?_
                          rintro e w6 ⟨rfl, X6⟩
                          obtain ⟨t1, t2, t3⟩ := HC.out _ _ _ X6
                          have HP6 := Lib.hid (HPl.out w6 X6)
                          clear X6 HAt HPl v1 v2 v3
                          go_wp2_with fail
                          with_reducible refine HP6.out.mono ?_
                          rintro e w7 ⟨rfl, X7⟩
                          have X7d := X7.below (Below.refl w7.heap.size w7).drew
                          have HN7 := Lib.hid (HNm.out w7.drew X7d)
                          have HX7 := Lib.hid X7d
                          clear X7 X7d HP6 t1 t2 t3 HNm
                          go_wp2_with fail
                          refine wp_region_noPanic ?_
                          refine wp_region_held_drew (S := fun _ => True) (by kernel_rfl) trivial (fun hHeld => ?_)
                          (refine wpAnyH_take (i := 0) (v := ?v0n31) (by simp only [List.getElem?_toArray, List.getElem?_cons_succ, List.getElem?_cons_zero]; rfl) (by kernel_rfl) (by kernel_rfl) (by kernel_rfl) (fun _ _ _ h => False.elim h) (Or.inl ⟨by rfl, ?hy0n31⟩) (by assumption) ?rest0n31; (case hy0n31 => (intro w hSw; (try dsimp only at hSw); go_simp; (try with_reducible rfl))); (try simp only [Act.put, List.setIfInBounds_toArray, List.set_cons_zero, List.set_cons_succ]))
                          (refine wpAnyH_take (i := 2) (v := ?v2n32) (by simp only [List.getElem?_toArray, List.getElem?_cons_succ, List.getElem?_cons_zero]; rfl) (by kernel_rfl) (by kernel_rfl) (by kernel_rfl) (fun _ _ _ h => False.elim h) (Or.inl ⟨by rfl, ?hy2n32⟩) (by assumption) ?rest2n32; (case hy2n32 => (intro w hSw; (try dsimp only at hSw); go_simp; (try with_reducible rfl))); (try simp only [Act.put, List.setIfInBounds_toArray, List.set_cons_zero, List.set_cons_succ]))
                          (refine wpAnyH_ready (rs := [1]) (by kernel_rfl) (by simp) ?_; refine AllReadyH.cons (o := _) (by simp only [List.getElem?_toArray, List.getElem?_cons_succ, List.getElem?_cons_zero]; rfl) (fun K hK => ?_) AllReadyH.nil; go_simp; ((with_reducible refine HN7.out.mono ?_); rintro e w8 ⟨rfl, n1⟩); refine hK.out _ _ (by exact trivial) (fun hHeld => ?_); clear hK K; (try simp only [Act.put, List.setIfInBounds_toArray, List.set_cons_zero, List.set_cons_succ]))
                          (refine wpAnyH_take (i := 3) (v := ?v3n33) (by simp only [List.getElem?_toArray, List.getElem?_cons_succ, List.getElem?_cons_zero]; rfl) (by kernel_rfl) (by kernel_rfl) (by kernel_rfl) (fun _ _ _ h => False.elim h) (Or.inl ⟨by rfl, ?hy3n33⟩) (by assumption) ?rest3n33; (case hy3n33 => (intro w hSw; (try dsimp only at hSw); go_simp; (try with_reducible rfl))); (try simp only [Act.put, List.setIfInBounds_toArray, List.set_cons_zero, List.set_cons_succ]))
                          (refine wpAnyH_take (i := 4) (v := ?v4n34) (by simp only [List.getElem?_toArray, List.getElem?_cons_succ, List.getElem?_cons_zero]; rfl) (by kernel_rfl) (by kernel_rfl) (by kernel_rfl) (fun _ _ _ h => False.elim h) (Or.inl ⟨by rfl, ?hy4n34⟩) (by assumption) ?rest4n34; (case hy4n34 => (intro w hSw; (try dsimp only at hSw); go_simp; (try with_reducible rfl))); (try simp only [Act.put, List.setIfInBounds_toArray, List.set_cons_zero, List.set_cons_succ]))
                          (refine wpAnyH_take (i := 5) (v := ?v5n35) (by simp only [List.getElem?_toArray, List.getElem?_cons_succ, List.getElem?_cons_zero]; rfl) (by kernel_rfl) (by kernel_rfl) (by kernel_rfl) (fun _ _ _ h => False.elim h) (Or.inl ⟨by rfl, ?hy5n35⟩) (by assumption) ?rest5n35; (case hy5n35 => (intro w hSw; (try dsimp only at hSw); go_simp; (try with_reducible rfl))); (try simp only [Act.put, List.setIfInBounds_toArray, List.set_cons_zero, List.set_cons_succ]))
                          (refine wpAnyH_take (i := 6) (v := ?v6n36) (by simp only [List.getElem?_toArray, List.getElem?_cons_succ, List.getElem?_cons_zero]; rfl) (by kernel_rfl) (by kernel_rfl) (by kernel_rfl) (fun _ _ _ h => False.elim h) (Or.inl ⟨by rfl, ?hy6n36⟩) (by assumption) ?rest6n36; (case hy6n36 => (intro w hSw; (try dsimp only at hSw); go_simp; (try with_reducible rfl))); (try simp only [Act.put, List.setIfInBounds_toArray, List.set_cons_zero, List.set_cons_succ]))
                          (refine wpAnyH_take (i := 7) (v := ?v7n37) (by simp only [List.getElem?_toArray, List.getElem?_cons_succ, List.getElem?_cons_zero]; rfl) (by kernel_rfl) (by kernel_rfl) (by kernel_rfl) (fun _ _ _ h => False.elim h) (Or.inl ⟨by rfl, ?hy7n37⟩) (by assumption) ?rest7n37; (case hy7n37 => (intro w hSw; (try dsimp only at hSw); go_simp; (try with_reducible rfl))); (try simp only [Act.put, List.setIfInBounds_toArray, List.set_cons_zero, List.set_cons_succ]))
                          (refine wpAnyH_take (i := 8) (v := ?v8n38) (by simp only [List.getElem?_toArray, List.getElem?_cons_succ, List.getElem?_cons_zero]; rfl) (by kernel_rfl) (by kernel_rfl) (by kernel_rfl) (fun _ _ _ h => False.elim h) (Or.inl ⟨by rfl, ?hy8n38⟩) (by assumption) ?rest8n38; (case hy8n38 => (intro w hSw; (try dsimp only at hSw); go_simp; (try with_reducible rfl))); (try simp only [Act.put, List.setIfInBounds_toArray, List.set_cons_zero, List.set_cons_succ]))
                          (refine wpAnyH_take (i := 9) (v := ?v9n39) (by simp only [List.getElem?_toArray, List.getElem?_cons_succ, List.getElem?_cons_zero]; rfl) (by kernel_rfl) (by kernel_rfl) (by kernel_rfl) (fun _ _ _ h => False.elim h) (Or.inl ⟨by rfl, ?hy9n39⟩) (by assumption) ?rest9n39; (case hy9n39 => (intro w hSw; (try dsimp only at hSw); go_simp; (try with_reducible rfl))); (try simp only [Act.put, List.setIfInBounds_toArray, List.set_cons_zero, List.set_cons_succ]))
                          (refine wpAnyH_take (i := 10) (v := ?v10n40) (by simp only [List.getElem?_toArray, List.getElem?_cons_succ, List.getElem?_cons_zero]; rfl) (by kernel_rfl) (by kernel_rfl) (by kernel_rfl) (fun _ _ _ h => False.elim h) (Or.inl ⟨by rfl, ?hy10n40⟩) (by assumption) ?rest10n40; (case hy10n40 => (intro w hSw; (try dsimp only at hSw); go_simp; (try with_reducible rfl))); (try simp only [Act.put, List.setIfInBounds_toArray, List.set_cons_zero, List.set_cons_succ]))
                          (refine wpAnyH_take (i := 11) (v := ?v11n41) (by simp only [List.getElem?_toArray, List.getElem?_cons_succ, List.getElem?_cons_zero]; rfl) (by kernel_rfl) (by kernel_rfl) (by kernel_rfl) (fun _ _ _ h => False.elim h) (Or.inl ⟨by rfl, ?hy11n41⟩) (by assumption) ?rest11n41; (case hy11n41 => (intro w hSw; (try dsimp only at hSw); go_simp; (try with_reducible rfl))); (try simp only [Act.put, List.setIfInBounds_toArray, List.set_cons_zero, List.set_cons_succ]))
                          (refine wpAnyH_take (i := 12) (v := undef) (by simp only [List.getElem?_toArray, List.getElem?_cons_succ, List.getElem?_cons_zero]; rfl) (by kernel_rfl) (by kernel_rfl) (by kernel_rfl) (fun _ _ _ h => False.elim h) (Or.inr ⟨by rfl, rfl⟩) (by assumption) ?rest12; (try simp only [Act.put, List.setIfInBounds_toArray, List.set_cons_zero, List.set_cons_succ]))
                          (refine wpAnyH_take (i := 13) (v := undef) (by simp only [List.getElem?_toArray, List.getElem?_cons_succ, List.getElem?_cons_zero]; rfl) (by kernel_rfl) (by kernel_rfl) (by kernel_rfl) (fun _ _ _ h => False.elim h) (Or.inr ⟨by rfl, rfl⟩) (by assumption) ?rest13; (try simp only [Act.put, List.setIfInBounds_toArray, List.set_cons_zero, List.set_cons_succ]))
                          (refine wpAnyH_take (i := 14) (v := undef) (by simp only [List.getElem?_toArray, List.getElem?_cons_succ, List.getElem?_cons_zero]; rfl) (by kernel_rfl) (by kernel_rfl) (by kernel_rfl) (fun _ _ _ h => False.elim h) (Or.inr ⟨by rfl, rfl⟩) (by assumption) ?rest14; (try simp only [Act.put, List.setIfInBounds_toArray, List.set_cons_zero, List.set_cons_succ]))
                          (refine wpAnyH_take (i := 15) (v := undef) (by simp only [List.getElem?_toArray, List.getElem?_cons_succ, List.getElem?_cons_zero]; rfl) (by kernel_rfl) (by kernel_rfl) (by kernel_rfl) (fun _ _ _ h => False.elim h) (Or.inr ⟨by rfl, rfl⟩) (by assumption) ?rest15; (try simp only [Act.put, List.setIfInBounds_toArray, List.set_cons_zero, List.set_cons_succ]))
                          (refine wpAnyH_take (i := 16) (v := undef) (by simp only [List.getElem?_toArray, List.getElem?_cons_succ, List.getElem?_cons_zero]; rfl) (by kernel_rfl) (by kernel_rfl) (by kernel_rfl) (fun _ _ _ h => False.elim h) (Or.inr ⟨by rfl, rfl⟩) (by assumption) ?rest16; (try simp only [Act.put, List.setIfInBounds_toArray, List.set_cons_zero, List.set_cons_succ]))
                          (refine wpAnyH_take (i := 17) (v := undef) (by simp only [List.getElem?_toArray, List.getElem?_cons_succ, List.getElem?_cons_zero]; rfl) (by kernel_rfl) (by kernel_rfl) (by kernel_rfl) (fun _ _ _ h => False.elim h) (Or.inr ⟨by rfl, rfl⟩) (by assumption) ?rest17; (try simp only [Act.put, List.setIfInBounds_toArray, List.set_cons_zero, List.set_cons_succ]))
                          (refine wpAnyH_take (i := 18) (v := undef) (by simp only [List.getElem?_toArray, List.getElem?_cons_succ, List.getElem?_cons_zero]; rfl) (by kernel_rfl) (by kernel_rfl) (by kernel_rfl) (fun _ _ _ h => False.elim h) (Or.inr ⟨by rfl, rfl⟩) (by assumption) ?rest18; (try simp only [Act.put, List.setIfInBounds_toArray, List.set_cons_zero, List.set_cons_succ]))
                          (refine wpAnyH_take (i := 19) (v := undef) (by simp only [List.getElem?_toArray, List.getElem?_cons_succ, List.getElem?_cons_zero]; rfl) (by kernel_rfl) (by kernel_rfl) (by kernel_rfl) (fun _ _ _ h => False.elim h) (Or.inr ⟨by rfl, rfl⟩) (by assumption) ?rest19; (try simp only [Act.put, List.setIfInBounds_toArray, List.set_cons_zero, List.set_cons_succ]))
                          (refine wpAnyH_take (i := 20) (v := undef) (by simp only [List.getElem?_toArray, List.getElem?_cons_succ, List.getElem?_cons_zero]; rfl) (by kernel_rfl) (by kernel_rfl) (by kernel_rfl) (fun _ _ _ h => False.elim h) (Or.inr ⟨by rfl, rfl⟩) (by assumption) ?rest20; (try simp only [Act.put, List.setIfInBounds_toArray, List.set_cons_zero, List.set_cons_succ]))
                          (refine wpAnyH_take (i := 21) (v := undef) (by simp only [List.getElem?_toArray, List.getElem?_cons_succ, List.getElem?_cons_zero]; rfl) (by kernel_rfl) (by kernel_rfl) (by kernel_rfl) (fun _ _ _ h => False.elim h) (Or.inr ⟨by rfl, rfl⟩) (by assumption) ?rest21; (try simp only [Act.put, List.setIfInBounds_toArray, List.set_cons_zero, List.set_cons_succ]))
                          (refine wpAnyH_take (i := 22) (v := undef) (by simp only [List.getElem?_toArray, List.getElem?_cons_succ, List.getElem?_cons_zero]; rfl) (by kernel_rfl) (by kernel_rfl) (by kernel_rfl) (fun _ _ _ h => False.elim h) (Or.inr ⟨by rfl, rfl⟩) (by assumption) ?rest22; (try simp only [Act.put, List.setIfInBounds_toArray, List.set_cons_zero, List.set_cons_succ]))
                          (refine wpAnyH_take (i := 23) (v := undef) (by simp only [List.getElem?_toArray, List.getElem?_cons_succ, List.getElem?_cons_zero]; rfl) (by kernel_rfl) (by kernel_rfl) (by kernel_rfl) (fun _ _ _ h => False.elim h) (Or.inr ⟨by rfl, rfl⟩) (by assumption) ?rest23; (try simp only [Act.put, List.setIfInBounds_toArray, List.set_cons_zero, List.set_cons_succ]))
                          (refine wpAnyH_take (i := 24) (v := undef) (by simp only [List.getElem?_toArray, List.getElem?_cons_succ, List.getElem?_cons_zero]; rfl) (by kernel_rfl) (by kernel_rfl) (by kernel_rfl) (fun _ _ _ h => False.elim h) (Or.inr ⟨by rfl, rfl⟩) (by assumption) ?rest24; (try simp only [Act.put, List.setIfInBounds_toArray, List.set_cons_zero, List.set_cons_succ]))
                          (refine wpAnyH_take (i := 25) (v := undef) (by simp only [List.getElem?_toArray, List.getElem?_cons_succ, List.getElem?_cons_zero]; rfl) (by kernel_rfl) (by kernel_rfl) (by kernel_rfl) (fun _ _ _ h => False.elim h) (Or.inr ⟨by rfl, rfl⟩) (by assumption) ?rest25; (try simp only [Act.put, List.setIfInBounds_toArray, List.set_cons_zero, List.set_cons_succ]))
                          (refine wpAnyH_take (i := 26) (v := undef) (by simp only [List.getElem?_toArray, List.getElem?_cons_succ, List.getElem?_cons_zero]; rfl) (by kernel_rfl) (by kernel_rfl) (by kernel_rfl) (fun _ _ _ h => False.elim h) (Or.inr ⟨by rfl, rfl⟩) (by assumption) ?rest26; (try simp only [Act.put, List.setIfInBounds_toArray, List.set_cons_zero, List.set_cons_succ]))
                          (refine wpAnyH_take (i := 27) (v := undef) (by simp only [List.getElem?_toArray, List.getElem?_cons_succ, List.getElem?_cons_zero]; rfl) (by kernel_rfl) (by kernel_rfl) (by kernel_rfl) (fun _ _ _ h => False.elim h) (Or.inr ⟨by rfl, rfl⟩) (by assumption) ?rest27; (try simp only [Act.put, List.setIfInBounds_toArray, List.set_cons_zero, List.set_cons_succ]))
                          (refine wpAnyH_take (i := 28) (v := undef) (by simp only [List.getElem?_toArray, List.getElem?_cons_succ, List.getElem?_cons_zero]; rfl) (by kernel_rfl) (by kernel_rfl) (by kernel_rfl) (fun _ _ _ h => False.elim h) (Or.inr ⟨by rfl, rfl⟩) (by assumption) ?rest28; (try simp only [Act.put, List.setIfInBounds_toArray, List.set_cons_zero, List.set_cons_succ]))
                          (refine wpAnyH_take (i := 29) (v := undef) (by simp only [List.getElem?_toArray, List.getElem?_cons_succ, List.getElem?_cons_zero]; rfl) (by kernel_rfl) (by kernel_rfl) (by kernel_rfl) (fun _ _ _ h => False.elim h) (Or.inr ⟨by rfl, rfl⟩) (by assumption) ?rest29; (try simp only [Act.put, List.setIfInBounds_toArray, List.set_cons_zero, List.set_cons_succ]))
                          (refine wpAnyH_take (i := 30) (v := ?v30n42) (by simp only [List.getElem?_toArray, List.getElem?_cons_succ, List.getElem?_cons_zero]; rfl) (by kernel_rfl) (by kernel_rfl) (by kernel_rfl) (fun _ _ _ h => False.elim h) (Or.inl ⟨by rfl, ?hy30n42⟩) (by assumption) ?rest30n42; (case hy30n42 => (intro w hSw; (try dsimp only at hSw); go_simp; (try with_reducible rfl))); (try simp only [Act.put, List.setIfInBounds_toArray, List.set_cons_zero, List.set_cons_succ]))
                          (refine wpAnyH_take (i := 31) (v := ?v31n43) (by simp only [List.getElem?_toArray, List.getElem?_cons_succ, List.getElem?_cons_zero]; rfl) (by kernel_rfl) (by kernel_rfl) (by kernel_rfl) (fun _ _ _ h => False.elim h) (Or.inl ⟨by rfl, ?hy31n43⟩) (by assumption) ?rest31n43; (case hy31n43 => (intro w hSw; (try dsimp only at hSw); go_simp; (try with_reducible rfl))); (try simp only [Act.put, List.setIfInBounds_toArray, List.set_cons_zero, List.set_cons_succ]))
                          (refine wpAnyH_take (i := 32) (v := ?v32n44) (by simp only [List.getElem?_toArray, List.getElem?_cons_succ, List.getElem?_cons_zero]; rfl) (by kernel_rfl) (by kernel_rfl) (by kernel_rfl) (fun _ _ _ h => False.elim h) (Or.inl ⟨by rfl, ?hy32n44⟩) (by assumption) ?rest32n44; (case hy32n44 => (intro w hSw; (try dsimp only at hSw); go_simp; (try with_reducible rfl))); (try simp only [Act.put, List.setIfInBounds_toArray, List.set_cons_zero, List.set_cons_succ]))
                          refine wpAnyH_done (by kernel_rfl) ?_ _
                          refine NoPanic.normal ?_
                          have HX8 := Lib.hid (HX7.out.below n1)
                          clear n1 hHeld HN7 HX7
                          go_wp2_with fail
                          go_meet
                          case rel => exact ⟨by simp, _, HX8.out⟩
          case rest =>
            obtain ⟨rfl, m', hX⟩ := hcut
            have x1 := cell_block hX.blk 1
            simp only [List.getElem?_toArray, List.getElem?_cons_zero, List.getElem?_cons_succ] at x1
            have HSm := Lib.hid (hX.same x HWf.out.1)
            clear hX HK y0
            go_wp2_with fail
            with_reducible refine HSm.out.mono ?_
            rintro e w8 ⟨rfl, hX8⟩
            obtain ⟨L8, M8, hX8, _⟩ := hX8
            have HX8 := Lib.hid hX8
            clear hX8
            go_wp2_with fail
            go_roundw
            case rel => exact ⟨j + 1, by omega, by go_num, L8, M8, m', HX8.out⟩
            case measure => simp [iv]; omega
        · obtain rfl : j = N := by omega
          have HB := Lib.hid hK.B
          clear hK
          go_wp2_with fail
          go_ret
          exact ⟨rfl, HB.out⟩
end Po
end Go.Proofs.YtpjimmdpcpcmoaaDoor

