/- dofferlaw04.back returns true. Condition: the sentinels read as laid. -/
import Derived.Test.YtjohljpcoodijaaDoorPackLaw0
namespace Go.Proofs.YtjohljpcoodijaaDoor
open Go Go.RowKit Kt
namespace Pk
def encVs (l : List PV) : List UInt8 := l.flatMap encV
theorem encVs_cons (z : PV) (l : List PV) : encVs (z :: l) = encV z ++ encVs l := rfl
theorem encVs_snoc (l : List PV) (z : PV) : encVs (l ++ [z]) = encVs l ++ encV z := by simp [encVs]
theorem encV_len (z : PV) (hs : small z) (hb : badV z = false) : (encV z).length ≤ 400 := by
  obtain ⟨h1, h2⟩ := hs
  unfold encV
  unfold badV at hb
  by_cases h0 : z.k = 0
  · rw [if_pos h0] at hb ⊢
    have : ¬ (z.n < 0 ∨ 2147483647 < z.n) := by simpa using hb
    have := enc_len5 (n := z.n.toNat) (by omega)
    omega
  · rw [if_neg h0] at hb ⊢
    by_cases hk1 : z.k = 1
    · rw [if_pos hk1]; simp
    · rw [if_neg hk1]
      by_cases h23 : z.k = 2 ∨ z.k = 3
      · rw [if_pos h23, List.length_append]
        have := enc_len5 (n := z.bytes.length) (by omega)
        omega
      · rw [if_neg h23]
        rw [if_neg (by omega)] at hb
        unfold encRow
        rw [List.length_append]
        have := enc_len5 (n := z.row.length) (by omega)
        have := encs_len z.row hb
        omega
theorem encVs_len : ∀ (l : List PV), (∀ z ∈ l, small z) → l.any badV = false → (encVs l).length ≤ 400 * l.length
  | [], _, _ => by simp [encVs]
  | z :: l, hs, hb => by
    simp only [List.any_cons, Bool.or_eq_false_iff] at hb
    have h1 := encV_len z (hs z (by simp)) hb.1
    have h2 := encVs_len l (fun y hy => hs y (by simp [hy])) hb.2
    rw [encVs_cons, List.length_append, List.length_cons]
    omega
def BkR (w : World) (p : Nat) (l : List PV) (n : Nat) (i : Value) (W : World) : Prop := ∃ k : Nat, k ≤ n ∧ i = .int .i64 k ∧ InS W p (encVs (l.drop k)) .nilIface ∧ Mod [p] w W

set_option maxHeartbeats 4000000 in
set_option maxRecDepth 100000 in
theorem back_c (A : Nat → Addr) (p : Nat) (a : Option Addr) (c n : Nat) (l : List PV) (w0 w : World) (hl : l.length = n) (h40 : n ≤ 40) (hr : Rd w0 a (l.flatMap PV.cs)) (hok : ∀ z ∈ l, z.ok w0) (hsm : ∀ z ∈ l, small z) (hbad : l.any badV = false)
    (hI : InS w p (encVs l) .nilIface) (hs : Sent 152 w0 A pks) (hB0 : Below w0.heap.size w0 w) (hp0 : w0.heap.size ≤ p) :
    Calls Tryd.prog 77 #[.pointer (some ⟨p, 0, none⟩), .slice a n c] w fun e w' => e = .returned (.bool true) ∧ Mod [p] w w' := by
  have HL := Lib.hid hl
  have HR := Lib.hid hr
  have HOk := Lib.hid hok
  have HSm := Lib.hid hsm
  have HBad := Lib.hid hbad
  have HI := Lib.hid hI
  have HS := Lib.hid hs
  have HB0 := Lib.hid hB0
  clear hl hr hok hsm hbad hI hs hB0
  go_enter Tryd.func77, Tryd.ntmps77
  go_wp2_with fail
  go_loopw [6, 7, 12] (fun _ _ i W => BkR w p l n i W) (fun _ _ i _ => n - (intOf i).toNat)
  case atStart => exact ⟨0, Nat.zero_le _, rfl, HI.out, Mod.refl _ _⟩
  case round =>
    clear HI
    obtain ⟨k, hk, rfl, hI, hM⟩ := hrel
    by_cases hlt : k < n
    · have hkl : k < l.length := by rw [HL.out]; exact hlt
      have hBW : Below w0.heap.size w0 wr := HB0.out.trans (hM.toBelow HB0.out.size (by simpa using hp0))
      obtain ⟨b, off, ha, hcs⟩ := (HR.out.keep hBW).struct 4 (by intro z _; rfl) k hkl (by omega)
      have k0 := hcs 0 _ rfl (by omega)
      have k1 := hcs 1 _ rfl (by omega)
      have k2 := hcs 2 _ rfl (by omega)
      have k3 := hcs 3 _ rfl (by omega)
      simp only [Nat.add_zero] at k0
      rw [← Nat.add_assoc] at k1 k2 k3
      have hcons : l.drop k = l[k] :: l.drop (k + 1) := List.drop_eq_getElem_cons hkl
      have hz1 := HOk.out l[k] (List.getElem_mem hkl)
      have hz2 := HSm.out l[k] (List.getElem_mem hkl)
      have hz3 : badV l[k] = false := by
        have := HBad.out
        rw [List.any_eq_false] at this
        simpa using this l[k] (List.getElem_mem hkl)
      have hlen := encVs_len (l.drop (k + 1)) (fun z hz => HSm.out z (List.mem_of_mem_drop hz)) (by
        have := HBad.out
        rw [List.any_eq_false] at this ⊢
        exact fun y hy => this y (List.mem_of_mem_drop hy))
      rw [List.length_drop, HL.out] at hlen
      rw [hcons, encVs_cons] at hI
      obtain ⟨R, hR⟩ : ∃ R, encVs (l.drop (k + 1)) = R := ⟨_, rfl⟩
      rw [hR] at hI hlen
      have hRl : R.length ≤ 20000 := by omega
      generalize l[k] = z at *
      obtain ⟨kd, m, ba, bc, bs, ra, rc, row⟩ := z
      subst ha
      simp only at k0 k1 k2 k3
      obtain ⟨h300, h60⟩ := hz2
      simp only at h300 h60
      obtain ⟨N, hNB⟩ : ∃ N, bs.length = N := ⟨_, rfl⟩
      obtain ⟨NR, hNR⟩ : ∃ NR, row.length = NR := ⟨_, rfl⟩
      rw [hNB] at k2 h300
      rw [hNR] at k3 h60
      have HNB := Lib.hid hNB
      have HNR := Lib.hid hNR
      clear hNB hNR
      have hzW := hz1.keep hBW
      have HZ0 := Lib.hid hz1
      have b0 := (Below.refl wr.heap.size wr).alloc (Nat.le_refl _) (.cells #[.int .i64 kd, .int .i64 m, .slice ba N bc, .slice ra NR rc] 104)
      have hy := heap_alloc_new wr (.cells #[.int .i64 kd, .int .i64 m, .slice ba N bc, .slice ra NR rc] 104)
      have hI1 := hI.below b0
      have hzW1 := hzW.keep b0
      have hyp : wr.heap.size ≠ p := by have := hI.plt; omega
      have hM1 := hM.below b0
      have hBB := hBW.trans (b0.mono hBW.size)
      have hs1 := HS.out.keep (hBW.trans (b0.mono hBW.size))
      have hyl := block_lt hy
      obtain ⟨y, hyd⟩ : ∃ y, wr.heap.size = y := ⟨_, rfl⟩
      obtain ⟨W1, hW1⟩ : ∃ W1, wr.alloc (.cells #[.int .i64 kd, .int .i64 m, .slice ba N bc, .slice ra NR rc] 104) = W1 := ⟨_, rfl⟩
      rw [hW1, hyd] at hy hyl
      rw [hW1] at hI1 hzW1 hM1 hs1 hBB
      have HBB := Lib.hid hBB
      clear hBB
      rw [hyd] at hyp
      have z0 := cell_block hy 0
      have z1 := cell_block hy 1
      have z2 := cell_block hy 2
      have z3 := cell_block hy 3
      simp at z0 z1 z2 z3
      -- what every way ends with
      have fin : ∀ W, InS W p R .nilIface → Mod [p] W1 W → InS W p (encVs (l.drop (k + 1))) .nilIface ∧ Mod [p] w W := fun W h1 h2 => ⟨by rw [hR]; exact h1, hM1.trans h2 (fun j hj => .inl hj)⟩
      have keep : ∀ W, Mod [p] W1 W → W.heap[y]? = some (.cells #[.int .i64 kd, .int .i64 m, .slice ba N bc, .slice ra NR rc] 104 (0, 0)) := fun W h => (h.block y hyl (by simpa using hyp)).trans hy
      have Fin := Lib.hid fin
      have Keep := Lib.hid keep
      have HZ := Lib.hid hzW1
      have HI1 := Lib.hid hI1
      have HZ3 := Lib.hid hz3
      have HS1 := Lib.hid hs1
      clear hcs hcons hz1 hz3 hlen hI hM hBW hzW b0 hI1 hM1 hs1 fin keep hzW1 hy hR
      subst hW1
      by_cases n0 : kd = 0
      · subst n0
        have hv := HI1.out
        have hnb := HZ3.out
        unfold encV at hv
        unfold badV at hnb
        rw [if_pos rfl] at hv hnb
        have hm2 : ¬ (m < 0 ∨ 2147483647 < m) := by simpa using hnb
        have hmc : ((m.toNat : Nat) : Int) = m := by omega
        have hN := fun W (hW : Below _ _ W) => inum_ok A m.toNat m R W (hv.below hW) (by omega) (by omega) (by omega) (HS1.out.keep hW)
        simp only [hmc] at hN
        have HN := Lib.hid hN
        have sk : ∀ W : World, W.heap[y]? = some (.cells #[.int .i64 0, .int .i64 m, .slice ba N bc, .slice ra NR rc] 104 (0, 0)) → W.cell? ⟨y, 1, none⟩ = some (.int .i64 m) := fun W h => cell_block h 1
        have SK := Lib.hid sk
        have y0 := Keep.out _ (Mod.refl _ _)
        clear hv hnb hm2 hmc hN sk
        go_wp2_with fail
        go_region_held3 (fun W => W.cell? ⟨y, 1, none⟩ = some (.int .i64 m)) (first | exact SK.out _ y1 | exact SK.out _ y0)
          ((go_at_call 45; (with_reducible refine (HN.out _ (Below.refl _ _).drew).mono ?_); rintro e w5 ⟨rfl, hI5, hM5⟩
            have hM6 := ((Mod.refl [p] _).drew).trans hM5 (fun j hj => .inl hj)
            have y1 := Keep.out _ hM6))
        have HF := Lib.hid (Fin.out w5 hI5 hM6)
        clear hI5 hM5 hM6 y0 y1 z0 z1 z2 z3
        go_wp2
        go_roundw
        case rel => first | exact ⟨k + 1, by omega, by go_num, HF.out.1, HF.out.2⟩ | ((repeat apply Exists.intro); refine ⟨?r, ?f⟩; (case f => (and_intros <;> rfl)); exact ⟨k + 1, by omega, by go_num, HF.out.1, HF.out.2⟩)
        case measure => simp [intOf]; omega
      · by_cases n1 : kd = 1
        · subst n1
          have hv := HI1.out
          unfold encV at hv
          rw [if_neg (by omega), if_pos rfl] at hv
          have hbv : ((byteOf m).toNat : Int) = IntKind.u8.wrap m := by
            rw [IntKind.wrap_u8', byteOf, ofNat_toNat (by omega)]
            omega
          have hN := fun W (hW : Below _ _ W) => ibyte_ok (byteOf m) R W (hv.below hW) (by omega)
          simp only [hbv] at hN
          have HN := Lib.hid hN
          have sk : ∀ W : World, W.heap[y]? = some (.cells #[.int .i64 1, .int .i64 m, .slice ba N bc, .slice ra NR rc] 104 (0, 0)) → W.cell? ⟨y, 1, none⟩ = some (.int .i64 m) := fun W h => cell_block h 1
          have SK := Lib.hid sk
          have y0 := Keep.out _ (Mod.refl _ _)
          clear hv hbv hN sk
          go_wp2_with fail
          go_region_held3 (fun W => W.cell? ⟨y, 1, none⟩ = some (.int .i64 m)) (first | exact SK.out _ y1 | exact SK.out _ y0)
            ((go_at_call 92; (with_reducible refine (HN.out _ (Below.refl _ _).drew).mono ?_); rintro e w5 ⟨rfl, hI5, hM5⟩
              have hM6 := ((Mod.refl [p] _).drew).trans hM5 (fun j hj => .inl hj)
              have y1 := Keep.out _ hM6))
          have HF := Lib.hid (Fin.out w5 hI5 hM6)
          clear hI5 hM5 hM6 y0 y1 z0 z1 z2 z3
          go_wp2
          go_roundw
          case rel => first | exact ⟨k + 1, by omega, by go_num, HF.out.1, HF.out.2⟩ | ((repeat apply Exists.intro); refine ⟨?r, ?f⟩; (case f => (and_intros <;> rfl)); exact ⟨k + 1, by omega, by go_num, HF.out.1, HF.out.2⟩)
          case measure => simp [intOf]; omega
        · by_cases n2 : kd = 2
          · subst n2
            have hv := HI1.out
            unfold encV at hv
            simp only at hv
            rw [if_neg (by omega), if_neg (by omega), if_pos (by first | trivial | simp | omega), List.append_assoc, HNB.out] at hv
            have hN := HNB.out
            have hC := fun W (hW : Below _ _ W) => ibytes_ok A N bs R N W (hv.below hW) hN (by omega) (by omega) (by omega) (HS1.out.keep hW)
            have HC := Lib.hid hC
            have HB := Lib.hid HZ.out.b
            have hcv0 := str_run (P := Tryd.prog) (dst := 9) Num.elU8.ht Tryd.underlying5 Tryd.underlying9 HZ.out.b bc 1
            simp only [hN] at hcv0
            have e1 : ∀ W : World, W.drewN 1 = W.drew := fun _ => rfl
            rw [e1] at hcv0
            have HN := Lib.hid hN
            clear hv hC hN e1
            go_wp2_with fail
            go_region_law (((with_reducible apply step_call (HC.out _ (Below.refl _ _).drew) Tryd.func93 (by kernel_rfl) (by kernel_rfl)); rfl; rfl; rfl); rintro e w5 ⟨a5, c5, rfl, hr5, hI5, hM5⟩; (have hM6 := ((Mod.refl [p] _).drew).trans hM5 (fun j hj => .inl hj)); (have y2 := cell_block (Keep.out _ hM6) 2); (have hcv1 := str_run (P := Tryd.prog) (dst := 9) Num.elU8.ht Tryd.underlying5 Tryd.underlying9 (Rd.modNew HZ0.out.b HB.out hM6 (by simpa using hp0)) bc 0); (rw [HN.out, show w5.drewN 0 = w5 from rfl] at hcv1); (have hcv2 := str_run (P := Tryd.prog) (dst := 9) Num.elU8.ht Tryd.underlying5 Tryd.underlying9 hr5 c5 0); (rw [HN.out, show w5.drewN 0 = w5 from rfl] at hcv2); clear hr5; (have HF := Lib.hid (Fin.out w5 hI5 hM6)); clear hM6 hI5 hM5; refine ⟨_, rfl, ?_⟩)
            all_goals
              go_wp2
              go_roundw
              case rel => first | exact ⟨k + 1, by omega, by go_num, HF.out.1, HF.out.2⟩ | ((repeat apply Exists.intro); refine ⟨?r, ?f⟩; (case f => (and_intros <;> rfl)); exact ⟨k + 1, by omega, by go_num, HF.out.1, HF.out.2⟩)
              case measure => simp [intOf]; omega
          · by_cases n3 : kd = 3
            · subst n3
              have hv := HI1.out
              unfold encV at hv
              simp only at hv
              rw [if_neg (by omega), if_neg (by omega), if_pos (by first | trivial | simp | omega), List.append_assoc, HNB.out] at hv
              have hN := HNB.out
              have hC := fun W (hW : Below _ _ W) => itext_ok A N bs R 300 W (hv.below hW) hN (by omega) (by omega) (by omega) (HS1.out.keep hW)
              have HC := Lib.hid hC
              have HB := Lib.hid HZ.out.b
              have hcv0 := str_run (P := Tryd.prog) (dst := 9) Num.elU8.ht Tryd.underlying5 Tryd.underlying9 HZ.out.b bc 1
              simp only [hN] at hcv0
              have e1 : ∀ W : World, W.drewN 1 = W.drew := fun _ => rfl
              rw [e1] at hcv0
              have HN := Lib.hid hN
              clear hv hC hN e1
              go_wp2_with fail
              go_region_law (((with_reducible apply step_call (HC.out _ (Below.refl _ _).drew) Tryd.func94 (by kernel_rfl) (by kernel_rfl)); rfl; rfl; rfl); rintro e w5 ⟨rfl, hI5, hM5⟩; (have hM6 := ((Mod.refl [p] _).drew).trans hM5 (fun j hj => .inl hj)); (have y2 := cell_block (Keep.out _ hM6) 2); (have hcv1 := str_run (P := Tryd.prog) (dst := 9) Num.elU8.ht Tryd.underlying5 Tryd.underlying9 (Rd.modNew HZ0.out.b HB.out hM6 (by simpa using hp0)) bc 0); (rw [HN.out, show w5.drewN 0 = w5 from rfl] at hcv1); (have HF := Lib.hid (Fin.out w5 hI5 hM6)); clear hM6 hI5 hM5; refine ⟨_, rfl, ?_⟩)
              all_goals
                go_wp2
                go_roundw
                case rel => first | exact ⟨k + 1, by omega, by go_num, HF.out.1, HF.out.2⟩ | ((repeat apply Exists.intro); refine ⟨?r, ?f⟩; (case f => (and_intros <;> rfl)); exact ⟨k + 1, by omega, by go_num, HF.out.1, HF.out.2⟩)
                case measure => simp [intOf]; omega
            · have hv := HI1.out
              have hnb := HZ3.out
              unfold encV at hv
              unfold badV at hnb
              simp only at hv hnb
              rw [if_neg n0] at hv hnb
              rw [if_neg n1, if_neg (by omega)] at hv
              rw [if_neg (by omega)] at hnb
              have hN := HNR.out
              have hC := fun W (hW : Below _ _ W) (hB : Below w0.heap.size w0 W) => irow_ok A NR row R W (hv.below hW) hN (by omega) hnb (by omega) w0 HS.out hB hp0
              have HC := Lib.hid hC
              have HRow := Lib.hid HZ.out.r
              have HN := HNR
              have sk : ∀ W : World, W.heap[y]? = some (.cells #[.int .i64 kd, .int .i64 m, .slice ba N bc, .slice ra NR rc] 104 (0, 0)) → W.cell? ⟨y, 3, none⟩ = some (.slice ra NR rc) := fun W h => cell_block h 3
              have SK := Lib.hid sk
              have y0 := Keep.out _ (Mod.refl _ _)
              have b0 : (kd == 0) = false := by simp [n0]
              have b1 : (kd == 1) = false := by simp [n1]
              have b2 : (kd == 2) = false := by simp [n2]
              have b3 : (kd == 3) = false := by simp [n3]
              clear hv hC hN hnb sk n0 n1 n2 n3
              go_wp2_with fail
              go_region_held3 (fun W => W.cell? ⟨y, 3, none⟩ = some (.slice ra NR rc)) (first | exact SK.out _ y2 | exact SK.out _ y1 | exact SK.out _ y0)
                (first
                  | (go_at_call 95; (with_reducible refine (HC.out _ (Below.refl _ _).drew (HBB.out.drew)).mono ?_); rintro e w5 ⟨a5, c5, rfl, hr5, hI5, hM5⟩
                     have hM6 := ((Mod.refl [p] _).drew).trans hM5 (fun j hj => .inl hj)
                     have y1 := Keep.out _ hM6)
                  | (go_at_call 51; (with_reducible refine (Sm.same_eq a5 ra c5 rc NR NR row _ HN.out HN.out (by omega) hr5 (Rd.modNew HZ0.out.r HRow.out hM6 (by simpa using hp0))).mono ?_); rintro e w8 ⟨rfl, n8, h8⟩
                     have hM8 : Mod [p] _ w8 := hM6.below (by subst h8; exact below_drewN (Below.refl _ _) n8)
                     have y2 := Keep.out _ hM8))
              have HF := Lib.hid (Fin.out w8 (by have hb : Below w5.heap.size w5 w8 := (by subst h8; exact below_drewN (Below.refl _ _) n8); exact hI5.below hb) hM8)
              clear hI5 hM5 hM6 hM8 y0 y1 y2 z0 z1 z2 z3 hr5 h8
              go_wp2
              go_roundw
              case rel => first | exact ⟨k + 1, by omega, by go_num, HF.out.1, HF.out.2⟩ | ((repeat apply Exists.intro); refine ⟨?r, ?f⟩; (case f => (and_intros <;> rfl)); exact ⟨k + 1, by omega, by go_num, HF.out.1, HF.out.2⟩)
              case measure => simp [intOf]; omega
    · have : k = n := by omega
      subst this
      rw [List.drop_of_length_le (by rw [HL.out]; exact Nat.le_refl _)] at hI
      have hI' : InS wr p [] .nilIface := hI
      have HM := Lib.hid hM
      clear hI hM
      go_wp2_with fail
      refine (iend_ok wr hI').mono ?_
      rintro e w6 ⟨rfl, rfl⟩
      go_wp2_with fail
      refine (left_c wr hI').mono ?_
      rintro e w7 ⟨rfl, rfl⟩
      clear hI'
      go_wp2
      go_ret
      exact ⟨rfl, HM.out⟩
end Pk
end Go.Proofs.YtjohljpcoodijaaDoor
