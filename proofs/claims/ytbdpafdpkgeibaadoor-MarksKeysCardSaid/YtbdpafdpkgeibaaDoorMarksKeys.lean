/- dofferlaw02.MarksKeys returns true. Condition: the table of TrailingZeros64 reads as laid. -/
import Derived.Test.YtbdpafdpkgeibaaDoorMarks3
namespace Go.Proofs.YtbdpafdpkgeibaaDoor
open Go Go.RowKit Kt
namespace Mk
variable {w w' : World} {p b n : Nat} {ws : List Nat}
theorem put_any (i : Int) (hw : (Lit.int .i64 i).wf = true) (w : World) (h : Is w p b n ws) : Calls Tryd.prog 56 #[.pointer (some ⟨p, 0, none⟩), .int .i64 i] w fun e w' => ∃ r ws', e = .returned (.bool r) ∧ Is w' p b n ws' ∧ Mod [b] w w' := by
  by_cases hi : i < 0 ∨ (n : Int) ≤ i
  · exact (put_out i hi hw w h).mono fun e w' ⟨h1, h2⟩ => ⟨_, ws, h1, h2 ▸ h, h2 ▸ Mod.refl _ _⟩
  · obtain ⟨m, rfl⟩ : ∃ m : Nat, i = (m : Int) := ⟨i.toNat, by omega⟩
    exact (put_c m (by omega) w h).mono fun e w' ⟨h1, h2, h3⟩ => ⟨_, _, h1, h2, h3⟩
theorem ex : keyOf (all (put (List.replicate 1 0) 3)) = [0, 0, 0, 3] ∧ has (List.replicate 1 0) 3 = false := by decide +kernel
set_option maxHeartbeats 1000000 in
set_option maxRecDepth 100000 in
theorem alive_c (w : World) (hT : Bt.Tab w) : Calls Tryd.prog 54 #[] w fun e w' => e = .returned (.bool true) ∧ Below w.heap.size w w' := by
  obtain ⟨x1, x2⟩ := ex
  have hS := Str_list [0, 0, 0, 3]
  have hx1 := Lib.hid x1
  have hx2 := Lib.hid x2
  clear x1 x2
  go_enter Tryd.func54, Tryd.ntmps54
  go_wp2_with fail
  refine (new_c 5 1 (by omega) (by omega) w).mono ?_
  rintro e w1 ⟨p, b, rfl, hp, hb, hI, hB⟩
  have HP := Lib.hid hp
  have HBb := Lib.hid hb
  clear hp hb
  go_wp2_with fail
  refine (put_c 3 (by omega) w1 hI).mono ?_
  rintro e w2 ⟨rfl, hI2, hM⟩
  rw [hx2.out]
  have hB2 : Below w.heap.size w w2 := hB.trans (hM.toBelow hB.size (by have := HBb.out; simpa using this))
  have hk := key_c w2 hI2 (hT.below hB2)
  rw [hx1.out] at hk
  have HK := Lib.hid hk
  have HB := Lib.hid hB2
  clear hI hI2 hB hM hB2 hk hT
  go_wp2_with fail
  refine HK.out.mono ?_
  rintro e w3 ⟨rfl, hb3⟩
  go_wp2
  go_ret
  exact ⟨by first | rfl | simp, HB.out.trans (hb3.mono HB.out.size)⟩
/-- Both sets of the law; what lay ahead of the call stands. -/
structure Tw (w : World) (px bx py b' : Nat) (W : World) : Prop where
  h : ∃ us vs, Is W px bx 300 us ∧ Is W py b' 300 vs
  hB : Below w.heap.size w W
  lx : w.heap.size ≤ bx
  ly : w.heap.size ≤ b'
  s : px ≠ b' ∧ bx ≠ b' ∧ py ≠ bx
theorem Tw.putx {w W : World} {px bx py b' : Nat} (t : Tw w px bx py b' W) (i : Int) (hw : (Lit.int .i64 i).wf = true) : Calls Tryd.prog 56 #[.pointer (some ⟨px, 0, none⟩), .int .i64 i] W fun e W' => (∃ r, e = .returned (.bool r)) ∧ Tw w px bx py b' W' := by
  obtain ⟨us, vs, h1, h2⟩ := t.h
  refine (put_any i hw W h1).mono ?_
  rintro e W' ⟨r, us', rfl, h3, hM⟩
  obtain ⟨s1, s2, s3⟩ := t.s
  exact ⟨⟨r, rfl⟩, ⟨us', vs, h3, h2.mod hM (by simp; exact s3) (by simp; exact fun e => s2 e.symm)⟩, t.hB.trans (hM.toBelow t.hB.size (by have := t.lx; simpa using this)), t.lx, t.ly, t.s⟩
theorem Tw.puty {w W : World} {px bx py b' : Nat} (t : Tw w px bx py b' W) (i : Int) (hw : (Lit.int .i64 i).wf = true) : Calls Tryd.prog 56 #[.pointer (some ⟨py, 0, none⟩), .int .i64 i] W fun e W' => (∃ r, e = .returned (.bool r)) ∧ Tw w px bx py b' W' := by
  obtain ⟨us, vs, h1, h2⟩ := t.h
  refine (put_any i hw W h2).mono ?_
  rintro e W' ⟨r, vs', rfl, h3, hM⟩
  obtain ⟨s1, s2, s3⟩ := t.s
  exact ⟨⟨r, rfl⟩, ⟨us, vs', h1.mod hM (by simp; exact s1) (by simp; exact s2), h3⟩, t.hB.trans (hM.toBelow t.hB.size (by have := t.ly; simpa using this)), t.lx, t.ly, t.s⟩
/-- A loop over a list. -/
def KlR (w : World) (px bx py b' n : Nat) (i : Value) (W : World) : Prop := ∃ k : Nat, k ≤ n ∧ i = .int .i64 (k : Int) ∧ Tw w px bx py b' W
set_option maxHeartbeats 2000000 in
set_option maxRecDepth 100000 in
theorem keys_small (a b : Option Addr) (ca cb na nb : Nat) (xs ys : List Int) (hna : xs.length = na) (hnb : ys.length = nb) (ha : na ≤ 60) (hb : nb ≤ 60) (hx : ∀ n ∈ xs, (Lit.int .i64 n).wf = true) (hy : ∀ n ∈ ys, (Lit.int .i64 n).wf = true) (w : World) (hra : Rd w a (i64s xs)) (hrb : Rd w b (i64s ys)) (hT : Bt.Tab w) :
    Calls Tryd.prog 11 #[.slice a na ca, .slice b nb cb] w fun e w' => e = .returned (.bool true) ∧ Below w.heap.size w w' := by
  have hd1 : decide (60 < (na : Int)) = false := by simp; omega
  have hd2 : decide (60 < (nb : Int)) = false := by simp; omega
  have HRA := Lib.hid hra
  have HRB := Lib.hid hrb
  have HT := Lib.hid hT
  have Hna := Lib.hid hna
  have Hnb := Lib.hid hnb
  have HX := Lib.hid hx
  have HY := Lib.hid hy
  clear hra hrb hT hna hnb hx hy
  go_enter Tryd.func11, Tryd.ntmps11
  go_wp2_with fail
  refine (alive_c w HT.out).mono ?_
  rintro e w1 ⟨rfl, hb1⟩
  go_wp2_with fail
  refine (new_c 300 5 (by omega) (by omega) w1).mono ?_
  rintro e w2 ⟨px, bx, rfl, hpx, hbx, hI2, hb2⟩
  have hB2 := hb1.trans (hb2.mono hb1.size)
  go_wp2_with fail
  refine (new_c 300 5 (by omega) (by omega) w2).mono ?_
  rintro e w3 ⟨py, b', rfl, hpy, hby, hI3, hb3⟩
  have htw : Tw w px bx py b' w3 := by
    have e1 := hb1.size
    have e2 := hb2.size
    obtain ⟨_, hp2⟩ := hI2.hp
    have e3 := block_lt hp2
    have e4 := block_lt hI2.hb
    exact ⟨⟨_, _, hI2.below hb3, hI3⟩, hB2.trans (hb3.mono hB2.size), by omega, by omega, by omega, by omega, by omega⟩
  have HTW := Lib.hid htw
  clear htw hb1 hpx hbx hI2 hb2 hB2 hpy hby hI3 hb3
  go_wp2_with fail
  go_loopw [10, 39] (fun _ i W => KlR w px bx py b' na i W) (fun _ i _ => na - (intOf i).toNat)
  case atStart => exact ⟨0, Nat.zero_le _, rfl, HTW.out⟩
  case round =>
    obtain ⟨k, hk, rfl, ht⟩ := hrel
    by_cases hlt : k < na
    · have hkl : k < xs.length := by rw [Hna.out]; exact hlt
      obtain ⟨bb, off, he, hc⟩ := (HRA.out.keep ht.hB).i64 k hkl
      have hwf := HX.out _ (List.getElem_mem hkl)
      subst he
      generalize xs[k] = z at *
      have HP := Lib.hid (ht.putx z hwf)
      clear ht hwf
      go_wp2_with fail
      refine HP.out.mono ?_
      rintro e w4 ⟨⟨r, rfl⟩, ht4⟩
      have H4 := Lib.hid ht4
      clear ht4
      go_wp2
      go_roundw
      case rel => first | exact ⟨k + 1, hlt, by go_num, H4.out⟩ | ((repeat apply Exists.intro); refine ⟨?r, ?f⟩; (case f => (and_intros <;> rfl)); exact ⟨k + 1, hlt, by go_num, H4.out⟩)
      case measure => simp [intOf]; omega
    · have HTW2 := Lib.hid ht
      clear ht
      clear HTW
      obtain ⟨wo, rfl⟩ : ∃ wo : World, wo = wr := ⟨_, rfl⟩
      go_wp2_with fail
      go_loopw [12, 49] (fun _ i W => KlR w px bx py b' nb i W) (fun _ i _ => nb - (intOf i).toNat)
      case atStart => exact ⟨0, Nat.zero_le _, rfl, HTW2.out⟩
      case round =>
        obtain ⟨k2, hk2, rfl, ht⟩ := hrel
        by_cases hlt2 : k2 < nb
        · have hkl : k2 < ys.length := by rw [Hnb.out]; exact hlt2
          obtain ⟨bb, off, he, hc⟩ := (HRB.out.keep ht.hB).i64 k2 hkl
          have hwf := HY.out _ (List.getElem_mem hkl)
          subst he
          generalize ys[k2] = z at *
          have HP := Lib.hid (ht.puty z hwf)
          clear ht hwf
          go_wp2_with fail
          refine HP.out.mono ?_
          rintro e w4 ⟨⟨r, rfl⟩, ht4⟩
          have H4 := Lib.hid ht4
          clear ht4
          go_wp2
          go_roundw
          case rel => first | exact ⟨k2 + 1, hlt2, by go_num, H4.out⟩ | ((repeat apply Exists.intro); refine ⟨?r, ?f⟩; (case f => (and_intros <;> rfl)); exact ⟨k2 + 1, hlt2, by go_num, H4.out⟩)
          case measure => simp [intOf]; omega
        · obtain ⟨us, vs, h1, h2⟩ := ht.h
          have hB := ht.hB
          have hT := HT.out.below hB
          have hu : ∀ x ∈ all us, x < 4294967296 := fun x hx => by have := all_lt hx; have := h1.fit.2.1; omega
          have hv : ∀ x ∈ all vs, x < 4294967296 := fun x hx => by have := all_lt hx; have := h2.fit.2.1; omega
          have hq : (keyOf (all us) == keyOf (all vs)) = (all us == all vs) := by
            by_cases h : all us = all vs
            · rw [h]; simp
            · have h2 : ¬ keyOf (all us) = keyOf (all vs) := fun e => h (key_inj hu hv e)
              have e1 : (keyOf (all us) == keyOf (all vs)) = false := by simpa using h2
              have e2 : (all us == all vs) = false := by simpa using h
              rw [e1, e2]
          have hsym : (all vs == all us) = (all us == all vs) := by
            by_cases h : all us = all vs
            · rw [h]
            · have e1 : (all vs == all us) = false := by simpa using fun e => h e.symm
              have e2 : (all us == all vs) = false := by simpa using h
              rw [e1, e2]
          have l1 := Str_list (keyOf (all us))
          have l2 := Str_list (keyOf (all vs))
          have s1 := Str_size (keyOf (all us))
          rw [key_len] at s1
          have hcnt := cnt_all us
          have hul : (all us).length ≤ 65536 := by
            have := h1.fit.2.1
            unfold all
            refine Nat.le_trans (List.length_filter_le _ _) ?_
            rw [List.length_range]
            omega
          have K1 := Lib.hid (fun W (hb : Below wr.heap.size wr W) => key_c W (h1.below hb) (hT.below hb))
          have K2 := Lib.hid (fun W (hb : Below wr.heap.size wr W) => key_c W (h2.below hb) (hT.below hb))
          have S1 := Lib.hid (fun W (hb : Below wr.heap.size wr W) => same_c W (h1.below hb) (h2.below hb) (hT.below hb))
          have S2 := Lib.hid (fun W (hb : Below wr.heap.size wr W) => same_c W (h2.below hb) (h1.below hb) (hT.below hb))
          have LN := Lib.hid (fun W (hb : Below wr.heap.size wr W) => len_c W (h1.below hb))
          have HB := Lib.hid hB
          rw [hsym] at S2
          rw [hcnt] at LN
          obtain ⟨L, hLe⟩ : ∃ L, (all us).length = L := ⟨_, rfl⟩
          rw [hLe] at LN s1 hul
          obtain ⟨kx, hkx⟩ : ∃ kx, keyOf (all us) = kx := ⟨_, rfl⟩
          obtain ⟨ky, hky⟩ : ∃ ky, keyOf (all vs) = ky := ⟨_, rfl⟩
          obtain ⟨q, hqq⟩ : ∃ q, (all us == all vs) = q := ⟨_, rfl⟩
          rw [hkx] at K1 l1 s1 hq
          rw [hky] at K2 l2 hq
          rw [hqq] at S1 S2 hq
          clear h1 h2 hB hT ht hu hv hsym hcnt HTW2 hLe hkx hky hqq
          have hb0 := Below.refl wr.heap.size wr
          cases q
          all_goals
            go_wp2_with fail
            refine (K1.out _ hb0).mono ?_
            rintro e w5 ⟨rfl, hb5⟩
            go_wp2_with fail
            refine (K2.out _ hb5).mono ?_
            rintro e w6 ⟨rfl, hb6⟩
            have hB6 := hb5.trans (hb6.mono hb5.size)
            go_wp2_with fail
            refine (S1.out _ hB6).mono ?_
            rintro e w7 ⟨rfl, hb7⟩
            have hB7 := hB6.trans (hb7.mono hB6.size)
            clear hb5 hb6 hB6 hb7
            go_wp2_with fail
            refine (S1.out _ hB7).mono ?_
            rintro e w8 ⟨rfl, hb8⟩
            have hB8 := hB7.trans (hb8.mono hB7.size)
            clear hb8 hB7
            go_wp2_with fail
            refine (S2.out _ hB8).mono ?_
            rintro e w9 ⟨rfl, hb9⟩
            have hB9 := hB8.trans (hb9.mono hB8.size)
            clear hb9 hB8
            go_wp2_with fail
            refine (K1.out _ hB9).mono ?_
            rintro e w10 ⟨rfl, hb10⟩
            have hB10 := hB9.trans (hb10.mono hB9.size)
            clear hb10 hB9
            go_wp2_with fail
            refine (LN.out _ hB10).mono ?_
            rintro e w11 ⟨rfl, rfl⟩
            go_wp2
            go_ret
            exact ⟨by first | rfl | simp, HB.out.trans (hB10.mono HB.out.size)⟩
set_option maxRecDepth 100000 in
theorem keys_c (a b : Option Addr) (ca cb na nb : Nat) (xs ys : List Int) (hna : xs.length = na) (hnb : ys.length = nb) (hma : na ≤ 9223372036854775807) (hmb : nb ≤ 9223372036854775807) (hx : ∀ n ∈ xs, (Lit.int .i64 n).wf = true) (hy : ∀ n ∈ ys, (Lit.int .i64 n).wf = true) (w : World) (hra : Rd w a (i64s xs)) (hrb : Rd w b (i64s ys)) (hT : Bt.Tab w) :
    Calls Tryd.prog 11 #[.slice a na ca, .slice b nb cb] w fun e w' => e = .returned (.bool true) ∧ Below w.heap.size w w' := by
  by_cases h : na ≤ 60 ∧ nb ≤ 60
  · exact keys_small a b ca cb na nb xs ys hna hnb h.1 h.2 hx hy w hra hrb hT
  · have HT := Lib.hid hT
    clear hT hra hrb hna hnb hx hy
    by_cases h1 : na ≤ 60
    · have h2 : ¬ nb ≤ 60 := fun e => h ⟨h1, e⟩
      have hd1 : decide (60 < (na : Int)) = false := by simp; omega
      have hd2 : decide (60 < (nb : Int)) = true := by simp; omega
      clear h
      go_enter Tryd.func11, Tryd.ntmps11
      go_wp2_with fail
      refine (alive_c w HT.out).mono ?_
      rintro e w1 ⟨rfl, hb1⟩
      go_wp2
      go_ret
      exact ⟨rfl, hb1⟩
    · have hd1 : decide (60 < (na : Int)) = true := by simp; omega
      clear h
      go_enter Tryd.func11, Tryd.ntmps11
      go_wp2_with fail
      refine (alive_c w HT.out).mono ?_
      rintro e w1 ⟨rfl, hb1⟩
      go_wp2
      go_ret
      exact ⟨rfl, hb1⟩
end Mk
end Go.Proofs.YtbdpafdpkgeibaaDoor
