import Derived.Test.YtpjimmdpcpcmoaaDoorQMarks3
import Derived.Test.YtpjimmdpcpcmoaaDoorQMarksAg
/- The walks of package marks by a row of truths: Out, Has, Put, After, List, Len, Key, Size, Same. -/
namespace Go.Proofs.YtpjimmdpcpcmoaaDoor
open Go Go.RowKit Kt
namespace Mk
theorem bits_andnot (a m : Nat) (ha : a < 18446744073709551616) (hm : m < 18446744073709551616) : bits .andNot .u64 (a : Int) (m : Int) = ((a &&& (18446744073709551615 - m) : Nat) : Int) := by
  have hx : a &&& (18446744073709551615 - m) < 2 ^ 64 := Nat.and_lt_two_pow _ (by omega)
  have h1 : (BitVec.ofInt 64 (a : Int)).toNat = a := by
    rw [BitVec.ofInt_natCast, BitVec.toNat_ofNat]; exact Nat.mod_eq_of_lt (by omega)
  have h2 : (BitVec.ofInt 64 (m : Int)).toNat = m := by
    rw [BitVec.ofInt_natCast, BitVec.toNat_ofNat]; exact Nat.mod_eq_of_lt (by omega)
  show IntKind.u64.wrap ((BitVec.ofInt 64 (a : Int) &&& ~~~ BitVec.ofInt 64 (m : Int)).toNat : Int) = _
  rw [BitVec.toNat_and, BitVec.toNat_not, h1, h2, IntKind.wrap_u64, show 2 ^ 64 - 1 - m = 18446744073709551615 - m by omega]
  omega
section
variable {w w' : World} {p b n : Nat} {ws : List Nat}
set_option maxRecDepth 100000 in
theorem out_out (i : Int) (hi : i < 0 ∨ (n : Int) ≤ i) (hw : (Lit.int .i64 i).wf = true) (w : World) (h : Is w p b n ws) : Calls Tryd.prog 50 #[.pointer (some ⟨p, 0, none⟩), .int .i64 i] w fun e w' => e = .returned (.bool false) ∧ w = w' := by
  have HA := Lib.hid (at_out i hi hw w h)
  clear h hi hw
  go_enter Tryd.func50, Tryd.ntmps50
  go_wp2_with fail
  refine HA.out.mono ?_
  rintro e w1 ⟨⟨k, m, rfl⟩, rfl⟩
  go_wp2
  go_ret
  exact ⟨rfl, rfl⟩

set_option maxHeartbeats 1000000 in
set_option maxRecDepth 100000 in
theorem out_c (i : Nat) (hi : i < n) (w : World) (h : Is w p b n ws) : Calls Tryd.prog 50 #[.pointer (some ⟨p, 0, none⟩), .int .i64 (i : Int)] w fun e w' => e = .returned (.bool (has ws i)) ∧ Is w' p b n (if has ws i then outm ws i else ws) ∧ Mod [b] w w' := by
  obtain ⟨k, hk⟩ : ∃ k, i / 64 = k := ⟨_, rfl⟩
  obtain ⟨m, hm⟩ : ∃ m, 2 ^ (i % 64) = m := ⟨_, rfl⟩
  have hkl : k < ws.length := by have := h.fit.1; omega
  obtain ⟨cap, h1⟩ := h.hp
  have c1 := cell_block h1 0
  simp at c1
  have cw := h.word k hkl
  obtain ⟨rest, hbk⟩ := h.hb
  have fw := frozen_block hbk k
  have hx := h.lt _ (List.getElem_mem hkl)
  have hm64 : m < 18446744073709551616 := by
    have : (2 : Nat) ^ (i % 64) < 2 ^ 64 := Nat.pow_lt_pow_right (by decide) (by omega)
    omega
  have hgd : ws.getD k 0 = ws[k] := by rw [List.getD_eq_getElem?_getD, List.getElem?_eq_getElem hkl]; rfl
  have hand := bits_and_u64_nat ws[k] m hx hm64
  have hor := bits_andnot ws[k] m hx hm64
  have hp2 : outm ws i = ws.set k (ws[k] &&& (18446744073709551615 - m)) := by unfold outm; rw [hk, hm, hgd]
  have hhas : has ws i = ws[k].testBit (i % 64) := by unfold has; rw [hk, hgd]
  have hap := and_pow (a := ws[k]) hm
  rw [← hhas] at hap
  rw [hap] at hand
  have hat := at_c i k m hk hm hi w h
  have hlen : ws.length ≤ 1024 := h.fit.2.1
  have HA := Lib.hid hat
  cases hh : has ws i with
  | false =>
    rw [hh, if_neg (by decide)] at hand
    simp only [Bool.false_eq_true, if_false]
    have HI := Lib.hid h
    clear h h1 hat hp2 hhas hap hh hor hgd hx hm hk hi hbk
    generalize ws[k] = x at *
    generalize ws.length = L at *
    go_enter Tryd.func50, Tryd.ntmps50
    go_wp2_with fail
    refine HA.out.mono ?_
    rintro e w1 ⟨rfl, rfl⟩
    go_wp2
    go_ret
    exact ⟨rfl, HI.out, Mod.refl _ _⟩
  | true =>
    rw [hh, if_pos rfl] at hand
    have hm0 : ((m : Int) == 0) = false := by
      have : 0 < (2 : Nat) ^ (i % 64) := Nat.pow_pos (by decide)
      simp
      omega
    simp only [if_true]
    have hput : Is (w.setCell ⟨b, k, none⟩ (.int .u64 ((ws[k] &&& (18446744073709551615 - m) : Nat) : Int))) p b n (outm ws i) := by
      refine ⟨⟨cap, ?_⟩, ⟨rest, ?_⟩, h.ne, outm_lt h.lt i, ⟨by rw [outm_len]; exact h.fit.1, by rw [outm_len]; exact h.fit.2.1, by rw [outm_len]; exact h.fit.2.2⟩, fun q hq => ?_⟩
      · rw [outm_len, block_setOther (fun e => h.ne e.symm)]
        exact h1
      · rw [block_setCell hbk, hp2]
        congr 2
        apply Array.toList_inj.1
        simp [vals, List.map_set, hkl]
      · rw [has_outm (by rw [hk]; exact hkl), h.clear q hq]
        simp
    have hM : Mod [b] w (w.setCell ⟨b, k, none⟩ (.int .u64 ((ws[k] &&& (18446744073709551615 - m) : Nat) : Int))) := (Mod.refl [b] w).setCell (.inl (by simp)) _
    have HI := Lib.hid hput
    have HM := Lib.hid hM
    clear h h1 hat hp2 hhas hap hh hgd hx hm hk hi hput hM hbk
    generalize (ws[k] &&& (18446744073709551615 - m)) = z at *
    generalize ws[k] = x at *
    generalize ws.length = L at *
    go_enter Tryd.func50, Tryd.ntmps50
    go_wp2_with fail
    refine HA.out.mono ?_
    rintro e w1 ⟨rfl, rfl⟩
    go_wp2
    go_ret
    exact ⟨rfl, HI.out, HM.out⟩
set_option maxRecDepth 100000 in
theorem after_hi (i : Int) (hi : (n : Int) ≤ i) (w : World) (h : Is w p b n ws) : Calls Tryd.prog 49 #[.pointer (some ⟨p, 0, none⟩), .int .i64 i] w fun e w' => e = .returned (.int .i64 (-1)) ∧ w = w' := by
  have HS := Lib.hid (size_c w h)
  have hge : decide ((n : Int) ≤ i) = true := by simpa using hi
  clear h hi
  go_enter Tryd.func49, Tryd.ntmps49
  go_wp2_with fail
  refine HS.out.mono ?_
  rintro e w1 ⟨rfl, rfl⟩
  go_wp2
  go_ret
  exact ⟨rfl, rfl⟩
end
/-- A set at block p, its words at block b, by a row of truths. -/
structure MI (w : World) (p b : Nat) (bs : List Bool) : Prop where
  ex : ∃ ws, Is w p b bs.length ws ∧ Ag ws bs
variable {w w' : World} {p b : Nat} {bs cs : List Bool}
theorem MI.below (h : MI w p b bs) (hb : Below w.heap.size w w') : MI w' p b bs := by obtain ⟨ws, h1, h2⟩ := h.ex; exact ⟨ws, h1.below hb, h2⟩
theorem MI.mod {S : List Nat} (h : MI w p b bs) (hm : Mod S w w') (hp : p ∉ S) (hb : b ∉ S) : MI w' p b bs := by obtain ⟨ws, h1, h2⟩ := h.ex; exact ⟨ws, h1.mod hm hp hb, h2⟩
theorem MI.plt (h : MI w p b bs) : p < w.heap.size := by obtain ⟨ws, h1, _⟩ := h.ex; exact h1.plt
theorem MI.blt (h : MI w p b bs) : b < w.heap.size := by obtain ⟨ws, h1, _⟩ := h.ex; exact h1.blt
theorem MI.ne (h : MI w p b bs) : b ≠ p := by obtain ⟨ws, h1, _⟩ := h.ex; exact h1.ne
theorem MI.len (h : MI w p b bs) : bs.length ≤ 65536 := by obtain ⟨ws, h1, _⟩ := h.ex; have := h1.fit; omega
theorem put_m (i : Int) (hw : (Lit.int .i64 i).wf = true) (w : World) (h : MI w p b bs) : Calls Tryd.prog 47 #[.pointer (some ⟨p, 0, none⟩), .int .i64 i] w fun e w' => e = .returned (.bool (prB bs i)) ∧ MI w' p b (puB bs i) ∧ Mod [b] w w' := by
  obtain ⟨ws, h1, h2⟩ := h.ex
  by_cases hi : i < 0 ∨ (bs.length : Int) ≤ i
  · rw [prB_out i hi, puB_out i hi]
    exact (put_out i hi hw w h1).mono fun e w' ⟨k1, k2⟩ => ⟨k1, k2 ▸ h, k2 ▸ Mod.refl _ _⟩
  · obtain ⟨m, rfl⟩ : ∃ m : Nat, i = (m : Int) := ⟨i.toNat, by omega⟩
    have hm : m < bs.length := by omega
    rw [prB_nat m hm, puB_nat m hm, ← h2.at']
    exact (put_c m hm w h1).mono fun e w' ⟨k1, k2, k3⟩ => ⟨k1, ⟨put ws m, by rw [List.length_set]; exact k2, h2.put hm (by have := h1.fit; omega)⟩, k3⟩
theorem out_m (i : Int) (hw : (Lit.int .i64 i).wf = true) (w : World) (h : MI w p b bs) : Calls Tryd.prog 50 #[.pointer (some ⟨p, 0, none⟩), .int .i64 i] w fun e w' => e = .returned (.bool (hasB bs i)) ∧ MI w' p b (ouB bs i) ∧ Mod [b] w w' := by
  obtain ⟨ws, h1, h2⟩ := h.ex
  by_cases hi : i < 0 ∨ (bs.length : Int) ≤ i
  · rw [hasB_out i hi, ouB_out i hi]
    exact (out_out i hi hw w h1).mono fun e w' ⟨k1, k2⟩ => ⟨k1, k2 ▸ h, k2 ▸ Mod.refl _ _⟩
  · obtain ⟨m, rfl⟩ : ∃ m : Nat, i = (m : Int) := ⟨i.toNat, by omega⟩
    have hm : m < bs.length := by omega
    rw [hasB_nat m, ouB_nat m hm, ← h2.at']
    refine (out_c m hm w h1).mono fun e w' ⟨k1, k2, k3⟩ => ⟨k1, ?_, k3⟩
    cases hh : has ws m with
    | true =>
      rw [hh, if_pos rfl] at k2
      exact ⟨outm ws m, by rw [List.length_set]; exact k2, h2.out hm (by have := h1.fit; omega)⟩
    | false =>
      rw [hh, if_neg (by decide)] at k2
      rw [set_same hm (by rw [← h2.at']; exact hh)]
      exact ⟨ws, k2, h2⟩

theorem after_m (i : Int) (w : World) (h : MI w p b bs) (hT : Bt.Tab w) : Calls Tryd.prog 49 #[.pointer (some ⟨p, 0, none⟩), .int .i64 i] w fun e w' => e = .returned (.int .i64 (aft bs i)) ∧ w = w' := by
  obtain ⟨ws, h1, h2⟩ := h.ex
  by_cases hn : (bs.length : Int) ≤ i
  · rw [aft_none (i := i) fun q hq => getD_out (by omega)]
    exact after_hi i hn w h1
  · obtain ⟨j, hj⟩ : ∃ j : Nat, max i (-1) = (j : Int) - 1 := ⟨(i + 1).toNat, by omega⟩
    have := h.len
    refine (after_any i j hj w h1 (by omega) hT).mono ?_
    rintro e w' ⟨⟨r, rfl, hr⟩, rfl⟩
    exact ⟨by rw [nx_aft (i := i) h2 (by omega) hr], rfl⟩

theorem new_m (n : Nat) (hn : n ≤ 65536) (w : World) : Calls Tryd.prog 46 #[.int .i64 (n : Int)] w fun e w' => ∃ p b, e = .returned (.tuple #[.pointer (some ⟨p, 0, none⟩), .nilIface]) ∧ w.heap.size ≤ p ∧ w.heap.size ≤ b ∧ MI w' p b (List.replicate n false) ∧ Below w.heap.size w w' :=
  (new_c n _ hn rfl w).mono fun e w' ⟨p, b, h1, h2, h3, h4, h5⟩ => ⟨p, b, h1, h2, h3, ⟨_, by rw [List.length_replicate]; exact h4, ag_zero _ _⟩, h5⟩
end Mk
end Go.Proofs.YtpjimmdpcpcmoaaDoor
