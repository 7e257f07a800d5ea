import Derived.Test.YtpjimmdpcpcmoaaDoorQMarksAg
import Derived.Test.YtpjimmdpcpcmoaaDoorQBits
/- The walks of package marks. -/
namespace Go.Proofs.YtpjimmdpcpcmoaaDoor
open Go Go.RowKit Kt
namespace Mk
def vals (ws : List Nat) : List Value := ws.map fun (x : Nat) => .int .u64 (x : Int)
/-- A set at block p, its words at block b; n: its bound. -/
structure Is (w : World) (p b n : Nat) (ws : List Nat) : Prop where
  hp : ∃ cap, w.heap[p]? = some (.cells #[.slice (some ⟨b, 0, none⟩) ws.length cap, .int .i64 (n : Int)] 122 (0, 0))
  hb : ∃ rest, w.heap[b]? = some (.cells (vals ws ++ rest).toArray 123 (0, 0))
  ne : b ≠ p
  lt : ∀ x ∈ ws, x < 18446744073709551616
  fit : n ≤ 64 * ws.length ∧ ws.length ≤ 1024 ∧ 64 * ws.length ≤ n + 63
  clear : ∀ m, n ≤ m → has ws m = false
variable {w w' : World} {p b n : Nat} {ws : List Nat}
theorem Is.blt (h : Is w p b n ws) : b < w.heap.size := by obtain ⟨_, h1⟩ := h.hb; exact block_lt h1
theorem Is.plt (h : Is w p b n ws) : p < w.heap.size := by obtain ⟨_, h1⟩ := h.hp; exact block_lt h1
theorem Is.below (h : Is w p b n ws) (hb : Below w.heap.size w w') : Is w' p b n ws := by
  obtain ⟨cap, h1⟩ := h.hp
  obtain ⟨rest, h2⟩ := h.hb
  exact ⟨⟨cap, by rw [hb.block p (block_lt h1)]; exact h1⟩, ⟨rest, by rw [hb.block b (block_lt h2)]; exact h2⟩, h.ne, h.lt, h.fit, h.clear⟩
theorem Is.mod {S : List Nat} (h : Is w p b n ws) (hm : Mod S w w') (hp : p ∉ S) (hb : b ∉ S) : Is w' p b n ws := by
  obtain ⟨cap, h1⟩ := h.hp
  obtain ⟨rest, h2⟩ := h.hb
  exact ⟨⟨cap, by rw [hm.block p (block_lt h1) hp]; exact h1⟩, ⟨rest, by rw [hm.block b (block_lt h2) hb]; exact h2⟩, h.ne, h.lt, h.fit, h.clear⟩
theorem Is.word (h : Is w p b n ws) (k : Nat) (hk : k < ws.length) : w.cell? ⟨b, k, none⟩ = some (.int .u64 (ws[k] : Int)) := by
  obtain ⟨rest, h2⟩ := h.hb
  have e : (vals ws)[k]? = some (.int .u64 (ws[k] : Int)) := by simp [vals, hk]
  rw [cell_block h2, List.getElem?_toArray, List.getElem?_append_left (by simp [vals]; exact hk), e]
set_option maxRecDepth 100000 in
theorem size_c (w : World) (h : Is w p b n ws) : Calls Tryd.prog 68 #[.pointer (some ⟨p, 0, none⟩)] w fun e w' => e = .returned (.int .i64 (n : Int)) ∧ w = w' := by
  obtain ⟨cap, h1⟩ := h.hp
  have k1 := cell_block h1 1
  simp at k1
  clear h h1
  go_enter Tryd.func68, Tryd.ntmps68
  go_wp2
  go_ret
  exact ⟨rfl, rfl⟩
set_option maxRecDepth 100000 in
theorem own_c (w : World) (h : Is w p b n ws) : Calls Tryd.prog 69 #[.pointer (some ⟨p, 0, none⟩)] w fun e w' => (∃ cap, e = .returned (.slice (some ⟨b, 0, none⟩) ws.length cap)) ∧ w = w' := by
  obtain ⟨cap, h1⟩ := h.hp
  have k1 := cell_block h1 0
  simp at k1
  clear h h1
  go_enter Tryd.func69, Tryd.ntmps69
  go_wp2
  go_ret
  exact ⟨⟨cap, rfl⟩, rfl⟩
theorem wrap_pow {t m : Nat} (ht : t < 64) (hm : 2 ^ t = m) : IntKind.u64.wrap ((2 : Int) ^ t) = (m : Int) := by
  have h1 : (2 : Nat) ^ t < 2 ^ 64 := Nat.pow_lt_pow_right (by decide) ht
  have h2 : ((2 : Int) ^ t) = ((2 ^ t : Nat) : Int) := by rw [Int.natCast_pow]; rfl
  rw [h2, hm, IntKind.wrap_u64]
  rw [hm] at h1
  omega
theorem and_pow {a t m : Nat} (hm : 2 ^ t = m) : a &&& m = if a.testBit t then m else 0 := by
  subst hm
  apply Nat.eq_of_testBit_eq
  intro j
  rw [Nat.testBit_and, Nat.testBit_two_pow]
  by_cases hj : t = j
  · subst hj
    cases h : a.testBit t <;> simp
  · cases h : a.testBit t <;> simp [hj]
set_option maxRecDepth 100000 in
theorem at_c (i k m : Nat) (hk : i / 64 = k) (hm : 2 ^ (i % 64) = m) (hi : i < n) (w : World) (h : Is w p b n ws) : Calls Tryd.prog 66 #[.pointer (some ⟨p, 0, none⟩), .int .i64 (i : Int)] w fun e w' => e = .returned (.tuple #[.int .i64 (k : Int), .int .u64 (m : Int), .bool true]) ∧ w = w' := by
  have hs := size_c w h
  have hn : n ≤ 65536 := by have := h.fit; omega
  have hw := wrap_pow (by omega) hm
  have hik : (i : Int) / 64 = (k : Int) := by omega
  have Hs := Lib.hid hs
  clear h hs hm hk
  go_enter Tryd.func66, Tryd.ntmps66
  go_wp2_with fail
  refine Hs.out.mono ?_
  rintro e w1 ⟨rfl, rfl⟩
  go_wp2
  go_ret3
  exact ⟨rfl, rfl⟩
set_option maxRecDepth 100000 in
theorem at_out (i : Int) (hi : i < 0 ∨ (n : Int) ≤ i) (hw : (Lit.int .i64 i).wf = true) (w : World) (h : Is w p b n ws) : Calls Tryd.prog 66 #[.pointer (some ⟨p, 0, none⟩), .int .i64 i] w fun e w' => (∃ k m, e = .returned (.tuple #[.int .i64 k, .int .u64 m, .bool false])) ∧ w = w' := by
  have hs := size_c w h
  have hb := bounds_i64 hw
  have Hs := Lib.hid hs
  clear h hs hw
  by_cases h0 : i < 0
  · obtain ⟨s, hs, hs64⟩ : ∃ s : Nat, (IntKind.u64.wrap i).tmod 64 = (s : Int) ∧ s < 64 := by
      rw [IntKind.wrap_u64, tmod_of_emod]
      exact ⟨(i % 18446744073709551616 % 64).toNat, by omega, by omega⟩
    clear hi
    go_enter Tryd.func66, Tryd.ntmps66
    go_wp2
    go_ret3
    exact ⟨⟨_, _, rfl⟩, rfl⟩
  · have hd : decide (i < (n : Int)) = false := by simp; omega
    obtain ⟨j, rfl⟩ : ∃ j : Nat, i = (j : Int) := ⟨i.toNat, by omega⟩
    have hd2 : decide (j < n) = false := by simp; omega
    clear hi h0
    go_enter Tryd.func66, Tryd.ntmps66
    go_wp2_with fail
    refine Hs.out.mono ?_
    rintro e w1 ⟨rfl, rfl⟩
    go_wp2
    go_ret3
    exact ⟨⟨_, _, rfl⟩, rfl⟩
set_option maxRecDepth 100000 in
theorem put_out (i : Int) (hi : i < 0 ∨ (n : Int) ≤ i) (hw : (Lit.int .i64 i).wf = true) (w : World) (h : Is w p b n ws) : Calls Tryd.prog 47 #[.pointer (some ⟨p, 0, none⟩), .int .i64 i] w fun e w' => e = .returned (.bool false) ∧ w = w' := by
  have HA := Lib.hid (at_out i hi hw w h)
  clear h hi hw
  go_enter Tryd.func47, Tryd.ntmps47
  go_wp2_with fail
  refine HA.out.mono ?_
  rintro e w1 ⟨⟨k, m, rfl⟩, rfl⟩
  go_wp2
  go_ret
  exact ⟨rfl, rfl⟩
set_option maxHeartbeats 1000000 in
set_option maxRecDepth 100000 in
theorem put_c (i : Nat) (hi : i < n) (w : World) (h : Is w p b n ws) : Calls Tryd.prog 47 #[.pointer (some ⟨p, 0, none⟩), .int .i64 (i : Int)] w fun e w' => e = .returned (.bool (!has ws i)) ∧ Is w' p b n (put ws i) ∧ Mod [b] w w' := by
  obtain ⟨k, hk⟩ : ∃ k, i / 64 = k := ⟨_, rfl⟩
  obtain ⟨m, hm⟩ : ∃ m, 2 ^ (i % 64) = m := ⟨_, rfl⟩
  have hkl : k < ws.length := by have := h.fit.1; omega
  obtain ⟨cap, h1⟩ := h.hp
  have c1 := cell_block h1 0
  simp at c1
  have cw := h.word k hkl
  obtain ⟨rest, hbk⟩ := h.hb
  have fw := frozen_block hbk k
  have hx := h.lt _ (List.getElem_mem hkl)
  have hm64 : m < 18446744073709551616 := by
    have : (2 : Nat) ^ (i % 64) < 2 ^ 64 := Nat.pow_lt_pow_right (by decide) (by omega)
    omega
  have hgd : ws.getD k 0 = ws[k] := by rw [List.getD_eq_getElem?_getD, List.getElem?_eq_getElem hkl]; rfl
  have hand := bits_and_u64_nat ws[k] m hx hm64
  have hor := bits_or_u64_nat ws[k] m hx hm64
  have hp2 : put ws i = ws.set k (ws[k] ||| m) := by unfold put; rw [hk, hm, hgd]
  have hhas : has ws i = ws[k].testBit (i % 64) := by unfold has; rw [hk, hgd]
  have hap := and_pow (a := ws[k]) hm
  rw [← hhas] at hap
  rw [hap] at hand
  have hat := at_c i k m hk hm hi w h
  have hlen : ws.length ≤ 1024 := h.fit.2.1
  have HA := Lib.hid hat
  cases hh : has ws i with
  | true =>
    rw [hh, if_pos rfl] at hand
    have hpw := put_has hh (by rw [hk]; exact hkl)
    have hm0 : ((m : Int) == 0) = false := by
      have : 0 < (2 : Nat) ^ (i % 64) := Nat.pow_pos (by decide)
      simp
      omega
    rw [hpw]
    have HI := Lib.hid h
    clear h h1 hat hp2 hhas hap hh hpw hor hgd hx hm hk hi hbk
    generalize ws[k] = x at *
    generalize ws.length = L at *
    go_enter Tryd.func47, Tryd.ntmps47
    go_wp2_with fail
    refine HA.out.mono ?_
    rintro e w1 ⟨rfl, rfl⟩
    go_wp2
    go_ret
    exact ⟨rfl, HI.out, Mod.refl _ _⟩
  | false =>
    rw [hh, if_neg (by decide)] at hand
    have hput : Is (w.setCell ⟨b, k, none⟩ (.int .u64 ((ws[k] ||| m : Nat) : Int))) p b n (put ws i) := by
      refine ⟨⟨cap, ?_⟩, ?_, h.ne, put_lt h.lt i, ⟨by rw [put_len]; exact h.fit.1, by rw [put_len]; exact h.fit.2.1, by rw [put_len]; exact h.fit.2.2⟩, fun q hq => ?_⟩
      · rw [put_len, block_setOther (fun e => h.ne e.symm)]
        exact h1
      · refine ⟨rest, ?_⟩
        rw [block_setCell hbk, hp2]
        congr 2
        apply Array.toList_inj.1
        simp [vals, List.map_set, hkl]
      · rw [has_put (by rw [hk]; exact hkl), h.clear q hq]
        simp
        omega
    have hM : Mod [b] w (w.setCell ⟨b, k, none⟩ (.int .u64 ((ws[k] ||| m : Nat) : Int))) := (Mod.refl [b] w).setCell (.inl (by simp)) _
    have HI := Lib.hid hput
    have HM := Lib.hid hM
    clear h h1 hat hp2 hhas hap hh hgd hx hm hk hi hput hM hbk
    generalize (ws[k] ||| m) = z at *
    generalize ws[k] = x at *
    generalize ws.length = L at *
    go_enter Tryd.func47, Tryd.ntmps47
    go_wp2_with fail
    refine HA.out.mono ?_
    rintro e w1 ⟨rfl, rfl⟩
    go_wp2
    go_ret
    exact ⟨rfl, HI.out, HM.out⟩
end Mk
end Go.Proofs.YtpjimmdpcpcmoaaDoor
