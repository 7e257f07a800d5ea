/- dofferlaw12: ActionsText. Condition: the sentinels read as laid. -/
import Derived.Test.YtmfcabidmacdcaaDoorActLaw0
import Derived.Deep.RegionHeld3
namespace Go.Proofs.YtmfcabidmacdcaaDoor
open Go Go.RowKit Kt Sp
namespace Ac
variable {w W W' : World} {A : Nat → Addr}
set_option maxHeartbeats 4000000 in
set_option maxRecDepth 100000 in
theorem texts_c (e b : List UInt8) (w : World) (hs : Sent 254 w A Er.egs) : Calls Tryd.prog 7 #[.agg #[.string (Str e), .string (Str b)]] w fun r w' => r = .returned (.bool true) ∧ Below w.heap.size w w' := by
  have hz1 := Str_size e
  have hz2 := Str_size b
  have b1 := (Below.refl w.heap.size w).alloc (Nat.le_refl _) (.cells #[.string (Str e), .string (Str b)] 48)
  have s1 := heap_alloc_new w (.cells #[.string (Str e), .string (Str b)] 48)
  obtain ⟨W1, hW1⟩ : ∃ W1, (w.alloc (.cells #[.string (Str e), .string (Str b)] 48)) = W1 := ⟨_, rfl⟩
  rw [hW1] at b1 s1
  have HW1 := Lib.hid hW1
  have HAl := Lib.hid (alive_c W1 ((hs.keep b1).sub (by decide)) (A := A))
  have HB1 := Lib.hid b1
  have H1 := Lib.hid s1
  have HS := Lib.hid hs
  have hcell : ∀ W', Below W1.heap.size W1 W' → W'.cell? ⟨w.heap.size, 0, none⟩ = some (.string (Str e)) ∧ W'.cell? ⟨w.heap.size, 1, none⟩ = some (.string (Str b)) := fun W' hb => by
    have h2 := (hb.block _ (block_lt s1)).trans s1
    exact ⟨cell_block h2 0, cell_block h2 1⟩
  have HC := Lib.hid hcell
  by_cases hl : e.length ≤ 100 ∧ b.length ≤ 100
  · obtain ⟨hl1, hl2⟩ := hl
    have d1 : (Str e).size ≤ 100 := by omega
    have d2 : (Str b).size ≤ 100 := by omega
    have ht := fun w (hs : Sent 254 w A acs) => text_any e b (by omega) (by omega) w hs
    have hr := fun w => right_c e b (by omega) (by omega) w
    have hq := fun w => rright_c e b (by omega) (by omega) w
    have hx := fun w => rtext_c e b (by omega) (by omega) w
    have hmay : (may e && may b) = true → act (words (join (txt e b))) = ((e, b), (join (txt e b)).length, 0) := fun h => by
      simp only [Bool.and_eq_true] at h
      rw [words_join (txt_ne e b) (txt_noblank h.1 h.2), act_txt h.1 h.2]
    have hjl := (join_len2 (e := e) (b := b) (by omega) (by omega)).2
    have hp := fun w (hs : Sent 254 w A acs) => parse_c (join (txt e b)) (by omega) w hs
    unfold teP at ht
    cases hm : (may e && may b) with
    | true =>
      rw [hm] at ht hr hq
      rw [hmay hm] at hp
      unfold paP at hp
      simp only [if_true] at ht hp
      have hzj := Str_size (join (txt e b))
      have ejj : ((Str (join (txt e b))).toList == (Str (join (txt e b))).toList) = true := by simp
      rw [← hzj] at hp
      generalize Str (join (txt e b)) = J at *
      generalize Str e = SE at *
      generalize Str b = SB at *
      have HT := Lib.hid ht
      have HR := Lib.hid hr
      have HQ := Lib.hid hq
      have HX := Lib.hid hx
      have HP := Lib.hid hp
      clear hW1 b1 s1 hs hcell ht hr hq hx hmay hjl hp hm hzj hz1 hz2 hl1 hl2
      go_enter Tryd.func7, Tryd.ntmps7
      go_wp2_with fail
      rw [HW1.out]
      refine HAl.out.mono ?_
      rintro r w2 ⟨rfl, hb2⟩
      obtain ⟨k0, k1⟩ := HC.out _ hb2
      have HB2 := Lib.hid hb2
      clear hb2
      have b3 := HB2.out.alloc HB2.out.size (.cells #[.string SE, .string SB] 55)
      have c3 := heap_alloc_new w2 (.cells #[.string SE, .string SB] 55)
      obtain ⟨k2, k3⟩ := HC.out _ b3
      have k4 := cell_block c3 0
      have k5 := cell_block c3 1
      have HB3 := Lib.hid b3
      have C3 := Lib.hid c3
      clear b3 c3
      go_wp2_with fail
      refine (HT.out _ ((HS.out.keep (HB1.out.trans (HB3.out.mono HB1.out.size))).sub (by decide))).mono ?_
      rintro r w4 ⟨rfl, hb4⟩
      have HT4 := Lib.hid (HB3.out.trans (hb4.mono HB3.out.size))
      have c4 := (hb4.block _ (block_lt C3.out)).trans C3.out
      have C4 := Lib.hid c4
      clear hb4 k0 k1 k2 k3 k4 k5 c4
      obtain ⟨k0, k1⟩ := HC.out _ HT4.out
      have hd4 : ∀ W', Below w4.heap.size w4 W' → (W'.cell? ⟨w.heap.size, 0, none⟩ = some (.string SE) ∧ W'.cell? ⟨w.heap.size, 1, none⟩ = some (.string SB)) ∧ W'.cell? ⟨w2.heap.size, 0, none⟩ = some (.string SE) ∧ W'.cell? ⟨w2.heap.size, 1, none⟩ = some (.string SB) := fun W' hb => by
        have h2 := (hb.block _ (block_lt C4.out)).trans C4.out
        exact ⟨HC.out _ (HT4.out.trans (hb.mono HT4.out.size)), cell_block h2 0, cell_block h2 1⟩
      have SK := Lib.hid hd4
      have y0 := (Below.refl w4.heap.size w4).drew
      clear hd4 k0 k1
      obtain ⟨⟨q0, q1⟩, q2, q3⟩ := SK.out _ (Below.refl _ _)
      go_wp2_with fail
      go_region_held3 (fun W => (W.cell? ⟨w.heap.size, 0, none⟩ = some (.string SE) ∧ W.cell? ⟨w.heap.size, 1, none⟩ = some (.string SB)) ∧ W.cell? ⟨w2.heap.size, 0, none⟩ = some (.string SE) ∧ W.cell? ⟨w2.heap.size, 1, none⟩ = some (.string SB))
        (first | exact SK.out _ y2 | exact SK.out _ y1 | exact SK.out _ y0)
        (first
          | (go_at_call 28; (with_reducible refine (HR.out _).mono ?_); rintro r w5 ⟨rfl, hb5⟩
             have y1 : Below w4.heap.size w4 w5 := y0.trans (hb5.mono y0.size))
          | (go_at_call 30; (with_reducible refine (HQ.out _).mono ?_); rintro r w6 ⟨rfl, hb6⟩
             have y2 : Below w4.heap.size w4 w6 := y1.trans (hb6.mono y1.size)))
      obtain ⟨⟨q0, q1⟩, q2, q3⟩ := SK.out _ y2
      have HB6 := Lib.hid y2
      clear hb5 hb6 y0 y1 y2
      go_wp2_with fail
      refine (HQ.out _).mono ?_
      rintro r w7 ⟨rfl, hb7⟩
      have y7 : Below w4.heap.size w4 w7 := HB6.out.trans (hb7.mono HB6.out.size)
      have HB7 := Lib.hid y7
      clear hb7 y7 q0 q1 q2 q3
      go_wp2_with fail
      have hB7 := HB1.out.trans ((HT4.out.trans (HB7.out.mono HT4.out.size)).mono HB1.out.size)
      have HB7' := Lib.hid hB7
      refine (HP.out _ ((HS.out.keep hB7).sub (by decide))).mono ?_
      rintro r w8 ⟨rfl, hb8⟩
      simp only [show eva A 0 = .nilIface from rfl]
      have y9 : Below w4.heap.size w4 (w8.alloc (.cells #[.string SE, .string SB] 48)) := (HB7.out.trans (hb8.mono HB7.out.size)).alloc (by have := HB7.out.size; have := hb8.size; omega) _
      have c9 := heap_alloc_new w8 (.cells #[.string SE, .string SB] 48)
      have HB9 := Lib.hid y9
      have C9 := Lib.hid c9
      obtain ⟨⟨q0, q1⟩, q2, q3⟩ := SK.out _ y9
      clear hb8 y9 c9 hB7
      go_wp2_with fail
      refine (HX.out _).mono ?_
      rintro r w10 ⟨rfl, hb10⟩
      have y10 := HB9.out.trans (hb10.mono HB9.out.size)
      have c10 := (hb10.block _ (block_lt C9.out)).trans C9.out
      have u0 := cell_block c10 0
      have u1 := cell_block c10 1
      have HB10 := Lib.hid y10
      clear q0 q1 q2 q3
      obtain ⟨⟨q0, q1⟩, q2, q3⟩ := SK.out _ y10
      clear hb10 y10 c10
      go_wp2
      go_ret
      exact ⟨by first | rfl | simp, HB1.out.trans ((HT4.out.trans (HB10.out.mono HT4.out.size)).mono HB1.out.size)⟩
    | false =>
      rw [hm] at ht hr hq
      simp only [Bool.false_eq_true, if_false, show eva A 5 = .iface 254 (.pointer (some (A 4))) from rfl] at ht
      have hn := fun w hs => num_a A 5 (by simp) w hs
      simp only [show eva A 5 = .iface 254 (.pointer (some (A 4))) from rfl] at hn
      have ee : ((Str []).toList == []) = true := by rw [Str_list]; rfl
      have e5 : (Str []).toList = [] := by rw [Str_list]
      generalize Str [] = J at *
      generalize Str e = SE at *
      generalize Str b = SB at *
      have HT := Lib.hid ht
      have HR := Lib.hid hr
      have HQ := Lib.hid hq
      have HN := Lib.hid hn
      clear hW1 b1 s1 hs hcell ht hr hq hx hmay hjl hp hm hz1 hz2 hl1 hl2 hn
      go_enter Tryd.func7, Tryd.ntmps7
      go_wp2_with fail
      rw [HW1.out]
      refine HAl.out.mono ?_
      rintro r w2 ⟨rfl, hb2⟩
      obtain ⟨k0, k1⟩ := HC.out _ hb2
      have HB2 := Lib.hid hb2
      clear hb2
      have b3 := HB2.out.alloc HB2.out.size (.cells #[.string SE, .string SB] 55)
      have c3 := heap_alloc_new w2 (.cells #[.string SE, .string SB] 55)
      obtain ⟨k2, k3⟩ := HC.out _ b3
      have k4 := cell_block c3 0
      have k5 := cell_block c3 1
      have HB3 := Lib.hid b3
      have C3 := Lib.hid c3
      clear b3 c3
      go_wp2_with fail
      refine (HT.out _ ((HS.out.keep (HB1.out.trans (HB3.out.mono HB1.out.size))).sub (by decide))).mono ?_
      rintro r w4 ⟨rfl, hb4⟩
      have HT4 := Lib.hid (HB3.out.trans (hb4.mono HB3.out.size))
      have c4 := (hb4.block _ (block_lt C3.out)).trans C3.out
      have C4 := Lib.hid c4
      clear hb4 k0 k1 k2 k3 k4 k5 c4
      have hd4 : ∀ W', Below w4.heap.size w4 W' → (W'.cell? ⟨w.heap.size, 0, none⟩ = some (.string SE) ∧ W'.cell? ⟨w.heap.size, 1, none⟩ = some (.string SB)) ∧ W'.cell? ⟨w2.heap.size, 0, none⟩ = some (.string SE) ∧ W'.cell? ⟨w2.heap.size, 1, none⟩ = some (.string SB) := fun W' hb => by
        have h2 := (hb.block _ (block_lt C4.out)).trans C4.out
        exact ⟨HC.out _ (HT4.out.trans (hb.mono HT4.out.size)), cell_block h2 0, cell_block h2 1⟩
      have SK := Lib.hid hd4
      have y0 := (Below.refl w4.heap.size w4).drew
      clear hd4
      obtain ⟨⟨q0, q1⟩, q2, q3⟩ := SK.out _ (Below.refl _ _)
      go_wp2_with fail
      go_region_held3 (fun W => (W.cell? ⟨w.heap.size, 0, none⟩ = some (.string SE) ∧ W.cell? ⟨w.heap.size, 1, none⟩ = some (.string SB)) ∧ W.cell? ⟨w2.heap.size, 0, none⟩ = some (.string SE) ∧ W.cell? ⟨w2.heap.size, 1, none⟩ = some (.string SB))
        (first | exact SK.out _ y2 | exact SK.out _ y1 | exact SK.out _ y0)
        (first
          | (go_at_call 28; (with_reducible refine (HR.out _).mono ?_); rintro r w5 ⟨rfl, hb5⟩
             have y1 : Below w4.heap.size w4 w5 := y0.trans (hb5.mono y0.size))
          | (go_at_call 30; (with_reducible refine (HQ.out _).mono ?_); rintro r w6 ⟨rfl, hb6⟩
             have y2 : Below w4.heap.size w4 w6 := y1.trans (hb6.mono y1.size)))
      obtain ⟨⟨q0, q1⟩, q2, q3⟩ := SK.out _ y2
      have HB6 := Lib.hid y2
      clear hb5 hb6 y0 y1 y2
      go_wp2_with fail
      refine (HQ.out _).mono ?_
      rintro r w7 ⟨rfl, hb7⟩
      have y7 : Below w4.heap.size w4 w7 := HB6.out.trans (hb7.mono HB6.out.size)
      have HB7' := Lib.hid (HB1.out.trans ((HT4.out.trans (y7.mono HT4.out.size)).mono HB1.out.size))
      clear hb7 y7 q0 q1 q2 q3
      go_wp2_with (go_at_call 15; (with_reducible refine (HN.out _ (HS.out.keep HB7'.out)).mono ?_); rintro r w8 ⟨rfl, hb8⟩)
      go_ret
      exact ⟨by first | rfl | simp, HB7'.out.trans (hb8.mono HB7'.out.size)⟩
  · have hd : (decide (100 < ((Str e).size : Int)) || decide (100 < ((Str b).size : Int))) = true := by
      simp
      omega
    obtain ⟨k0, k1⟩ := hcell W1 (Below.refl _ _)
    generalize Str e = SE at *
    generalize Str b = SB at *
    clear hW1 b1 s1 hs hcell hz1 hz2 hl
    by_cases h1 : 100 < (SE.size : Int)
    · clear hd
      go_enter Tryd.func7, Tryd.ntmps7
      go_wp2_with fail
      rw [HW1.out]
      refine HAl.out.mono ?_
      rintro r w2 ⟨rfl, hb2⟩
      clear k0 k1
      obtain ⟨k0, k1⟩ := HC.out _ hb2
      go_wp2
      go_ret
      exact ⟨rfl, HB1.out.trans (hb2.mono HB1.out.size)⟩
    · have h2 : 100 < (SB.size : Int) := by
        simp [h1] at hd
        exact hd
      clear hd
      go_enter Tryd.func7, Tryd.ntmps7
      go_wp2_with fail
      rw [HW1.out]
      refine HAl.out.mono ?_
      rintro r w2 ⟨rfl, hb2⟩
      clear k0 k1
      obtain ⟨k0, k1⟩ := HC.out _ hb2
      go_wp2
      go_ret
      exact ⟨rfl, HB1.out.trans (hb2.mono HB1.out.size)⟩
end Ac
end Go.Proofs.YtmfcabidmacdcaaDoor
