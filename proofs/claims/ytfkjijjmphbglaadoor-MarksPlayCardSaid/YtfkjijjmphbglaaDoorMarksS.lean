/- dofferlaw02.same: marks beside their model. -/
import Derived.Test.YtfkjijjmphbglaaDoorMarks5
import Derived.Test.YtfkjijjmphbglaaDoorSame
import Derived.Test.YtfkjijjmphbglaaDoorMarksKeys
namespace Go.Proofs.YtfkjijjmphbglaaDoor
open Go Go.RowKit Kt
namespace Mk
variable {w w' : World} {p b z g : Nat} {bs : List Bool}
set_option maxHeartbeats 4000000 in
set_option maxRecDepth 100000 in
theorem samem_c (i : Int) (hw : (Lit.int .i64 i).wf = true) (w : World) (h : MI w p b bs) (r : RI w z g bs) (hT : Bt.Tab w) : Calls Tryd.prog 43 #[.pointer (some ⟨p, 0, none⟩), .pointer (some ⟨z, 0, none⟩), .int .i64 i] w fun e w' => e = .returned (.bool true) ∧ Below w.heap.size w w' := by
  obtain ⟨k, hk⟩ : ∃ k, (tru bs).length = k := ⟨_, rfl⟩
  have hkl : k ≤ 65536 := by rw [← hk]; exact Nat.le_trans (tru_len bs) r.len
  obtain ⟨cap, hz⟩ := r.hz
  have sk : ∀ W, Below w.heap.size w W → W.cell? ⟨z, 0, none⟩ = some (.slice (some ⟨g, 0, none⟩) bs.length cap) := by
    intro W hB
    have h2 : W.heap[z]? = _ := (hB.block z (block_lt hz)).trans hz
    exact cell_block h2 0
  have y0 : Below w.heap.size w w.drew := (Below.refl _ _).drew
  have c1 := Lib.hid (fun W (hB : Below w.heap.size w W) => list_m k hk W (h.below hB) (hT.below hB))
  have c2 := Lib.hid (fun W (hB : Below w.heap.size w W) => list_r k hk W (r.below hB))
  have c3 := Lib.hid (fun W (hB : Below w.heap.size w W) => len_m k hk W (h.below hB))
  have c4 := Lib.hid (fun W (hB : Below w.heap.size w W) => has_m i hw W (h.below hB))
  have c5 := Lib.hid (fun W (hB : Below w.heap.size w W) => has_r i W (r.below hB))
  have c6 := Lib.hid (fun W (hB : Below w.heap.size w W) => after_m i W (h.below hB) (hT.below hB))
  have c7 := Lib.hid (fun W (hB : Below w.heap.size w W) => after_r i W (r.below hB))
  have c8 := Lib.hid (fun W (hB : Below w.heap.size w W) => key_m W (h.below hB) (hT.below hB))
  have c9 := Lib.hid (fun W (hB : Below w.heap.size w W) => key_r W (r.below hB))
  have c10 := Lib.hid (fun W (hB : Below w.heap.size w W) => size_m W (h.below hB))
  have hil : (ints (tru bs)).length = k := by rw [ints_len, hk]
  have Hil := Lib.hid hil
  have SK := Lib.hid sk
  obtain ⟨L, hL⟩ : ∃ L, bs.length = L := ⟨_, rfl⟩
  rw [hL] at SK c10
  have hmx : L ≤ 65536 := by rw [← hL]; exact r.len
  clear h r hT hz sk hk hw hil hL
  generalize ints (tru bs) = xs at *
  generalize Str (keyOf (tru bs)) = s at *
  generalize hasB bs i = v at *
  generalize aft bs i = a at *
  go_enter Tryd.func43, Tryd.ntmps43
  go_wp2_with fail
  go_region_held3 (fun W => W.cell? ⟨z, 0, none⟩ = some (.slice (some ⟨g, 0, none⟩) L cap))
    (first | exact SK.out _ y6 | exact SK.out _ y5 | exact SK.out _ y4 | exact SK.out _ y3 | exact SK.out _ y2 | exact SK.out _ y1 | exact SK.out _ y0)
    (first
      | (go_at_call 94; (with_reducible refine (c1.out _ y0).mono ?_); rintro e w1 ⟨a1, k1, rfl, o1, b1⟩
         have r1 := Rd.own o1
         have y1 : Below w.heap.size w w1 := y0.trans (b1.mono y0.size))
      | (go_at_call 39; (with_reducible refine (c2.out _ y1).mono ?_); rintro e w2 ⟨a2, k2, rfl, o2, b2⟩
         have r2 := Rd.own o2
         have y2 : Below w.heap.size w w2 := y1.trans (b2.mono y1.size))
      | (go_at_call 25; (with_reducible refine (Sm.same_eq a1 a2 k1 k2 k k xs _ Hil.out Hil.out (by omega) (r1.keep b2) r2).mono ?_); rintro e w3 ⟨rfl, n3, h3⟩
         have y3 : Below w.heap.size w w3 := y2.trans ((below_drew h3).mono y2.size))
      | (go_at_call 95; (with_reducible refine (c3.out _ y3).mono ?_); rintro e w3' ⟨rfl, rfl⟩)
      | (go_at_call 39; (with_reducible refine (c2.out _ y3).mono ?_); rintro e w4 ⟨a4, k4, rfl, o4, b4⟩
         have y4 : Below w.heap.size w w4 := y3.trans (b4.mono y3.size))
      | (go_at_call 96; (with_reducible refine (c4.out _ y4).mono ?_); rintro e w4' ⟨rfl, rfl⟩)
      | (go_at_call 42; (with_reducible refine (c5.out _ y4).mono ?_); rintro e w4' ⟨rfl, rfl⟩)
      | (go_at_call 92; (with_reducible refine (c6.out _ y4).mono ?_); rintro e w4' ⟨rfl, rfl⟩)
      | (go_at_call 97; (with_reducible refine (c7.out _ y4).mono ?_); rintro e w4' ⟨rfl, rfl⟩)
      | (go_at_call 90; (with_reducible refine (c8.out _ y4).mono ?_); rintro e w5 ⟨rfl, b5⟩
         have y5 : Below w.heap.size w w5 := y4.trans (b5.mono y4.size))
      | (go_at_call 98; (with_reducible refine (c9.out _ y5).mono ?_); rintro e w6 ⟨rfl, b6⟩
         have y6 : Below w.heap.size w w6 := y5.trans (b6.mono y5.size))
      | (go_at_call 99; (with_reducible refine (c10.out _ y6).mono ?_); rintro e w6' ⟨rfl, rfl⟩))
  have Y := Lib.hid y6
  clear y0 y1 y2 y3 y4 y5 y6 r1 r2 o1 o2 o4 b1 b2 b4 b5 b6 h3
  go_wp2
  go_ret
  exact ⟨by first | rfl | simp, Y.out⟩
end Mk
end Go.Proofs.YtfkjijjmphbglaaDoor
