/- Package comb: Same. dofferref23: Same. Printed by gen_cbsame.py. -/
import Derived.Test.YteekonojmpihlaaDoorQCbAt2
namespace Go.Proofs.YteekonojmpihlaaDoor
namespace Kt
end Kt
open Go Go.RowKit Kt
namespace Cb
/-- Two combs say the same. -/
def sameC (a b : Cs) : Bool := decide (a.wide = b.wide) && (decide (a.base = b.base) && (decide (a.dflt = b.dflt) && (decide (a.next = b.next) && decide (a.check = b.check))))
theorem smi (a b : Option Addr) (ca cb n k : Nat) (l m : List Int) (w : World) (hn : l.length = n) (hk : m.length = k) (hl : n ≤ 4611686018427387904) (_hm : k ≤ 4611686018427387904) (ha : Rd w a (i64s l)) (hb : Rd w b (i64s m)) :
    Calls Tryd.prog 40 #[.slice a n ca, .slice b k cb] w fun e w' => e = .returned (.bool (decide (l = m))) ∧ Below w.heap.size w w' :=
  (Sm.same_c a b ca cb n k l m w hn hk (by omega) ha hb).mono fun e w' h => by
    obtain ⟨h1, n, rfl⟩ := h
    exact ⟨h1, below_drewN (Below.refl _ _) n⟩
set_option maxRecDepth 100000 in
set_option maxHeartbeats 4000000 in
theorem rsame_c (c d : Cs) (w : World) (hc : Is w c) (hd : Is w d) (hl : c.base.length ≤ 4611686018427387904 ∧ c.dflt.length ≤ 4611686018427387904 ∧ c.next.length ≤ 4611686018427387904 ∧ c.check.length ≤ 4611686018427387904) (hm : d.base.length ≤ 4611686018427387904 ∧ d.dflt.length ≤ 4611686018427387904 ∧ d.next.length ≤ 4611686018427387904 ∧ d.check.length ≤ 4611686018427387904) :
    Calls Tryd.prog 43 #[cv c, cv d] w fun e w' => e = .returned (.bool (sameC c d)) ∧ Below w.heap.size w w' := by
  have hcv : cv c = .agg #[.int .i64 c.wide, .slice c.a1 c.base.length c.c1, .slice c.a2 c.dflt.length c.c2, .slice c.a3 c.next.length c.c3, .slice c.a4 c.check.length c.c4] := rfl
  have hdv : cv d = .agg #[.int .i64 d.wide, .slice d.a1 d.base.length d.c1, .slice d.a2 d.dflt.length d.c2, .slice d.a3 d.next.length d.c3, .slice d.a4 d.check.length d.c4] := rfl
  rw [hcv, hdv]
  obtain ⟨R, hR⟩ : ∃ R, sameC c d = R := ⟨_, rfl⟩
  rw [hR]
  unfold sameC at hR
  obtain ⟨c1, hc1⟩ : ∃ n, c.base.length = n := ⟨_, rfl⟩
  obtain ⟨c2, hc2⟩ : ∃ n, c.dflt.length = n := ⟨_, rfl⟩
  obtain ⟨c3, hc3⟩ : ∃ n, c.next.length = n := ⟨_, rfl⟩
  obtain ⟨c4, hc4⟩ : ∃ n, c.check.length = n := ⟨_, rfl⟩
  obtain ⟨d1, hd1⟩ : ∃ n, d.base.length = n := ⟨_, rfl⟩
  obtain ⟨d2, hd2⟩ : ∃ n, d.dflt.length = n := ⟨_, rfl⟩
  obtain ⟨d3, hd3⟩ : ∃ n, d.next.length = n := ⟨_, rfl⟩
  obtain ⟨d4, hd4⟩ : ∃ n, d.check.length = n := ⟨_, rfl⟩
  obtain ⟨wc, hwc⟩ : ∃ n, c.wide = n := ⟨_, rfl⟩
  obtain ⟨wd, hwd⟩ : ∃ n, d.wide = n := ⟨_, rfl⟩
  rw [hwc, hwd] at hR
  rw [hc1, hc2, hc3, hc4, hd1, hd2, hd3, hd4, hwc, hwd]
  rw [hc1, hc2, hc3, hc4] at hl
  rw [hd1, hd2, hd3, hd4] at hm
  obtain ⟨W1, hW1⟩ : ∃ W, w.alloc (.cells #[.int .i64 wc, .slice c.a1 c1 c.c1, .slice c.a2 c2 c.c2, .slice c.a3 c3 c.c3, .slice c.a4 c4 c.c4] 82 (0, 0)) = W := ⟨_, rfl⟩
  have s1 : W1.heap[w.heap.size]? = some (.cells #[.int .i64 wc, .slice c.a1 c1 c.c1, .slice c.a2 c2 c.c2, .slice c.a3 c3 c.c3, .slice c.a4 c4 c.c4] 82 (0, 0)) := by rw [← hW1]; exact heap_alloc_new _ _
  obtain ⟨W2, hW2⟩ : ∃ W, W1.alloc (.cells #[.int .i64 wd, .slice d.a1 d1 d.c1, .slice d.a2 d2 d.c2, .slice d.a3 d3 d.c3, .slice d.a4 d4 d.c4] 82 (0, 0)) = W := ⟨_, rfl⟩
  have s2 : W2.heap[W1.heap.size]? = some (.cells #[.int .i64 wd, .slice d.a1 d1 d.c1, .slice d.a2 d2 d.c2, .slice d.a3 d3 d.c3, .slice d.a4 d4 d.c4] 82 (0, 0)) := by rw [← hW2]; exact heap_alloc_new _ _
  have b1 : Below w.heap.size w W1 := by rw [← hW1]; exact (Below.refl _ _).alloc (Nat.le_refl _) _
  have b12 : Below W1.heap.size W1 W2 := by rw [← hW2]; exact (Below.refl _ _).alloc (Nat.le_refl _) _
  have hsz1 : W1.heap.size = w.heap.size + 1 := by rw [← hW1]; exact World.size_alloc _ _
  have b2 : Below w.heap.size w W2 := b1.trans (b12.mono b1.size)
  have s1' := (b12.block _ (block_lt s1)).trans s1
  rw [hsz1] at s2
  have hI2 := hc.below b2
  have hJ2 := hd.below b2
  have HS1 := Lib.hid s1'
  have HS2 := Lib.hid s2
  have HW1 := Lib.hid hW1
  have HW2 := Lib.hid hW2
  have HB2 := Lib.hid b2
  have HI := Lib.hid hI2
  have HJ := Lib.hid hJ2
  obtain ⟨x0, x1, x2, x3, x4⟩ := box5 s1'
  obtain ⟨y0, y1, y2, y3, y4⟩ := box5 s2
  have HE1 := Lib.hid (fun (W : World) (hb : Below W2.heap.size W2 W) => smi c.a1 d.a1 c.c1 d.c1 c1 d1 c.base d.base W hc1 hd1 hl.1 hm.1 (HI.out.below hb).r1 (HJ.out.below hb).r1)
  have HE2 := Lib.hid (fun (W : World) (hb : Below W2.heap.size W2 W) => smi c.a2 d.a2 c.c2 d.c2 c2 d2 c.dflt d.dflt W hc2 hd2 hl.2.1 hm.2.1 (HI.out.below hb).r2 (HJ.out.below hb).r2)
  have HE3 := Lib.hid (fun (W : World) (hb : Below W2.heap.size W2 W) => smi c.a3 d.a3 c.c3 d.c3 c3 d3 c.next d.next W hc3 hd3 hl.2.2.1 hm.2.2.1 (HI.out.below hb).r3 (HJ.out.below hb).r3)
  have HE4 := Lib.hid (fun (W : World) (hb : Below W2.heap.size W2 W) => smi c.a4 d.a4 c.c4 d.c4 c4 d4 c.check d.check W hc4 hd4 hl.2.2.2 hm.2.2.2 (HI.out.below hb).r4 (HJ.out.below hb).r4)
  clear s1 s2 s1' hW1 hW2 b1 b12 b2 hI2 hJ2 hc hd hcv hdv hc1 hc2 hc3 hc4 hd1 hd2 hd3 hd4 hl hm hsz1 hwc hwd
  by_cases e0 : wc = wd
  rotate_left 1
  · obtain rfl : R = false := by rw [← hR, decide_eq_false e0]; rfl
    have f0 : (wc == wd) = false := by simpa using e0
    have f0d : decide (wc = wd) = false := by simpa using e0
    clear hR
    go_enter Tryd.func43, Tryd.ntmps43
    go_upto_region 1 with (fail)
    rw [HW1.out, HW2.out]
    go_wp2
    go_ret
    exact ⟨rfl, HB2.out⟩
  by_cases e1 : c.base = d.base
  rotate_left 1
  · obtain rfl : R = false := by rw [← hR, decide_eq_true e0, decide_eq_false e1]; rfl
    have g1 := HE1.out
    rw [decide_eq_false e1] at g1
    replace HE1 := Lib.hid g1
    clear g1
    clear hR e1
    subst e0
    go_enter Tryd.func43, Tryd.ntmps43
    go_upto_region 1 with (fail)
    rw [HW1.out, HW2.out]
    go_wp2_with (first
      | (go_at_call 40; (with_reducible refine (HE1.out _ (Below.refl _ _)).mono ?_); rintro _ w5 ⟨rfl, k1⟩; (have p1 := (Below.refl W2.heap.size W2).trans (k1.mono (Below.refl W2.heap.size W2).size)); (have x2 := (k1.cell (p := ⟨w.heap.size, 2, none⟩) (Nat.lt_of_lt_of_le (block_lt HS1.out) (Nat.le_refl _))).trans x2); (have y2 := (k1.cell (p := ⟨w.heap.size + 1, 2, none⟩) (Nat.lt_of_lt_of_le (block_lt HS2.out) (Nat.le_refl _))).trans y2); (have x3 := (k1.cell (p := ⟨w.heap.size, 3, none⟩) (Nat.lt_of_lt_of_le (block_lt HS1.out) (Nat.le_refl _))).trans x3); (have y3 := (k1.cell (p := ⟨w.heap.size + 1, 3, none⟩) (Nat.lt_of_lt_of_le (block_lt HS2.out) (Nat.le_refl _))).trans y3); (have x4 := (k1.cell (p := ⟨w.heap.size, 4, none⟩) (Nat.lt_of_lt_of_le (block_lt HS1.out) (Nat.le_refl _))).trans x4); (have y4 := (k1.cell (p := ⟨w.heap.size + 1, 4, none⟩) (Nat.lt_of_lt_of_le (block_lt HS2.out) (Nat.le_refl _))).trans y4)))
    go_ret
    exact ⟨rfl, HB2.out.trans (p1.mono HB2.out.size)⟩
  by_cases e2 : c.dflt = d.dflt
  rotate_left 1
  · obtain rfl : R = false := by rw [← hR, decide_eq_true e0, decide_eq_true e1, decide_eq_false e2]; rfl
    have g1 := HE1.out
    rw [decide_eq_true e1] at g1
    replace HE1 := Lib.hid g1
    have g2 := HE2.out
    rw [decide_eq_false e2] at g2
    replace HE2 := Lib.hid g2
    clear g1 g2
    clear hR e1 e2
    subst e0
    go_enter Tryd.func43, Tryd.ntmps43
    go_upto_region 1 with (fail)
    rw [HW1.out, HW2.out]
    go_wp2_with (first
      | (go_at_call 40; (with_reducible refine (HE1.out _ (Below.refl _ _)).mono ?_); rintro _ w5 ⟨rfl, k1⟩; (have p1 := (Below.refl W2.heap.size W2).trans (k1.mono (Below.refl W2.heap.size W2).size)); (have x2 := (k1.cell (p := ⟨w.heap.size, 2, none⟩) (Nat.lt_of_lt_of_le (block_lt HS1.out) (Nat.le_refl _))).trans x2); (have y2 := (k1.cell (p := ⟨w.heap.size + 1, 2, none⟩) (Nat.lt_of_lt_of_le (block_lt HS2.out) (Nat.le_refl _))).trans y2); (have x3 := (k1.cell (p := ⟨w.heap.size, 3, none⟩) (Nat.lt_of_lt_of_le (block_lt HS1.out) (Nat.le_refl _))).trans x3); (have y3 := (k1.cell (p := ⟨w.heap.size + 1, 3, none⟩) (Nat.lt_of_lt_of_le (block_lt HS2.out) (Nat.le_refl _))).trans y3); (have x4 := (k1.cell (p := ⟨w.heap.size, 4, none⟩) (Nat.lt_of_lt_of_le (block_lt HS1.out) (Nat.le_refl _))).trans x4); (have y4 := (k1.cell (p := ⟨w.heap.size + 1, 4, none⟩) (Nat.lt_of_lt_of_le (block_lt HS2.out) (Nat.le_refl _))).trans y4))
      | (go_at_call 40; (with_reducible refine (HE2.out _ p1).mono ?_); rintro _ w6 ⟨rfl, k2⟩; (have p2 := p1.trans (k2.mono p1.size)); (have x3 := (k2.cell (p := ⟨w.heap.size, 3, none⟩) (Nat.lt_of_lt_of_le (block_lt HS1.out) p1.size)).trans x3); (have y3 := (k2.cell (p := ⟨w.heap.size + 1, 3, none⟩) (Nat.lt_of_lt_of_le (block_lt HS2.out) p1.size)).trans y3); (have x4 := (k2.cell (p := ⟨w.heap.size, 4, none⟩) (Nat.lt_of_lt_of_le (block_lt HS1.out) p1.size)).trans x4); (have y4 := (k2.cell (p := ⟨w.heap.size + 1, 4, none⟩) (Nat.lt_of_lt_of_le (block_lt HS2.out) p1.size)).trans y4)))
    go_ret
    exact ⟨rfl, HB2.out.trans (p2.mono HB2.out.size)⟩
  by_cases e3 : c.next = d.next
  rotate_left 1
  · obtain rfl : R = false := by rw [← hR, decide_eq_true e0, decide_eq_true e1, decide_eq_true e2, decide_eq_false e3]; rfl
    have g1 := HE1.out
    rw [decide_eq_true e1] at g1
    replace HE1 := Lib.hid g1
    have g2 := HE2.out
    rw [decide_eq_true e2] at g2
    replace HE2 := Lib.hid g2
    have g3 := HE3.out
    rw [decide_eq_false e3] at g3
    replace HE3 := Lib.hid g3
    clear g1 g2 g3
    clear hR e1 e2 e3
    subst e0
    go_enter Tryd.func43, Tryd.ntmps43
    go_upto_region 1 with (fail)
    rw [HW1.out, HW2.out]
    go_wp2_with (first
      | (go_at_call 40; (with_reducible refine (HE1.out _ (Below.refl _ _)).mono ?_); rintro _ w5 ⟨rfl, k1⟩; (have p1 := (Below.refl W2.heap.size W2).trans (k1.mono (Below.refl W2.heap.size W2).size)); (have x2 := (k1.cell (p := ⟨w.heap.size, 2, none⟩) (Nat.lt_of_lt_of_le (block_lt HS1.out) (Nat.le_refl _))).trans x2); (have y2 := (k1.cell (p := ⟨w.heap.size + 1, 2, none⟩) (Nat.lt_of_lt_of_le (block_lt HS2.out) (Nat.le_refl _))).trans y2); (have x3 := (k1.cell (p := ⟨w.heap.size, 3, none⟩) (Nat.lt_of_lt_of_le (block_lt HS1.out) (Nat.le_refl _))).trans x3); (have y3 := (k1.cell (p := ⟨w.heap.size + 1, 3, none⟩) (Nat.lt_of_lt_of_le (block_lt HS2.out) (Nat.le_refl _))).trans y3); (have x4 := (k1.cell (p := ⟨w.heap.size, 4, none⟩) (Nat.lt_of_lt_of_le (block_lt HS1.out) (Nat.le_refl _))).trans x4); (have y4 := (k1.cell (p := ⟨w.heap.size + 1, 4, none⟩) (Nat.lt_of_lt_of_le (block_lt HS2.out) (Nat.le_refl _))).trans y4))
      | (go_at_call 40; (with_reducible refine (HE2.out _ p1).mono ?_); rintro _ w6 ⟨rfl, k2⟩; (have p2 := p1.trans (k2.mono p1.size)); (have x3 := (k2.cell (p := ⟨w.heap.size, 3, none⟩) (Nat.lt_of_lt_of_le (block_lt HS1.out) p1.size)).trans x3); (have y3 := (k2.cell (p := ⟨w.heap.size + 1, 3, none⟩) (Nat.lt_of_lt_of_le (block_lt HS2.out) p1.size)).trans y3); (have x4 := (k2.cell (p := ⟨w.heap.size, 4, none⟩) (Nat.lt_of_lt_of_le (block_lt HS1.out) p1.size)).trans x4); (have y4 := (k2.cell (p := ⟨w.heap.size + 1, 4, none⟩) (Nat.lt_of_lt_of_le (block_lt HS2.out) p1.size)).trans y4))
      | (go_at_call 40; (with_reducible refine (HE3.out _ p2).mono ?_); rintro _ w7 ⟨rfl, k3⟩; (have p3 := p2.trans (k3.mono p2.size)); (have x4 := (k3.cell (p := ⟨w.heap.size, 4, none⟩) (Nat.lt_of_lt_of_le (block_lt HS1.out) p2.size)).trans x4); (have y4 := (k3.cell (p := ⟨w.heap.size + 1, 4, none⟩) (Nat.lt_of_lt_of_le (block_lt HS2.out) p2.size)).trans y4)))
    go_ret
    exact ⟨rfl, HB2.out.trans (p3.mono HB2.out.size)⟩
  by_cases e4 : c.check = d.check
  rotate_left 1
  · obtain rfl : R = false := by rw [← hR, decide_eq_true e0, decide_eq_true e1, decide_eq_true e2, decide_eq_true e3, decide_eq_false e4]; rfl
    have g1 := HE1.out
    rw [decide_eq_true e1] at g1
    replace HE1 := Lib.hid g1
    have g2 := HE2.out
    rw [decide_eq_true e2] at g2
    replace HE2 := Lib.hid g2
    have g3 := HE3.out
    rw [decide_eq_true e3] at g3
    replace HE3 := Lib.hid g3
    have g4 := HE4.out
    rw [decide_eq_false e4] at g4
    replace HE4 := Lib.hid g4
    clear g1 g2 g3 g4
    clear hR e1 e2 e3 e4
    subst e0
    go_enter Tryd.func43, Tryd.ntmps43
    go_upto_region 1 with (fail)
    rw [HW1.out, HW2.out]
    go_wp2_with (first
      | (go_at_call 40; (with_reducible refine (HE1.out _ (Below.refl _ _)).mono ?_); rintro _ w5 ⟨rfl, k1⟩; (have p1 := (Below.refl W2.heap.size W2).trans (k1.mono (Below.refl W2.heap.size W2).size)); (have x2 := (k1.cell (p := ⟨w.heap.size, 2, none⟩) (Nat.lt_of_lt_of_le (block_lt HS1.out) (Nat.le_refl _))).trans x2); (have y2 := (k1.cell (p := ⟨w.heap.size + 1, 2, none⟩) (Nat.lt_of_lt_of_le (block_lt HS2.out) (Nat.le_refl _))).trans y2); (have x3 := (k1.cell (p := ⟨w.heap.size, 3, none⟩) (Nat.lt_of_lt_of_le (block_lt HS1.out) (Nat.le_refl _))).trans x3); (have y3 := (k1.cell (p := ⟨w.heap.size + 1, 3, none⟩) (Nat.lt_of_lt_of_le (block_lt HS2.out) (Nat.le_refl _))).trans y3); (have x4 := (k1.cell (p := ⟨w.heap.size, 4, none⟩) (Nat.lt_of_lt_of_le (block_lt HS1.out) (Nat.le_refl _))).trans x4); (have y4 := (k1.cell (p := ⟨w.heap.size + 1, 4, none⟩) (Nat.lt_of_lt_of_le (block_lt HS2.out) (Nat.le_refl _))).trans y4))
      | (go_at_call 40; (with_reducible refine (HE2.out _ p1).mono ?_); rintro _ w6 ⟨rfl, k2⟩; (have p2 := p1.trans (k2.mono p1.size)); (have x3 := (k2.cell (p := ⟨w.heap.size, 3, none⟩) (Nat.lt_of_lt_of_le (block_lt HS1.out) p1.size)).trans x3); (have y3 := (k2.cell (p := ⟨w.heap.size + 1, 3, none⟩) (Nat.lt_of_lt_of_le (block_lt HS2.out) p1.size)).trans y3); (have x4 := (k2.cell (p := ⟨w.heap.size, 4, none⟩) (Nat.lt_of_lt_of_le (block_lt HS1.out) p1.size)).trans x4); (have y4 := (k2.cell (p := ⟨w.heap.size + 1, 4, none⟩) (Nat.lt_of_lt_of_le (block_lt HS2.out) p1.size)).trans y4))
      | (go_at_call 40; (with_reducible refine (HE3.out _ p2).mono ?_); rintro _ w7 ⟨rfl, k3⟩; (have p3 := p2.trans (k3.mono p2.size)); (have x4 := (k3.cell (p := ⟨w.heap.size, 4, none⟩) (Nat.lt_of_lt_of_le (block_lt HS1.out) p2.size)).trans x4); (have y4 := (k3.cell (p := ⟨w.heap.size + 1, 4, none⟩) (Nat.lt_of_lt_of_le (block_lt HS2.out) p2.size)).trans y4))
      | (go_at_call 40; (with_reducible refine (HE4.out _ p3).mono ?_); rintro _ w8 ⟨rfl, k4⟩; (have p4 := p3.trans (k4.mono p3.size))))
    go_ret
    exact ⟨rfl, HB2.out.trans (p4.mono HB2.out.size)⟩
  obtain rfl : R = true := by rw [← hR, decide_eq_true e0, decide_eq_true e1, decide_eq_true e2, decide_eq_true e3, decide_eq_true e4]; rfl
  have g1 := HE1.out
  rw [decide_eq_true e1] at g1
  replace HE1 := Lib.hid g1
  have g2 := HE2.out
  rw [decide_eq_true e2] at g2
  replace HE2 := Lib.hid g2
  have g3 := HE3.out
  rw [decide_eq_true e3] at g3
  replace HE3 := Lib.hid g3
  have g4 := HE4.out
  rw [decide_eq_true e4] at g4
  replace HE4 := Lib.hid g4
  clear g1 g2 g3 g4 hR e1 e2 e3 e4
  subst e0
  go_enter Tryd.func43, Tryd.ntmps43
  go_upto_region 1 with (fail)
  rw [HW1.out, HW2.out]
  go_wp2_with (first
    | (go_at_call 40; (with_reducible refine (HE1.out _ (Below.refl _ _)).mono ?_); rintro _ w5 ⟨rfl, k1⟩; (have p1 := (Below.refl W2.heap.size W2).trans (k1.mono (Below.refl W2.heap.size W2).size)); (have x2 := (k1.cell (p := ⟨w.heap.size, 2, none⟩) (Nat.lt_of_lt_of_le (block_lt HS1.out) (Nat.le_refl _))).trans x2); (have y2 := (k1.cell (p := ⟨w.heap.size + 1, 2, none⟩) (Nat.lt_of_lt_of_le (block_lt HS2.out) (Nat.le_refl _))).trans y2); (have x3 := (k1.cell (p := ⟨w.heap.size, 3, none⟩) (Nat.lt_of_lt_of_le (block_lt HS1.out) (Nat.le_refl _))).trans x3); (have y3 := (k1.cell (p := ⟨w.heap.size + 1, 3, none⟩) (Nat.lt_of_lt_of_le (block_lt HS2.out) (Nat.le_refl _))).trans y3); (have x4 := (k1.cell (p := ⟨w.heap.size, 4, none⟩) (Nat.lt_of_lt_of_le (block_lt HS1.out) (Nat.le_refl _))).trans x4); (have y4 := (k1.cell (p := ⟨w.heap.size + 1, 4, none⟩) (Nat.lt_of_lt_of_le (block_lt HS2.out) (Nat.le_refl _))).trans y4))
    | (go_at_call 40; (with_reducible refine (HE2.out _ p1).mono ?_); rintro _ w6 ⟨rfl, k2⟩; (have p2 := p1.trans (k2.mono p1.size)); (have x3 := (k2.cell (p := ⟨w.heap.size, 3, none⟩) (Nat.lt_of_lt_of_le (block_lt HS1.out) p1.size)).trans x3); (have y3 := (k2.cell (p := ⟨w.heap.size + 1, 3, none⟩) (Nat.lt_of_lt_of_le (block_lt HS2.out) p1.size)).trans y3); (have x4 := (k2.cell (p := ⟨w.heap.size, 4, none⟩) (Nat.lt_of_lt_of_le (block_lt HS1.out) p1.size)).trans x4); (have y4 := (k2.cell (p := ⟨w.heap.size + 1, 4, none⟩) (Nat.lt_of_lt_of_le (block_lt HS2.out) p1.size)).trans y4))
    | (go_at_call 40; (with_reducible refine (HE3.out _ p2).mono ?_); rintro _ w7 ⟨rfl, k3⟩; (have p3 := p2.trans (k3.mono p2.size)); (have x4 := (k3.cell (p := ⟨w.heap.size, 4, none⟩) (Nat.lt_of_lt_of_le (block_lt HS1.out) p2.size)).trans x4); (have y4 := (k3.cell (p := ⟨w.heap.size + 1, 4, none⟩) (Nat.lt_of_lt_of_le (block_lt HS2.out) p2.size)).trans y4))
    | (go_at_call 40; (with_reducible refine (HE4.out _ p3).mono ?_); rintro _ w8 ⟨rfl, k4⟩; (have p4 := p3.trans (k4.mono p3.size))))
  go_ret
  exact ⟨rfl, HB2.out.trans (p4.mono HB2.out.size)⟩
end Cb
end Go.Proofs.YteekonojmpihlaaDoor
