/- Package comb: At, Same. dofferref23: At, Same. -/
import Derived.Test.YteekonojmpihlaaDoorQCbRight
import Derived.Test.YteekonojmpihlaaDoorQEqI
import Derived.Test.YteekonojmpihlaaDoorQSame
namespace Go.Proofs.YteekonojmpihlaaDoor
namespace Kt
end Kt
open Go Go.RowKit Kt
namespace Cb
/-- What At answers. -/
def atF (c : Cs) (row place : Int) : Int := if outb row c.base.length || (outb place c.wide || !rightC c) then 0 else atC c row.toNat place.toNat
/-- What a right comb's numbers are. -/
structure Good (c : Cs) : Prop where
  many : 1 ≤ c.base.length ∧ c.base.length ≤ 200
  dflt : c.dflt.length = c.base.length
  wide : 1 ≤ c.wide ∧ c.wide ≤ 256
  next : c.next.length = c.check.length
  slots : c.check.length ≤ 65536
  bases : ∀ r, r < c.base.length → 0 ≤ c.base.getD r 0 ∧ c.base.getD r 0 < 65536
  dflts : ∀ r, r < c.base.length → 0 ≤ c.dflt.getD r 0 ∧ c.dflt.getD r 0 < c.base.length
theorem good_of {c : Cs} (h : rightC c = true) : Good c := by
  unfold rightC at h
  simp only [Bool.and_eq_true, decide_eq_true_eq] at h
  obtain ⟨⟨⟨⟨⟨⟨⟨h1, h2⟩, h3⟩, h4⟩, h5⟩, h6⟩, h7⟩, h8, h9, h10⟩ := h
  have hb := (all_range _ _).1 h8
  refine ⟨⟨h1, h2⟩, h3, ⟨h4, h5⟩, h6, by omega, fun r hr => ?_, fun r hr => ?_⟩ <;>
  · have h := hb r hr
    unfold baseOk at h
    simp only [outb, Bool.and_eq_true, Bool.not_eq_true', Bool.or_eq_false_iff, decide_eq_false_iff_not] at h
    omega
set_option maxRecDepth 100000 in
set_option maxHeartbeats 2000000 in
theorem At_c (c : Cs) (row place : Int) (w : World) (hI : Is w c) :
    Calls Tryd.prog 47 #[cv c, .int .i64 row, .int .i64 place] w fun e w' => e = .returned (.int .i64 (atF c row place)) ∧ Below w.heap.size w w' := by
  obtain ⟨R, hR⟩ : ∃ R, atF c row place = R := ⟨_, rfl⟩
  have hcv : cv c = .agg #[.int .i64 c.wide, .slice c.a1 c.base.length c.c1, .slice c.a2 c.dflt.length c.c2, .slice c.a3 c.next.length c.c3, .slice c.a4 c.check.length c.c4] := rfl
  have hag := hcv.symm
  rw [hcv, hR]
  unfold atF at hR
  have hA := at_c c row.toNat place.toNat
  have hgood : rightC c = true → Good c := good_of
  have hRi := Right_c c
  obtain ⟨n1, hn1⟩ : ∃ n1, c.base.length = n1 := ⟨_, rfl⟩
  obtain ⟨n2, hn2⟩ : ∃ n2, c.dflt.length = n2 := ⟨_, rfl⟩
  obtain ⟨n3, hn3⟩ : ∃ n3, c.next.length = n3 := ⟨_, rfl⟩
  obtain ⟨n4, hn4⟩ : ∃ n4, c.check.length = n4 := ⟨_, rfl⟩
  obtain ⟨wd, hwd⟩ : ∃ wd, c.wide = wd := ⟨_, rfl⟩
  rw [hn1, hn2, hn3, hn4, hwd] at hag
  rw [hn1, hn2, hn3, hn4, hwd]
  rw [hn1, hwd] at hR
  obtain ⟨W1, hW1⟩ : ∃ W1, w.alloc (.cells #[.int .i64 wd, .slice c.a1 n1 c.c1, .slice c.a2 n2 c.c2, .slice c.a3 n3 c.c3, .slice c.a4 n4 c.c4] 71 (0, 0)) = W1 := ⟨_, rfl⟩
  have b1 : Below w.heap.size w W1 := by rw [← hW1]; exact (Below.refl _ _).alloc (Nat.le_refl _) _
  have s1 : W1.heap[w.heap.size]? = some (.cells #[.int .i64 wd, .slice c.a1 n1 c.c1, .slice c.a2 n2 c.c2, .slice c.a3 n3 c.c3, .slice c.a4 n4 c.c4] 71 (0, 0)) := by rw [← hW1]; exact heap_alloc_new _ _
  have hsz1 : W1.heap.size = w.heap.size + 1 := by rw [← hW1]; exact World.size_alloc _ _
  obtain ⟨z0, z1, z2, z3, z4⟩ := box5 s1
  have hI1 := hI.below b1
  have HI1 := Lib.hid hI1
  have HS1 := Lib.hid s1
  have HW1 := Lib.hid hW1
  have HB1 := Lib.hid b1
  have hRi1 := hRi W1 hI1
  rw [← hag] at hRi1
  have HRi := Lib.hid hRi1
  have HAG := Lib.hid hag
  have HN := Lib.hid (And.intro hn1 (And.intro hn2 (And.intro hn3 (And.intro hn4 hwd))))
  have HA := Lib.hid hA
  have HG := Lib.hid hgood
  clear hag hRi hRi1 hI hI1 hW1 s1 hsz1 b1 hcv hA hgood hn1 hn2 hn3 hn4 hwd
  cases hX : outb row n1 with
  | true =>
    obtain rfl : R = 0 := by rw [← hR, hX]; rfl
    clear hR
    go_enter Tryd.func47, Tryd.ntmps47
    go_upto_region 1 with (fail)
    rw [HW1.out]
    go_wp2_with (go_at_call 80; (with_reducible refine (out_c _ _ _).mono ?_); rintro _ _ ⟨rfl, rfl⟩)
    go_ret
    exact ⟨rfl, HB1.out⟩
  | false =>
    cases hY : outb place wd with
    | true =>
      obtain rfl : R = 0 := by rw [← hR, hX, hY]; rfl
      clear hR
      go_enter Tryd.func47, Tryd.ntmps47
      go_upto_region 1 with (fail)
      rw [HW1.out]
      go_wp2_with (go_at_call 80; (with_reducible refine (out_c _ _ _).mono ?_); rintro _ _ ⟨rfl, rfl⟩)
      go_ret
      exact ⟨rfl, HB1.out⟩
    | false =>
      cases hZ : rightC c with
      | false =>
        obtain rfl : R = 0 := by rw [← hR, hX, hY, hZ]; rfl
        have hh := HRi.out
        rw [hZ] at hh
        have HRi2 := Lib.hid hh
        clear hR HRi hh
        go_enter Tryd.func47, Tryd.ntmps47
        go_upto_region 1 with (fail)
        rw [HW1.out]
        go_wp2_with (first
          | (go_at_call 80; (with_reducible refine (out_c _ _ _).mono ?_); rintro _ _ ⟨rfl, rfl⟩)
          | (go_at_call 39; (with_reducible refine HRi2.out.mono ?_); rintro _ w5 ⟨rfl, hb5⟩))
        go_ret
        exact ⟨rfl, HB1.out.trans (hb5.mono HB1.out.size)⟩
      | true =>
        have hG := HG.out hZ
        have hh := HRi.out
        rw [hZ] at hh
        have HRi2 := Lib.hid hh
        have hRe : atC c row.toNat place.toNat = R := by rw [← hR, hX, hY, hZ]; rfl
        simp only [outb, Bool.or_eq_false_iff, decide_eq_false_iff_not] at hX hY
        have hX2 : outb row n1 = false := by simp only [outb, Bool.or_eq_false_iff, decide_eq_false_iff_not]; exact hX
        have hY2 : outb place wd = false := by simp only [outb, Bool.or_eq_false_iff, decide_eq_false_iff_not]; exact hY
        have hr : row.toNat < c.base.length := by have := HN.out.1; omega
        have hat := HA.out hr (hG.bases _ hr).1 (by have := (hG.bases _ hr).2; omega) (by have := hG.wide; have := HN.out.2.2.2.2; omega) hG.next hG.dflt hG.slots (by have := hG.many; omega)
        rw [Int.toNat_of_nonneg (by omega), Int.toNat_of_nonneg (by omega), hRe, ← HAG.out] at hat
        have HAT := Lib.hid hat
        clear hR HRi hh hat hr hG hX hY hRe
        go_enter Tryd.func47, Tryd.ntmps47
        go_upto_region 1 with (fail)
        rw [HW1.out]
        go_wp2_with (first
          | (go_at_call 80; (with_reducible refine (out_c _ _ _).mono ?_); rintro _ _ ⟨rfl, rfl⟩)
          | (go_at_call 39; (with_reducible refine HRi2.out.mono ?_); rintro _ w5 ⟨rfl, hb5⟩
             have y0 := (hb5.cell (p := ⟨w.heap.size, 0, none⟩) (block_lt HS1.out)).trans z0
             have y1 := (hb5.cell (p := ⟨w.heap.size, 1, none⟩) (block_lt HS1.out)).trans z1
             have y2 := (hb5.cell (p := ⟨w.heap.size, 2, none⟩) (block_lt HS1.out)).trans z2
             have y3 := (hb5.cell (p := ⟨w.heap.size, 3, none⟩) (block_lt HS1.out)).trans z3
             have y4 := (hb5.cell (p := ⟨w.heap.size, 4, none⟩) (block_lt HS1.out)).trans z4)
          | (go_at_call 79; (with_reducible refine (HAT.out _ (HI1.out.below hb5)).mono ?_); rintro _ w6 ⟨rfl, hb6⟩))
        go_ret
        exact ⟨rfl, HB1.out.trans ((hb5.trans (hb6.mono hb5.size)).mono HB1.out.size)⟩
end Cb
end Go.Proofs.YteekonojmpihlaaDoor
