/- dofferref23: At. -/
import Derived.Test.YteekonojmpihlaaDoorQCbSame
namespace Go.Proofs.YteekonojmpihlaaDoor
namespace Kt
end Kt
open Go Go.RowKit Kt
namespace Cb
set_option maxRecDepth 100000 in
set_option maxHeartbeats 2000000 in
theorem rat_c (c : Cs) (row place : Int) (hG : rightC c = true) (w : World) (hI : Is w c) :
    Calls Tryd.prog 48 #[cv c, .int .i64 row, .int .i64 place] w fun e w' => e = .returned (.int .i64 (atF c row place)) ∧ Below w.heap.size w w' := by
  have hg := good_of hG
  obtain ⟨R, hR⟩ : ∃ R, atF c row place = R := ⟨_, rfl⟩
  have hcv : cv c = .agg #[.int .i64 c.wide, .slice c.a1 c.base.length c.c1, .slice c.a2 c.dflt.length c.c2, .slice c.a3 c.next.length c.c3, .slice c.a4 c.check.length c.c4] := rfl
  rw [hcv, hR]
  unfold atF at hR
  rw [hG] at hR
  obtain ⟨n1, hn1⟩ : ∃ n1, c.base.length = n1 := ⟨_, rfl⟩
  obtain ⟨n4, hn4⟩ : ∃ n4, c.check.length = n4 := ⟨_, rfl⟩
  obtain ⟨wd, hwd⟩ : ∃ wd, c.wide = wd := ⟨_, rfl⟩
  obtain ⟨A1, hA1⟩ : ∃ A, c.a1 = A := ⟨_, rfl⟩
  obtain ⟨A2, hA2⟩ : ∃ A, c.a2 = A := ⟨_, rfl⟩
  obtain ⟨A3, hA3⟩ : ∃ A, c.a3 = A := ⟨_, rfl⟩
  obtain ⟨A4, hA4⟩ : ∃ A, c.a4 = A := ⟨_, rfl⟩
  rw [hg.dflt, hg.next, hn1, hn4, hwd, hA1, hA2, hA3, hA4]
  rw [hn1, hwd] at hR
  obtain ⟨W1, hW1⟩ : ∃ W1, w.alloc (.cells #[.int .i64 wd, .slice A1 n1 c.c1, .slice A2 n1 c.c2, .slice A3 n4 c.c3, .slice A4 n4 c.c4] 82 (0, 0)) = W1 := ⟨_, rfl⟩
  have b1 : Below w.heap.size w W1 := by rw [← hW1]; exact (Below.refl _ _).alloc (Nat.le_refl _) _
  have s1 : W1.heap[w.heap.size]? = some (.cells #[.int .i64 wd, .slice A1 n1 c.c1, .slice A2 n1 c.c2, .slice A3 n4 c.c3, .slice A4 n4 c.c4] 82 (0, 0)) := by rw [← hW1]; exact heap_alloc_new _ _
  obtain ⟨z0, z1, z2, z3, z4⟩ := box5 s1
  have hI1 := hI.below b1
  have HW1 := Lib.hid hW1
  have HB1 := Lib.hid b1
  by_cases r1 : row < 0
  · obtain rfl : R = 0 := by
      rw [← hR]
      have : outb row n1 = true := by simp [outb, r1]
      rw [this]
      rfl
    clear hR hW1 s1 b1 hI hI1 hn1 hn4 hwd hA1 hA2 hA3 hA4 hcv hg hG
    go_enter Tryd.func48, Tryd.ntmps48
    go_upto_region 1 with (fail)
    rw [HW1.out]
    go_wp2
    go_ret
    exact ⟨rfl, HB1.out⟩
  by_cases r2 : (n1 : Int) ≤ row
  · obtain rfl : R = 0 := by
      rw [← hR]
      have : outb row n1 = true := by simp [outb, r2]
      rw [this]
      rfl
    clear hR hW1 s1 b1 hI hI1 hn1 hn4 hwd hA1 hA2 hA3 hA4 hcv hg hG
    go_enter Tryd.func48, Tryd.ntmps48
    go_upto_region 1 with (fail)
    rw [HW1.out]
    go_wp2
    go_ret
    exact ⟨rfl, HB1.out⟩
  have hX : outb row n1 = false := by simp only [outb, Bool.or_eq_false_iff, decide_eq_false_iff_not]; exact ⟨r1, r2⟩
  rw [hX, Bool.false_or] at hR
  by_cases r3 : place < 0
  · obtain rfl : R = 0 := by
      rw [← hR]
      have : outb place wd = true := by simp [outb, r3]
      rw [this]
      rfl
    clear hR hW1 s1 b1 hI hI1 hn1 hn4 hwd hA1 hA2 hA3 hA4 hcv hg hG hX
    go_enter Tryd.func48, Tryd.ntmps48
    go_upto_region 1 with (fail)
    rw [HW1.out]
    go_wp2
    go_ret
    exact ⟨rfl, HB1.out⟩
  by_cases r4 : wd ≤ place
  · obtain rfl : R = 0 := by
      rw [← hR]
      have : outb place wd = true := by simp [outb, r4]
      rw [this]
      rfl
    clear hR hW1 s1 b1 hI hI1 hn1 hn4 hwd hA1 hA2 hA3 hA4 hcv hg hG hX
    go_enter Tryd.func48, Tryd.ntmps48
    go_upto_region 1 with (fail)
    rw [HW1.out]
    go_wp2
    go_ret
    exact ⟨rfl, HB1.out⟩
  have hY : outb place wd = false := by simp only [outb, Bool.or_eq_false_iff, decide_eq_false_iff_not]; exact ⟨r3, r4⟩
  rw [hY] at hR
  obtain ⟨r, rfl⟩ : ∃ r : Nat, row = (r : Int) := ⟨row.toNat, by omega⟩
  obtain ⟨p, rfl⟩ : ∃ p : Nat, place = (p : Int) := ⟨place.toNat, by omega⟩
  have hr : r < n1 := by omega
  obtain ⟨b, o, ha1, e1⟩ := rd_i64 hI1.r1 r (by omega)
  obtain ⟨d, o2, ha2, e2⟩ := rd_i64 hI1.r2 r (by rw [hg.dflt]; omega)
  obtain ⟨B, hB⟩ : ∃ B : Nat, c.base.getD r 0 = (B : Int) := ⟨(c.base.getD r 0).toNat, by have := (hg.bases r (by omega)).1; omega⟩
  have hB2 : B < 65536 := by have := (hg.bases r (by omega)).2; omega
  have hp2 : p ≤ 256 := by have := hg.wide; omega
  have hat : atC c r p = if B + p < n4 ∧ c.check.getD (B + p) 0 = (r : Int) then c.next.getD (B + p) 0 else c.dflt.getD r 0 := by
    unfold atC
    rw [hB, hn4]
    simp only
    have : ((B : Int) + (p : Int)).toNat = B + p := by omega
    rw [this]
  have hRe : atC c r p = R := by rw [← hR]; rfl
  rw [hat] at hRe
  have hr3 := hI1.r3
  have hr4 := hI1.r4
  have hl3 : c.next.length = n4 := by rw [hg.next]; exact hn4
  have hb16 : n4 ≤ 65536 := by rw [← hn4]; exact hg.slots
  rw [hB] at e1
  have hws : IntKind.i64.wrap ((B : Int) + (p : Int)) = (B : Int) + (p : Int) := by rw [IntKind.wrap_i64]; omega
  have hsz1 : w.heap.size < W1.heap.size := block_lt s1
  have hi1 := hI1
  rw [hA1] at ha1
  rw [hA2] at ha2
  rw [hA3] at hr3
  rw [hA4] at hr4
  generalize c.dflt.getD r 0 = DF at *
  have HR := Lib.hid hRe
  have hrd1 := ha1
  subst ha1 ha2
  have HA := Lib.hid (And.intro hA1 hA2)
  have HR3 := Lib.hid hr3
  have HR4 := Lib.hid hr4
  have HN := Lib.hid (And.intro hl3 hn4)
  have HI1 := Lib.hid hI1
  have hb1lt : b < W1.heap.size := by
    obtain ⟨q, hq, hlt⟩ := Rd.lt HI1.out.r1 (by intro h; have := congrArg List.length h; rw [i64s_length] at this; simp at this; rw [this] at hn1; simp at hn1; omega)
    rw [hA1] at hq
    cases hq
    exact hlt
  have hd1lt : d < W1.heap.size := by
    obtain ⟨q, hq, hlt⟩ := Rd.lt HI1.out.r2 (by intro h; have := congrArg List.length h; rw [i64s_length, hg.dflt] at this; simp at this; rw [this] at hn1; simp at hn1; omega)
    rw [hA2] at hq
    cases hq
    exact hlt
  have rr1 : (r : Int) < (n1 : Int) := by omega
  have rr0 : (0 : Int) ≤ (r : Int) := by omega
  clear hR hW1 s1 b1 hI hI1 hn1 hn4 hwd hA1 hA2 hA3 hA4 hcv hg hG hX hY hat hRe hi1 hr3 hr4 hB hrd1 hl3 r1 r2
  go_enter Tryd.func48, Tryd.ntmps48
  go_upto_region 1 with (fail)
  rw [HW1.out]
  go_wp2
  go_loopw [7, 8, 31] (fun _ _ i W => ∃ k : Nat, k ≤ n4 ∧ i = .int .i64 k ∧ W = W1 ∧ ∀ q, q < k → ¬ (q = B + p ∧ c.check.getD q 0 = (r : Int))) (fun _ _ i _ => n4 - (intOf i).toNat)
  case atStart => exact ⟨0, Nat.zero_le _, rfl, rfl, fun _ h => absurd h (by omega)⟩
  case round =>
    obtain ⟨k, hk, rfl, rfl, hall⟩ := hrel
    have HALL := Lib.hid hall
    by_cases hlt : k < n4
    · obtain ⟨g, o4, ha4, e4⟩ := rd_i64 HR4.out k (by rw [HN.out.2]; exact hlt)
      obtain ⟨f, o3, ha3, e3⟩ := rd_i64 HR3.out k (by rw [HN.out.1]; exact hlt)
      have hnx : ¬ (k = B + p ∧ c.check.getD k 0 = (r : Int)) → ∀ q, q < k + 1 → ¬ (q = B + p ∧ c.check.getD q 0 = (r : Int)) := fun h q hq => by
        rcases Nat.lt_succ_iff_lt_or_eq.1 hq with h2 | h2
        · exact HALL.out q h2
        · subst h2
          exact h
      have hhit : k = B + p → c.check.getD k 0 = (r : Int) → c.next.getD k 0 = R := fun h1 h2 => by
        have := HR.out
        rw [← h1, if_pos ⟨hlt, h2⟩] at this
        exact this
      generalize c.check.getD k 0 = CK at *
      generalize c.next.getD k 0 = NX at *
      subst ha3 ha4
      clear hall
      by_cases h1 : CK = (r : Int)
      · subst h1
        by_cases h2 : k = B + p
        · obtain rfl := hhit h2 rfl
          have h2i : ((k : Int) == (B : Int) + (p : Int)) = true := by simp; omega
          have h2d : decide ((k : Int) = (B : Int) + (p : Int)) = true := by simp; omega
          clear hnx hhit HR h2
          go_wp2
          go_ret
          exact ⟨rfl, HB1.out⟩
        · have h2i : ((k : Int) == (B : Int) + (p : Int)) = false := by simp; omega
          have h2d : decide ((k : Int) = (B : Int) + (p : Int)) = false := by simp; omega
          have HNX := Lib.hid (hnx (fun h => h2 h.1))
          clear hnx hhit
          go_wp2
          go_roundw
          case rel => exact ⟨k + 1, by omega, by go_num, (by first | trivial | rfl), HNX.out⟩
          case measure => simp [intOf]; omega
      · have h1b : (CK == (r : Int)) = false := by simpa using h1
        have h1d : decide (CK = (r : Int)) = false := by simpa using h1
        have HNX := Lib.hid (hnx (fun h => h1 h.2))
        clear hnx hhit
        go_wp2
        go_roundw
        case rel => exact ⟨k + 1, by omega, by go_num, (by first | trivial | rfl), HNX.out⟩
        case measure => simp [intOf]; omega
    · obtain rfl : k = n4 := by omega
      obtain rfl : DF = R := by
        rw [← HR.out, if_neg]
        exact fun h => hall (B + p) h.1 ⟨rfl, h.2⟩
      clear hall HALL HR
      go_wp2
      go_ret
      exact ⟨rfl, HB1.out⟩
end Cb
end Go.Proofs.YteekonojmpihlaaDoor
