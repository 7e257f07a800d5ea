/- Package comb: Right. Printed by gen_cbright.py. -/
import Derived.Test.YteekonojmpihlaaDoorQCbSlot
namespace Go.Proofs.YteekonojmpihlaaDoor
namespace Kt
end Kt
open Go Go.RowKit Kt
namespace Cb
theorem all_range (n : Nat) (p : Nat → Bool) : (List.range n).all p = true ↔ ∀ k, k < n → p k = true := by
  rw [List.all_eq_true]
  exact ⟨fun h k hk => h k (List.mem_range.2 hk), fun h k hk => h k (List.mem_range.1 hk)⟩
set_option maxRecDepth 100000 in
set_option maxHeartbeats 2000000 in
theorem Right_ok (c : Cs) (w : World) (hI : Is w c) (g1 : ¬ c.base.length < 1) (g2 : ¬ 200 < c.base.length) (g3 : c.dflt.length = c.base.length) (g4 : ¬ c.wide < 1) (g5 : ¬ 256 < c.wide) (g6 : c.next.length = c.check.length) (g7 : ¬ 65536 < c.check.length) :
    Calls Tryd.prog 39 #[cv c] w fun e w' => e = .returned (.bool (rightC c)) ∧ Below w.heap.size w w' := by
  have hcv : cv c = .agg #[.int .i64 c.wide, .slice c.a1 c.base.length c.c1, .slice c.a2 c.dflt.length c.c2, .slice c.a3 c.next.length c.c3, .slice c.a4 c.check.length c.c4] := rfl
  rw [hcv]
  have hrc : rightC c = ((List.range c.base.length).all (baseOk c) && ((List.range c.check.length).all (slotOk c) && (decide (c.check.length = 0) || decide (c.check.getD (c.check.length - 1) 0 ≠ -1)))) := by
    unfold rightC
    rw [decide_eq_true (by omega : 1 ≤ c.base.length), decide_eq_true (by omega : c.base.length ≤ 200), decide_eq_true g3, decide_eq_true (by omega : 1 ≤ c.wide), decide_eq_true (by omega : c.wide ≤ 256), decide_eq_true g6, decide_eq_true (by omega : c.next.length ≤ 65536)]
    rfl
  obtain ⟨W1, hW1⟩ : ∃ W1, w.alloc (.cells #[.int .i64 c.wide, .slice c.a1 c.base.length c.c1, .slice c.a2 c.dflt.length c.c2, .slice c.a3 c.next.length c.c3, .slice c.a4 c.check.length c.c4] 71 (0, 0)) = W1 := ⟨_, rfl⟩
  have b1 : Below w.heap.size w W1 := by rw [← hW1]; exact (Below.refl _ _).alloc (Nat.le_refl _) _
  have s1 : W1.heap[w.heap.size]? = some (.cells #[.int .i64 c.wide, .slice c.a1 c.base.length c.c1, .slice c.a2 c.dflt.length c.c2, .slice c.a3 c.next.length c.c3, .slice c.a4 c.check.length c.c4] 71 (0, 0)) := by rw [← hW1]; exact heap_alloc_new _ _
  have hsz1 : W1.heap.size = w.heap.size + 1 := by rw [← hW1]; exact World.size_alloc _ _
  obtain ⟨z0, z1, z2, z3, z4⟩ := box5 s1
  obtain ⟨A1, hA1⟩ : ∃ A, c.a1 = A := ⟨_, rfl⟩
  obtain ⟨A2, hA2⟩ : ∃ A, c.a2 = A := ⟨_, rfl⟩
  obtain ⟨A3, hA3⟩ : ∃ A, c.a3 = A := ⟨_, rfl⟩
  obtain ⟨A4, hA4⟩ : ∃ A, c.a4 = A := ⟨_, rfl⟩
  obtain ⟨n1, hn1⟩ : ∃ n1, c.base.length = n1 := ⟨_, rfl⟩
  obtain ⟨n4, hn4⟩ : ∃ n4, c.check.length = n4 := ⟨_, rfl⟩
  have hI1 := hI.below b1
  rw [g3, hn1, hA2] at z2
  rw [hn1, hA1] at z1
  rw [g6, hn4, hA3] at z3
  rw [hn4, hA4] at z4
  rw [g3, g6, hn1, hn4, hA1, hA2, hA3, hA4] at hW1
  have hag : (.agg #[.int .i64 c.wide, .slice A1 n1 c.c1, .slice A2 n1 c.c2, .slice A3 n4 c.c3, .slice A4 n4 c.c4] : Value) = cv c := by
    rw [hcv, g3, g6, hn1, hn4, hA1, hA2, hA3, hA4]
  rw [g3, g6, hn1, hn4, hA1, hA2, hA3, hA4] at s1
  rw [g3, g6, hn1, hn4, hA1, hA2, hA3, hA4]
  obtain ⟨R, hR⟩ : ∃ R, rightC c = R := ⟨_, rfl⟩
  rw [hR]
  have hrc2 := hrc.symm.trans hR
  rw [hn1, hn4] at hrc2
  have HRC := Lib.hid hrc2
  rw [hn1] at g1 g2 g3
  rw [hn4] at g6 g7
  have i2 : ¬ (n1 : Int) < 1 := by omega
  have i4 : ¬ (200 : Int) < (n1 : Int) := by omega
  have i14 : ¬ (65536 : Int) < (n4 : Int) := by omega
  have HW1 := Lib.hid hW1
  have HB1 := Lib.hid b1
  have HI1 := Lib.hid hI1
  have HN := Lib.hid (And.intro hn1 hn4)
  have HA := Lib.hid (And.intro hA1 (And.intro hA2 (And.intro hA3 hA4)))
  have HG := Lib.hid (And.intro g3 g6)
  have HS1 := Lib.hid s1
  have HAG := Lib.hid hag
  clear hcv hrc hR hrc2 hW1 hI s1 b1 hI1 hn1 hn4 hag g3 g6 hA1 hA2 hA3 hA4
  go_enter Tryd.func39, Tryd.ntmps39
  go_upto_region 1 with (fail)
  rw [HW1.out]
  go_wp2
  go_loopw [4, 5, 51] (fun _ _ i W => ∃ k : Nat, k ≤ n1 ∧ i = .int .i64 k ∧ Below W1.heap.size W1 W ∧ ∀ q, q < k → baseOk c q = true) (fun _ _ i _ => n1 - (intOf i).toNat)
  case atStart => exact ⟨0, Nat.zero_le _, rfl, Below.refl _ _, fun _ h => absurd h (by omega)⟩
  case round =>
    obtain ⟨k, hk, rfl, hbl, hall⟩ := hrel
    have HN1 := HN.out.1
    have HG3 := HG.out.1
    have zz1 := (hbl.cell (p := ⟨w.heap.size, 1, none⟩) (by rw [hsz1]; exact Nat.lt_succ_self _)).trans z1
    have zz2 := (hbl.cell (p := ⟨w.heap.size, 2, none⟩) (by rw [hsz1]; exact Nat.lt_succ_self _)).trans z2
    have HB := Lib.hid hbl
    have HALL := Lib.hid hall
    by_cases hlt : k < n1
    · obtain ⟨b, o, ha1, e1⟩ := rd_i64 (HI1.out.below hbl).r1 k (by omega)
      obtain ⟨d, o2, ha2, e2⟩ := rd_i64 (HI1.out.below hbl).r2 k (by omega)
      rw [HA.out.1] at ha1
      rw [HA.out.2.1] at ha2
      have hbk : baseOk c k = (!outb (c.base.getD k 0) 65536 && !outb (c.dflt.getD k 0) n1) := by unfold baseOk; rw [HN1]
      generalize c.base.getD k 0 = B at *
      generalize c.dflt.getD k 0 = D at *
      have HBK := Lib.hid hbk
      clear hbl hall HN1 HG3 hbk
      subst ha1 ha2
      cases hB : outb B 65536 with
      | true =>
        have hF : R = false := by
          rw [← HRC.out]
          have : (List.range n1).all (baseOk c) ≠ true := fun h => by
            have h2 := (all_range n1 (baseOk c)).1 h k hlt
            rw [HBK.out, hB] at h2
            cases h2
          rw [Bool.eq_false_iff.2 this]
          rfl
        clear HRC
        subst hF
        go_wp2_with (go_at_call 80; (with_reducible refine (out_c _ _ _).mono ?_); rintro _ _ ⟨rfl, rfl⟩)
        go_ret
        exact ⟨rfl, HB1.out.trans (HB.out.mono (by omega))⟩
      | false =>
        cases hD : outb D n1 with
        | true =>
          have hF : R = false := by
            rw [← HRC.out]
            have : (List.range n1).all (baseOk c) ≠ true := fun h => by
              have h2 := (all_range n1 (baseOk c)).1 h k hlt
              rw [HBK.out, hB, hD] at h2
              cases h2
            rw [Bool.eq_false_iff.2 this]
            rfl
          clear HRC
          subst hF
          go_wp2_with (go_at_call 80; (with_reducible refine (out_c _ _ _).mono ?_); rintro _ _ ⟨rfl, rfl⟩)
          go_ret
          exact ⟨rfl, HB1.out.trans (HB.out.mono (by omega))⟩
        | false =>
          have hnx : ∀ q, q < k + 1 → baseOk c q = true := fun q hq => by
            rcases Nat.lt_succ_iff_lt_or_eq.1 hq with h | h
            · exact HALL.out q h
            · subst h
              rw [HBK.out, hB, hD]
              rfl
          have HNX := Lib.hid hnx
          clear hnx
          go_wp2_with (go_at_call 80; (with_reducible refine (out_c _ _ _).mono ?_); rintro _ _ ⟨rfl, rfl⟩)
          go_roundw
          case rel => exact ⟨k + 1, by omega, by go_num, HB.out, HNX.out⟩
          case measure => simp [intOf]; omega
    · obtain rfl : k = n1 := by omega
      have hAll : (List.range k).all (baseOk c) = true := (all_range k (baseOk c)).2 hall
      have hR2 := HRC.out
      rw [hAll, Bool.true_and] at hR2
      have HR2 := Lib.hid hR2
      have zz3 := (hbl.cell (p := ⟨w.heap.size, 3, none⟩) (by rw [hsz1]; exact Nat.lt_succ_self _)).trans z3
      have zz4 := (hbl.cell (p := ⟨w.heap.size, 4, none⟩) (by rw [hsz1]; exact Nat.lt_succ_self _)).trans z4
      have HBS := Lib.hid hall
      clear hall HALL hAll hbl hR2 HRC
      go_wp2
      go_loopw [6, 71] (fun _ i V => ∃ j : Nat, j ≤ n4 ∧ i = .int .i64 j ∧ Below W1.heap.size W1 V ∧ ∀ q, q < j → slotOk c q = true) (fun _ i _ => n4 - (intOf i).toNat)
      case atStart => exact ⟨0, Nat.zero_le _, rfl, HB.out, fun _ h => absurd h (by omega)⟩
      case round =>
        obtain ⟨j, hj, rfl, hbl, hall⟩ := hrel
        have HN4 := HN.out.2
        have zz0 := (hbl.cell (p := ⟨w.heap.size, 0, none⟩) (by rw [hsz1]; exact Nat.lt_succ_self _)).trans z0
        have zz1 := (hbl.cell (p := ⟨w.heap.size, 1, none⟩) (by rw [hsz1]; exact Nat.lt_succ_self _)).trans z1
        have zz2 := (hbl.cell (p := ⟨w.heap.size, 2, none⟩) (by rw [hsz1]; exact Nat.lt_succ_self _)).trans z2
        have zz3 := (hbl.cell (p := ⟨w.heap.size, 3, none⟩) (by rw [hsz1]; exact Nat.lt_succ_self _)).trans z3
        have zz4 := (hbl.cell (p := ⟨w.heap.size, 4, none⟩) (by rw [hsz1]; exact Nat.lt_succ_self _)).trans z4
        have HALL := Lib.hid hall
        have HBL := Lib.hid hbl
        by_cases hlt : j < n4
        · have hsc := slot_c c j (by have := HN.out.2; omega) (HG.out.2.trans HN.out.2.symm) (by have := HN.out.2; omega) (by have := HN.out.1; omega) (fun r hr => by
            have h1 := HBS.out r (by have := HN.out.1; omega)
            unfold baseOk at h1
            simp only [outb, Bool.and_eq_true, Bool.not_eq_true', Bool.or_eq_false_iff, decide_eq_false_iff_not] at h1
            omega) wr (HI1.out.below hbl)
          rw [← HAG.out] at hsc
          clear hall hbl
          cases hB : slotOk c j with
          | false =>
            have hF : R = false := by
              rw [← HR2.out]
              have : (List.range n4).all (slotOk c) ≠ true := fun h => by
                have h2 := (all_range n4 (slotOk c)).1 h j hlt
                rw [hB] at h2
                cases h2
              rw [Bool.eq_false_iff.2 this]
              rfl
            clear HR2
            subst hF
            rw [hB] at hsc
            have HSC := Lib.hid hsc
            clear hsc
            go_wp2_with (go_at_call 81; (with_reducible refine HSC.out.mono ?_); rintro _ w5 ⟨rfl, hb5⟩)
            go_ret
            exact ⟨rfl, HB1.out.trans ((HBL.out.trans (hb5.mono HBL.out.size)).mono (by omega))⟩
          | true =>
            have hnx : ∀ q, q < j + 1 → slotOk c q = true := fun q hq => by
              rcases Nat.lt_succ_iff_lt_or_eq.1 hq with h | h
              · exact HALL.out q h
              · subst h
                exact hB
            have HNX := Lib.hid hnx
            clear hnx
            rw [hB] at hsc
            have HSC := Lib.hid hsc
            clear hsc
            go_wp2_with (go_at_call 81; (with_reducible refine HSC.out.mono ?_); rintro _ w5 ⟨rfl, hb5⟩)
            go_roundw
            case rel => exact ⟨j + 1, by omega, by go_num, HBL.out.trans (hb5.mono HBL.out.size), HNX.out⟩
            case measure => simp [intOf]; omega
        · obtain rfl : j = n4 := by omega
          have hAll : (List.range j).all (slotOk c) = true := (all_range j (slotOk c)).2 hall
          have hR3 := HR2.out
          rw [hAll, Bool.true_and] at hR3
          by_cases hz : j = 0
          · subst hz
            have hF : R = true := by rw [← hR3]; rfl
            clear HR2 hR3 HALL hall hAll hbl
            subst hF
            go_wp2
            go_ret
            exact ⟨rfl, HB1.out.trans (HBL.out.mono (by omega))⟩
          · obtain ⟨g, o4, ha4, e4⟩ := rd_i64 (HI1.out.below hbl).r4 (j - 1) (by have := HN.out.2; omega)
            rw [HA.out.2.2.2] at ha4
            generalize c.check.getD (j - 1) 0 = LS at *
            have hzi : ((j : Int) == 0) = false := by simp; omega
            have hzd : decide ((j : Int) = 0) = false := by simp; omega
            have hj1 : (j : Int) - 1 = ((j - 1 : Nat) : Int) := by omega
            have hj2 : IntKind.i64.wrap ((j : Int) - 1) = ((j - 1 : Nat) : Int) := by rw [IntKind.wrap_i64]; omega
            have hlt2 : ((j - 1 : Nat) : Int) < (j : Int) := by omega
            have hdz : decide (j = 0) = false := by simp [hz]
            rw [hdz, Bool.false_or] at hR3
            clear hdz
            subst ha4
            by_cases hL : LS = -1
            · subst hL
              have hF : R = false := by rw [← hR3]; rfl
              clear HR2 hR3 HALL hall hAll hbl
              subst hF
              go_wp2
              go_ret
              exact ⟨rfl, HB1.out.trans (HBL.out.mono (by omega))⟩
            · have hF : R = true := by rw [← hR3]; simp [hL]
              have hLb : (LS != -1) = true := by simpa using hL
              have hLd : decide (LS = -1) = false := by simpa using hL
              clear HR2 hR3 HALL hall hAll hbl
              subst hF
              go_wp2
              go_ret
              exact ⟨rfl, HB1.out.trans (HBL.out.mono (by omega))⟩
set_option maxRecDepth 100000 in
set_option maxHeartbeats 2000000 in
theorem Right_c (c : Cs) (w : World) (hI : Is w c) :
    Calls Tryd.prog 39 #[cv c] w fun e w' => e = .returned (.bool (rightC c)) ∧ Below w.heap.size w w' := by
  have hcv : cv c = .agg #[.int .i64 c.wide, .slice c.a1 c.base.length c.c1, .slice c.a2 c.dflt.length c.c2, .slice c.a3 c.next.length c.c3, .slice c.a4 c.check.length c.c4] := rfl
  rw [hcv]
  obtain ⟨W1, hW1⟩ : ∃ W1, w.alloc (.cells #[.int .i64 c.wide, .slice c.a1 c.base.length c.c1, .slice c.a2 c.dflt.length c.c2, .slice c.a3 c.next.length c.c3, .slice c.a4 c.check.length c.c4] 71 (0, 0)) = W1 := ⟨_, rfl⟩
  have b1 : Below w.heap.size w W1 := by rw [← hW1]; exact (Below.refl _ _).alloc (Nat.le_refl _) _
  have s1 : W1.heap[w.heap.size]? = some (.cells #[.int .i64 c.wide, .slice c.a1 c.base.length c.c1, .slice c.a2 c.dflt.length c.c2, .slice c.a3 c.next.length c.c3, .slice c.a4 c.check.length c.c4] 71 (0, 0)) := by rw [← hW1]; exact heap_alloc_new _ _
  obtain ⟨z0, z1, z2, z3, z4⟩ := box5 s1
  obtain ⟨n1, hn1⟩ : ∃ n1, c.base.length = n1 := ⟨_, rfl⟩
  obtain ⟨n2, hn2⟩ : ∃ n2, c.dflt.length = n2 := ⟨_, rfl⟩
  obtain ⟨n3, hn3⟩ : ∃ n3, c.next.length = n3 := ⟨_, rfl⟩
  obtain ⟨n4, hn4⟩ : ∃ n4, c.check.length = n4 := ⟨_, rfl⟩
  rw [hn1] at z1
  rw [hn2] at z2
  rw [hn3] at z3
  rw [hn4] at z4
  rw [hn1, hn2, hn3, hn4] at hW1 s1
  rw [hn1, hn2, hn3, hn4]
  have HW1 := Lib.hid hW1
  have HB1 := Lib.hid b1
  by_cases h2 : n1 < 1
  · have i2 : (n1 : Int) < 1 := by omega
    have hf : rightC c = false := by simp [rightC]; omega
    rw [hf]
    clear hcv hW1 hI s1 b1 hf
    go_enter Tryd.func39, Tryd.ntmps39
    go_upto_region 1 with (fail)
    rw [HW1.out]
    go_wp2
    go_ret
    exact ⟨rfl, HB1.out⟩
  · have i2 : ¬ (n1 : Int) < 1 := by omega
    by_cases h4 : 200 < n1
    · have i4 : (200 : Int) < (n1 : Int) := by omega
      have hf : rightC c = false := by simp [rightC]; omega
      rw [hf]
      clear hcv hW1 hI s1 b1 hf
      go_enter Tryd.func39, Tryd.ntmps39
      go_upto_region 1 with (fail)
      rw [HW1.out]
      go_wp2
      go_ret
      exact ⟨rfl, HB1.out⟩
    · have i4 : ¬ (200 : Int) < (n1 : Int) := by omega
      by_cases h6 : n2 ≠ n1
      · have j6 : ((n2 : Int) != (n1 : Int)) = true := by simp; omega
        have l6 : ¬ ((n2 : Int) = (n1 : Int)) := by omega
        have hf : rightC c = false := by simp [rightC]; omega
        rw [hf]
        clear hcv hW1 hI s1 b1 hf
        go_enter Tryd.func39, Tryd.ntmps39
        go_upto_region 1 with (fail)
        rw [HW1.out]
        go_wp2
        go_ret
        exact ⟨rfl, HB1.out⟩
      · obtain rfl : n2 = n1 := by omega
        by_cases h8 : c.wide < 1
        · have hf : rightC c = false := by simp [rightC]; omega
          rw [hf]
          clear hcv hW1 hI s1 b1 hf
          go_enter Tryd.func39, Tryd.ntmps39
          go_upto_region 1 with (fail)
          rw [HW1.out]
          go_wp2
          go_ret
          exact ⟨rfl, HB1.out⟩
        · skip
          by_cases h10 : 256 < c.wide
          · have hf : rightC c = false := by simp [rightC]; omega
            rw [hf]
            clear hcv hW1 hI s1 b1 hf
            go_enter Tryd.func39, Tryd.ntmps39
            go_upto_region 1 with (fail)
            rw [HW1.out]
            go_wp2
            go_ret
            exact ⟨rfl, HB1.out⟩
          · skip
            by_cases h12 : n3 ≠ n4
            · have j12 : ((n3 : Int) != (n4 : Int)) = true := by simp; omega
              have l12 : ¬ ((n3 : Int) = (n4 : Int)) := by omega
              have hf : rightC c = false := by simp [rightC]; omega
              rw [hf]
              clear hcv hW1 hI s1 b1 hf
              go_enter Tryd.func39, Tryd.ntmps39
              go_upto_region 1 with (fail)
              rw [HW1.out]
              go_wp2
              go_ret
              exact ⟨rfl, HB1.out⟩
            · obtain rfl : n3 = n4 := by omega
              by_cases h14 : 65536 < n3
              · have i14 : (65536 : Int) < (n3 : Int) := by omega
                have hf : rightC c = false := by simp [rightC]; omega
                rw [hf]
                clear hcv hW1 hI s1 b1 hf
                go_enter Tryd.func39, Tryd.ntmps39
                go_upto_region 1 with (fail)
                rw [HW1.out]
                go_wp2
                go_ret
                exact ⟨rfl, HB1.out⟩
              · have i14 : ¬ (65536 : Int) < (n3 : Int) := by omega
                have hok := Right_ok c w hI (by omega) (by omega) (by omega) h8 h10 (by omega) (by omega)
                rw [hcv, hn1, hn2, hn3, hn4] at hok
                exact hok
end Cb
end Go.Proofs.YteekonojmpihlaaDoor
