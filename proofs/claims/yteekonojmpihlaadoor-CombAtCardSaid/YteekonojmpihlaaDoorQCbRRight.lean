/- dofferref23: Right. Printed by gen_cbrright.py. -/
import Derived.Test.YteekonojmpihlaaDoorQCbRRight0
namespace Go.Proofs.YteekonojmpihlaaDoor
namespace Kt
end Kt
open Go Go.RowKit Kt
namespace Cb
set_option maxRecDepth 100000 in
set_option maxHeartbeats 16000000 in
theorem rright_ok (c : Cs) (w : World) (hI : Is w c) (g1 : ¬ c.base.length < 1) (g2 : ¬ 200 < c.base.length) (g3 : c.dflt.length = c.base.length) (g4 : ¬ c.wide < 1) (g5 : ¬ 256 < c.wide) (g6 : c.next.length = c.check.length) (g7 : ¬ 65536 < c.check.length) :
    Calls Tryd.prog 45 #[cv c] w fun e w' => e = .returned (.bool (rightC c)) ∧ Below w.heap.size w w' := by
  have hcv : cv c = .agg #[.int .i64 c.wide, .slice c.a1 c.base.length c.c1, .slice c.a2 c.dflt.length c.c2, .slice c.a3 c.next.length c.c3, .slice c.a4 c.check.length c.c4] := rfl
  rw [hcv]
  have hrc : rightC c = ((List.range c.base.length).all (baseOk c) && (List.range c.check.length).all (rslot c)) := by
    rw [all_rslot]
    unfold rightC
    rw [decide_eq_true (by omega : 1 ≤ c.base.length), decide_eq_true (by omega : c.base.length ≤ 200), decide_eq_true g3, decide_eq_true (by omega : 1 ≤ c.wide), decide_eq_true (by omega : c.wide ≤ 256), decide_eq_true g6, decide_eq_true (by omega : c.next.length ≤ 65536)]
    rfl
  obtain ⟨W1, hW1⟩ : ∃ W1, w.alloc (.cells #[.int .i64 c.wide, .slice c.a1 c.base.length c.c1, .slice c.a2 c.dflt.length c.c2, .slice c.a3 c.next.length c.c3, .slice c.a4 c.check.length c.c4] 82 (0, 0)) = W1 := ⟨_, rfl⟩
  have b1 : Below w.heap.size w W1 := by rw [← hW1]; exact (Below.refl _ _).alloc (Nat.le_refl _) _
  have s1 : W1.heap[w.heap.size]? = some (.cells #[.int .i64 c.wide, .slice c.a1 c.base.length c.c1, .slice c.a2 c.dflt.length c.c2, .slice c.a3 c.next.length c.c3, .slice c.a4 c.check.length c.c4] 82 (0, 0)) := by rw [← hW1]; exact heap_alloc_new _ _
  have hsz1 : W1.heap.size = w.heap.size + 1 := by rw [← hW1]; exact World.size_alloc _ _
  obtain ⟨z0, z1, z2, z3, z4⟩ := box5 s1
  obtain ⟨A1, hA1⟩ : ∃ A, c.a1 = A := ⟨_, rfl⟩
  obtain ⟨A2, hA2⟩ : ∃ A, c.a2 = A := ⟨_, rfl⟩
  obtain ⟨A3, hA3⟩ : ∃ A, c.a3 = A := ⟨_, rfl⟩
  obtain ⟨A4, hA4⟩ : ∃ A, c.a4 = A := ⟨_, rfl⟩
  obtain ⟨n1, hn1⟩ : ∃ n1, c.base.length = n1 := ⟨_, rfl⟩
  obtain ⟨n4, hn4⟩ : ∃ n4, c.check.length = n4 := ⟨_, rfl⟩
  have hI1 := hI.below b1
  rw [g3, hn1, hA2] at z2
  rw [hn1, hA1] at z1
  rw [g6, hn4, hA3] at z3
  rw [hn4, hA4] at z4
  rw [g3, g6, hn1, hn4, hA1, hA2, hA3, hA4] at hW1
  have hag : (.agg #[.int .i64 c.wide, .slice A1 n1 c.c1, .slice A2 n1 c.c2, .slice A3 n4 c.c3, .slice A4 n4 c.c4] : Value) = cv c := by
    rw [hcv, g3, g6, hn1, hn4, hA1, hA2, hA3, hA4]
  rw [g3, g6, hn1, hn4, hA1, hA2, hA3, hA4] at s1
  rw [g3, g6, hn1, hn4, hA1, hA2, hA3, hA4]
  obtain ⟨R, hR⟩ : ∃ R, rightC c = R := ⟨_, rfl⟩
  rw [hR]
  have hrc2 := hrc.symm.trans hR
  rw [hn1, hn4] at hrc2
  have HRC := Lib.hid hrc2
  rw [hn1] at g1 g2 g3
  rw [hn4] at g6 g7
  have i2 : ¬ (n1 : Int) < 1 := by omega
  have i4 : ¬ (200 : Int) < (n1 : Int) := by omega
  have i14 : ¬ (65536 : Int) < (n4 : Int) := by omega
  have HW1 := Lib.hid hW1
  have HB1 := Lib.hid b1
  have HI1 := Lib.hid hI1
  have HN := Lib.hid (And.intro hn1 hn4)
  have HA := Lib.hid (And.intro hA1 (And.intro hA2 (And.intro hA3 hA4)))
  have HG := Lib.hid (And.intro g3 g6)
  have HS1 := Lib.hid s1
  have HAG := Lib.hid hag
  clear hcv hrc hR hrc2 hW1 hI s1 b1 hI1 hn1 hn4 hag g3 g6 hA1 hA2 hA3 hA4
  go_enter Tryd.func45, Tryd.ntmps45
  go_upto_region 1 with (fail)
  rw [HW1.out]
  go_wp2
  go_loopw [4, 51] (fun _ i W => ∃ k : Nat, k ≤ n1 ∧ i = .int .i64 k ∧ Below W1.heap.size W1 W ∧ ∀ q, q < k → baseOk c q = true) (fun _ i _ => n1 - (intOf i).toNat)
  case atStart => exact ⟨0, Nat.zero_le _, rfl, Below.refl _ _, fun _ h => absurd h (by omega)⟩
  case round =>
    obtain ⟨k, hk, rfl, hbl, hall⟩ := hrel
    have HN1 := HN.out.1
    have HG3 := HG.out.1
    have zz1 := (hbl.cell (p := ⟨w.heap.size, 1, none⟩) (by rw [hsz1]; exact Nat.lt_succ_self _)).trans z1
    have zz2 := (hbl.cell (p := ⟨w.heap.size, 2, none⟩) (by rw [hsz1]; exact Nat.lt_succ_self _)).trans z2
    have HB := Lib.hid hbl
    have HALL := Lib.hid hall
    by_cases hlt : k < n1
    · obtain ⟨b, o, ha1, e1⟩ := rd_i64 (HI1.out.below hbl).r1 k (by omega)
      obtain ⟨d, o2, ha2, e2⟩ := rd_i64 (HI1.out.below hbl).r2 k (by omega)
      rw [HA.out.1] at ha1
      rw [HA.out.2.1] at ha2
      have hbk : baseOk c k = (!outb (c.base.getD k 0) 65536 && !outb (c.dflt.getD k 0) n1) := by unfold baseOk; rw [HN1]
      generalize c.base.getD k 0 = B at *
      generalize c.dflt.getD k 0 = D at *
      have HBK := Lib.hid hbk
      clear hbl hall HN1 HG3 hbk
      subst ha1 ha2
      by_cases t1 : B < 0
      · have hB : outb B 65536 = true := by simp [outb, t1]
        have hF : R = false := by
          rw [← HRC.out]
          have : (List.range n1).all (baseOk c) ≠ true := fun h => by
            have h2 := (all_range n1 (baseOk c)).1 h k hlt
            rw [HBK.out, hB] at h2
            simp at h2
          rw [Bool.eq_false_iff.2 this]
          rfl
        clear HRC
        subst hF
        go_wp2
        go_ret
        exact ⟨rfl, HB1.out.trans (HB.out.mono (by omega))⟩
      by_cases t2 : 65535 < B
      · have hB : outb B 65536 = true := by simp [outb]; omega
        have hF : R = false := by
          rw [← HRC.out]
          have : (List.range n1).all (baseOk c) ≠ true := fun h => by
            have h2 := (all_range n1 (baseOk c)).1 h k hlt
            rw [HBK.out, hB] at h2
            simp at h2
          rw [Bool.eq_false_iff.2 this]
          rfl
        clear HRC
        subst hF
        go_wp2
        go_ret
        exact ⟨rfl, HB1.out.trans (HB.out.mono (by omega))⟩
      by_cases t3 : D < 0
      · have hB : outb D n1 = true := by simp [outb, t3]
        have hF : R = false := by
          rw [← HRC.out]
          have : (List.range n1).all (baseOk c) ≠ true := fun h => by
            have h2 := (all_range n1 (baseOk c)).1 h k hlt
            rw [HBK.out, hB] at h2
            simp at h2
          rw [Bool.eq_false_iff.2 this]
          rfl
        clear HRC
        subst hF
        go_wp2
        go_ret
        exact ⟨rfl, HB1.out.trans (HB.out.mono (by omega))⟩
      by_cases t4 : (n1 : Int) ≤ D
      · have hB : outb D n1 = true := by simp [outb, t4]
        have hF : R = false := by
          rw [← HRC.out]
          have : (List.range n1).all (baseOk c) ≠ true := fun h => by
            have h2 := (all_range n1 (baseOk c)).1 h k hlt
            rw [HBK.out, hB] at h2
            simp at h2
          rw [Bool.eq_false_iff.2 this]
          rfl
        clear HRC
        subst hF
        go_wp2
        go_ret
        exact ⟨rfl, HB1.out.trans (HB.out.mono (by omega))⟩
      have hB : outb B 65536 = false := by simp [outb]; omega
      have hD : outb D n1 = false := by simp [outb]; omega
      have hnx : ∀ q, q < k + 1 → baseOk c q = true := fun q hq => by
        rcases Nat.lt_succ_iff_lt_or_eq.1 hq with h | h
        · exact HALL.out q h
        · subst h
          rw [HBK.out, hB, hD]
          rfl
      have HNX := Lib.hid hnx
      clear hnx hB hD
      go_wp2
      go_roundw
      case rel => exact ⟨k + 1, by omega, by go_num, HB.out, HNX.out⟩
      case measure => simp [intOf]; omega
    · obtain rfl : k = n1 := by omega
      have hAll : (List.range k).all (baseOk c) = true := (all_range k (baseOk c)).2 hall
      have hR2 := HRC.out
      rw [hAll, Bool.true_and] at hR2
      have HR2 := Lib.hid hR2
      have zz3 := (hbl.cell (p := ⟨w.heap.size, 3, none⟩) (by rw [hsz1]; exact Nat.lt_succ_self _)).trans z3
      have zz4 := (hbl.cell (p := ⟨w.heap.size, 4, none⟩) (by rw [hsz1]; exact Nat.lt_succ_self _)).trans z4
      have HBS := Lib.hid hall
      clear hall HALL hAll hbl hR2 HRC
      go_wp2
      go_loopw [5, 6, 89] (fun _ _ i V => ∃ j : Nat, j ≤ n4 ∧ i = .int .i64 j ∧ Below W1.heap.size W1 V ∧ ∀ q, q < j → rslot c q = true) (fun _ _ i _ => n4 - (intOf i).toNat)
      case atStart => exact ⟨0, Nat.zero_le _, rfl, HB.out, fun _ h => absurd h (by omega)⟩
      case round =>
        obtain ⟨j, hj, rfl, hbl, hall⟩ := hrel
        have HN4 := HN.out.2
        have zz0 := (hbl.cell (p := ⟨w.heap.size, 0, none⟩) (by rw [hsz1]; exact Nat.lt_succ_self _)).trans z0
        have zz1 := (hbl.cell (p := ⟨w.heap.size, 1, none⟩) (by rw [hsz1]; exact Nat.lt_succ_self _)).trans z1
        have zz3 := (hbl.cell (p := ⟨w.heap.size, 3, none⟩) (by rw [hsz1]; exact Nat.lt_succ_self _)).trans z3
        have zz4 := (hbl.cell (p := ⟨w.heap.size, 4, none⟩) (by rw [hsz1]; exact Nat.lt_succ_self _)).trans z4
        have HALL := Lib.hid hall
        have HBL := Lib.hid hbl
        by_cases hlt : j < n4
        · obtain ⟨g, o4, ha4, e4⟩ := rd_i64 (HI1.out.below hbl).r4 j (by have := HN.out.2; omega)
          obtain ⟨f, o3, ha3, e3⟩ := rd_i64 (HI1.out.below hbl).r3 j (by have := HN.out.2; have := HG.out.2; omega)
          rw [HA.out.2.2.2] at ha4
          rw [HA.out.2.2.1] at ha3
          have hrd1 := (HI1.out.below hbl).r1
          obtain ⟨CK, hCK⟩ : ∃ x, c.check.getD j 0 = x := ⟨_, rfl⟩
          obtain ⟨NX, hNX⟩ : ∃ x, c.next.getD j 0 = x := ⟨_, rfl⟩
          have hrse : rslot c j = ((decide (CK = -1) && (decide (NX = 0) && decide (j + 1 < n4))) || (!outb CK k && (!outb ((j : Int) - c.base.getD CK.toNat 0) c.wide && !outb NX k))) := by
            unfold rslot rskip
            rw [hCK, hNX, HN.out.1, HN.out.2]
          rw [hCK] at e4
          rw [hNX] at e3
          subst ha3 ha4
          have hj1 : IntKind.i64.wrap ((n4 : Int) - 1) = (n4 : Int) - 1 := by rw [IntKind.wrap_i64]; omega
          clear hall hbl hCK hNX
          by_cases hm : CK = -1
          · subst hm
            have hob : outb (-1) (k : Int) = true := by simp [outb]
            have c1 : decide ((-1 : Int) < 0) = true := by decide
            by_cases hz : NX = 0
            · subst hz
              by_cases hl : j + 1 < n4
              · have hrs : rslot c j = true := by rw [hrse]; simp [hl]
                have i1 : (j : Int) < (n4 : Int) - 1 := by omega
                have hnx : ∀ q, q < j + 1 → rslot c q = true := fun q hq => by
                  rcases Nat.lt_succ_iff_lt_or_eq.1 hq with h | h
                  · exact HALL.out q h
                  · subst h
                    exact hrs
                have HNX := Lib.hid hnx
                clear hnx hrs
                clear hrse hrd1
                go_wp2
                go_roundw
                case rel => exact ⟨j + 1, by omega, by go_num, HBL.out, HNX.out⟩
                case measure => simp [intOf]; omega
              · have i1 : ¬ (j : Int) < (n4 : Int) - 1 := by omega
                have hrs : rslot c j = false := by
                  rw [hrse, hob, decide_eq_false hl]
                  simp
                have hF : R = false := by
                  rw [← HR2.out]
                  have : (List.range n4).all (rslot c) ≠ true := fun h => by
                    have h2 := (all_range n4 (rslot c)).1 h j hlt
                    rw [hrs] at h2
                    cases h2
                  exact Bool.eq_false_iff.2 this
                clear HR2 hrs
                subst hF
                clear hrse hrd1 hob
                go_wp2_with (fail)
                go_quiet (fail)
                go_wp2
                go_ret
                exact ⟨rfl, below_drewN (HB1.out.trans (HBL.out.mono (by omega))) _⟩
            · have zb : (NX == 0) = false := by simpa using hz
              have zd : decide (NX = 0) = false := by simpa using hz
              have hrs : rslot c j = false := by
                rw [hrse, hob, zd]
                simp
              have hF : R = false := by
                rw [← HR2.out]
                have : (List.range n4).all (rslot c) ≠ true := fun h => by
                  have h2 := (all_range n4 (rslot c)).1 h j hlt
                  rw [hrs] at h2
                  cases h2
                exact Bool.eq_false_iff.2 this
              clear HR2 hrs
              subst hF
              clear hrse hrd1 hob
              go_wp2_with (fail)
              go_quiet (fail)
              go_wp2
              go_ret
              exact ⟨rfl, below_drewN (HB1.out.trans (HBL.out.mono (by omega))) _⟩
          · have hmb : (CK == -1) = false := by simpa using hm
            have hmd : decide (CK = -1) = false := by simpa using hm
            rw [hmd, Bool.false_and, Bool.false_or] at hrse
            by_cases t1 : CK < 0
            · have hob : outb CK (k : Int) = true := by simp [outb, t1]
              have c1 : decide (CK < 0) = true := by simpa using t1
              have hrs : rslot c j = false := by
                rw [hrse, hob]
                rfl
              have hF : R = false := by
                rw [← HR2.out]
                have : (List.range n4).all (rslot c) ≠ true := fun h => by
                  have h2 := (all_range n4 (rslot c)).1 h j hlt
                  rw [hrs] at h2
                  cases h2
                exact Bool.eq_false_iff.2 this
              clear HR2 hrs
              subst hF
              clear hrse hrd1 hob
              go_wp2_with (fail)
              go_quiet (fail)
              go_wp2
              go_ret
              exact ⟨rfl, below_drewN (HB1.out.trans (HBL.out.mono (by omega))) _⟩
            have c1 : decide (CK < 0) = false := by simpa using t1
            by_cases t2 : (k : Int) ≤ CK
            · have hob : outb CK (k : Int) = true := by simp [outb, t2]
              have c2 : decide ((k : Int) ≤ CK) = true := by simpa using t2
              have hrs : rslot c j = false := by
                rw [hrse, hob]
                rfl
              have hF : R = false := by
                rw [← HR2.out]
                have : (List.range n4).all (rslot c) ≠ true := fun h => by
                  have h2 := (all_range n4 (rslot c)).1 h j hlt
                  rw [hrs] at h2
                  cases h2
                exact Bool.eq_false_iff.2 this
              clear HR2 hrs
              subst hF
              clear hrse hrd1 hob
              go_wp2_with (fail)
              go_quiet (fail)
              go_wp2
              go_ret
              exact ⟨rfl, below_drewN (HB1.out.trans (HBL.out.mono (by omega))) _⟩
            have c2 : decide ((k : Int) ≤ CK) = false := by simpa using t2
            have hob : outb CK (k : Int) = false := by simp only [outb, Bool.or_eq_false_iff]; exact ⟨c1, c2⟩
            obtain ⟨r, rfl⟩ : ∃ r : Nat, CK = (r : Int) := ⟨CK.toNat, by omega⟩
            have hrn : r < k := by omega
            obtain ⟨b, o, ha1, e1⟩ := rd_i64 hrd1 r (by have := HN.out.1; omega)
            rw [HA.out.1] at ha1
            have htn : ((r : Int)).toNat = r := by omega
            have hbs := HBS.out r hrn
            rw [htn, hob, Bool.not_false, Bool.true_and] at hrse
            unfold baseOk at hbs
            generalize c.base.getD r 0 = B at *
            simp only [outb, Bool.and_eq_true, Bool.not_eq_true', Bool.or_eq_false_iff, decide_eq_false_iff_not] at hbs
            have hB0 : 0 ≤ B := by omega
            have hB1 : B < 65536 := by omega
            have hws : IntKind.i64.wrap (B + c.wide) = B + c.wide := by rw [IntKind.wrap_i64]; omega
            have hrn2 : (r : Int) < (k : Int) := by omega
            have c2n : decide (k ≤ r) = false := by simp; omega
            have c1n : decide ((r : Int) < 0) = false := by simp
            have hr0 : (0 : Int) ≤ (r : Int) := by omega
            subst ha1
            clear hbs hrd1 hob htn
            by_cases t3 : (j : Int) < B
            · have hob : outb ((j : Int) - B) c.wide = true := by simp [outb]; omega
              have c3 : decide ((j : Int) < B) = true := by simpa using t3
              have hrs : rslot c j = false := by
                rw [hrse, hob]
                rfl
              have hF : R = false := by
                rw [← HR2.out]
                have : (List.range n4).all (rslot c) ≠ true := fun h => by
                  have h2 := (all_range n4 (rslot c)).1 h j hlt
                  rw [hrs] at h2
                  cases h2
                exact Bool.eq_false_iff.2 this
              clear HR2 hrs
              subst hF
              clear hrse hob
              go_wp2_with (fail)
              go_quiet (fail)
              go_wp2
              go_ret
              exact ⟨rfl, below_drewN (HB1.out.trans (HBL.out.mono (by omega))) _⟩
            have c3 : decide ((j : Int) < B) = false := by simpa using t3
            by_cases t4 : B + c.wide ≤ (j : Int)
            · have hob : outb ((j : Int) - B) c.wide = true := by simp [outb]; omega
              have c4 : decide (B + c.wide ≤ (j : Int)) = true := by simpa using t4
              have hrs : rslot c j = false := by
                rw [hrse, hob]
                rfl
              have hF : R = false := by
                rw [← HR2.out]
                have : (List.range n4).all (rslot c) ≠ true := fun h => by
                  have h2 := (all_range n4 (rslot c)).1 h j hlt
                  rw [hrs] at h2
                  cases h2
                exact Bool.eq_false_iff.2 this
              clear HR2 hrs
              subst hF
              clear hrse hob
              go_wp2_with (fail)
              go_quiet (fail)
              go_wp2
              go_ret
              exact ⟨rfl, below_drewN (HB1.out.trans (HBL.out.mono (by omega))) _⟩
            have c4 : decide (B + c.wide ≤ (j : Int)) = false := by simpa using t4
            by_cases t5 : NX < 0
            · have hob : outb NX (k : Int) = true := by simp [outb, t5]
              have c5 : decide (NX < 0) = true := by simpa using t5
              have hrs : rslot c j = false := by
                rw [hrse, hob]
                simp
              have hF : R = false := by
                rw [← HR2.out]
                have : (List.range n4).all (rslot c) ≠ true := fun h => by
                  have h2 := (all_range n4 (rslot c)).1 h j hlt
                  rw [hrs] at h2
                  cases h2
                exact Bool.eq_false_iff.2 this
              clear HR2 hrs
              subst hF
              clear hrse hob
              go_wp2_with (fail)
              go_quiet (fail)
              go_wp2
              go_ret
              exact ⟨rfl, below_drewN (HB1.out.trans (HBL.out.mono (by omega))) _⟩
            have c5 : decide (NX < 0) = false := by simpa using t5
            by_cases t6 : (k : Int) ≤ NX
            · have hob : outb NX (k : Int) = true := by simp [outb, t6]
              have c6 : decide ((k : Int) ≤ NX) = true := by simpa using t6
              have hrs : rslot c j = false := by
                rw [hrse, hob]
                simp
              have hF : R = false := by
                rw [← HR2.out]
                have : (List.range n4).all (rslot c) ≠ true := fun h => by
                  have h2 := (all_range n4 (rslot c)).1 h j hlt
                  rw [hrs] at h2
                  cases h2
                exact Bool.eq_false_iff.2 this
              clear HR2 hrs
              subst hF
              clear hrse hob
              go_wp2_with (fail)
              go_quiet (fail)
              go_wp2
              go_ret
              exact ⟨rfl, below_drewN (HB1.out.trans (HBL.out.mono (by omega))) _⟩
            have c6 : decide ((k : Int) ≤ NX) = false := by simpa using t6
            have hob : outb ((j : Int) - B) c.wide = false := by simp [outb]; omega
            have hob2 : outb NX (k : Int) = false := by simp only [outb, Bool.or_eq_false_iff]; exact ⟨c5, c6⟩
            have hrs : rslot c j = true := by rw [hrse, hob, hob2]; rfl
            have hnx : ∀ q, q < j + 1 → rslot c q = true := fun q hq => by
              rcases Nat.lt_succ_iff_lt_or_eq.1 hq with h | h
              · exact HALL.out q h
              · subst h
                exact hrs
            have HNX := Lib.hid hnx
            clear hnx hrs
            clear hrse hob hob2
            go_wp2_with (fail)
            go_quiet (fail)
            go_wp2
            go_roundw
            case rel => exact ⟨j + 1, by omega, by go_num, below_drewN HBL.out _, HNX.out⟩
            case measure => simp [intOf]; omega
        · obtain rfl : j = n4 := by omega
          have hAll : (List.range j).all (rslot c) = true := (all_range j (rslot c)).2 hall
          obtain rfl : R = true := by rw [← HR2.out]; exact hAll
          clear HR2 HALL hall hAll hbl
          go_wp2
          go_ret
          exact ⟨rfl, HB1.out.trans (HBL.out.mono (by omega))⟩
set_option maxRecDepth 100000 in
set_option maxHeartbeats 2000000 in
theorem rright_c (c : Cs) (w : World) (hI : Is w c) :
    Calls Tryd.prog 45 #[cv c] w fun e w' => e = .returned (.bool (rightC c)) ∧ Below w.heap.size w w' := by
  have hcv : cv c = .agg #[.int .i64 c.wide, .slice c.a1 c.base.length c.c1, .slice c.a2 c.dflt.length c.c2, .slice c.a3 c.next.length c.c3, .slice c.a4 c.check.length c.c4] := rfl
  rw [hcv]
  obtain ⟨W1, hW1⟩ : ∃ W1, w.alloc (.cells #[.int .i64 c.wide, .slice c.a1 c.base.length c.c1, .slice c.a2 c.dflt.length c.c2, .slice c.a3 c.next.length c.c3, .slice c.a4 c.check.length c.c4] 82 (0, 0)) = W1 := ⟨_, rfl⟩
  have b1 : Below w.heap.size w W1 := by rw [← hW1]; exact (Below.refl _ _).alloc (Nat.le_refl _) _
  have s1 : W1.heap[w.heap.size]? = some (.cells #[.int .i64 c.wide, .slice c.a1 c.base.length c.c1, .slice c.a2 c.dflt.length c.c2, .slice c.a3 c.next.length c.c3, .slice c.a4 c.check.length c.c4] 82 (0, 0)) := by rw [← hW1]; exact heap_alloc_new _ _
  obtain ⟨z0, z1, z2, z3, z4⟩ := box5 s1
  obtain ⟨n1, hn1⟩ : ∃ n1, c.base.length = n1 := ⟨_, rfl⟩
  obtain ⟨n2, hn2⟩ : ∃ n2, c.dflt.length = n2 := ⟨_, rfl⟩
  obtain ⟨n3, hn3⟩ : ∃ n3, c.next.length = n3 := ⟨_, rfl⟩
  obtain ⟨n4, hn4⟩ : ∃ n4, c.check.length = n4 := ⟨_, rfl⟩
  rw [hn1] at z1
  rw [hn2] at z2
  rw [hn3] at z3
  rw [hn4] at z4
  rw [hn1, hn2, hn3, hn4] at hW1 s1
  rw [hn1, hn2, hn3, hn4]
  have HW1 := Lib.hid hW1
  have HB1 := Lib.hid b1
  by_cases h2 : n1 < 1
  · have i2 : (n1 : Int) < 1 := by omega
    have hf : rightC c = false := by simp [rightC]; omega
    rw [hf]
    clear hcv hW1 hI s1 b1 hf
    go_enter Tryd.func45, Tryd.ntmps45
    go_upto_region 1 with (fail)
    rw [HW1.out]
    go_wp2
    go_ret
    exact ⟨rfl, HB1.out⟩
  · have i2 : ¬ (n1 : Int) < 1 := by omega
    by_cases h4 : 200 < n1
    · have i4 : (200 : Int) < (n1 : Int) := by omega
      have hf : rightC c = false := by simp [rightC]; omega
      rw [hf]
      clear hcv hW1 hI s1 b1 hf
      go_enter Tryd.func45, Tryd.ntmps45
      go_upto_region 1 with (fail)
      rw [HW1.out]
      go_wp2
      go_ret
      exact ⟨rfl, HB1.out⟩
    · have i4 : ¬ (200 : Int) < (n1 : Int) := by omega
      by_cases h6 : n2 ≠ n1
      · have j6 : ((n2 : Int) != (n1 : Int)) = true := by simp; omega
        have l6 : ¬ ((n2 : Int) = (n1 : Int)) := by omega
        have hf : rightC c = false := by simp [rightC]; omega
        rw [hf]
        clear hcv hW1 hI s1 b1 hf
        go_enter Tryd.func45, Tryd.ntmps45
        go_upto_region 1 with (fail)
        rw [HW1.out]
        go_wp2
        go_ret
        exact ⟨rfl, HB1.out⟩
      · obtain rfl : n2 = n1 := by omega
        by_cases h8 : c.wide < 1
        · have hf : rightC c = false := by simp [rightC]; omega
          rw [hf]
          clear hcv hW1 hI s1 b1 hf
          go_enter Tryd.func45, Tryd.ntmps45
          go_upto_region 1 with (fail)
          rw [HW1.out]
          go_wp2
          go_ret
          exact ⟨rfl, HB1.out⟩
        · skip
          by_cases h10 : 256 < c.wide
          · have hf : rightC c = false := by simp [rightC]; omega
            rw [hf]
            clear hcv hW1 hI s1 b1 hf
            go_enter Tryd.func45, Tryd.ntmps45
            go_upto_region 1 with (fail)
            rw [HW1.out]
            go_wp2
            go_ret
            exact ⟨rfl, HB1.out⟩
          · skip
            by_cases h12 : n3 ≠ n4
            · have j12 : ((n3 : Int) != (n4 : Int)) = true := by simp; omega
              have l12 : ¬ ((n3 : Int) = (n4 : Int)) := by omega
              have hf : rightC c = false := by simp [rightC]; omega
              rw [hf]
              clear hcv hW1 hI s1 b1 hf
              go_enter Tryd.func45, Tryd.ntmps45
              go_upto_region 1 with (fail)
              rw [HW1.out]
              go_wp2
              go_ret
              exact ⟨rfl, HB1.out⟩
            · obtain rfl : n3 = n4 := by omega
              by_cases h14 : 65536 < n3
              · have i14 : (65536 : Int) < (n3 : Int) := by omega
                have hf : rightC c = false := by simp [rightC]; omega
                rw [hf]
                clear hcv hW1 hI s1 b1 hf
                go_enter Tryd.func45, Tryd.ntmps45
                go_upto_region 1 with (fail)
                rw [HW1.out]
                go_wp2
                go_ret
                exact ⟨rfl, HB1.out⟩
              · have i14 : ¬ (65536 : Int) < (n3 : Int) := by omega
                have hok := rright_ok c w hI (by omega) (by omega) (by omega) h8 h10 (by omega) (by omega)
                rw [hcv, hn1, hn2, hn3, hn4] at hok
                exact hok
end Cb
end Go.Proofs.YteekonojmpihlaaDoor
