/- slices.symMergeCmpFunc at Lay's closure: one on the right. -/
import Derived.Test.YteekonojmpihlaaDoorQCbRot
namespace Go.Proofs.YteekonojmpihlaaDoor
namespace Kt
end Kt
open Go Go.RowKit Go.Sort Kt
namespace Cb
variable {w V : World} {g cap N : Nat} {d : Array Nat}
set_option maxRecDepth 100000 in
set_option maxHeartbeats 4000000 in
theorem sym_right (M : Nat) (key : Nat → Nat) (a m : Nat) (ham : a + 1 < m) (hb : m + 1 ≤ N) (hN : N ≤ 1000) (hc : CmpOK w g M N key) (h : Sr w g cap N d V) (hm : Mg (lx key) d a m (m + 1)) :
    Calls Tryd.prog 124 #[.slice (some ⟨g, 0, none⟩) N cap, .int .i64 (a : Int), .int .i64 (m : Int), .int .i64 ((m + 1 : Nat) : Int), .func (.func 76) #[] #[.pointer (some ⟨M, 0, none⟩)]] V fun e w' => e = .returned (.tuple #[]) ∧ ∃ d', Sr w g cap N d' w' ∧ PermIn a (m + 1) d d' ∧ SortedIn (lx key) a (m + 1) d' := by
  have HC := Lib.hid hc
  have H := Lib.hid h
  have HM := Lib.hid hm
  clear hc h hm
  obtain ⟨b, hmb⟩ : ∃ b, m + 1 = b := ⟨_, rfl⟩
  rw [hmb]
  obtain ⟨ma, hma⟩ : ∃ x, m - a = x := ⟨_, rfl⟩
  have q0 : (m : Int) - (a : Int) = (ma : Int) := by omega
  have q1 : IntKind.i64.wrap ((m : Int) - (a : Int)) = (ma : Int) := by rw [IntKind.wrap_i64]; omega
  have q2 : ((ma : Int) == 1) = false := by simp; omega
  have q3 : decide ((ma : Int) = 1) = false := by simp; omega
  have q3n : decide (ma = 1) = false := by simp; omega
  have q4 : (b : Int) - (m : Int) = 1 := by omega
  have q5 : IntKind.i64.wrap ((b : Int) - (m : Int)) = 1 := by rw [IntKind.wrap_i64]; omega
  have HMB := Lib.hid hmb
  clear hmb hma
  go_enter Tryd.func124, Tryd.ntmps124
  go_wp2
  go_loopw [14, 15, 16] (fun vi vj _ V => ∃ (i j : Nat), vi = .int .i64 (i : Int) ∧ vj = .int .i64 (j : Int) ∧ a ≤ i ∧ i ≤ j ∧ j ≤ m ∧ Sr w g cap N d V ∧ (∀ q, a ≤ q → q < i → lx key d[m]! d[q]! = false) ∧ (∀ q, j ≤ q → q < m → lx key d[m]! d[q]! = true)) (fun vi vj _ _ => (intOf vj).toNat - (intOf vi).toNat)
  case atStart => exact ⟨a, m, rfl, rfl, Nat.le_refl _, by omega, Nat.le_refl _, H.out, fun q h1 h2 => by omega, fun q h1 h2 => by omega⟩
  case round =>
    obtain ⟨i, j, rfl, rfl, hai, hij, hjm, hs, hlo, hhi⟩ := hrel
    have HS := Lib.hid hs
    have HLo := Lib.hid hlo
    have HHi := Lib.hid hhi
    clear hs hlo hhi
    by_cases hlt : i < j
    · have hlti : (i : Int) < (j : Int) := by omega
      obtain ⟨S, hS⟩ : ∃ S, i + j = S := ⟨_, rfl⟩
      have s1 : (i : Int) + (j : Int) = (S : Int) := by omega
      have w1 : IntKind.i64.wrap ((i : Int) + (j : Int)) = (S : Int) := by rw [IntKind.wrap_i64]; omega
      have w2 : IntKind.u64.wrap (S : Int) = (S : Int) := by rw [IntKind.wrap_u64]; omega
      obtain ⟨h, hh⟩ : ∃ h, S / 2 = h := ⟨_, rfl⟩
      have s2 : (S : Int) / 2 = (h : Int) := by omega
      have w3 : IntKind.i64.wrap (h : Int) = (h : Int) := by rw [IntKind.wrap_i64]; omega
      have hih : i ≤ h := by omega
      have hhj : h < j := by omega
      have c1 := HS.out.cell m (by omega)
      have c2 := HS.out.cell h (by omega)
      have b1 := HS.out.bd m (by omega)
      have b2 := HS.out.bd h (by omega)
      have hid := HM.out.ids h m (by omega) (by omega) (Nat.le_refl _) (by omega)
      obtain ⟨x, hx⟩ : ∃ x, d[m]! = x := ⟨_, rfl⟩
      obtain ⟨y, hy⟩ : ∃ y, d[h]! = y := ⟨_, rfl⟩
      rw [hx] at c1 b1 hid
      rw [hy] at c2 b2 hid
      have hcl : ∀ n, Calls Tryd.prog 76 #[.int .i64 (x : Int), .int .i64 (y : Int), .pointer (some ⟨M, 0, none⟩)] (wr.drewN n) fun e w' => e = .returned (.int .i64 (cmp3 (key y) (key x))) ∧ wr.drewN n = w' := fun n => HC.out x y b1 b2 _ (HS.out.mod.drewN n)
      have hky : decide (cmp3 (key y) (key x) < 0) = lx key x y := by
        rw [cmp3_neg]
        exact ky_lx hid
      obtain ⟨Z, hZ⟩ : ∃ Z, cmp3 (key y) (key x) = Z := ⟨_, rfl⟩
      rw [hZ] at hky
      rw [hZ] at hcl
      have HCl := Lib.hid hcl
      have HX := Lib.hid (And.intro hx hy)
      have p1 : (m : Int) < (N : Int) := by omega
      have p2 : (h : Int) < (N : Int) := by omega
      have w4 : IntKind.i64.wrap ((h : Int) + 1) = (h : Int) + 1 := by rw [IntKind.wrap_i64]; omega
      clear hS hh hcl hx hy hZ
      cases hk : lx key x y with
      | true =>
        rw [hk] at hky
        have hZn : Z < 0 := by simpa using hky
        have hnx : ∀ q, h ≤ q → q < m → lx key d[m]! d[q]! = true := fun q h1 h2 => by
          cases hq : lx key d[m]! d[q]! with
          | true => rfl
          | false =>
            have h3 : lx key d[q]! d[h]! = false := by
              rcases Nat.lt_or_ge h q with h4 | h4
              · exact HM.out.left h q (by omega) h4 h2
              · rw [show q = h by omega]; exact (lx_swo key).irrefl _
            have h5 := (lx_swo key).ntrans _ _ _ hq h3
            rw [HX.out.1, HX.out.2, hk] at h5
            cases h5
        have HNx := Lib.hid hnx
        clear hnx hk
        go_wp2_with fail
        go_quiet (exact Calls.quiet_of_same ((HCl.out _).mono fun _ _ ⟨h1, h2⟩ => ⟨h1, h2.symm⟩))
        go_wp2
        go_roundw
        case rel => exact ⟨i, h, rfl, rfl, hai, hih, by omega, HS.out.drewN _, HLo.out, HNx.out⟩
        case measure => simp [intOf]; omega
      | false =>
        rw [hk] at hky
        have hZn : decide (Z < 0) = false := hky
        have hnx : ∀ q, a ≤ q → q < h + 1 → lx key d[m]! d[q]! = false := fun q h1 h2 => by
          have h3 : lx key d[h]! d[q]! = false := by
            rcases Nat.lt_or_ge q h with h4 | h4
            · exact HM.out.left q h h1 h4 (by omega)
            · rw [show q = h by omega]; exact (lx_swo key).irrefl _
          exact (lx_swo key).ntrans _ _ _ (by rw [HX.out.1, HX.out.2]; exact hk) h3
        have HNx := Lib.hid hnx
        clear hnx hk
        go_wp2_with fail
        go_quiet (exact Calls.quiet_of_same ((HCl.out _).mono fun _ _ ⟨h1, h2⟩ => ⟨h1, h2.symm⟩))
        go_wp2
        go_roundw
        case rel => exact ⟨h + 1, j, by go_num, rfl, by omega, by omega, hjm, HS.out.drewN _, HNx.out, HHi.out⟩
        case measure => simp [intOf]; omega
    · obtain rfl : i = j := by omega
      have hlti : ¬ (i : Int) < (i : Int) := by omega
      have hfin := one_right (lx_swo key) (d := d) (a := a) (i := i) (m := m) (by rw [HS.out.sz]; exact hb) HM.out.left hai hjm HLo.out HHi.out
      rw [HMB.out] at hfin
      have HFin := Lib.hid hfin
      clear hfin
      go_wp2
      go_loopw [17] (fun vk V => ∃ (t k : Nat), vk = .int .i64 (k : Int) ∧ k + t = m ∧ i ≤ k ∧ Sr w g cap N (shL d m t) V) (fun vk _ => (intOf vk).toNat)
      case atStart => exact ⟨0, m, rfl, rfl, by omega, HS.out⟩
      case round =>
        obtain ⟨t, k, rfl, hk, hik, hs⟩ := hrel
        have HSt := Lib.hid hs
        clear hs
        by_cases hlt : i < k
        · have hlti : (i : Int) < (k : Int) := by omega
          obtain ⟨k1, hk1⟩ : ∃ x, k - 1 = x := ⟨_, rfl⟩
          have s3 : (k : Int) - 1 = (k1 : Int) := by omega
          have w3 : IntKind.i64.wrap ((k : Int) - 1) = (k1 : Int) := by rw [IntKind.wrap_i64]; omega
          have p1 : (k : Int) < (N : Int) := by omega
          have p2 : (k1 : Int) < (N : Int) := by omega
          have c1 := HSt.out.cell k (by omega)
          have c2 := HSt.out.cell k1 (by omega)
          have f1 := HSt.out.row.fr k
          have f2 := HSt.out.row.fr k1
          have hsw := HSt.out.swap k k1 (by omega) (by omega)
          have hst : swp (shL d m t) k k1 = shL d m (t + 1) := by rw [shL, show m - t = k by omega, hk1]
          rw [hst] at hsw
          have hne : k ≠ k1 := by omega
          generalize (shL d m t)[k]! = x at *
          generalize (shL d m t)[k1]! = y at *
          have HSw := Lib.hid hsw
          have HK := Lib.hid (And.intro hk hk1)
          clear hsw hst hk hk1
          go_wp2_with fail
          go_region
          all_goals go_wp2
          go_roundw
          case rel => exact ⟨t + 1, k1, rfl, by have := HK.out; omega, by have := HK.out; omega, by first | exact HSw.out | exact HSw.out.drew⟩
          case measure => have := HK.out; simp [intOf]; omega
        · have hlti : ¬ (i : Int) < (k : Int) := by omega
          have he : shL d m t = shL d m (m - i) := by rw [show t = m - i by omega]
          have HE := Lib.hid he
          clear he hk
          go_wp2
          ((try simp only [Exit.inBlock, Exit.then]); refine bodyPost_ret (results_none rfl _ _ _) rfl ?_)
          exact ⟨rfl, _, by rw [← HE.out]; exact HSt.out, HFin.out.1, HFin.out.2⟩
end Cb
end Go.Proofs.YteekonojmpihlaaDoor
