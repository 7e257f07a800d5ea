/- slices.symMergeCmpFunc at Lay's closure. -/
import Derived.Test.YteekonojmpihlaaDoorQCbRot
namespace Go.Proofs.YteekonojmpihlaaDoor
namespace Kt
end Kt
open Go Go.RowKit Go.Sort Kt
namespace Cb
variable {w V : World} {g cap N : Nat} {d : Array Nat}
set_option maxRecDepth 100000 in
set_option maxHeartbeats 4000000 in
theorem sym_left (M : Nat) (key : Nat → Nat) (a b : Nat) (hab : a + 1 < b) (hb : b ≤ N) (hN : N ≤ 1000) (hc : CmpOK w g M N key) (h : Sr w g cap N d V) (hm : Mg (lx key) d a (a + 1) b) :
    Calls Tryd.prog 124 #[.slice (some ⟨g, 0, none⟩) N cap, .int .i64 (a : Int), .int .i64 ((a + 1 : Nat) : Int), .int .i64 (b : Int), .func (.func 76) #[] #[.pointer (some ⟨M, 0, none⟩)]] V fun e w' => e = .returned (.tuple #[]) ∧ ∃ d', Sr w g cap N d' w' ∧ PermIn a b d d' ∧ SortedIn (lx key) a b d' := by
  have HC := Lib.hid hc
  have H := Lib.hid h
  have HM := Lib.hid hm
  clear hc h hm
  obtain ⟨m, hma⟩ : ∃ m, a + 1 = m := ⟨_, rfl⟩
  rw [hma]
  have q0 : (m : Int) - (a : Int) = 1 := by omega
  have q1 : IntKind.i64.wrap ((m : Int) - (a : Int)) = 1 := by rw [IntKind.wrap_i64]; omega
  have HMA := Lib.hid hma
  clear hma
  go_enter Tryd.func124, Tryd.ntmps124
  go_wp2
  go_loopw [10, 11, 12] (fun vi vj _ V => ∃ (i j : Nat), vi = .int .i64 (i : Int) ∧ vj = .int .i64 (j : Int) ∧ m ≤ i ∧ i ≤ j ∧ j ≤ b ∧ Sr w g cap N d V ∧ (∀ q, m ≤ q → q < i → lx key d[q]! d[a]! = true) ∧ (∀ q, j ≤ q → q < b → lx key d[q]! d[a]! = false)) (fun vi vj _ _ => (intOf vj).toNat - (intOf vi).toNat)
  case atStart => exact ⟨m, b, rfl, rfl, Nat.le_refl _, by have := HMA.out; omega, Nat.le_refl _, H.out, fun q h1 h2 => by omega, fun q h1 h2 => by omega⟩
  case round =>
    obtain ⟨i, j, rfl, rfl, hmi, hij, hjb, hs, hlo, hhi⟩ := hrel
    have HS := Lib.hid hs
    have HLo := Lib.hid hlo
    have HHi := Lib.hid hhi
    clear hs hlo hhi
    by_cases hlt : i < j
    · have hlti : (i : Int) < (j : Int) := by omega
      obtain ⟨S, hS⟩ : ∃ S, i + j = S := ⟨_, rfl⟩
      have s1 : (i : Int) + (j : Int) = (S : Int) := by omega
      have w1 : IntKind.i64.wrap ((i : Int) + (j : Int)) = (S : Int) := by rw [IntKind.wrap_i64]; omega
      have w2 : IntKind.u64.wrap (S : Int) = (S : Int) := by rw [IntKind.wrap_u64]; omega
      obtain ⟨h, hh⟩ : ∃ h, S / 2 = h := ⟨_, rfl⟩
      have s2 : (S : Int) / 2 = (h : Int) := by omega
      have w3 : IntKind.i64.wrap (h : Int) = (h : Int) := by rw [IntKind.wrap_i64]; omega
      have hih : i ≤ h := by omega
      have hhj : h < j := by omega
      have hma := HMA.out
      have c1 := HS.out.cell h (by omega)
      have c2 := HS.out.cell a (by omega)
      have b1 := HS.out.bd h (by omega)
      have b2 := HS.out.bd a (by omega)
      have hid := HM.out.ids a h (Nat.le_refl _) (by omega) (by omega) (by omega)
      obtain ⟨x, hx⟩ : ∃ x, d[h]! = x := ⟨_, rfl⟩
      obtain ⟨y, hy⟩ : ∃ y, d[a]! = y := ⟨_, rfl⟩
      rw [hx] at c1 b1 hid
      rw [hy] at c2 b2 hid
      have hcl : ∀ n, Calls Tryd.prog 76 #[.int .i64 (x : Int), .int .i64 (y : Int), .pointer (some ⟨M, 0, none⟩)] (wr.drewN n) fun e w' => e = .returned (.int .i64 (cmp3 (key y) (key x))) ∧ wr.drewN n = w' := fun n => HC.out x y b1 b2 _ (HS.out.mod.drewN n)
      have hky : decide (cmp3 (key y) (key x) < 0) = lx key x y := by
        rw [cmp3_neg]
        exact ky_lx hid
      obtain ⟨Z, hZ⟩ : ∃ Z, cmp3 (key y) (key x) = Z := ⟨_, rfl⟩
      rw [hZ] at hky
      rw [hZ] at hcl
      have HCl := Lib.hid hcl
      have HX := Lib.hid (And.intro hx hy)
      have p1 : (h : Int) < (N : Int) := by omega
      have p2 : (a : Int) < (N : Int) := by omega
      have w4 : IntKind.i64.wrap ((h : Int) + 1) = (h : Int) + 1 := by rw [IntKind.wrap_i64]; omega
      clear hS hh hcl hx hy hZ hma
      cases hk : lx key x y with
      | true =>
        rw [hk] at hky
        have hZn : Z < 0 := by simpa using hky
        have hnx : ∀ q, m ≤ q → q < h + 1 → lx key d[q]! d[a]! = true := fun q h1 h2 => by
          cases hq : lx key d[q]! d[a]! with
          | true => rfl
          | false =>
            have h3 : lx key d[h]! d[q]! = false := by
              rcases Nat.lt_or_ge q h with h4 | h4
              · exact HM.out.right q h (by have := HMA.out; omega) h4 (by omega)
              · rw [show q = h by omega]; exact (lx_swo key).irrefl _
            have h5 := (lx_swo key).ntrans _ _ _ h3 hq
            rw [HX.out.1, HX.out.2, hk] at h5
            cases h5
        have HNx := Lib.hid hnx
        clear hnx hk
        go_wp2_with fail
        go_quiet (exact Calls.quiet_of_same ((HCl.out _).mono fun _ _ ⟨h1, h2⟩ => ⟨h1, h2.symm⟩))
        go_wp2
        go_roundw
        case rel => exact ⟨h + 1, j, by go_num, rfl, by omega, by omega, hjb, HS.out.drewN _, HNx.out, HHi.out⟩
        case measure => simp [intOf]; omega
      | false =>
        rw [hk] at hky
        have hZn : decide (Z < 0) = false := hky
        have hnx : ∀ q, h ≤ q → q < b → lx key d[q]! d[a]! = false := fun q h1 h2 => by
          have h3 : lx key d[q]! d[h]! = false := by
            rcases Nat.lt_or_ge h q with h4 | h4
            · exact HM.out.right h q (by have := HMA.out; omega) h4 h2
            · rw [show q = h by omega]; exact (lx_swo key).irrefl _
          exact (lx_swo key).ntrans _ _ _ h3 (by rw [HX.out.1, HX.out.2]; exact hk)
        have HNx := Lib.hid hnx
        clear hnx hk
        go_wp2_with fail
        go_quiet (exact Calls.quiet_of_same ((HCl.out _).mono fun _ _ ⟨h1, h2⟩ => ⟨h1, h2.symm⟩))
        go_wp2
        go_roundw
        case rel => exact ⟨i, h, rfl, rfl, hmi, hih, by omega, HS.out.drewN _, HLo.out, HNx.out⟩
        case measure => simp [intOf]; omega
    · obtain rfl : i = j := by omega
      have hlti : ¬ (i : Int) < (i : Int) := by omega
      have hma := HMA.out
      have hfin := one_left (lx_swo key) (d := d) (a := a) (i := i) (b := b) (by rw [HS.out.sz]; exact hb) (by rw [hma]; exact HM.out.right |> fun hh => by rw [← hma]; exact hh) (by omega) hjb (fun q h1 h2 => HLo.out q (by omega) h2) (fun q h1 h2 => HHi.out q h1 h2) (by omega)
      have HFin := Lib.hid hfin
      obtain ⟨i1, hi1⟩ : ∃ x, i - 1 = x := ⟨_, rfl⟩
      have s1 : (i : Int) - 1 = (i1 : Int) := by omega
      have w1 : IntKind.i64.wrap ((i : Int) - 1) = (i1 : Int) := by rw [IntKind.wrap_i64]; omega
      have hai : a ≤ i1 := by omega
      have HI1 := Lib.hid hi1
      have hi1b : i1 < b := by omega
      clear hfin hma hi1
      go_wp2
      go_loopw [13] (fun vk V => ∃ t : Nat, vk = .int .i64 ((a + t : Nat) : Int) ∧ a + t ≤ i1 ∧ Sr w g cap N (shR d a t) V) (fun vk _ => i1 - (intOf vk).toNat)
      case atStart => exact ⟨0, by simp, by omega, HS.out⟩
      case round =>
        obtain ⟨t, rfl, ht, hs⟩ := hrel
        have HSt := Lib.hid hs
        clear hs
        obtain ⟨k, hk⟩ : ∃ k, a + t = k := ⟨_, rfl⟩
        rw [hk] at ht ⊢
        by_cases hlt : k < i1
        · have hlti : (k : Int) < (i1 : Int) := by omega
          obtain ⟨k1, hk1⟩ : ∃ x, k + 1 = x := ⟨_, rfl⟩
          have s3 : (k : Int) + 1 = (k1 : Int) := by omega
          have w3 : IntKind.i64.wrap ((k : Int) + 1) = (k1 : Int) := by rw [IntKind.wrap_i64]; omega
          have p1 : (k : Int) < (N : Int) := by omega
          have p2 : (k1 : Int) < (N : Int) := by omega
          have c1 := HSt.out.cell k (by omega)
          have c2 := HSt.out.cell k1 (by omega)
          have f1 := HSt.out.row.fr k
          have f2 := HSt.out.row.fr k1
          have hsw := HSt.out.swap k k1 (by omega) (by omega)
          have hst : swp (shR d a t) k k1 = shR d a (t + 1) := by rw [shR, ← hk1, ← hk]
          rw [hst] at hsw
          have hne : k ≠ k1 := by omega
          generalize (shR d a t)[k]! = x at *
          generalize (shR d a t)[k1]! = y at *
          have HSw := Lib.hid hsw
          have HK := Lib.hid (And.intro hk hk1)
          clear hsw hst hk hk1
          go_wp2_with fail
          go_region
          all_goals go_wp2
          go_roundw
          case rel => exact ⟨t + 1, by have := HK.out; (try congr 1); omega, by have := HK.out; omega, by first | exact HSw.out | exact HSw.out.drew⟩
          case measure => have := HK.out; simp [intOf]; omega
        · have hlti : ¬ (k : Int) < (i1 : Int) := by omega
          have he : shR d a t = shR d a (i - 1 - a) := by
            have := HI1.out
            rw [show t = i - 1 - a by omega]
          have HE := Lib.hid he
          clear he hk
          go_wp2
          ((try simp only [Exit.inBlock, Exit.then]); refine bodyPost_ret (results_none rfl _ _ _) rfl ?_)
          exact ⟨rfl, _, by rw [← HE.out]; exact HSt.out, HFin.out.1, HFin.out.2⟩
end Cb
end Go.Proofs.YteekonojmpihlaaDoor
