/- slices.swapRangeCmpFunc, slices.rotateCmpFunc. -/
import Derived.Test.YteekonojmpihlaaDoorQCbIns
import Derived.Test.YteekonojmpihlaaDoorQCbSymP
namespace Go.Proofs.YteekonojmpihlaaDoor
namespace Kt
end Kt
open Go Go.RowKit Go.Sort Kt
namespace Cb
variable {w V : World} {g cap N : Nat} {d : Array Nat}
set_option maxRecDepth 100000 in
set_option maxHeartbeats 4000000 in
theorem swr_c (F : Value) (a b n : Nat) (hab : a + n ≤ b) (hb : b + n ≤ N) (hN : N ≤ 1000) (h : Sr w g cap N d V) :
    Calls Tryd.prog 147 #[.slice (some ⟨g, 0, none⟩) N cap, .int .i64 (a : Int), .int .i64 (b : Int), .int .i64 (n : Int), F] V fun e w' => e = .returned (.tuple #[]) ∧ Sr w g cap N (swR d a b n) w' := by
  have H := Lib.hid h
  clear h
  go_enter Tryd.func147, Tryd.ntmps147
  go_wp2
  go_loopw [10] (fun vi V => ∃ t : Nat, vi = .int .i64 (t : Int) ∧ t ≤ n ∧ Sr w g cap N (swR d a b t) V) (fun vi _ => n - (intOf vi).toNat)
  case atStart => exact ⟨0, rfl, Nat.zero_le _, H.out⟩
  case round =>
    obtain ⟨t, rfl, ht, hs⟩ := hrel
    have HS := Lib.hid hs
    clear hs
    by_cases hlt : t < n
    · have hlti : (t : Int) < (n : Int) := by omega
      obtain ⟨P, hP⟩ : ∃ P, a + t = P := ⟨_, rfl⟩
      obtain ⟨Q, hQ⟩ : ∃ Q, b + t = Q := ⟨_, rfl⟩
      have w1 : IntKind.i64.wrap ((a : Int) + (t : Int)) = (P : Int) := by rw [IntKind.wrap_i64]; omega
      have w2 : IntKind.i64.wrap ((b : Int) + (t : Int)) = (Q : Int) := by rw [IntKind.wrap_i64]; omega
      have s1 : (a : Int) + (t : Int) = (P : Int) := by omega
      have s2 : (b : Int) + (t : Int) = (Q : Int) := by omega
      have p1 : (P : Int) < (N : Int) := by omega
      have p2 : (Q : Int) < (N : Int) := by omega
      have c1 := HS.out.cell P (by omega)
      have c2 := HS.out.cell Q (by omega)
      have f1 := HS.out.row.fr P
      have f2 := HS.out.row.fr Q
      have hsw := HS.out.swap P Q (by omega) (by omega)
      have hst : swp (swR d a b t) P Q = swR d a b (t + 1) := by rw [swR, hP, hQ]
      rw [hst] at hsw
      have hne : P ≠ Q := by omega
      generalize (swR d a b t)[P]! = x at *
      generalize (swR d a b t)[Q]! = y at *
      have HSw := Lib.hid hsw
      clear hsw hst hP hQ
      go_wp2_with fail
      go_region
      all_goals go_wp2
      go_roundw
      case rel => exact ⟨t + 1, by go_num, hlt, by first | exact HSw.out | exact HSw.out.drew⟩
      case measure => simp [intOf]; omega
    · obtain rfl : t = n := by omega
      have hlti : ¬ (t : Int) < (t : Int) := by omega
      go_wp2
      go_end0
      exact ⟨rfl, HS.out⟩
set_option maxRecDepth 100000 in
set_option maxHeartbeats 4000000 in
theorem rot_c (F : Value) (a m b : Nat) (ham : a < m) (hmb : m < b) (hb : b ≤ N) (hN : N ≤ 1000) (h : Sr w g cap N d V) :
    Calls Tryd.prog 140 #[.slice (some ⟨g, 0, none⟩) N cap, .int .i64 (a : Int), .int .i64 (m : Int), .int .i64 (b : Int), F] V fun e w' => e = .returned (.tuple #[]) ∧ ∃ d', Sr w g cap N d' w' ∧ Rot d d' a m b := by
  have H := Lib.hid h
  clear h
  have q1 : (m : Int) - (a : Int) = ((m - a : Nat) : Int) := by omega
  have q2 : (b : Int) - (m : Int) = ((b - m : Nat) : Int) := by omega
  have v1 : IntKind.i64.wrap ((m : Int) - (a : Int)) = ((m - a : Nat) : Int) := by rw [IntKind.wrap_i64]; omega
  have v2 : IntKind.i64.wrap ((b : Int) - (m : Int)) = ((b - m : Nat) : Int) := by rw [IntKind.wrap_i64]; omega
  go_enter Tryd.func140, Tryd.ntmps140
  go_wp2
  go_loopw [10, 11] (fun vi vj V => ∃ (i j : Nat) (dk : Array Nat), vi = .int .i64 (i : Int) ∧ vj = .int .i64 (j : Int) ∧ 0 < i ∧ 0 < j ∧ Sr w g cap N dk V ∧ RotI d dk a m b i j) (fun vi vj _ => (intOf vi).toNat + (intOf vj).toNat)
  case atStart => exact ⟨m - a, b - m, d, by go_num, by go_num, by omega, by omega, H.out, RotI.start d a m b (by omega) (by omega)⟩
  case round =>
    clear q1 q2 v1 v2
    obtain ⟨i, j, dk, rfl, rfl, hi0, hj0, hs, hr⟩ := hrel
    have e1 := hr.hi
    have e2 := hr.hj
    have HS := Lib.hid hs
    have HRr := Lib.hid hr
    clear hs hr
    obtain ⟨mi, hmi⟩ : ∃ x, m - i = x := ⟨_, rfl⟩
    have w1 : IntKind.i64.wrap ((m : Int) - (i : Int)) = (mi : Int) := by rw [IntKind.wrap_i64]; omega
    have s1 : (m : Int) - (i : Int) = (mi : Int) := by omega
    rcases Nat.lt_trichotomy i j with c | c | c
    · obtain ⟨mj, hmj⟩ : ∃ x, m + j = x := ⟨_, rfl⟩
      obtain ⟨mji, hmji⟩ : ∃ x, m + j - i = x := ⟨_, rfl⟩
      obtain ⟨ji, hji⟩ : ∃ x, j - i = x := ⟨_, rfl⟩
      have n1 : ((i : Int) != (j : Int)) = true := by simp; omega
      have n1n : (i == j) = false := by simp; omega
      have n2 : decide ((j : Int) < (i : Int)) = false := by simp; omega
      have n2' : ¬ (j : Int) < (i : Int) := by omega
      have n3 : decide ((i : Int) = (j : Int)) = false := by simp; omega
      have n4 : decide (i = j) = false := by simp; omega
      have w2 : IntKind.i64.wrap ((m : Int) + (j : Int)) = (mj : Int) := by rw [IntKind.wrap_i64]; omega
      have s2 : (m : Int) + (j : Int) = (mj : Int) := by omega
      have w3 : IntKind.i64.wrap ((mj : Int) - (i : Int)) = (mji : Int) := by rw [IntKind.wrap_i64]; omega
      have s3 : (mj : Int) - (i : Int) = (mji : Int) := by omega
      have w4 : IntKind.i64.wrap ((j : Int) - (i : Int)) = (ji : Int) := by rw [IntKind.wrap_i64]; omega
      have s4 : (j : Int) - (i : Int) = (ji : Int) := by omega
      have hcl := swr_c F (m - i) (m + j - i) i (by omega) (by omega) hN HS.out
      have hnx := HRr.out.less (by rw [HS.out.sz]; exact hb) c
      rw [hmi, hmji] at hcl hnx
      rw [hji] at hnx
      have HCl := Lib.hid hcl
      have HNx := Lib.hid hnx
      have hji0 : 0 < ji := by omega
      have hjil : ji < j := by omega
      clear hcl hnx hmi hmj hmji hji
      go_wp2_with fail
      refine HCl.out.mono ?_
      rintro _ w5 ⟨rfl, hs5⟩
      have HS5 := Lib.hid hs5
      clear hs5 HCl
      go_wp2
      go_roundw
      case rel => exact ⟨i, ji, _, rfl, rfl, hi0, hji0, HS5.out, HNx.out⟩
      case measure => simp [intOf]; omega
    · subst c
      have n1 : ((i : Int) != (i : Int)) = false := by simp
      have hcl := swr_c F (m - i) m i (by omega) (by omega) hN HS.out
      have hfin := HRr.out.fin (by rw [HS.out.sz]; exact hb)
      rw [hmi] at hcl hfin
      have HCl := Lib.hid hcl
      have HFin := Lib.hid hfin
      clear hcl hfin hmi
      go_wp2_with fail
      refine HCl.out.mono ?_
      rintro _ w5 ⟨rfl, hs5⟩
      have HS5 := Lib.hid hs5
      clear hs5 HCl
      go_wp2
      go_end0
      exact ⟨rfl, _, HS5.out, HFin.out⟩
    · obtain ⟨ij, hij⟩ : ∃ x, i - j = x := ⟨_, rfl⟩
      have n1 : ((i : Int) != (j : Int)) = true := by simp; omega
      have n1n : (i == j) = false := by simp; omega
      have n2 : decide ((j : Int) < (i : Int)) = true := by simp; omega
      have n2' : (j : Int) < (i : Int) := by omega
      have n3 : decide ((i : Int) = (j : Int)) = false := by simp; omega
      have n4 : decide (i = j) = false := by simp; omega
      have w4 : IntKind.i64.wrap ((i : Int) - (j : Int)) = (ij : Int) := by rw [IntKind.wrap_i64]; omega
      have s4 : (i : Int) - (j : Int) = (ij : Int) := by omega
      have hcl := swr_c F (m - i) m j (by omega) (by omega) hN HS.out
      have hnx := HRr.out.more (by rw [HS.out.sz]; exact hb) c
      rw [hmi] at hcl hnx
      rw [hij] at hnx
      have HCl := Lib.hid hcl
      have HNx := Lib.hid hnx
      have hij0 : 0 < ij := by omega
      have hijl : ij < i := by omega
      clear hcl hnx hmi hij
      go_wp2_with fail
      refine HCl.out.mono ?_
      rintro _ w5 ⟨rfl, hs5⟩
      have HS5 := Lib.hid hs5
      clear hs5 HCl
      go_wp2
      go_roundw
      case rel => exact ⟨ij, j, _, rfl, rfl, hij0, hj0, HS5.out, HNx.out⟩
      case measure => simp [intOf]; omega
end Cb
end Go.Proofs.YteekonojmpihlaaDoor
