/- doffernum.SameInts. -/
import Derived.Test.YteekonojmpihlaaDoorRows
import Derived.Test.YteekonojmpihlaaDoorQLib
namespace Go.Proofs.YteekonojmpihlaaDoor
namespace Kt
end Kt
open Go Go.RowKit Kt
namespace Sm
theorem same_next {xs ys : List Int} (h : xs.length = ys.length) {k : Nat} (hk : k < xs.length) (ht : xs.take k = ys.take k) (he : xs[k] = ys[k]'(by omega)) : xs.take (k + 1) = ys.take (k + 1) := by
  rw [List.take_add_one, List.take_add_one, ht, List.getElem?_eq_getElem hk, List.getElem?_eq_getElem (by omega), he]
set_option maxHeartbeats 1000000 in
set_option maxRecDepth 100000 in
theorem same_c (a b : Option Addr) (c1 c2 n1 n2 : Nat) (xs ys : List Int) (w : World) (hn1 : xs.length = n1) (hn2 : ys.length = n2) (h63 : n1 ≤ 9223372036854775807) (hx : Rd w a (i64s xs)) (hy : Rd w b (i64s ys)) :
    Calls Tryd.prog 40 #[.slice a n1 c1, .slice b n2 c2] w fun e w' => e = .returned (.bool (decide (xs = ys))) ∧ ∃ n, w.drewN n = w' := by
  by_cases hl : n1 = n2
  · subst hl
    go_enter Tryd.func40, Tryd.ntmps40
    go_wp2
    go_loopw [5, 13] (fun _ i W => ∃ k nn : Nat, k ≤ n1 ∧ i = .int .i64 k ∧ w.drewN nn = W ∧ xs.take k = ys.take k) (fun _ i _ => n1 - (intOf i).toNat)
    case atStart => exact ⟨0, 0, Nat.zero_le _, rfl, rfl, rfl⟩
    case round =>
      obtain ⟨k, nn, hk, rfl, rfl, ht⟩ := hrel
      by_cases hlt : k < n1
      · obtain ⟨b1, o1, rfl, e1⟩ := hx.i64 k (by omega)
        obtain ⟨b2, o2, rfl, e2⟩ := hy.i64 k (by omega)
        have hnx := same_next (hn1.trans hn2.symm) (k := k) (by omega) ht
        have hne : xs[k] ≠ ys[k] → xs ≠ ys := fun h e => h (by subst e; rfl)
        generalize xs[k] = x at *
        generalize ys[k] = y at *
        have Hn := Lib.hid hnx
        clear hnx ht
        by_cases hxy : x = y
        · subst hxy
          clear hne
          go_wp2
          go_quiet (fail)
          go_wp2
          go_roundw
          case rel => exact ⟨k + 1, _, by omega, by go_num, rfl, Hn.out (by first | trivial | rfl)⟩
          case measure => simp [intOf]; omega
        · have hnb : (x == y) = false := by simp [hxy]
          have hf : decide (xs = ys) = false := by simp [hne hxy]
          go_wp2
          go_quiet (fail)
          go_wp2
          go_ret
          exact ⟨by first | rfl | (rw [hf]; rfl), nn + nq, by simp [World.drewN, Nat.add_assoc]⟩
      · have : k = n1 := by omega
        subst this
        have he : xs = ys := by
          have h := ht
          rw [List.take_of_length_le (by omega), List.take_of_length_le (by omega)] at h
          exact h
        have hf : decide (xs = ys) = true := by simp [he]
        go_wp2
        go_ret
        exact ⟨by first | rfl | (rw [hf]; rfl), nn, rfl⟩
  · have hne : ((n1 : Int) == (n2 : Int)) = false := by simp; omega
    have hf : decide (xs = ys) = false := by
      simp only [decide_eq_false_iff_not]
      rintro rfl
      omega
    go_enter Tryd.func40, Tryd.ntmps40
    go_wp2
    go_ret
    exact ⟨by first | rfl | (rw [hf]; rfl), 0, rfl⟩
theorem same_eq (a b : Option Addr) (c1 c2 n1 n2 : Nat) (xs : List Int) (w : World) (hn1 : xs.length = n1) (hn2 : xs.length = n2) (h63 : n1 ≤ 9223372036854775807) (hx : Rd w a (i64s xs)) (hy : Rd w b (i64s xs)) :
    Calls Tryd.prog 40 #[.slice a n1 c1, .slice b n2 c2] w fun e w' => e = .returned (.bool true) ∧ ∃ n, w.drewN n = w' :=
  (same_c a b c1 c2 n1 n2 xs xs w hn1 hn2 h63 hx hy).mono fun _ _ h => by simpa using h
end Sm
end Go.Proofs.YteekonojmpihlaaDoor
