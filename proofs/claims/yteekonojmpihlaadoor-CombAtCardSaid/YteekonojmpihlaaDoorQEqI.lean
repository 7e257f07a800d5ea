/- slices.Equal at ints. -/
import Derived.Test.YteekonojmpihlaaDoorQMod
import Derived.Test.YteekonojmpihlaaDoorRows
namespace Go.Proofs.YteekonojmpihlaaDoor
namespace Kt
end Kt
open Go Go.RowKit Kt
namespace EqI
set_option maxHeartbeats 400000 in
set_option maxRecDepth 100000 in
theorem equal_c (a b : Option Addr) (ca cb : Nat) (l m : List Int) (w : World) (hl : l.length ≤ 4611686018427387904) (hm : m.length ≤ 4611686018427387904) (ha : Rd w a (i64s l)) (hb : Rd w b (i64s m)) :
    Calls Tryd.prog 83 #[.slice a l.length ca, .slice b m.length cb] w fun e w' => e = .returned (.bool (l == m)) ∧ Below w.heap.size w w' := by
  by_cases hlm : l.length = m.length
  · have hd : ((l.length : Int) != (m.length : Int)) = false := by simp; omega
    go_enter Tryd.func83, Tryd.ntmps83
    go_wp2
    go_loopw [5, 13] (fun _ i wr => ∃ k : Nat, k ≤ l.length ∧ i = .int .i64 k ∧ l.take k = m.take k ∧ Below w.heap.size w wr) (fun _ i _ => l.length - (intOf i).toNat)
    case atStart => exact ⟨0, Nat.zero_le _, rfl, rfl, Below.refl _ _⟩
    case round =>
      obtain ⟨k, hk, rfl, heq, hbel⟩ := hrel
      by_cases hlt : k < l.length
      · have hm2 : k < m.length := by omega
        obtain ⟨b1, o1, e1, c1⟩ := (ha.keep hbel).i64 k hlt
        obtain ⟨b2, o2, e2, c2⟩ := (hb.keep hbel).i64 k hm2
        have hs1 : l.take (k + 1) = l.take k ++ [l[k]] := by simp
        have hs2 : m.take (k + 1) = m.take k ++ [m[k]] := by simp
        clear ha hb
        subst e1 e2
        have Hq := Lib.hid heq
        have Hlm := Lib.hid hlm
        have Hb := Lib.hid hbel
        have hne : ∀ h : k < m.length, l[k] ≠ m[k] → (l == m) = false := by
          intro h hx
          rw [beq_eq_false_iff_ne]
          rintro rfl
          exact hx rfl
        have H1 := Lib.hid hs1
        have H2 := Lib.hid hs2
        have Hne := Lib.hid (hne hm2)
        clear hs1 hs2 hne
        generalize l[k] = x at *
        generalize m[k] = y at *
        clear heq hlm hbel
        by_cases hxy : x = y
        · subst hxy
          go_wp2
          go_quiet (fail)
          go_wp2
          go_roundw
          case rel => exact ⟨k + 1, by omega, by go_num, by rw [H1.out, H2.out, Hq.out], below_drewN Hb.out _⟩
          case measure => simp [intOf]; omega
        · have hxn : (x != y) = true := by simpa using hxy
          have hf := Hne.out hxy
          have Hf := Lib.hid hf
          clear hf
          go_wp2
          go_quiet (fail)
          go_wp2
          go_ret
          exact ⟨by rw [Hf.out]; rfl, below_drewN Hb.out _⟩
      · have hkl : k = l.length := by omega
        rw [hkl, List.take_length, hlm, List.take_length] at heq
        have Hq := Lib.hid heq
        clear heq
        go_wp2
        go_ret
        exact ⟨by rw [Hq.out]; simp, hbel⟩
  · have hd : ((l.length : Int) != (m.length : Int)) = true := by simp; omega
    have hf : (l == m) = false := by
      rw [beq_eq_false_iff_ne]
      rintro rfl
      exact hlm rfl
    have Hf := Lib.hid hf
    clear hf
    go_enter Tryd.func83, Tryd.ntmps83
    go_wp2
    go_ret
    exact ⟨by rw [Hf.out]; rfl, Below.refl _ _⟩

theorem equal_n (a b : Option Addr) (ca cb n k : Nat) (l m : List Int) (w : World) (hn : l.length = n) (hk : m.length = k) (hl : n ≤ 4611686018427387904) (hm : k ≤ 4611686018427387904) (ha : Rd w a (i64s l)) (hb : Rd w b (i64s m)) :
    Calls Tryd.prog 83 #[.slice a n ca, .slice b k cb] w fun e w' => e = .returned (.bool (l == m)) ∧ Below w.heap.size w w' := by
  subst hn hk
  exact equal_c a b ca cb l m w hl hm ha hb
end EqI
end Go.Proofs.YteekonojmpihlaaDoor
