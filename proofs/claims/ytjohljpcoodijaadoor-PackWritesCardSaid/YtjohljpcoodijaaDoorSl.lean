/- The walks of package slices at bytes: Clone, Equal. -/
import Derived.Test.YtjohljpcoodijaaDoorNum
namespace Go.Proofs.YtjohljpcoodijaaDoor
open Go Go.RowKit Kt
namespace Sl

set_option maxHeartbeats 400000 in
set_option maxRecDepth 100000 in
theorem clone_c (a : Option Addr) (cap : Nat) (l : List UInt8) (w : World) (hl : l.length ≤ 4611686018427387904 / 32768) (hno : a = none → cap = 0) (hr : Rd w a (u8s l)) :
    Calls Tryd.prog 84 #[.slice a l.length cap] w fun e w' => ∃ v, e = .returned v ∧ w'.ownsRow w.heap.size 5 1 v l.length (u8s l) ∧ Below w.heap.size w w' := by
  have hn := fun w a n c n2 c2 => Lib.run_eql_slice_nil (P := Tryd.prog) w 24 5 a n c n2 c2 Tryd.underlying24
  cases a with
  | none =>
    have := hr.isNil8
    subst this
    go_enter Tryd.func84, Tryd.ntmps84
    go_wp2
    go_ret
    exact ⟨_, rfl, World.ownsRow_nil _ _ _ _, Below.refl _ _⟩
  | some ad =>
    have own0 := World.ownsRow_made (base := w.heap.size) (e := 5) (size := 1) w #[] 0 (Nat.le_refl _) (by decide) rfl
    have hb := (Below.refl w.heap.size w).alloc (Nat.le_refl _) (.cells #[] 5)
    obtain ⟨v', w2, hrun, own2, gr2, _⟩ := Num.elU8.append w.heap.size (ty := 24) own0 l.length cap (by simp [u8s]) (hr.keep hb) hno (oneCell_u8s _) (by unfold maxLen; omega) (by omega) hb.size
    have hb2 := hb.trans (below_grown own0 gr2 (Nat.le_refl _) hb.size)
    have O := Lib.hid own2
    have B := Lib.hid hb2
    clear own0 own2 hb hb2 gr2 hr hno
    go_enter Tryd.func84, Tryd.ntmps84
    go_wp2_with (at_builtin; (with_reducible apply wpList_append_run hrun); rfl; rfl; rfl; rfl; rfl)
    go_ret
    exact ⟨_, rfl, by have := O.out; rwa [Nat.zero_add, List.nil_append] at this, B.out⟩

set_option maxHeartbeats 400000 in
set_option maxRecDepth 100000 in
theorem equal_c (a b : Option Addr) (ca cb : Nat) (l m : List UInt8) (w : World) (hl : l.length ≤ 4611686018427387904) (hm : m.length ≤ 4611686018427387904) (ha : Rd w a (u8s l)) (hb : Rd w b (u8s m)) :
    Calls Tryd.prog 88 #[.slice a l.length ca, .slice b m.length cb] w fun e w' => e = .returned (.bool (l == m)) ∧ Below w.heap.size w w' := by
  by_cases hlm : l.length = m.length
  · have hd : ((l.length : Int) != (m.length : Int)) = false := by simp; omega
    go_enter Tryd.func88, Tryd.ntmps88
    go_wp2
    go_loopw [5, 13] (fun _ i wr => ∃ k : Nat, k ≤ l.length ∧ i = .int .i64 k ∧ l.take k = m.take k ∧ Below w.heap.size w wr) (fun _ i _ => l.length - (intOf i).toNat)
    case atStart => exact ⟨0, Nat.zero_le _, rfl, rfl, Below.refl _ _⟩
    case round =>
      obtain ⟨k, hk, rfl, heq, hbel⟩ := hrel
      by_cases hlt : k < l.length
      · have hm2 : k < m.length := by omega
        obtain ⟨b1, o1, e1, c1⟩ := (ha.keep hbel).u8 k hlt
        obtain ⟨b2, o2, e2, c2⟩ := (hb.keep hbel).u8 k hm2
        have hs1 : l.take (k + 1) = l.take k ++ [l[k]] := by simp
        have hs2 : m.take (k + 1) = m.take k ++ [m[k]] := by simp
        clear ha hb
        subst e1 e2
        have Hq := Lib.hid heq
        have Hlm := Lib.hid hlm
        have Hb := Lib.hid hbel
        have hne : ∀ h : k < m.length, l[k] ≠ m[k] → (l == m) = false := by
          intro h hx
          rw [beq_eq_false_iff_ne]
          rintro rfl
          exact hx rfl
        have H1 := Lib.hid hs1
        have H2 := Lib.hid hs2
        have Hne := Lib.hid (hne hm2)
        clear hs1 hs2 hne
        generalize l[k] = x at *
        generalize m[k] = y at *
        clear heq hlm hbel
        by_cases hxy : x = y
        · subst hxy
          go_wp2
          go_quiet (fail)
          go_wp2
          go_roundw
          case rel => exact ⟨k + 1, by omega, by go_num, by rw [H1.out, H2.out, Hq.out], below_drewN Hb.out _⟩
          case measure => simp [intOf]; omega
        · have hxn : ((x.toNat : Int) != (y.toNat : Int)) = true := by
            have : x.toNat ≠ y.toNat := fun h => hxy (UInt8.toNat_inj.1 h)
            simp; omega
          have hf := Hne.out hxy
          have Hf := Lib.hid hf
          clear hf
          go_wp2
          go_quiet (fail)
          go_wp2
          go_ret
          exact ⟨by rw [Hf.out]; rfl, below_drewN Hb.out _⟩
      · have hkl : k = l.length := by omega
        rw [hkl, List.take_length, hlm, List.take_length] at heq
        have Hq := Lib.hid heq
        clear heq
        go_wp2
        go_ret
        exact ⟨by rw [Hq.out]; simp, hbel⟩
  · have hd : ((l.length : Int) != (m.length : Int)) = true := by simp; omega
    have hf : (l == m) = false := by
      rw [beq_eq_false_iff_ne]
      rintro rfl
      exact hlm rfl
    have Hf := Lib.hid hf
    clear hf
    go_enter Tryd.func88, Tryd.ntmps88
    go_wp2
    go_ret
    exact ⟨by rw [Hf.out]; rfl, Below.refl _ _⟩

theorem equal_n (a b : Option Addr) (ca cb n k : Nat) (l m : List UInt8) (w : World) (hn : l.length = n) (hk : m.length = k) (hl : n ≤ 4611686018427387904) (hm : k ≤ 4611686018427387904) (ha : Rd w a (u8s l)) (hb : Rd w b (u8s m)) :
    Calls Tryd.prog 88 #[.slice a n ca, .slice b k cb] w fun e w' => e = .returned (.bool (l == m)) ∧ Below w.heap.size w w' := by
  subst hn hk
  exact equal_c a b ca cb l m w hl hm ha hb
theorem clone_n (a : Option Addr) (cap n : Nat) (l : List UInt8) (w : World) (hn : l.length = n) (hl : n ≤ 4611686018427387904 / 32768) (hno : a = none → cap = 0) (hr : Rd w a (u8s l)) :
    Calls Tryd.prog 84 #[.slice a n cap] w fun e w' => ∃ v, e = .returned v ∧ w'.ownsRow w.heap.size 5 1 v n (u8s l) ∧ Below w.heap.size w w' := by
  subst hn
  exact clone_c a cap l w hl hno hr

set_option maxHeartbeats 400000 in
set_option maxRecDepth 100000 in
/-- slices.Grow of nil: an owned empty slice, or nil at 0. -/
theorem grow_c (n : Nat) (w : World) (hn : n ≤ 1000000) :
    Calls Tryd.prog 101 #[.slice none 0 0, .int .i64 n] w fun e w' => ∃ v, e = .returned v ∧ w'.ownsRow w.heap.size 5 1 v 0 [] ∧ Below w.heap.size w w' := by
  by_cases h0 : n = 0
  · subst h0
    go_enter Tryd.func101, Tryd.ntmps101
    go_wp2
    go_ret
    exact ⟨_, rfl, World.ownsRow_nil _ _ _ _, Below.refl _ _⟩
  · obtain ⟨c, w', hrun, hc, own, gr⟩ := Num.elU8.zeros w.heap.size (w := w) (ti := 3) (ty := 24) (kk := .i64) Tryd.underlying3 (n : Int) n rfl (by omega) (by unfold maxLen; omega) (by omega) (Nat.le_refl _)
    have hb := below_made gr (Nat.le_refl w.heap.size)
    have O := Lib.hid own
    have B := Lib.hid hb
    clear own gr hb
    go_enter Tryd.func101, Tryd.ntmps101
    go_wp2_with (at_builtin; (with_reducible apply wpList_append_run hrun); rfl; rfl; rfl; rfl; rfl)
    go_ret
    exact ⟨_, rfl, O.out, B.out⟩
end Sl
end Go.Proofs.YtjohljpcoodijaaDoor
