/- The walk of crc.Opened: too short, a wrong sum, the right one. Conditions: the table and the sentinels read as laid. -/
import Derived.Test.YtjohljpcoodijaaDoorCrcFr
namespace Go.Proofs.YtjohljpcoodijaaDoor
open Go Go.RowKit Kt
namespace Crc

set_option maxHeartbeats 400000 in
set_option maxRecDepth 100000 in
theorem opened_short (A : Nat → Addr) (a : Option Addr) (n cap : Nat) (w : World) (hn : n < 4) (hs : Sent 152 w A [5]) :
    Calls Tryd.prog 62 #[.slice a n cap] w fun e w' => e = .returned (.tuple #[.slice none 0 0, Er.ev A 5]) ∧ Below w.heap.size w w' := by
  have hc := hs.cell 5 (by simp)
  go_enter Tryd.func62, Tryd.ntmps62
  go_wp2
  go_quiet (fail)
  go_wp2
  go_ret2
  exact ⟨rfl, below_drewN (Below.refl _ _) _⟩

set_option maxHeartbeats 1000000 in
set_option maxRecDepth 100000 in
theorem opened_c (A : Nat → Addr) (b off n N cap : Nat) (hN : N = n + 4) (pre suf : List UInt8) (hp : pre.length = n) (hs4 : suf.length = 4) (w : World) (hl : n ≤ 10000) (hcap : n + 4 ≤ cap) (hr : Rd w (some ⟨b, off, none⟩) (u8s (pre ++ suf))) (ht : Tb w) (hs : Sent 152 w A [13]) :
    Calls Tryd.prog 62 #[.slice (some ⟨b, off, none⟩) N cap] w fun e w' => Below w.heap.size w w' ∧
      (suf = le4 (more 0 pre) → ∃ v, e = .returned (.tuple #[v, .nilIface]) ∧ w'.ownsRow w.heap.size 5 1 v n (u8s pre)) ∧
      (suf ≠ le4 (more 0 pre) → e = .returned (.tuple #[.slice none 0 0, Er.ev A 13])) := by
  subst hN
  have hrp : Rd w (some ⟨b, off, none⟩) (u8s pre) := by have := hr.take n; rw [u8s_append, List.take_left' (by rw [u8s_length, hp])] at this; exact this
  have hrs : Rd w (some ⟨b, off + n, none⟩) (u8s suf) := by have := hr.drop n; rw [u8s_append, List.drop_left' (by rw [u8s_length, hp])] at this; exact this
  have hne : ¬ cap = n := by omega
  have b1 := ((Below.refl w.heap.size w).alloc (Nat.le_refl _) (.cells #[.slice (some ⟨b, off, none⟩) n cap] 24)).drew
  have r1 : Rd (w.alloc (.cells #[.slice (some ⟨b, off, none⟩) n cap] 24)).drew (some ⟨w.heap.size, 0, none⟩) ([(⟨some ⟨b, off, none⟩, cap, pre⟩ : Row)].map Row.v) := by
    have := Rd.new w #[.slice (some ⟨b, off, none⟩) n cap] 24 (0, 0) ([(⟨some ⟨b, off, none⟩, cap, pre⟩ : Row)].map Row.v) (by simp [Row.v, hp])
    exact this.keep ((Below.refl _ _).drew)
  subst hp
  have hflat : flat [⟨some ⟨b, off, none⟩, cap, pre⟩] = pre := by simp [flat]
  have hq : suf.length = 4 := hs4
  go_enter Tryd.func62, Tryd.ntmps62
  go_wp2
  go_region_with (first | (go_at_call 17; refine (sum_c _ _ [⟨some ⟨b, off, none⟩, cap, pre⟩] _ (by simp) (by intro r hr; simp at hr; subst hr; simp; omega) r1 (by intro r hr2; simp at hr2; subst hr2; exact hrp.keep b1) (ht.keep b1)).mono ?_; rintro e w' ⟨rfl, rfl⟩; rw [hflat]) | (go_at_call 87; refine (bytes_c (more 0 pre) _).mono ?_; rintro e w2 ⟨v, rfl, own2, hb2⟩; obtain ⟨a2, c2, rfl, h21, h22, h23, h24⟩ := rd_own own2) | (go_at_call 88; (with_reducible refine (Sl.equal_n _ _ _ _ _ _ suf (le4 (more 0 pre)) _ hq (le4_length _) (by omega) (by omega) ((hrs.keep b1).keep hb2) h23).mono ?_); rintro e w3 ⟨rfl, hb3⟩))
  all_goals
    have hcs := hs.cell 13 (by simp)
    have B2 := b1.trans (hb2.mono b1.size)
    have B3 := B2.trans (hb3.mono B2.size)
    have hcs3 := (hs.keep B3).cell 13 (by simp)
    have hrp3 := hrp.keep B3
    have Hr := Lib.hid hrp3
    clear hr hrp hrs r1 hrp3 hcs hflat own2 h23 h24 b1 hb2 hb3 B2
    by_cases heq : suf = le4 (more 0 pre)
    · have hbq : (suf == le4 (more 0 pre)) = true := by rw [heq]; simp
      generalize (suf == le4 (more 0 pre)) = q at *
      subst hbq
      go_wp2_with (go_at_call 84; (with_reducible refine (Sl.clone_n _ _ _ pre _ rfl (by omega) (fun h => by cases h) Hr.out).mono ?_); rintro e w4 ⟨v4, rfl, own4, hb4⟩)
      go_ret2
      exact ⟨B3.trans (hb4.mono B3.size), fun _ => ⟨_, rfl, own_base own4 B3.size⟩, fun h => absurd heq h⟩
    · have hbq : (suf == le4 (more 0 pre)) = false := by rw [beq_eq_false_iff_ne]; exact heq
      generalize (suf == le4 (more 0 pre)) = q at *
      subst hbq
      go_wp2
      go_quiet (fail)
      go_wp2
      go_ret2
      exact ⟨below_drewN B3 _, fun h => absurd h heq, fun _ => rfl⟩
end Crc
end Go.Proofs.YtjohljpcoodijaaDoor
