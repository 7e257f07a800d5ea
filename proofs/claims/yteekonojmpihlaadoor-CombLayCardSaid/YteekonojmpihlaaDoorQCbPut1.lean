/- Package comb: taken, put's closure. Printed by gen_cbput1.py. -/
import Derived.Test.YteekonojmpihlaaDoorQCbOwn
namespace Go.Proofs.YteekonojmpihlaaDoor
namespace Kt
end Kt
open Go Go.RowKit Kt
namespace Cb
set_option maxRecDepth 100000 in
theorem taken_c (C : Nat) (a4 : Option Addr) (c4 : Nat) (ck : List Int) (m s : Nat) (hm : ck.length = m) (w : World) (h1 : w.cell? ⟨C, 4, none⟩ = some (.slice a4 m c4)) (hr : Rd w a4 (i64s ck)) :
    Calls Tryd.prog 108 #[.pointer (some ⟨C, 0, none⟩), .int .i64 (s : Int)] w fun e w' => e = .returned (.bool (!freeS ck s)) ∧ w = w' := by
  unfold freeS
  rw [Bool.not_not, hm]
  by_cases h : s < m
  · obtain ⟨b, o, ha, hc⟩ := rd_i64 hr s (by omega)
    rw [decide_eq_true h, Bool.true_and]
    generalize ck.getD s 0 = x at *
    have hi : (s : Int) < (m : Int) := by omega
    subst ha
    clear hr hm
    by_cases hx : x = -1
    · subst hx
      rw [decide_eq_false (by simp)]
      go_enter Tryd.func108, Tryd.ntmps108
      go_wp2
      go_ret
      exact ⟨rfl, rfl⟩
    · rw [decide_eq_true hx]
      have hxb : (x != -1) = true := by simpa using hx
      have hxd : decide (x = -1) = false := by simpa using hx
      go_enter Tryd.func108, Tryd.ntmps108
      go_wp2
      go_ret
      exact ⟨rfl, rfl⟩
  · rw [decide_eq_false h, Bool.false_and]
    have hi : ¬ (s : Int) < (m : Int) := by omega
    go_enter Tryd.func108, Tryd.ntmps108
    go_wp2
    go_ret
    exact ⟨rfl, rfl⟩
/-- The slot at p over the base is a row's. -/
def tkP (ck : List Int) (b : Nat) (p : Int) : Bool := !freeS ck (b + p.toNat)
theorem any_tk (ck : List Int) (b : Nat) (ps : List Nat) : (ints ps).any (tkP ck b) = !fits ck ps b := by
  unfold fits ints
  rw [List.any_map, List.not_all_eq_any_not]
  congr 1
set_option maxRecDepth 100000 in
theorem tk_c (C p0 p1 b : Nat) (a4 : Option Addr) (c4 : Nat) (ck : List Int) (m : Nat) (hm : ck.length = m) (_hm2 : m ≤ 100000) (hb : b ≤ 100000) (x : Int) (hx0 : 0 ≤ x) (hx1 : x ≤ 1000) (w : World) (h1 : w.cell? ⟨C, 4, none⟩ = some (.slice a4 m c4)) (hr : Rd w a4 (i64s ck)) (k0 : w.cell? ⟨p0, 0, none⟩ = some (.pointer (some ⟨C, 0, none⟩))) (k1 : w.cell? ⟨p1, 0, none⟩ = some (.int .i64 (b : Int))) :
    Calls Tryd.prog 107 #[.int .i64 x, .pointer (some ⟨p0, 0, none⟩), .pointer (some ⟨p1, 0, none⟩)] w fun e w' => e = .returned (.bool (tkP ck b x)) ∧ w = w' := by
  obtain ⟨p, rfl⟩ : ∃ p : Nat, x = (p : Int) := ⟨x.toNat, by omega⟩
  have ht := taken_c C a4 c4 ck m (b + p) hm w h1 hr
  unfold tkP
  rw [Int.toNat_natCast]
  have hw : IntKind.i64.wrap ((b : Int) + (p : Int)) = (b : Int) + (p : Int) := by rw [IntKind.wrap_i64]; omega
  rw [show ((b + p : Nat) : Int) = (b : Int) + (p : Int) by omega] at ht
  generalize freeS ck (b + p) = Z at *
  have HT := Lib.hid ht
  clear ht hr
  go_enter Tryd.func107, Tryd.ntmps107
  go_wp2_with (first | (go_at_call 108; (with_reducible refine HT.out.mono ?_); rintro _ _ ⟨rfl, rfl⟩) | fail)
  go_ret
  exact ⟨rfl, rfl⟩

set_option maxHeartbeats 1000000 in
set_option maxRecDepth 100000 in
theorem pf_idx (a : Option Addr) (cap n : Nat) (l : List Int) (p0 p1 b : Nat) (ck : List Int) (w : World) (hn : l.length = n) (h63 : n ≤ 9223372036854775807) (hr : Rd w a (l.map (fun n => Value.int .i64 n))) (hcl : ∀ x ∈ l, Calls Tryd.prog 107 #[.int .i64 x, .pointer (some ⟨p0, 0, none⟩), .pointer (some ⟨p1, 0, none⟩)] w fun e w' => e = .returned (.bool (tkP ck b x)) ∧ w = w') :
    Calls Tryd.prog 122 #[.slice a n cap, .func (.func 107) #[] #[.pointer (some ⟨p0, 0, none⟩), .pointer (some ⟨p1, 0, none⟩)]] w fun e w' => (∃ r : Int, e = .returned (.int .i64 r) ∧ decide (0 ≤ r) = l.any (tkP ck b)) ∧ w = w' := by
  have HC := Lib.hid hcl
  clear hcl
  go_enter Tryd.func122, Tryd.ntmps122
  go_wp2
  go_loopw [5, 8] (fun _ i W => ∃ k : Nat, k ≤ n ∧ i = .int .i64 k ∧ (∀ x ∈ l.take k, (tkP ck b) x = false) ∧ w = W) (fun _ i _ => n - (intOf i).toNat)
  case atStart => exact ⟨0, Nat.zero_le _, rfl, by simp, rfl⟩
  case round =>
    obtain ⟨k, hk, rfl, hno, rfl⟩ := hrel
    by_cases hlt : k < n
    · have hkl : k < l.length := by omega
      obtain ⟨g, off, ha, hc⟩ := hr.map_at k hkl
      subst ha
      have hnx : (tkP ck b) l[k] = false → ∀ x ∈ l.take (k + 1), (tkP ck b) x = false := fun h x hx => by
        rw [← List.take_append_getElem hkl] at hx
        rcases List.mem_append.1 hx with h1 | h1
        · exact hno x h1
        · simp only [List.mem_singleton] at h1; subst h1; exact h
      have hyes : (tkP ck b) l[k] = true → l.any (tkP ck b) = true := fun h => List.any_eq_true.2 ⟨l[k], List.getElem_mem hkl, h⟩
      have Hnx := Lib.hid hnx
      have Hyes := Lib.hid hyes
      have HCk := Lib.hid (HC.out l[k] (List.getElem_mem hkl))
      clear hnx hyes hno
      generalize l[k] = x at *
      generalize hfx : (fun n => Value.int .i64 n) x = fx at *
      clear hfx
      cases hv : (tkP ck b) x with
      | true =>
        rw [hv] at HCk
        have Hv := Lib.hid hv
        clear hv
        go_wp2_with fail
        refine HCk.out.mono ?_
        rintro e w5 ⟨rfl, rfl⟩
        go_wp2
        go_ret
        exact ⟨⟨_, rfl, by rw [Hyes.out Hv.out]; simp⟩, rfl⟩
      | false =>
        rw [hv] at HCk
        have Hv := Lib.hid hv
        clear hv
        go_wp2_with fail
        refine HCk.out.mono ?_
        rintro e w5 ⟨rfl, rfl⟩
        go_wp2
        go_roundw
        case rel => exact ⟨k + 1, by omega, by go_num, Hnx.out Hv.out, by first | trivial | rfl⟩
        case measure => simp [intOf]; omega
    · have hkn : k = n := by omega
      have ha : l.any (tkP ck b) = false := by
        rw [List.take_of_length_le (by omega)] at hno
        exact List.any_eq_false.2 (fun x hx => by rw [hno x hx]; simp)
      subst hkn
      have Ha := Lib.hid ha
      clear ha hno
      go_wp2
      go_ret
      exact ⟨⟨_, rfl, by rw [Ha.out]; decide⟩, rfl⟩
set_option maxRecDepth 100000 in
theorem pf_any (a : Option Addr) (cap n : Nat) (l : List Int) (p0 p1 b : Nat) (ck : List Int) (w : World) (hn : l.length = n) (h63 : n ≤ 9223372036854775807) (hr : Rd w a (l.map (fun n => Value.int .i64 n))) (hcl : ∀ x ∈ l, Calls Tryd.prog 107 #[.int .i64 x, .pointer (some ⟨p0, 0, none⟩), .pointer (some ⟨p1, 0, none⟩)] w fun e w' => e = .returned (.bool (tkP ck b x)) ∧ w = w') :
    Calls Tryd.prog 104 #[.slice a n cap, .func (.func 107) #[] #[.pointer (some ⟨p0, 0, none⟩), .pointer (some ⟨p1, 0, none⟩)]] w fun e w' => e = .returned (.bool (l.any (tkP ck b))) ∧ w = w' := by
  have hi := pf_idx a cap n l p0 p1 b ck w hn h63 hr hcl
  have HI := Lib.hid hi
  clear hi hr hcl
  go_enter Tryd.func104, Tryd.ntmps104
  go_wp2_with fail
  refine HI.out.mono ?_
  rintro e w1 ⟨⟨r, rfl, h⟩, rfl⟩
  go_wp2
  go_ret
  exact ⟨rfl, rfl⟩

end Cb
end Go.Proofs.YteekonojmpihlaaDoor
