/- subset.Right's closures, and slices.ContainsFunc at each. -/
import Derived.Test.YtfkjijjmphbglaaDoorEl8
import Derived.Test.YtfkjijjmphbglaaDoorMod
namespace Go.Proofs.YtfkjijjmphbglaaDoor
open Go Go.RowKit Kt
namespace Sb
/-- No state. -/
def oth (m : Nat) (x : Int) : Bool := decide (x < 0) || decide ((m : Int) ≤ x)
/-- No rule. -/
def strg (_ : Nat) (x : Int) : Bool := decide (x < -1) || decide (48 ≤ x)
set_option maxRecDepth 100000 in
theorem oth_c (m b : Nat) (x : Int) (w : World) (hx : w.cell? ⟨b, 0, none⟩ = some (.int .i64 (m : Int))) : Calls Tryd.prog 79 #[.int .i64 x, .pointer (some ⟨b, 0, none⟩)] w fun e w' => e = .returned (.bool (oth m x)) ∧ w = w' := by
  by_cases h : x < 0
  · have hd : decide (x < 0) = true := by simpa using h
    have hr : oth m x = true := by simp [oth, h]
    rw [hr]
    clear hr
    go_enter Tryd.func79, Tryd.ntmps79
    go_wp2
    go_ret
    exact ⟨rfl, rfl⟩
  · have hd : decide (x < 0) = false := by simpa using h
    have hr : oth m x = decide ((m : Int) ≤ x) := by simp [oth, h]
    rw [hr]
    clear hr
    go_enter Tryd.func79, Tryd.ntmps79
    go_wp2
    go_ret
    exact ⟨rfl, rfl⟩
set_option maxRecDepth 100000 in
theorem strg_c (m : Nat) (x : Int) (w : World) : Calls Tryd.prog 81 #[.int .i64 x] w fun e w' => e = .returned (.bool (strg m x)) ∧ w = w' := by
  by_cases h : x < -1
  · have hd : decide (x < -1) = true := by simpa using h
    have hr : strg m x = true := by simp [strg, h]
    rw [hr]
    clear hr
    go_enter Tryd.func81, Tryd.ntmps81
    go_wp2
    go_ret
    exact ⟨rfl, rfl⟩
  · have hd : decide (x < -1) = false := by simpa using h
    have hr : strg m x = decide (48 ≤ x) := by simp [strg, h]
    rw [hr]
    clear hr
    go_enter Tryd.func81, Tryd.ntmps81
    go_wp2
    go_ret
    exact ⟨rfl, rfl⟩

set_option maxHeartbeats 1000000 in
set_option maxRecDepth 100000 in
theorem oth_idx (a : Option Addr) (cap n m b : Nat) (l : List Int) (w : World) (hn : l.length = n) (h63 : n ≤ 9223372036854775807) (hr : Rd w a (i64s l)) (hx : w.cell? ⟨b, 0, none⟩ = some (.int .i64 (m : Int))) :
    Calls Tryd.prog 127 #[.slice a n cap, .func (.func 79) #[] #[.pointer (some ⟨b, 0, none⟩)]] w fun e w' => (∃ r : Int, e = .returned (.int .i64 r) ∧ decide (0 ≤ r) = l.any (oth m)) ∧ w = w' := by
  have hcl := fun x => oth_c m b x w hx
  have HC := Lib.hid hcl
  clear hcl
  go_enter Tryd.func127, Tryd.ntmps127
  go_wp2
  go_loopw [5, 8] (fun _ i W => ∃ k : Nat, k ≤ n ∧ i = .int .i64 k ∧ (∀ x ∈ l.take k, oth m x = false) ∧ w = W) (fun _ i _ => n - (intOf i).toNat)
  case atStart => exact ⟨0, Nat.zero_le _, rfl, by simp, rfl⟩
  case round =>
    obtain ⟨k, hk, rfl, hno, rfl⟩ := hrel
    by_cases hlt : k < n
    · have hkl : k < l.length := by omega
      obtain ⟨g, off, ha, hc⟩ := hr.i64 k hkl
      subst ha
      have hnx : oth m l[k] = false → ∀ x ∈ l.take (k + 1), oth m x = false := fun h x hx => by
        rw [← List.take_append_getElem hkl] at hx
        rcases List.mem_append.1 hx with h1 | h1
        · exact hno x h1
        · simp at h1; subst h1; exact h
      have hyes : oth m l[k] = true → l.any (oth m) = true := fun h => List.any_eq_true.2 ⟨l[k], List.getElem_mem hkl, h⟩
      have Hnx := Lib.hid hnx
      have Hyes := Lib.hid hyes
      have HCk := Lib.hid (HC.out l[k])
      clear hnx hyes hno
      generalize l[k] = x at *
      cases hv : oth m x with
      | true =>
        rw [hv] at HCk
        have Hv := Lib.hid hv
        clear hv
        go_wp2_with fail
        refine HCk.out.mono ?_
        rintro e w5 ⟨rfl, rfl⟩
        go_wp2
        go_ret
        exact ⟨⟨_, rfl, by rw [Hyes.out Hv.out]; simp⟩, rfl⟩
      | false =>
        rw [hv] at HCk
        have Hv := Lib.hid hv
        clear hv
        go_wp2_with fail
        refine HCk.out.mono ?_
        rintro e w5 ⟨rfl, rfl⟩
        go_wp2
        go_roundw
        case rel => exact ⟨k + 1, by omega, by go_num, Hnx.out Hv.out, by first | trivial | rfl⟩
        case measure => simp [intOf]; omega
    · have hkn : k = n := by omega
      have ha : l.any (oth m) = false := by
        rw [List.take_of_length_le (by omega)] at hno
        exact List.any_eq_false.2 (fun x hx => by rw [hno x hx]; simp)
      subst hkn
      have Ha := Lib.hid ha
      clear ha hno
      go_wp2
      go_ret
      exact ⟨⟨_, rfl, by rw [Ha.out]; decide⟩, rfl⟩
set_option maxRecDepth 100000 in
theorem oth_any (a : Option Addr) (cap n m b : Nat) (l : List Int) (w : World) (hn : l.length = n) (h63 : n ≤ 9223372036854775807) (hr : Rd w a (i64s l)) (hx : w.cell? ⟨b, 0, none⟩ = some (.int .i64 (m : Int))) :
    Calls Tryd.prog 80 #[.slice a n cap, .func (.func 79) #[] #[.pointer (some ⟨b, 0, none⟩)]] w fun e w' => e = .returned (.bool (l.any (oth m))) ∧ w = w' := by
  have hi := oth_idx a cap n m b l w hn h63 hr hx
  have HI := Lib.hid hi
  clear hi hr
  go_enter Tryd.func80, Tryd.ntmps80
  go_wp2_with fail
  refine HI.out.mono ?_
  rintro e w1 ⟨⟨r, rfl, h⟩, rfl⟩
  go_wp2
  go_ret
  exact ⟨rfl, rfl⟩

set_option maxHeartbeats 1000000 in
set_option maxRecDepth 100000 in
theorem strg_idx (a : Option Addr) (cap n m _b : Nat) (l : List Int) (w : World) (hn : l.length = n) (h63 : n ≤ 9223372036854775807) (hr : Rd w a (i64s l)) :
    Calls Tryd.prog 127 #[.slice a n cap, .func (.func 81) #[] #[]] w fun e w' => (∃ r : Int, e = .returned (.int .i64 r) ∧ decide (0 ≤ r) = l.any (strg m)) ∧ w = w' := by
  have hcl := fun x => strg_c m x w
  have HC := Lib.hid hcl
  clear hcl
  go_enter Tryd.func127, Tryd.ntmps127
  go_wp2
  go_loopw [5, 8] (fun _ i W => ∃ k : Nat, k ≤ n ∧ i = .int .i64 k ∧ (∀ x ∈ l.take k, strg m x = false) ∧ w = W) (fun _ i _ => n - (intOf i).toNat)
  case atStart => exact ⟨0, Nat.zero_le _, rfl, by simp, rfl⟩
  case round =>
    obtain ⟨k, hk, rfl, hno, rfl⟩ := hrel
    by_cases hlt : k < n
    · have hkl : k < l.length := by omega
      obtain ⟨g, off, ha, hc⟩ := hr.i64 k hkl
      subst ha
      have hnx : strg m l[k] = false → ∀ x ∈ l.take (k + 1), strg m x = false := fun h x hx => by
        rw [← List.take_append_getElem hkl] at hx
        rcases List.mem_append.1 hx with h1 | h1
        · exact hno x h1
        · simp at h1; subst h1; exact h
      have hyes : strg m l[k] = true → l.any (strg m) = true := fun h => List.any_eq_true.2 ⟨l[k], List.getElem_mem hkl, h⟩
      have Hnx := Lib.hid hnx
      have Hyes := Lib.hid hyes
      have HCk := Lib.hid (HC.out l[k])
      clear hnx hyes hno
      generalize l[k] = x at *
      cases hv : strg m x with
      | true =>
        rw [hv] at HCk
        have Hv := Lib.hid hv
        clear hv
        go_wp2_with fail
        refine HCk.out.mono ?_
        rintro e w5 ⟨rfl, rfl⟩
        go_wp2
        go_ret
        exact ⟨⟨_, rfl, by rw [Hyes.out Hv.out]; simp⟩, rfl⟩
      | false =>
        rw [hv] at HCk
        have Hv := Lib.hid hv
        clear hv
        go_wp2_with fail
        refine HCk.out.mono ?_
        rintro e w5 ⟨rfl, rfl⟩
        go_wp2
        go_roundw
        case rel => exact ⟨k + 1, by omega, by go_num, Hnx.out Hv.out, by first | trivial | rfl⟩
        case measure => simp [intOf]; omega
    · have hkn : k = n := by omega
      have ha : l.any (strg m) = false := by
        rw [List.take_of_length_le (by omega)] at hno
        exact List.any_eq_false.2 (fun x hx => by rw [hno x hx]; simp)
      subst hkn
      have Ha := Lib.hid ha
      clear ha hno
      go_wp2
      go_ret
      exact ⟨⟨_, rfl, by rw [Ha.out]; decide⟩, rfl⟩
set_option maxRecDepth 100000 in
theorem strg_any (a : Option Addr) (cap n m _b : Nat) (l : List Int) (w : World) (hn : l.length = n) (h63 : n ≤ 9223372036854775807) (hr : Rd w a (i64s l)) :
    Calls Tryd.prog 80 #[.slice a n cap, .func (.func 81) #[] #[]] w fun e w' => e = .returned (.bool (l.any (strg m))) ∧ w = w' := by
  have hi := strg_idx a cap n m _b l w hn h63 hr
  have HI := Lib.hid hi
  clear hi hr
  go_enter Tryd.func80, Tryd.ntmps80
  go_wp2_with fail
  refine HI.out.mono ?_
  rintro e w1 ⟨⟨r, rfl, h⟩, rfl⟩
  go_wp2
  go_ret
  exact ⟨rfl, rfl⟩
end Sb
end Go.Proofs.YtfkjijjmphbglaaDoor
