import Derived.Test.YteekonojmpihlaaDoorRows
import Derived.Test.YteekonojmpihlaaDoorQLib
import Derived.Test.YteekonojmpihlaaDoorQMapG
/- slices.Index and slices.Contains over strings. -/
namespace Go.Proofs.YteekonojmpihlaaDoor
namespace Kt
end Kt
open Go Go.RowKit Kt
namespace Tr
set_option maxHeartbeats 1000000 in
set_option maxRecDepth 100000 in
open Kt in
theorem has_idx (a : Option Addr) (cap n : Nat) (l : List (List UInt8)) (s : List UInt8) (w : World) (hn : l.length = n) (h63 : n ≤ 9223372036854775807) (hr : Rd w a (l.map fun t => Value.string (Str t))) :
    Calls Tryd.prog 94 #[.slice a n cap, .string (Str s)] w fun e w' => (∃ r : Int, e = .returned (.int .i64 r) ∧ (0 ≤ r ↔ s ∈ l)) ∧ w = w' := by
  go_enter Tryd.func94, Tryd.ntmps94
  go_wp2
  go_loopw [5, 8] (fun _ i W => ∃ k : Nat, k ≤ n ∧ i = .int .i64 k ∧ (∀ x ∈ l.take k, x ≠ s) ∧ w = W) (fun _ i _ => n - (intOf i).toNat)
  case atStart => exact ⟨0, Nat.zero_le _, rfl, by simp, rfl⟩
  case round =>
    obtain ⟨k, hk, rfl, hno, rfl⟩ := hrel
    by_cases hlt : k < n
    · have hkl : k < l.length := by omega
      obtain ⟨g, off, ha, hc⟩ := hr.map_at k hkl
      subst ha
      have hnx : l[k] ≠ s → ∀ x ∈ l.take (k + 1), x ≠ s := fun h x hx => by
        rw [← List.take_append_getElem hkl] at hx
        rcases List.mem_append.1 hx with h1 | h1
        · exact hno x h1
        · simp at h1; subst h1; exact h
      have hyes : l[k] = s → s ∈ l := fun h => h ▸ List.getElem_mem hkl
      have Hnx := Lib.hid hnx
      have Hyes := Lib.hid hyes
      clear hnx hyes hno
      generalize l[k] = x at *
      by_cases hv : x = s
      · subst hv
        go_wp2
        go_ret
        exact ⟨⟨_, rfl, by simp [Hyes.out trivial]⟩, rfl⟩
      · have hv' : ¬ s = x := fun h => hv h.symm
        have hvb : ((Str s).toList == (Str x).toList) = false := by rw [Str_list, Str_list]; simp [hv']
        have HV := Lib.hid (Hnx.out hv)
        clear hv Hnx Hyes
        go_wp2
        go_roundw
        case rel => exact ⟨k + 1, by omega, by go_num, HV.out, by first | trivial | rfl⟩
        case measure => simp [intOf]; omega
    · have hkn : k = n := by omega
      have ha : ¬ s ∈ l := fun h => by
        rw [List.take_of_length_le (by omega)] at hno
        exact hno s h rfl
      subst hkn
      have Ha := Lib.hid ha
      clear ha hno
      go_wp2
      go_ret
      exact ⟨⟨_, rfl, by simp [Ha.out]⟩, rfl⟩
set_option maxRecDepth 100000 in
open Kt in
theorem has_c (a : Option Addr) (cap n : Nat) (l : List (List UInt8)) (s : List UInt8) (w : World) (hn : l.length = n) (h63 : n ≤ 9223372036854775807) (hr : Rd w a (l.map fun t => Value.string (Str t))) :
    Calls Tryd.prog 65 #[.slice a n cap, .string (Str s)] w fun e w' => e = .returned (.bool (decide (s ∈ l))) ∧ w = w' := by
  have hi := has_idx a cap n l s w hn h63 hr
  have HI := Lib.hid hi
  clear hi hr
  go_enter Tryd.func65, Tryd.ntmps65
  go_wp2_with fail
  refine HI.out.mono ?_
  rintro e w1 ⟨⟨r, rfl, h⟩, rfl⟩
  have hd : decide (s ∈ l) = decide (0 ≤ r) := decide_eq_decide.2 h.symm
  have HD := Lib.hid hd
  clear hd h
  go_wp2
  go_ret
  refine ⟨?_, rfl⟩
  rw [HD.out]
  first | rfl | (congr 2; done) | (simp; done)
end Tr
end Go.Proofs.YteekonojmpihlaaDoor
