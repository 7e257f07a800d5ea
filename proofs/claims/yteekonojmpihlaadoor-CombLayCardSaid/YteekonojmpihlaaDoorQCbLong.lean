/- The law's long: is there more than is asked? -/
import Derived.Test.YteekonojmpihlaaDoorQCbPure
import Derived.Test.YteekonojmpihlaaDoorQIRows
namespace Go.Proofs.YteekonojmpihlaaDoor
namespace Kt
end Kt
open Go Go.RowKit Kt
namespace Cb
def longL (rows : List (List Int)) : Bool := decide (30 < rows.length) || rows.any fun r => decide (60 < r.length)
set_option maxRecDepth 100000 in
set_option maxHeartbeats 2000000 in
theorem long_c (ra : Option Addr) (n rc : Nat) (L : List IRow) (rows : List (List Int)) (hL : L.map (·.l) = rows) (hn : L.length = n) (hN : n ≤ 9223372036854775807) (hM : ∀ r ∈ L, r.l.length ≤ 9223372036854775807) (w : World) (hr : Rd w ra (L.map IRow.v)) :
    Calls Tryd.prog 35 #[.slice ra n rc] w fun e w' => e = .returned (.bool (longL rows)) ∧ w = w' := by
  have hrn : rows.length = n := by rw [← hL, List.length_map]; exact hn
  have hrow : ∀ k, k < n → ∃ (b o : Nat) (rk : IRow), ra = some ⟨b, o, none⟩ ∧ w.cell? ⟨b, o + k, none⟩ = some (.slice rk.a rk.l.length rk.cap) ∧ rows[k]? = some rk.l ∧ rk.l.length ≤ 9223372036854775807 := fun k hk => by
    have hkL : k < L.length := by omega
    obtain ⟨b, o, ha, hc⟩ := hr.map_at k hkL
    exact ⟨b, o, L[k], ha, hc, by rw [← hL, List.getElem?_map, List.getElem?_eq_getElem hkL]; rfl, hM _ (List.getElem_mem hkL)⟩
  have HRow := Lib.hid hrow
  clear hrow hr hL hn hM
  obtain ⟨LR, hLR⟩ : ∃ R, longL rows = R := ⟨_, rfl⟩
  rw [hLR]
  go_enter Tryd.func35, Tryd.ntmps35
  by_cases h30 : 30 < n
  · have hi : (30 : Int) < (n : Int) := by omega
    obtain rfl : LR = true := by rw [← hLR]; unfold longL; rw [hrn, decide_eq_true h30]; rfl
    go_wp2
    go_ret
    exact ⟨rfl, rfl⟩
  have hi : ¬ (30 : Int) < (n : Int) := by omega
  have hid : decide ((30 : Int) < (n : Int)) = false := by simp; omega
  have hl0 : LR = rows.any fun r => decide (60 < r.length) := by rw [← hLR]; unfold longL; rw [hrn, decide_eq_false h30]; rfl
  have HL0 := Lib.hid hl0
  have HRn := Lib.hid hrn
  clear hl0 hrn hLR
  go_wp2
  go_loopw [4, 10] (fun _ i W => ∃ k : Nat, k ≤ n ∧ i = .int .i64 (k : Int) ∧ W = w ∧ ∀ j, j < k → (rows.getD j []).length ≤ 60) (fun _ i _ => n - (intOf i).toNat)
  case atStart => exact ⟨0, Nat.zero_le _, rfl, rfl, fun j hj => by omega⟩
  case round =>
    obtain ⟨k, hk, rfl, rfl, hB⟩ := hrel
    by_cases hlt : k < n
    · obtain ⟨b, o, rk, rfl, hc, hg, hm⟩ := HRow.out k hlt
      have hki : (k : Int) < (n : Int) := by omega
      obtain ⟨f, hf⟩ : ∃ f, rk.l.length = f := ⟨_, rfl⟩
      rw [hf] at hc hm
      by_cases h60 : 60 < f
      · have h6 : (60 : Int) < (f : Int) := by omega
        obtain rfl : LR = true := by
          rw [HL0.out, List.any_eq_true]
          exact ⟨rk.l, List.mem_of_getElem? hg, by rw [hf]; simpa using h60⟩
        go_wp2
        go_ret
        exact ⟨rfl, rfl⟩
      · have h6 : ¬ (60 : Int) < (f : Int) := by omega
        have h6d : decide ((60 : Int) < (f : Int)) = false := by simp; omega
        go_wp2
        go_roundw
        case rel =>
          refine ⟨k + 1, hlt, by go_num, (by first | trivial | rfl), fun j hj => ?_⟩
          rcases Nat.lt_or_ge j k with h | h
          · exact hB j h
          · obtain rfl : j = k := by omega
            rw [List.getD_eq_getElem?_getD, hg]
            simp only [Option.getD_some]
            omega
        case measure => simp [intOf]; omega
    · obtain rfl : k = n := by omega
      have hlt' : ¬ ((k : Int) < (k : Int)) := by omega
      obtain rfl : LR = false := by
        rw [HL0.out, List.any_eq_false]
        intro r hr
        obtain ⟨j, hj, he⟩ := List.getElem_of_mem hr
        have := hB j (by rw [← HRn.out]; exact hj)
        rw [List.getD_eq_getElem?_getD, List.getElem?_eq_getElem hj, he] at this
        simp only [Option.getD_some] at this
        simpa using this
      go_wp2
      go_ret
      exact ⟨rfl, rfl⟩
end Cb
end Go.Proofs.YteekonojmpihlaaDoor
