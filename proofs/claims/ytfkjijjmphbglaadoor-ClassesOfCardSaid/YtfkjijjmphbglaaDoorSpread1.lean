/- slices.ContainsFunc at classes.Spread's closure (written by gen_find.py). -/
import Derived.Test.YtfkjijjmphbglaaDoorIRows
namespace Go.Proofs.YtfkjijjmphbglaaDoor
open Go Go.RowKit Kt
namespace Cl
/-- Not of this length. -/
def sprO (many : Int) (r : IRow) : Bool := (r.l.length : Int) != many
set_option maxRecDepth 100000 in
theorem spread1_c (r : IRow) (b : Nat) (many : Int) (w : World) (hm : r.l.length ≤ 9223372036854775807) (hx : w.cell? ⟨b, 256, none⟩ = some (.int .i64 many)) : Calls Tryd.prog 84 #[r.v, .pointer (some ⟨b, 0, none⟩)] w fun e w' => e = .returned (.bool (sprO many r)) ∧ w = w' := by
  obtain ⟨a, cap, l⟩ := r
  unfold IRow.v sprO
  simp only at hm ⊢
  generalize l.length = n at *
  go_enter Tryd.func84, Tryd.ntmps84
  go_wp2
  go_ret
  exact ⟨rfl, rfl⟩

set_option maxHeartbeats 1000000 in
set_option maxRecDepth 100000 in
theorem spr_idx (a : Option Addr) (cap n : Nat) (l : List IRow) (b : Nat) (many : Int) (w : World) (hn : l.length = n) (h63 : n ≤ 9223372036854775807) (hr : Rd w a (l.map IRow.v)) (hcl : ∀ x ∈ l, Calls Tryd.prog 84 #[IRow.v x, .pointer (some ⟨b, 0, none⟩)] w fun e w' => e = .returned (.bool (sprO many x)) ∧ w = w') :
    Calls Tryd.prog 131 #[.slice a n cap, .func (.func 84) #[] #[.pointer (some ⟨b, 0, none⟩)]] w fun e w' => (∃ r : Int, e = .returned (.int .i64 r) ∧ decide (0 ≤ r) = l.any (sprO many)) ∧ w = w' := by
  have HC := Lib.hid hcl
  clear hcl
  go_enter Tryd.func131, Tryd.ntmps131
  go_wp2
  go_loopw [5, 8] (fun _ i W => ∃ k : Nat, k ≤ n ∧ i = .int .i64 k ∧ (∀ x ∈ l.take k, (sprO many) x = false) ∧ w = W) (fun _ i _ => n - (intOf i).toNat)
  case atStart => exact ⟨0, Nat.zero_le _, rfl, by simp, rfl⟩
  case round =>
    obtain ⟨k, hk, rfl, hno, rfl⟩ := hrel
    by_cases hlt : k < n
    · have hkl : k < l.length := by omega
      obtain ⟨g, off, ha, hc⟩ := hr.map_at k hkl
      subst ha
      have hnx : (sprO many) l[k] = false → ∀ x ∈ l.take (k + 1), (sprO many) x = false := fun h x hx => by
        rw [← List.take_append_getElem hkl] at hx
        rcases List.mem_append.1 hx with h1 | h1
        · exact hno x h1
        · simp only [List.mem_singleton] at h1; subst h1; exact h
      have hyes : (sprO many) l[k] = true → l.any (sprO many) = true := fun h => List.any_eq_true.2 ⟨l[k], List.getElem_mem hkl, h⟩
      have Hnx := Lib.hid hnx
      have Hyes := Lib.hid hyes
      have HCk := Lib.hid (HC.out l[k] (List.getElem_mem hkl))
      clear hnx hyes hno
      generalize l[k] = x at *
      generalize hfx : IRow.v x = fx at *
      clear hfx
      cases hv : (sprO many) x with
      | true =>
        rw [hv] at HCk
        have Hv := Lib.hid hv
        clear hv
        go_wp2_with fail
        refine HCk.out.mono ?_
        rintro e w5 ⟨rfl, rfl⟩
        go_wp2
        go_ret
        exact ⟨⟨_, rfl, by rw [Hyes.out Hv.out]; simp⟩, rfl⟩
      | false =>
        rw [hv] at HCk
        have Hv := Lib.hid hv
        clear hv
        go_wp2_with fail
        refine HCk.out.mono ?_
        rintro e w5 ⟨rfl, rfl⟩
        go_wp2
        go_roundw
        case rel => exact ⟨k + 1, by omega, by go_num, Hnx.out Hv.out, by first | trivial | rfl⟩
        case measure => simp [intOf]; omega
    · have hkn : k = n := by omega
      have ha : l.any (sprO many) = false := by
        rw [List.take_of_length_le (by omega)] at hno
        exact List.any_eq_false.2 (fun x hx => by rw [hno x hx]; simp)
      subst hkn
      have Ha := Lib.hid ha
      clear ha hno
      go_wp2
      go_ret
      exact ⟨⟨_, rfl, by rw [Ha.out]; decide⟩, rfl⟩
set_option maxRecDepth 100000 in
theorem spr_any (a : Option Addr) (cap n : Nat) (l : List IRow) (b : Nat) (many : Int) (w : World) (hn : l.length = n) (h63 : n ≤ 9223372036854775807) (hr : Rd w a (l.map IRow.v)) (hcl : ∀ x ∈ l, Calls Tryd.prog 84 #[IRow.v x, .pointer (some ⟨b, 0, none⟩)] w fun e w' => e = .returned (.bool (sprO many x)) ∧ w = w') :
    Calls Tryd.prog 85 #[.slice a n cap, .func (.func 84) #[] #[.pointer (some ⟨b, 0, none⟩)]] w fun e w' => e = .returned (.bool (l.any (sprO many))) ∧ w = w' := by
  have hi := spr_idx a cap n l b many w hn h63 hr hcl
  have HI := Lib.hid hi
  clear hi hr hcl
  go_enter Tryd.func85, Tryd.ntmps85
  go_wp2_with fail
  refine HI.out.mono ?_
  rintro e w1 ⟨⟨r, rfl, h⟩, rfl⟩
  go_wp2
  go_ret
  exact ⟨rfl, rfl⟩

end Cl
end Go.Proofs.YtfkjijjmphbglaaDoor
