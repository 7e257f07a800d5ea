/- (*robin.List).find. -/
import Derived.Test.YtjohljpcoodijaaDoorNum
import Derived.Test.YtjohljpcoodijaaDoorMod
namespace Go.Proofs.YtjohljpcoodijaaDoor
open Go Go.RowKit Kt
namespace Rb
def c2 (x : Int × Int) : List Value := [.int .i64 x.1, .int .i64 x.2]
def fd (l : List (Int × Int)) (x : Int) : Nat := l.findIdx (fun z => z.1 == x)
def fdv (l : List (Int × Int)) (x : Int) : Int := if fd l x < l.length then (fd l x : Int) else -1

set_option maxHeartbeats 400000 in
set_option maxRecDepth 100000 in
theorem same_c (m d x : Int) (b : Nat) (w : World) (hx : w.cell? ⟨b, 0, none⟩ = some (.int .i64 x)) :
    Calls Tryd.prog 98 #[.agg #[.int .i64 m, .int .i64 d], .pointer (some ⟨b, 0, none⟩)] w fun e w' => e = .returned (.bool (m == x)) ∧ Below w.heap.size w w' := by
  have hb := lt_of_cell (p := ⟨b, 0, none⟩) hx
  have B := (Below.refl w.heap.size w).alloc (Nat.le_refl _) (.cells #[.int .i64 m, .int .i64 d] 118)
  have hx2 : (w.alloc (.cells #[.int .i64 m, .int .i64 d] 118)).cell? ⟨b, 0, none⟩ = some (.int .i64 x) := by
    rw [World.cell?_of_block (B.block b hb)]; exact hx
  go_enter Tryd.func98, Tryd.ntmps98
  go_wp2
  try go_quiet (fail)
  try go_wp2
  go_ret
  exact ⟨rfl, by first | exact B | exact B.drew | exact below_drewN B _⟩
theorem fd_lt (l : List (Int × Int)) (x : Int) (k : Nat) (hk : k < l.length) (hno : ∀ j (h : j < k), (l[j]'(by omega)).1 ≠ x) (he : l[k].1 = x) : fd l x = k := by
  unfold fd
  rw [List.findIdx_eq hk]
  exact ⟨by simpa using he, fun j hj => by simpa using hno j hj⟩
theorem fd_no (l : List (Int × Int)) (x : Int) (hno : ∀ j (h : j < l.length), l[j].1 ≠ x) : fd l x = l.length := by
  unfold fd
  rw [List.findIdx_eq_length]
  intro z hz
  obtain ⟨j, hj, rfl⟩ := List.getElem_of_mem hz
  simpa using hno j hj

set_option maxHeartbeats 1000000 in
set_option maxRecDepth 100000 in
theorem index_c (a : Option Addr) (cap n : Nat) (l : List (Int × Int)) (x : Int) (b : Nat) (w : World) (hn : l.length = n) (h63 : n ≤ 9223372036854775807) (hr : Rd w a (l.flatMap c2)) (hx : w.cell? ⟨b, 0, none⟩ = some (.int .i64 x)) :
    Calls Tryd.prog 97 #[.slice a n cap, .func (.func 98) #[] #[.pointer (some ⟨b, 0, none⟩)]] w fun e w' => e = .returned (.int .i64 (fdv l x)) ∧ Below w.heap.size w w' := by
  go_enter Tryd.func97, Tryd.ntmps97
  go_wp2
  go_loopw [5, 8] (fun _ i W => ∃ k : Nat, k ≤ n ∧ i = .int .i64 k ∧ (∀ j (h : j < k) (h2 : j < l.length), l[j].1 ≠ x) ∧ Below w.heap.size w W) (fun _ i _ => n - (intOf i).toNat)
  case atStart => exact ⟨0, Nat.zero_le _, rfl, fun j h => by omega, Below.refl _ _⟩
  case round =>
    obtain ⟨k, hk, rfl, hno, hB⟩ := hrel
    by_cases hlt : k < n
    · obtain ⟨g, off, ha, hcs⟩ := (hr.keep hB).struct 2 (by intro z _; rfl) k (by omega) (by omega)
      have k0 := hcs 0 _ rfl (by omega)
      have k1 := hcs 1 _ rfl (by omega)
      subst ha
      clear hcs
      have hxw : wr.cell? ⟨b, 0, none⟩ = some (.int .i64 x) := by
        rw [World.cell?_of_block (hB.block b (lt_of_cell (p := ⟨b, 0, none⟩) hx))]; exact hx
      have hkx : k < l.length := by omega
      have hv : l[k].1 = x → fdv l x = (k : Int) := fun he => by
        have := fd_lt l x k hkx (fun j hj => hno j hj (by omega)) he
        unfold fdv
        rw [this, if_pos hkx]
      have hnx : l[k].1 ≠ x → ∀ j (h : j < k + 1) (h2 : j < l.length), l[j].1 ≠ x := fun hne j h h2 => by
        by_cases hj : j < k
        · exact hno j hj h2
        · have : j = k := by omega
          subst this; exact hne
      have Hv := Lib.hid hv
      have Hnx := Lib.hid hnx
      clear hv hnx hno
      generalize l[k] = z at *
      obtain ⟨m, d⟩ := z
      simp only [Nat.add_zero] at k0 k1
      rw [← Nat.add_assoc] at k1
      by_cases hmx : m = x
      · have hmb : (x == x) = true := by simp
        go_wp2_with (go_at_call 98; (with_reducible refine (same_c x d x b _ hxw).mono ?_); rintro e w5 ⟨rfl, hb5⟩)
        go_ret
        exact ⟨by rw [Hv.out hmx]; rfl, hB.trans (hb5.mono hB.size)⟩
      · have hmb : (m == x) = false := by simp [hmx]
        go_wp2_with (go_at_call 98; (with_reducible refine (same_c m d x b _ hxw).mono ?_); rintro e w5 ⟨rfl, hb5⟩)
        go_roundw
        case rel => exact ⟨k + 1, by omega, by go_num, Hnx.out hmx, hB.trans (hb5.mono hB.size)⟩
        case measure => simp [intOf]; omega
    · have : k = n := by omega
      subst this
      have hv : fdv l x = -1 := by
        unfold fdv
        rw [fd_no l x (fun j h => hno j (by omega) h), if_neg (by omega)]
      go_wp2
      go_ret
      exact ⟨by rw [hv]; rfl, hB⟩

set_option maxHeartbeats 1000000 in
set_option maxRecDepth 100000 in
theorem find_c (p : Nat) (a : Option Addr) (cap n : Nat) (l : List (Int × Int)) (x : Int) (w : World) (hn : l.length = n) (h63 : n ≤ 9223372036854775807) (hr : Rd w a (l.flatMap c2)) (k1 : w.cell? ⟨p, 1, none⟩ = some (.slice a n cap)) :
    Calls Tryd.prog 78 #[.pointer (some ⟨p, 0, none⟩), .int .i64 x] w fun e w' => e = .returned (.int .i64 (fdv l x)) ∧ Below w.heap.size w w' := by
  have B := (Below.refl w.heap.size w).alloc (Nat.le_refl _) (.cells #[.int .i64 x] 3)
  have k1' : (w.alloc (.cells #[.int .i64 x] 3)).cell? ⟨p, 1, none⟩ = some (.slice a n cap) := by
    rw [World.cell?_of_block (B.block p (lt_of_cell (p := ⟨p, 1, none⟩) k1))]; exact k1
  have kx : (w.alloc (.cells #[.int .i64 x] 3)).cell? ⟨w.heap.size, 0, none⟩ = some (.int .i64 x) := cell_block (heap_alloc_new w _) 0
  have hr' := hr.keep B
  go_enter Tryd.func78, Tryd.ntmps78
  go_wp2_with (go_at_call 97; (with_reducible refine (index_c a cap n l x w.heap.size _ hn h63 hr' kx).mono ?_); rintro e w5 ⟨rfl, hb5⟩)
  go_ret
  exact ⟨rfl, B.trans (hb5.mono B.size)⟩
end Rb
end Go.Proofs.YtjohljpcoodijaaDoor
