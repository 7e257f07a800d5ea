/- The walks of package doffernum: copies with marked room behind, and whether list and room stand as they stood. -/
import Derived.Test.YtbdpafdpkgeibaaDoorRows
import Derived.Test.YtbdpafdpkgeibaaDoorLib
namespace Go.Proofs.YtbdpafdpkgeibaaDoor
open Go Go.RowKit Kt
namespace Num

theorem elU8 : El Tryd.prog 45 5 (.int .u8 0) 1 1 := ⟨Tryd.underlying45, info_parts (by kernel_rfl), rfl, by decide⟩
def marks : List UInt8 := [201, 202, 203, 204, 205, 206]

set_option maxHeartbeats 400000 in
set_option maxRecDepth 100000 in
theorem bytes_c (a : Option Addr) (cap : Nat) (l : List UInt8) (w : World) (hl : l.length ≤ 1000000) (hno : a = none → cap = 0 ∧ l.length = 0) (hr : Rd w a (u8s l)) :
    Calls Tryd.prog 31 #[.slice a l.length cap] w fun e w' => ∃ g, e = .returned (.slice (some ⟨g, 0, none⟩) l.length (l.length + 6)) ∧ w.heap.size ≤ g ∧ Rd w' (some ⟨g, 0, none⟩) (u8s (l ++ marks)) ∧ Below w.heap.size w w' := by
  obtain ⟨w1, h1, own1, gr1⟩ := elU8.make0 w.heap.size w .i64 .i64 (↑l.length + 6) (l.length + 6) (by omega) (by omega) (by unfold maxLen; omega) (Nat.le_refl _)
  have b1 : Below w.heap.size w w1 := below_made gr1 (Nat.le_refl _)
  obtain ⟨w2, h2, own2, gr2⟩ := elU8.fits w.heap.size (ty := 45) own1 l.length cap (by simp [u8s]) (hr.keep b1) hno (oneCell_u8s l) (by omega)
  have b2 : Below w.heap.size w1 w2 := below_grown own1 gr2 (Nat.le_refl _) b1.size
  have b12 := b1.trans b2
  simp only [Nat.zero_add, List.nil_append] at h2 own2
  have hm : Rd (w2.alloc (.cells #[.int .u8 201, .int .u8 202, .int .u8 203, .int .u8 204, .int .u8 205, .int .u8 206] 5)) (some ⟨w2.heap.size, 0, none⟩) (u8s marks) := Rd.new _ _ _ _ _ rfl
  obtain ⟨w3, h3, own3, gr3⟩ := elU8.fits w.heap.size (ty := 45) (own2.alloc _) 6 6 rfl hm (fun h => by cases h) (oneCell_u8s _) (by omega)
  have b3 : Below w.heap.size w w3 := (b12.alloc b12.size _).trans (below_grown (own2.alloc _) gr3 (Nat.le_refl _) (by have := b12.size; simp; omega))
  have O3 := Lib.hid own3
  have B3 := Lib.hid b3
  clear own1 gr1 own2 gr2 b1 b2 hno hr b12 hm own3 gr3 b3
  go_enter Tryd.func31, Tryd.ntmps31
  go_wp2_with (first | (at_builtin; (with_reducible apply wpList_append_run h2); rfl; rfl; rfl; rfl; rfl) | (at_builtin; (with_reducible apply wpList_append_run h3); rfl; rfl; rfl; rfl; rfl))
  go_ret
  exact ⟨_, rfl, Nat.le_refl _, by rw [u8s_append]; exact Rd.own O3.out, B3.out⟩

/-- 'Kept': the list and its marks stand. -/
theorem kept_c (g : Nat) (b : Option Addr) (bcap : Nat) (l : List UInt8) (w : World) (hl : l.length ≤ 1000000) (ha : Rd w (some ⟨g, 0, none⟩) (u8s (l ++ marks))) (hb : Rd w b (u8s l)) :
    Calls Tryd.prog 37 #[.slice (some ⟨g, 0, none⟩) l.length (l.length + 6), .slice b l.length bcap] w fun e w' => e = .returned (.bool true) ∧ Below w.heap.size w w' := by
  have c1 := fun nq => str_run (P := Tryd.prog) (dst := 9) elU8.ht Tryd.underlying5 Tryd.underlying9 (show Rd w (some ⟨g, 0, none⟩) (u8s l) from by have := ha.take l.length; rw [u8s_append, List.take_left' (u8s_length l)] at this; exact this) (l.length + 6) nq
  have c2 := fun nq => str_run (P := Tryd.prog) (dst := 9) elU8.ht Tryd.underlying5 Tryd.underlying9 hb bcap nq
  have hm : ∀ k : Nat, k < 6 → w.cell? ⟨g, l.length + k, none⟩ = some (.int .u8 (201 + (k : Int))) := by
    intro k hk
    have hx : (u8s (l ++ marks))[l.length + k]? = some (.int .u8 (201 + (k : Int))) := by
      rw [u8s_append, List.getElem?_append_right (by rw [u8s_length]; omega), u8s_length, Nat.add_sub_cancel_left]
      match k, hk with
      | 0, _ | 1, _ | 2, _ | 3, _ | 4, _ | 5, _ => rfl
    obtain ⟨b', off, he, hc⟩ := ha _ _ hx
    simp only [Option.some.injEq, Addr.mk.injEq, and_true] at he
    obtain ⟨rfl, rfl⟩ := he
    simpa using hc
  have Hm := Lib.hid hm
  clear hm ha hb
  go_enter Tryd.func37, Tryd.ntmps37
  go_wp2
  go_quiet (fail)
  go_wp2
  go_loop [6] (fun i => ∃ k : Nat, k ≤ 6 ∧ i = .int .i64 k) (fun i => 6 - (intOf i).toNat)
  case atStart => exact ⟨0, by omega, rfl⟩
  case round =>
    obtain ⟨k, hk, rfl⟩ := hrel
    by_cases hlt : k < 6
    · have hc := Hm.out k hlt
      go_wp2
      all_goals go_round
      case rel => exact ⟨k + 1, by omega, by go_num⟩
      case measure => simp [intOf]; omega
    · go_wp2
      go_ret
      exact ⟨rfl, below_drewN (Below.refl _ _) _⟩
end Num
end Go.Proofs.YtbdpafdpkgeibaaDoor
