/- (tree.Node).bare. -/
import Derived.Test.YteekonojmpihlaaDoorQTreeWalk
import Derived.Test.YteekonojmpihlaaDoorQActNm
import Derived.BigQuiet
import Derived.Laws.StructEq
namespace Go.Proofs.YteekonojmpihlaaDoor
open Go Go.RowKit Go.Shelf Kt
namespace Tr
theorem eq_zero (x0 x1 x2 x3 : Nat) (w : World) : (binOp .eql 34 (.agg #[.int .u64 (x0 : Int), .int .u64 (x1 : Int), .int .u64 (x2 : Int), .int .u64 (x3 : Int)]) (.agg #[.int .u64 0, .int .u64 0, .int .u64 0, .int .u64 0])).run Tryd.prog w = .ok (.bool (decide ([x0, x1, x2, x3] = [0, 0, 0, 0]))) w := by
  have u3 := Tryd.underlying32
  obtain ⟨i, hi⟩ : ∃ i, Tryd.prog.info? 32 = some i := Option.isSome_iff_exists.1 (by kernel_rfl)
  have hce : Tryd.prog.cellsOf 32 = 1 := by kernel_rfl
  rw [run_eql_struct, show (10000 : Nat) = 9999 + 1 from rfl, run_equalIn_array (P := Tryd.prog) w 9999 _ _ Tryd.underlying34 hi, hce]
  rw [show List.range 4 = [0, 1, 2, 3] from rfl]
  simp only [Op.eqItems]
  go_simp
  by_cases h0 : x0 = 0 <;> by_cases h1 : x1 = 0 <;> by_cases h2 : x2 = 0 <;> by_cases h3 : x3 = 0 <;> simp [h0, h1, h2, h3] <;> (intros; omega)
set_option maxRecDepth 100000 in
set_option maxHeartbeats 4000000 in
theorem bare_c0 (k mn mx : Int) (x0 x1 x2 x3 : Nat) (a : Option Addr) (nl c : Nat) (t : List UInt8) (w : World) :
    Calls Tryd.prog 99 #[.agg #[.int .i64 k, .int .u64 (x0 : Int), .int .u64 (x1 : Int), .int .u64 (x2 : Int), .int .u64 (x3 : Int), .slice a nl c, .int .i64 mn, .int .i64 mx, .string (Str t)]] w fun e W' =>
      e = .returned (.bool ((decide ([x0, x1, x2, x3] = [0, 0, 0, 0]) || decide (k = 1)) && ((decide (mn = 0) && decide (mx = 0)) || decide (k = 4)) && (decide (t = []) || decide (k = 5)))) ∧ Below w.heap.size w W' := by
  have e1 := Ac.str_nil t
  have e2 := Ac.str_emp t
  have he := fun w => eq_zero x0 x1 x2 x3 w
  have hB := (Below.refl w.heap.size w)
  generalize decide ([x0, x1, x2, x3] = [0, 0, 0, 0]) = v at *
  generalize decide (t = []) = u at *
  have hk : k = 1 ∨ k = 4 ∨ k = 5 ∨ ((k == 1) = false ∧ (k == 4) = false ∧ (k == 5) = false ∧ k ≠ 1 ∧ k ≠ 4 ∧ k ≠ 5) := by
    by_cases h1 : k = 1
    · exact .inl h1
    · by_cases h4 : k = 4
      · exact .inr (.inl h4)
      · by_cases h5 : k = 5
        · exact .inr (.inr (.inl h5))
        · exact .inr (.inr (.inr ⟨by simpa using h1, by simpa using h4, by simpa using h5, h1, h4, h5⟩))
  have hm : mn = 0 ∨ ((mn == 0) = false ∧ decide (mn = 0) = false) := by
    by_cases h : mn = 0
    · exact .inl h
    · exact .inr ⟨by simpa using h, by simpa using h⟩
  have hx : decide (mx = 0) = (mx == 0) := by by_cases h : mx = 0 <;> simp [h]
  obtain ⟨y, hy⟩ : ∃ y, (mx == 0) = y := ⟨_, rfl⟩
  rw [hx, hy]
  clear hx
  rcases hm with rfl | ⟨hmn, hmd⟩
  · go_enter Tryd.func99, Tryd.ntmps99
    go_wp2_with fail
    go_quiet (fail)
    rcases hk with rfl | rfl | rfl | ⟨k1, k4, k5, h1, h4, h5⟩
    all_goals (cases v <;> cases u <;> cases y <;> (go_wp2; go_ret; exact ⟨by first | rfl | simp [*], below_drewN (hB.alloc (Nat.le_refl _) _) _⟩))
  · rw [hmd]
    go_enter Tryd.func99, Tryd.ntmps99
    go_wp2_with fail
    go_quiet (fail)
    rcases hk with rfl | rfl | rfl | ⟨k1, k4, k5, h1, h4, h5⟩
    all_goals (cases v <;> cases u <;> (go_wp2; go_ret; exact ⟨by first | rfl | simp [*], below_drewN (hB.alloc (Nat.le_refl _) _) _⟩))
end Tr
end Go.Proofs.YteekonojmpihlaaDoor
