import Derived.Test.YtpjimmdpcpcmoaaDoorQMod
import Derived.Test.YtpjimmdpcpcmoaaDoorRows
import Derived.Test.YtpjimmdpcpcmoaaDoorQLib
import Derived.Laws.LoneSync
/- sync/atomic.Int64: Load, Add, in one goroutine. -/
namespace Go.Proofs.YtpjimmdpcpcmoaaDoor
open Go Go.RowKit Kt
namespace At
set_option maxRecDepth 100000 in
theorem load_c (b o : Nat) (x : Int) (w : World) (hc : w.cell? ⟨b, o, none⟩ = some (.int .i64 x)) :
    Calls Tryd.prog 48 #[.pointer (some ⟨b, o, none⟩)] w fun e w' => e = .returned (.int .i64 x) ∧ w = w' := by
  have hl := run_call_load (P := Tryd.prog) Tryd.func67 (by kernel_rfl) (by kernel_rfl) (by kernel_rfl) .i64 (by kernel_rfl) hc
  go_enter Tryd.func48, Tryd.ntmps48
  go_wp2
  go_ret
  exact ⟨rfl, rfl⟩
set_option maxRecDepth 100000 in
theorem add_c (b o : Nat) (x y s : Int) (w : World) (hc : w.cell? ⟨b, o, none⟩ = some (.int .i64 x)) (hz : w.frozen? ⟨b, o, none⟩ = false) (hs : x + y = s) (h1 : -9223372036854775808 ≤ s) (h2 : s ≤ 9223372036854775807) :
    Calls Tryd.prog 51 #[.pointer (some ⟨b, o, none⟩), .int .i64 y] w fun e w' => e = .returned (.int .i64 s) ∧ w.setCell ⟨b, o, none⟩ (.int .i64 s) = w' := by
  have hw : IntKind.i64.wrap (x + y) = s := by rw [IntKind.wrap_i64]; omega
  have hl := run_call_add (P := Tryd.prog) Tryd.func71 (by kernel_rfl) (by kernel_rfl) (by kernel_rfl) .i64 (by kernel_rfl) (y := y) (s := s) hc hz (by simp [go_sem, hw])
  go_enter Tryd.func51, Tryd.ntmps51
  go_wp2
  go_ret
  exact ⟨rfl, rfl⟩
end At
end Go.Proofs.YtpjimmdpcpcmoaaDoor
