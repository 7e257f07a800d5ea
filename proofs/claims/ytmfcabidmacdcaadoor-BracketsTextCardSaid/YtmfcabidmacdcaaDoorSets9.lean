/- The chapter's example: dofferlaw01.alive. Condition: the table of TrailingZeros64 reads as laid. -/
import Derived.Test.YtmfcabidmacdcaaDoorSets8
namespace Go.Proofs.YtmfcabidmacdcaaDoor
open Go Go.RowKit Kt
namespace St
open Mk
theorem ex_set : IsSet [0, 60129542144, 0, 0] (fun q => decide (97 ≤ q) && decide (q ≤ 99)) := by
  refine ⟨rfl, by intro x hx; simp at hx; omega, fun c hc => ?_⟩
  have h : ((List.range 256).all fun c => has [0, 60129542144, 0, 0] c == (decide (97 ≤ c) && decide (c ≤ 99))) = true := by decide +kernel
  have := List.all_eq_true.1 h c (by simpa using hc)
  simpa using this
theorem ex_all : all [0, 60129542144, 0, 0] = [97, 98, 99] := by decide +kernel
theorem ex_sps : sps [97, 98, 99] = [(97, 99)] := by decide
theorem eqB (w : World) : (binOp .eql 116 (.agg #[.int .u8 97, .int .u8 99]) (.agg #[.int .u8 97, .int .u8 99])).run Tryd.prog w = .ok (.bool true) w := by kernel_rfl
theorem buildB (w : World) : (Instr.build 116 #[(0, .int .u8 97), (1, .int .u8 99)]).run Tryd.prog w = .ok (.agg #[.int .u8 97, .int .u8 99]) w := by kernel_rfl
theorem spans_ex (w : World) (hT : Bt.Tab w) : Calls Tryd.prog 54 #[sv [0, 60129542144, 0, 0]] w fun e w' => ∃ g cap, e = .returned (.slice (some ⟨g, 0, none⟩) 1 cap) ∧ w'.cell? ⟨g, 0, none⟩ = some (.int .u8 97) ∧ w'.cell? ⟨g, 1, none⟩ = some (.int .u8 99) ∧ Below w.heap.size w w' := by
  refine (spans_c [0, 60129542144, 0, 0] rfl ex_set.lt w hT).mono ?_
  rintro e w' ⟨v, q, hq, rfl, hown, hb⟩
  rw [ex_all] at hq
  rw [hq, ex_sps] at hown
  have hown' : w'.ownsRow w.heap.size 116 2 v 1 [.int .u8 97, .int .u8 99] := hown
  obtain ⟨g, cap, rfl⟩ := ownsRow_succ hown'
  have hr := Rd.own hown'
  obtain ⟨b0, o0, e0, c0⟩ := hr 0 _ rfl
  obtain ⟨b1, o1, e1, c1⟩ := hr 1 _ rfl
  simp only [Option.some.injEq, Addr.mk.injEq, and_true] at e0 e1
  obtain ⟨rfl, rfl⟩ := e0
  obtain ⟨rfl, rfl⟩ := e1
  exact ⟨g, cap, rfl, c0, c1, hb⟩

end St
end Go.Proofs.YtmfcabidmacdcaaDoor
