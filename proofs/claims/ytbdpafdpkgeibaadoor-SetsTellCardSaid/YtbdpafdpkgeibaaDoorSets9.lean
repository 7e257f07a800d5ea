/- The chapter's example: dofferlaw01.alive. Condition: the table of TrailingZeros64 reads as laid. -/
import Derived.Test.YtbdpafdpkgeibaaDoorSets8
namespace Go.Proofs.YtbdpafdpkgeibaaDoor
open Go Go.RowKit Kt
namespace St
open Mk
theorem ex_set : IsSet [0, 60129542144, 0, 0] (fun q => decide (97 ≤ q) && decide (q ≤ 99)) := by
  refine ⟨rfl, by intro x hx; simp at hx; omega, fun c hc => ?_⟩
  have h : ((List.range 256).all fun c => has [0, 60129542144, 0, 0] c == (decide (97 ≤ c) && decide (c ≤ 99))) = true := by decide +kernel
  have := List.all_eq_true.1 h c (by simpa using hc)
  simpa using this
theorem ex_all : all [0, 60129542144, 0, 0] = [97, 98, 99] := by decide +kernel
theorem ex_sps : sps [97, 98, 99] = [(97, 99)] := by decide
theorem eqB (w : World) : (binOp .eql 73 (.agg #[.int .u8 97, .int .u8 99]) (.agg #[.int .u8 97, .int .u8 99])).run Tryd.prog w = .ok (.bool true) w := by kernel_rfl
theorem buildB (w : World) : (Instr.build 73 #[(0, .int .u8 97), (1, .int .u8 99)]).run Tryd.prog w = .ok (.agg #[.int .u8 97, .int .u8 99]) w := by kernel_rfl
theorem spans_ex (w : World) (hT : Bt.Tab w) : Calls Tryd.prog 46 #[sv [0, 60129542144, 0, 0]] w fun e w' => ∃ g cap, e = .returned (.slice (some ⟨g, 0, none⟩) 1 cap) ∧ w'.cell? ⟨g, 0, none⟩ = some (.int .u8 97) ∧ w'.cell? ⟨g, 1, none⟩ = some (.int .u8 99) ∧ Below w.heap.size w w' := by
  refine (spans_c [0, 60129542144, 0, 0] rfl ex_set.lt w hT).mono ?_
  rintro e w' ⟨v, q, hq, rfl, hown, hb⟩
  rw [ex_all] at hq
  rw [hq, ex_sps] at hown
  have hown' : w'.ownsRow w.heap.size 73 2 v 1 [.int .u8 97, .int .u8 99] := hown
  obtain ⟨g, cap, rfl⟩ := ownsRow_succ hown'
  have hr := Rd.own hown'
  obtain ⟨b0, o0, e0, c0⟩ := hr 0 _ rfl
  obtain ⟨b1, o1, e1, c1⟩ := hr 1 _ rfl
  simp only [Option.some.injEq, Addr.mk.injEq, and_true] at e0 e1
  obtain ⟨rfl, rfl⟩ := e0
  obtain ⟨rfl, rfl⟩ := e1
  exact ⟨g, cap, rfl, c0, c1, hb⟩
set_option maxHeartbeats 2000000 in
set_option maxRecDepth 100000 in
theorem alive_c (w : World) (hT : Bt.Tab w) : Calls Tryd.prog 30 #[] w fun e w' => e = .returned (.bool true) ∧ Below w.heap.size w w' := by
  have hS := span_c 97 99 (by omega) (by omega) w
  have HT := Lib.hid hT
  have HS := Lib.hid hS
  have hq := eqB
  have hbu := buildB
  clear hT hS
  go_enter Tryd.func30, Tryd.ntmps30
  go_wp2_with fail
  refine HS.out.mono ?_
  rintro e w1 ⟨rs, rfl, hrs, hb1⟩
  obtain rfl := hrs.unique ex_set
  have hr := heap_alloc_new w1 (.cells #[.int .u64 0, .int .u64 60129542144, .int .u64 0, .int .u64 0] 54)
  have hB2 := hb1.alloc hb1.size (.cells #[.int .u64 0, .int .u64 60129542144, .int .u64 0, .int .u64 0] 54)
  have hsp := spans_ex _ (HT.out.below hB2)
  have HSP := Lib.hid hsp
  have HB2 := Lib.hid hB2
  have HR := Lib.hid hr
  simp only [sv, vals, List.map_cons, List.map_nil]
  clear hb1 hrs hB2 hsp hr
  go_wp2_with fail
  refine HSP.out.mono ?_
  rintro e w3 ⟨g, cap, rfl, c0, c1, hb3⟩
  have hr3 := (hb3.block _ (block_lt HR.out)).trans HR.out
  have k0 := cell_block hr3 0
  have k1 := cell_block hr3 1
  have k2 := cell_block hr3 2
  have k3 := cell_block hr3 3
  simp at k0 k1 k2 k3
  have HB3 := Lib.hid (HB2.out.trans (hb3.mono HB2.out.size))
  clear hr3 hb3
  go_wp2_with fail
  refine (len_c [0, 60129542144, 0, 0] _ ex_set w3).mono ?_
  rintro e w4 ⟨rfl, hb4⟩
  rw [ex_all]
  have d0 := (hb4.cell (p := ⟨g, 0, none⟩) (lt_of_cell c0)).trans c0
  have d1 := (hb4.cell (p := ⟨g, 1, none⟩) (lt_of_cell c1)).trans c1
  have HB4 := Lib.hid (HB3.out.trans (hb4.mono HB3.out.size))
  clear hb4 c0 c1
  go_wp2
  go_ret
  exact ⟨by first | rfl | simp, HB4.out⟩
end St
end Go.Proofs.YtbdpafdpkgeibaaDoor
