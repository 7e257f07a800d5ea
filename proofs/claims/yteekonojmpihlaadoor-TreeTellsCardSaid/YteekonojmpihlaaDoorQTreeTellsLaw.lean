import Derived.Test.YteekonojmpihlaaDoorQTreeLaw4
import Derived.Test.YteekonojmpihlaaDoorQTreeOpen
import Derived.Test.YteekonojmpihlaaDoorCards
import Derived.Test.YteekonojmpihlaaDoorTie
import Derived.SevenTiedAt
import Derived.Test.YteekonojmpihlaaDoorQBitsTab
/- The law TreeTells: for every input dofferlaw07.TreeTells returns true and changes nothing that was there. Condition: the variables of package api read as the program's text lays them (the card ties them). -/
namespace Go.Proofs.YteekonojmpihlaaDoor
open Go Go.RowKit Go.ChangeShapes Go.WideShapes Kt

set_option maxRecDepth 100000 in
theorem treeTells_walk (H : Type) (enc : TypeId × Value → H) (W : World) (base : Nat) (args : Array Value) (ds : List (DataW H)) (ps : List MemPlace)
      (hval : ∀ (j : Nat) t v, Tryd.f12.params[j]? = some t → args[j]? = some v → Value.okWide Tryd.prog W .any base t v)
      (hA : DataW.TrodAll enc Tryd.prog W 0 (fun _ => true) true Tryd.f12.params.toList args.toList ds ps) (hL : laidMetH Tryd.prog Rows.treeTellsRow.laid W) :
      Calls Tryd.prog 12 args W fun e W' => e = .returned (.bool true) ∧ Below W.heap.size W W' := by
  rw [Tryd.params12] at hA hval
  obtain ⟨v0, d0, rfl, rfl, h0⟩ := trodAll_one hA
  obtain ⟨n0, rfl, hI0, hw0⟩ := Tr.open_node (hval 0 37 v0 rfl rfl) h0
  have hT := Bt.tab_met hL (by kernel_rfl) 0 (by kernel_rfl)
  exact Tr.tells_law n0 W hT hI0 hw0

set_option maxRecDepth 100000 in
theorem treeTells_lifted (os : Os) (started : os.Started) (H : Type) (enc : TypeId × Value → H) :
    ReturnsInHanded {} Tryd.checked os 12 .any (fun w args => (Rows.treeTellsSpec.pre enc Tryd.prog Tryd.f12 [] false w args ∧ laidMetH Tryd.prog Rows.treeTellsRow.laid w) ∧ sizedMet enc Tryd.prog Tryd.f12 (OpenSpec.ofChange Rows.treeTellsSpec) false w args)
      (Rows.treeTellsSpec.post enc Tryd.prog Tryd.f12 false true false false) :=
  Kt.law_lifted (C := Tryd.checked) (tb := 4) (n := 1) 356 #[.agg #[.int .i64 0, .int .u64 0, .int .u64 0, .int .u64 0, .int .u64 0, .slice none 0 0, .int .i64 0, .int .i64 0, .string "".toUTF8]] (by kernel_rfl) started (by kernel_rfl) Tryd.func12 (by kernel_rfl) rfl
    (fun ds h => by match ds, h with | [d1], _ => rfl) (by kernel_rfl) (by kernel_rfl) Tryd.underlying4 (by kernel_rfl)
    (World.shaped_of_RefB (by kernel_rfl) (by kernel_rfl)) (by kernel_rfl) (by kernel_rfl) (by kernel_rfl)
    (laidMetH_of_parts3 (fuel := 8) (laidMet_of_run' 8 (by kernel_rfl) (by kernel_rfl)) (by kernel_rfl) (by kernel_rfl))
    (treeTells_walk H enc)
theorem treeTells_holds : Rows.TreeTellsSaid :=
  OpenClaim.holds_of_wide 12 Tryd.f12 rfl rfl rfl rfl rfl rfl rfl ⟨rfl, rfl, rfl, rfl, rfl⟩ rfl rfl rfl rfl rfl (by kernel_rfl) Tryd.func12 (by kernel_rfl)
    (of_decide_eq_true (by kernel_rfl)) (by unfold Func.isWrapper; first | (rw [if_pos (by decide +kernel)]; kernel_rfl) | (rw [if_neg (by decide +kernel)]; exact ⟨rfl, rfl⟩))
    (fun os started H enc _ => treeTells_lifted os started H enc)
theorem treeTells_card : Rows.TreeTellsCardSaid :=
  Claim7.holds_tied_plain_at .later [] _ _ _ _
    treeTells_holds (fun _ h => by cases h) (by kernel_rfl) (fun _ h => by cases h) treeTells_row_tie rfl ⟨rfl, rfl⟩ (by kernel_rfl) rfl
    (fun f fn hf hfn => by
      obtain rfl : f = 12 := Option.some.inj ((show Tryd.prog.funcNamed Rows.treeTellsRow.func = some 12 by kernel_rfl).symm.trans hf) |>.symm
      obtain rfl : fn = Tryd.f12 := (Option.some.inj (Tryd.func12.symm.trans hfn)).symm
      exact ⟨by kernel_rfl, fun j t ht => by
        have hm : t ∈ Tryd.f12.params.toList := by simpa using Array.mem_of_getElem? ht
        have hall : (Tryd.f12.params.toList.all fun u => !Tryd.prog.wantsStandIn u) = true := by kernel_rfl
        exact (show Tryd.prog.wantsStandIn t = false by simpa using List.all_eq_true.1 hall t hm)⟩)
    (by kernel_rfl)
#print axioms treeTells_card
end Go.Proofs.YteekonojmpihlaaDoor
