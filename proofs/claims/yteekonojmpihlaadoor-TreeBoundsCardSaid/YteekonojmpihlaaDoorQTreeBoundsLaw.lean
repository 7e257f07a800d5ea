/- The law TreeBounds: for every input dofferlaw07.TreeBounds returns true and changes nothing that was there. Condition: the variables of package api read as the program's text lays them (the card ties them). -/
import Derived.Test.YteekonojmpihlaaDoorQTreeLaw2
import Derived.Test.YteekonojmpihlaaDoorCards
import Derived.Test.YteekonojmpihlaaDoorTie
import Derived.SevenTiedAt
import Derived.Test.YteekonojmpihlaaDoorQBitsTab
namespace Go.Proofs.YteekonojmpihlaaDoor
open Go Go.RowKit Go.ChangeShapes Go.WideShapes Kt

set_option maxRecDepth 100000 in
theorem treeBounds_walk (H : Type) (enc : TypeId × Value → H) (W : World) (base : Nat) (args : Array Value) (ds : List (DataW H)) (ps : List MemPlace)
      (hval : ∀ (j : Nat) t v, Tryd.f11.params[j]? = some t → args[j]? = some v → Value.okWide Tryd.prog W .any base t v)
      (hA : DataW.TrodAll enc Tryd.prog W 0 (fun _ => true) true Tryd.f11.params.toList args.toList ds ps) (hL : laidMetH Tryd.prog Rows.treeBoundsRow.laid W) :
      Calls Tryd.prog 11 args W fun e W' => e = .returned (.bool true) ∧ Below W.heap.size W W' := by
  rw [Tryd.params11] at hA hval
  obtain ⟨v0, v1, d0, d1, p0, p1, rfl, rfl, rfl, h0, h1⟩ := trodAll_two hA
  obtain ⟨i0, rfl, _, _, _⟩ := open_int Tryd.underlying3 (hval 0 3 v0 rfl rfl) h0
  obtain ⟨i1, rfl, _, _, _⟩ := open_int Tryd.underlying3 (hval 1 3 v1 rfl rfl) h1
  have hT := Bt.tab_met hL (by kernel_rfl) 0 (by kernel_rfl)
  exact Tr.bounds_law i0 i1 W hT

set_option maxRecDepth 100000 in
theorem treeBounds_lifted (os : Os) (started : os.Started) (H : Type) (enc : TypeId × Value → H) :
    ReturnsInHanded {} Tryd.checked os 11 .any (fun w args => (Rows.treeBoundsSpec.pre enc Tryd.prog Tryd.f11 [] false w args ∧ laidMetH Tryd.prog Rows.treeBoundsRow.laid w) ∧ sizedMet enc Tryd.prog Tryd.f11 (OpenSpec.ofChange Rows.treeBoundsSpec) false w args)
      (Rows.treeBoundsSpec.post enc Tryd.prog Tryd.f11 false true false false) :=
  Kt.law_lifted (C := Tryd.checked) (tb := 4) (n := 2) 356 #[.int .i64 0, .int .i64 0] (by kernel_rfl) started (by kernel_rfl) Tryd.func11 (by kernel_rfl) rfl
    (fun ds h => by match ds, h with | [d1, d2], _ => rfl) (by kernel_rfl) (by kernel_rfl) Tryd.underlying4 (by kernel_rfl)
    (World.shaped_of_RefB (by kernel_rfl) (by kernel_rfl)) (by kernel_rfl) (by kernel_rfl) (by kernel_rfl)
    (laidMetH_of_parts3 (fuel := 8) (laidMet_of_run' 8 (by kernel_rfl) (by kernel_rfl)) (by kernel_rfl) (by kernel_rfl))
    (treeBounds_walk H enc)
theorem treeBounds_holds : Rows.TreeBoundsSaid :=
  OpenClaim.holds_of_wide 11 Tryd.f11 rfl rfl rfl rfl rfl rfl rfl ⟨rfl, rfl, rfl, rfl, rfl⟩ rfl rfl rfl rfl rfl (by kernel_rfl) Tryd.func11 (by kernel_rfl)
    (of_decide_eq_true (by kernel_rfl)) (by unfold Func.isWrapper; first | (rw [if_pos (by decide +kernel)]; kernel_rfl) | (rw [if_neg (by decide +kernel)]; exact ⟨rfl, rfl⟩))
    (fun os started H enc _ => treeBounds_lifted os started H enc)
theorem treeBounds_card : Rows.TreeBoundsCardSaid :=
  Claim7.holds_tied_plain_at .later [] _ _ _ _
    treeBounds_holds (fun _ h => by cases h) (by kernel_rfl) (fun _ h => by cases h) treeBounds_row_tie rfl ⟨rfl, rfl⟩ (by kernel_rfl) rfl
    (fun f fn hf hfn => by
      obtain rfl : f = 11 := Option.some.inj ((show Tryd.prog.funcNamed Rows.treeBoundsRow.func = some 11 by kernel_rfl).symm.trans hf) |>.symm
      obtain rfl : fn = Tryd.f11 := (Option.some.inj (Tryd.func11.symm.trans hfn)).symm
      exact ⟨by kernel_rfl, fun j t ht => by
        have hm : t ∈ Tryd.f11.params.toList := by simpa using Array.mem_of_getElem? ht
        have hall : (Tryd.f11.params.toList.all fun u => !Tryd.prog.wantsStandIn u) = true := by kernel_rfl
        exact (show Tryd.prog.wantsStandIn t = false by simpa using List.all_eq_true.1 hall t hm)⟩)
    (by kernel_rfl)
#print axioms treeBounds_card
end Go.Proofs.YteekonojmpihlaaDoor
