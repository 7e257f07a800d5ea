/- The law RobinLeaves: for every input dofferlaw33.RobinLeaves returns true and changes nothing that was there. Condition: the variables of package api read as the program's text lays them (the card ties them). -/
import Derived.Test.YtjohljpcoodijaaDoorRobinLeaves
import Derived.Test.YtjohljpcoodijaaDoorCards
import Derived.Test.YtjohljpcoodijaaDoorTie
import Derived.SevenTiedAt
namespace Go.Proofs.YtjohljpcoodijaaDoor
open Go Go.RowKit Go.ChangeShapes Go.WideShapes Kt

set_option maxRecDepth 100000 in
theorem robinLeaves_walk (H : Type) (enc : TypeId × Value → H) (W : World) (base : Nat) (args : Array Value) (ds : List (DataW H)) (ps : List MemPlace)
      (hval : ∀ (j : Nat) t v, Tryd.f9.params[j]? = some t → args[j]? = some v → Value.okWide Tryd.prog W .any base t v)
      (hA : DataW.TrodAll enc Tryd.prog W 0 (fun _ => true) true Tryd.f9.params.toList args.toList ds ps) (hL : laidMetH Tryd.prog Rows.robinLeavesRow.laid W) :
      Calls Tryd.prog 9 args W fun e W' => e = .returned (.bool true) ∧ Below W.heap.size W W' := by
  rw [Tryd.params9] at hA hval
  obtain ⟨v0, v1, v2, d0, d1, d2, p0, p1, p2, rfl, rfl, rfl, h0, h1, h2⟩ := trodAll_three hA
  obtain ⟨xa0, xl0, xc0, rfl⟩ := okWide_slice Tryd.underlying32 (hval 0 32 v0 rfl rfl)
  obtain ⟨fuel0, hf0⟩ := h0
  obtain ⟨a0, c0, l0, hv0, hlc0, hm0, hn0, hr0, _⟩ := open_i64s Tryd.underlying32 Tryd.underlying3 (by kernel_rfl) (by simpa [Value.cells] using hf0)
  rw [hv0]
  have hl0 : l0.length ≤ 9223372036854775807 := by unfold maxLen at hm0; omega
  obtain ⟨xa1, xl1, xc1, rfl⟩ := okWide_slice Tryd.underlying32 (hval 1 32 v1 rfl rfl)
  obtain ⟨fuel1, hf1⟩ := h1
  obtain ⟨a1, c1, l1, hv1, hlc1, hm1, hn1, hr1, _⟩ := open_i64s Tryd.underlying32 Tryd.underlying3 (by kernel_rfl) (by simpa [Value.cells] using hf1)
  rw [hv1]
  have hl1 : l1.length ≤ 9223372036854775807 := by unfold maxLen at hm1; omega
  obtain ⟨i2, rfl, _, _, _⟩ := open_int Tryd.underlying3 (hval 2 3 v2 rfl rfl) h2
  obtain ⟨A, hS⟩ := Er.sent_met (S := Rb.rb3) hL (by kernel_rfl) (by kernel_rfl) (by kernel_rfl)
  exact Rb.leaves_c A i2 a0 a1 c0 c1 l0.length l1.length l0 l1 W rfl rfl hl0 hl1 hr0 hr1 hS

set_option maxRecDepth 100000 in
theorem robinLeaves_lifted (os : Os) (started : os.Started) (H : Type) (enc : TypeId × Value → H) :
    ReturnsInHanded {} Tryd.checked os 9 .any (fun w args => (Rows.robinLeavesSpec.pre enc Tryd.prog Tryd.f9 [] false w args ∧ laidMetH Tryd.prog Rows.robinLeavesRow.laid w) ∧ sizedMet enc Tryd.prog Tryd.f9 (OpenSpec.ofChange Rows.robinLeavesSpec) false w args)
      (Rows.robinLeavesSpec.post enc Tryd.prog Tryd.f9 false true false false) :=
  Kt.law_lifted (C := Tryd.checked) (tb := 4) (n := 3) 356 #[.slice none 0 0, .slice none 0 0, .int .i64 0] (by kernel_rfl) started (by kernel_rfl) Tryd.func9 (by kernel_rfl) rfl
    (fun ds h => by match ds, h with | [d1, d2, d3], _ => rfl) (by kernel_rfl) (by kernel_rfl) Tryd.underlying4 (by kernel_rfl)
    (World.shaped_of_RefB (by kernel_rfl) (by kernel_rfl)) (by kernel_rfl) (by kernel_rfl) (by kernel_rfl)
    (laidMetH_of_parts3 (fuel := 8) (laidMet_of_run' 8 (by kernel_rfl) (by kernel_rfl)) (by kernel_rfl) (by kernel_rfl))
    (robinLeaves_walk H enc)
theorem robinLeaves_holds : Rows.RobinLeavesSaid :=
  OpenClaim.holds_of_wide 9 Tryd.f9 rfl rfl rfl rfl rfl rfl rfl ⟨rfl, rfl, rfl, rfl, rfl⟩ rfl rfl rfl rfl rfl (by kernel_rfl) Tryd.func9 (by kernel_rfl)
    (of_decide_eq_true (by kernel_rfl)) (by unfold Func.isWrapper; first | (rw [if_pos (by decide +kernel)]; kernel_rfl) | (rw [if_neg (by decide +kernel)]; exact ⟨rfl, rfl⟩))
    (fun os started H enc _ => robinLeaves_lifted os started H enc)
theorem robinLeaves_card : Rows.RobinLeavesCardSaid :=
  Claim7.holds_tied_plain_at .later [] _ _ _ _
    robinLeaves_holds (fun _ h => by cases h) (by kernel_rfl) (fun _ h => by cases h) robinLeaves_row_tie rfl ⟨rfl, rfl⟩ (by kernel_rfl) rfl
    (fun f fn hf hfn => by
      obtain rfl : f = 9 := Option.some.inj ((show Tryd.prog.funcNamed Rows.robinLeavesRow.func = some 9 by kernel_rfl).symm.trans hf) |>.symm
      obtain rfl : fn = Tryd.f9 := (Option.some.inj (Tryd.func9.symm.trans hfn)).symm
      exact ⟨by kernel_rfl, fun j t ht => by
        have hm : t ∈ Tryd.f9.params.toList := by simpa using Array.mem_of_getElem? ht
        have hall : (Tryd.f9.params.toList.all fun u => !Tryd.prog.wantsStandIn u) = true := by kernel_rfl
        exact (show Tryd.prog.wantsStandIn t = false by simpa using List.all_eq_true.1 hall t hm)⟩)
    (by kernel_rfl)
#print axioms robinLeaves_card
end Go.Proofs.YtjohljpcoodijaaDoor
