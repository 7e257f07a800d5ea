/- The law CombAgain: for every input dofferlaw23.CombAgain returns true and changes nothing that was there. Condition: the variables of package api read as the program's text lays them (the card ties them). -/
import Derived.Test.YteekonojmpihlaaDoorQCbLawAg
import Derived.Test.YteekonojmpihlaaDoorCards
import Derived.Test.YteekonojmpihlaaDoorTie
import Derived.SevenTiedAt
import Derived.Test.YteekonojmpihlaaDoorQCbOpen
namespace Go.Proofs.YteekonojmpihlaaDoor
namespace Kt
end Kt
open Go Go.RowKit Go.ChangeShapes Go.WideShapes Kt

set_option maxRecDepth 100000 in
theorem combAgain_walk (H : Type) (enc : TypeId × Value → H) (W : World) (base : Nat) (args : Array Value) (ds : List (DataW H)) (ps : List MemPlace)
      (hval : ∀ (j : Nat) t v, Tryd.f7.params[j]? = some t → args[j]? = some v → Value.okWide Tryd.prog W .any base t v)
      (hA : DataW.TrodAll enc Tryd.prog W 0 (fun _ => true) true Tryd.f7.params.toList args.toList ds ps) (hL : laidMetH Tryd.prog Rows.combAgainRow.laid W) :
      Calls Tryd.prog 7 args W fun e W' => e = .returned (.bool true) ∧ Below W.heap.size W W' := by
  rw [Tryd.params7] at hA hval
  obtain ⟨v0, d0, rfl, rfl, h0⟩ := trodAll_one hA
  obtain ⟨C0, rfl, hC0, hl0⟩ := Cb.open_comb (hval 0 71 v0 rfl rfl) h0
  obtain ⟨A, hS⟩ := Er.sent_met (S := [1]) hL (by kernel_rfl) (by kernel_rfl) (by kernel_rfl)
  exact Cb.ag_law C0 A W hC0 hS

set_option maxRecDepth 100000 in
theorem combAgain_lifted (os : Os) (started : os.Started) (H : Type) (enc : TypeId × Value → H) :
    ReturnsInHanded {} Tryd.checked os 7 .any (fun w args => (Rows.combAgainSpec.pre enc Tryd.prog Tryd.f7 [] false w args ∧ laidMetH Tryd.prog Rows.combAgainRow.laid w) ∧ sizedMet enc Tryd.prog Tryd.f7 (OpenSpec.ofChange Rows.combAgainSpec) false w args)
      (Rows.combAgainSpec.post enc Tryd.prog Tryd.f7 false true false false) :=
  Kt.law_lifted (C := Tryd.checked) (tb := 4) (n := 1) 356 #[.agg #[.int .i64 0, .slice none 0 0, .slice none 0 0, .slice none 0 0, .slice none 0 0]] (by kernel_rfl) started (by kernel_rfl) Tryd.func7 (by kernel_rfl) rfl
    (fun ds h => by match ds, h with | [d1], _ => rfl) (by kernel_rfl) (by kernel_rfl) Tryd.underlying4 (by kernel_rfl)
    (World.shaped_of_RefB (by kernel_rfl) (by kernel_rfl)) (by kernel_rfl) (by kernel_rfl) (by kernel_rfl)
    (laidMetH_of_parts3 (fuel := 8) (laidMet_of_run' 8 (by kernel_rfl) (by kernel_rfl)) (by kernel_rfl) (by kernel_rfl))
    (combAgain_walk H enc)
theorem combAgain_holds : Rows.CombAgainSaid :=
  OpenClaim.holds_of_wide 7 Tryd.f7 rfl rfl rfl rfl rfl rfl rfl ⟨rfl, rfl, rfl, rfl, rfl⟩ rfl rfl rfl rfl rfl (by kernel_rfl) Tryd.func7 (by kernel_rfl)
    (of_decide_eq_true (by kernel_rfl)) (by unfold Func.isWrapper; first | (rw [if_pos (by decide +kernel)]; kernel_rfl) | (rw [if_neg (by decide +kernel)]; exact ⟨rfl, rfl⟩))
    (fun os started H enc _ => combAgain_lifted os started H enc)
theorem combAgain_card : Rows.CombAgainCardSaid :=
  Claim7.holds_tied_plain_at .later [] _ _ _ _
    combAgain_holds (fun _ h => by cases h) (by kernel_rfl) (fun _ h => by cases h) combAgain_row_tie rfl ⟨rfl, rfl⟩ (by kernel_rfl) rfl
    (fun f fn hf hfn => by
      obtain rfl : f = 7 := Option.some.inj ((show Tryd.prog.funcNamed Rows.combAgainRow.func = some 7 by kernel_rfl).symm.trans hf) |>.symm
      obtain rfl : fn = Tryd.f7 := (Option.some.inj (Tryd.func7.symm.trans hfn)).symm
      exact ⟨by kernel_rfl, fun j t ht => by
        have hm : t ∈ Tryd.f7.params.toList := by simpa using Array.mem_of_getElem? ht
        have hall : (Tryd.f7.params.toList.all fun u => !Tryd.prog.wantsStandIn u) = true := by kernel_rfl
        exact (show Tryd.prog.wantsStandIn t = false by simpa using List.all_eq_true.1 hall t hm)⟩)
    (by kernel_rfl)
#print axioms combAgain_card
end Go.Proofs.YteekonojmpihlaaDoor
