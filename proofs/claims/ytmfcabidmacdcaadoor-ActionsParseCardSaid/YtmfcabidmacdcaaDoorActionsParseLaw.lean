/- The law ActionsParse: for every input dofferlaw12.ActionsParse returns true and changes nothing that was there. Condition: the variables of package api read as the program's text lays them (the card ties them). -/
import Derived.Test.YtmfcabidmacdcaaDoorActLaw0
import Derived.Test.YtmfcabidmacdcaaDoorCards
import Derived.Test.YtmfcabidmacdcaaDoorTie
import Derived.SevenTiedAt
import Derived.ChangeMaps5
import Derived.Test.YtmfcabidmacdcaaDoorLibLay
namespace Go.Proofs.YtmfcabidmacdcaaDoor
open Go Go.RowKit Go.ChangeShapes Go.WideShapes Kt

set_option maxRecDepth 100000 in
theorem actionsParse_walk (H : Type) (enc : TypeId × Value → H) (W : World) (base : Nat) (args : Array Value) (ds : List (DataW H)) (ps : List MemPlace)
      (hval : ∀ (j : Nat) t v, Tryd.f8.params[j]? = some t → args[j]? = some v → Value.okWide Tryd.prog W .any base t v)
      (hA : DataW.TrodAll enc Tryd.prog W 0 (fun _ => true) true Tryd.f8.params.toList args.toList ds ps) (hL : laidMetH Tryd.prog Rows.actionsParseRow.laid W) :
      Calls Tryd.prog 8 args W fun e W' => e = .returned (.bool true) ∧ Below W.heap.size W W' := by
  rw [Tryd.params8] at hA hval
  obtain ⟨v0, d0, rfl, rfl, h0⟩ := trodAll_one hA
  obtain ⟨s0, rfl, hl0, _⟩ := Go.ChangeMaps.open_string Tryd.underlying9 (hval 0 9 v0 rfl rfl) h0
  obtain ⟨A, hS⟩ := Er.sent_met (S := Er.egs) hL (by kernel_rfl) (by kernel_rfl) (by kernel_rfl)
  exact Ac.parses_c s0.data.toList W hS

set_option maxRecDepth 100000 in
theorem actionsParse_lifted (os : Os) (started : os.Started) (H : Type) (enc : TypeId × Value → H) :
    ReturnsInHanded {} Tryd.checked os 8 .any (fun w args => (Rows.actionsParseSpec.pre enc Tryd.prog Tryd.f8 [] false w args ∧ laidMetH Tryd.prog Rows.actionsParseRow.laid w) ∧ sizedMet enc Tryd.prog Tryd.f8 (OpenSpec.ofChange Rows.actionsParseSpec) false w args)
      (Rows.actionsParseSpec.post enc Tryd.prog Tryd.f8 false true false false) :=
  Kt.law_lifted_at (C := Tryd.checked) (tb := 4) (n := 1) (World.laidAll Tryd.prog os Rows.actionsParseRow.laid) (World.laidAll_os _ _ _) #[.string "".toUTF8] (by kernel_rfl) started (by kernel_rfl) Tryd.func8 (by kernel_rfl) rfl
    (fun ds h => by match ds, h with | [d1], _ => rfl) (by kernel_rfl) (by kernel_rfl) Tryd.underlying4 (by kernel_rfl)
    (World.shaped_of_ZipB (by kernel_rfl) (by kernel_rfl)) (by kernel_rfl) (by kernel_rfl) (by kernel_rfl)
    (by rw [MakeChecks.laidMetH_plain _ _ _ (by kernel_rfl)]; exact laidMet_laidAll _ (by kernel_rfl) (by kernel_rfl))
    (actionsParse_walk H enc)
theorem actionsParse_holds : Rows.ActionsParseSaid :=
  OpenClaim.holds_of_wide 8 Tryd.f8 rfl rfl rfl rfl rfl rfl rfl ⟨rfl, rfl, rfl, rfl, rfl⟩ rfl rfl rfl rfl rfl (by kernel_rfl) Tryd.func8 (by kernel_rfl)
    (of_decide_eq_true (by kernel_rfl)) (by unfold Func.isWrapper; first | (rw [if_pos (by decide +kernel)]; kernel_rfl) | (rw [if_neg (by decide +kernel)]; exact ⟨rfl, rfl⟩))
    (fun os started H enc _ => actionsParse_lifted os started H enc)
theorem actionsParse_card : Rows.ActionsParseCardSaid :=
  Claim7.holds_tied_plain_at .later [] _ _ _ _
    actionsParse_holds (fun _ h => by cases h) (by kernel_rfl) (fun _ h => by cases h) actionsParse_row_tie rfl ⟨rfl, rfl⟩ (by kernel_rfl) rfl
    (fun f fn hf hfn => by
      obtain rfl : f = 8 := Option.some.inj ((show Tryd.prog.funcNamed Rows.actionsParseRow.func = some 8 by kernel_rfl).symm.trans hf) |>.symm
      obtain rfl : fn = Tryd.f8 := (Option.some.inj (Tryd.func8.symm.trans hfn)).symm
      exact ⟨by kernel_rfl, fun j t ht => by
        have hm : t ∈ Tryd.f8.params.toList := by simpa using Array.mem_of_getElem? ht
        have hall : (Tryd.f8.params.toList.all fun u => !Tryd.prog.wantsStandIn u) = true := by kernel_rfl
        exact (show Tryd.prog.wantsStandIn t = false by simpa using List.all_eq_true.1 hall t hm)⟩)
    (by kernel_rfl)
#print axioms actionsParse_card
end Go.Proofs.YtmfcabidmacdcaaDoor
