/- The law ActionsText: for every input dofferlaw12.ActionsText returns true and changes nothing that was there. Condition: the variables of package api read as the program's text lays them (the card ties them). -/
import Derived.Test.YtmfcabidmacdcaaDoorActLaw1
import Derived.Test.YtmfcabidmacdcaaDoorCards
import Derived.Test.YtmfcabidmacdcaaDoorTie
import Derived.SevenTiedAt
import Derived.Test.YtmfcabidmacdcaaDoorLibLay
import Derived.Test.YtmfcabidmacdcaaDoorActOpen
namespace Go.Proofs.YtmfcabidmacdcaaDoor
open Go Go.RowKit Go.ChangeShapes Go.WideShapes Kt

set_option maxRecDepth 100000 in
theorem actionsText_walk (H : Type) (enc : TypeId × Value → H) (W : World) (base : Nat) (args : Array Value) (ds : List (DataW H)) (ps : List MemPlace)
      (hval : ∀ (j : Nat) t v, Tryd.f7.params[j]? = some t → args[j]? = some v → Value.okWide Tryd.prog W .any base t v)
      (hA : DataW.TrodAll enc Tryd.prog W 0 (fun _ => true) true Tryd.f7.params.toList args.toList ds ps) (hL : laidMetH Tryd.prog Rows.actionsTextRow.laid W) :
      Calls Tryd.prog 7 args W fun e W' => e = .returned (.bool true) ∧ Below W.heap.size W W' := by
  rw [Tryd.params7] at hA hval
  obtain ⟨v0, d0, rfl, rfl, h0⟩ := trodAll_one hA
  obtain ⟨e0, b0, rfl⟩ := Ac.open_action (hval 0 48 v0 rfl rfl) h0
  obtain ⟨A, hS⟩ := Er.sent_met (S := Er.egs) hL (by kernel_rfl) (by kernel_rfl) (by kernel_rfl)
  exact Ac.texts_c e0 b0 W hS

set_option maxRecDepth 100000 in
theorem actionsText_lifted (os : Os) (started : os.Started) (H : Type) (enc : TypeId × Value → H) :
    ReturnsInHanded {} Tryd.checked os 7 .any (fun w args => (Rows.actionsTextSpec.pre enc Tryd.prog Tryd.f7 [] false w args ∧ laidMetH Tryd.prog Rows.actionsTextRow.laid w) ∧ sizedMet enc Tryd.prog Tryd.f7 (OpenSpec.ofChange Rows.actionsTextSpec) false w args)
      (Rows.actionsTextSpec.post enc Tryd.prog Tryd.f7 false true false false) :=
  Kt.law_lifted_at (C := Tryd.checked) (tb := 4) (n := 1) (World.laidAll Tryd.prog os Rows.actionsTextRow.laid) (World.laidAll_os _ _ _) #[.agg #[.string "".toUTF8, .string "".toUTF8]] (by kernel_rfl) started (by kernel_rfl) Tryd.func7 (by kernel_rfl) rfl
    (fun ds h => by match ds, h with | [d1], _ => rfl) (by kernel_rfl) (by kernel_rfl) Tryd.underlying4 (by kernel_rfl)
    (World.shaped_of_ZipB (by kernel_rfl) (by kernel_rfl)) (by kernel_rfl) (by kernel_rfl) (by kernel_rfl)
    (by rw [MakeChecks.laidMetH_plain _ _ _ (by kernel_rfl)]; exact laidMet_laidAll _ (by kernel_rfl) (by kernel_rfl))
    (actionsText_walk H enc)
theorem actionsText_holds : Rows.ActionsTextSaid :=
  OpenClaim.holds_of_wide 7 Tryd.f7 rfl rfl rfl rfl rfl rfl rfl ⟨rfl, rfl, rfl, rfl, rfl⟩ rfl rfl rfl rfl rfl (by kernel_rfl) Tryd.func7 (by kernel_rfl)
    (of_decide_eq_true (by kernel_rfl)) (by unfold Func.isWrapper; first | (rw [if_pos (by decide +kernel)]; kernel_rfl) | (rw [if_neg (by decide +kernel)]; exact ⟨rfl, rfl⟩))
    (fun os started H enc _ => actionsText_lifted os started H enc)
theorem actionsText_card : Rows.ActionsTextCardSaid :=
  Claim7.holds_tied_plain_at .later [] _ _ _ _
    actionsText_holds (fun _ h => by cases h) (by kernel_rfl) (fun _ h => by cases h) actionsText_row_tie rfl ⟨rfl, rfl⟩ (by kernel_rfl) rfl
    (fun f fn hf hfn => by
      obtain rfl : f = 7 := Option.some.inj ((show Tryd.prog.funcNamed Rows.actionsTextRow.func = some 7 by kernel_rfl).symm.trans hf) |>.symm
      obtain rfl : fn = Tryd.f7 := (Option.some.inj (Tryd.func7.symm.trans hfn)).symm
      exact ⟨by kernel_rfl, fun j t ht => by
        have hm : t ∈ Tryd.f7.params.toList := by simpa using Array.mem_of_getElem? ht
        have hall : (Tryd.f7.params.toList.all fun u => !Tryd.prog.wantsStandIn u) = true := by kernel_rfl
        exact (show Tryd.prog.wantsStandIn t = false by simpa using List.all_eq_true.1 hall t hm)⟩)
    (by kernel_rfl)
#print axioms actionsText_card
end Go.Proofs.YtmfcabidmacdcaaDoor
