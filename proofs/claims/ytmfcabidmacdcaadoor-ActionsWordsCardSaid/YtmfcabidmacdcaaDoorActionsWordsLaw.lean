/- The law ActionsWords: for every input dofferlaw12.ActionsWords returns true and changes nothing that was there. Condition: the variables of package api read as the program's text lays them (the card ties them). -/
import Derived.Test.YtmfcabidmacdcaaDoorActLaw2
import Derived.Test.YtmfcabidmacdcaaDoorCards
import Derived.Test.YtmfcabidmacdcaaDoorTie
import Derived.SevenTiedAt
import Derived.Test.YtmfcabidmacdcaaDoorLibLay
import Derived.Test.YtmfcabidmacdcaaDoorActOpen
import Derived.ChangeMaps5
namespace Go.Proofs.YtmfcabidmacdcaaDoor
open Go Go.RowKit Go.ChangeShapes Go.WideShapes Kt

set_option maxRecDepth 100000 in
theorem actionsWords_walk (H : Type) (enc : TypeId × Value → H) (W : World) (base : Nat) (args : Array Value) (ds : List (DataW H)) (ps : List MemPlace)
      (hval : ∀ (j : Nat) t v, Tryd.f6.params[j]? = some t → args[j]? = some v → Value.okWide Tryd.prog W .any base t v)
      (hA : DataW.TrodAll enc Tryd.prog W 0 (fun _ => true) true Tryd.f6.params.toList args.toList ds ps) (hL : laidMetH Tryd.prog Rows.actionsWordsRow.laid W) :
      Calls Tryd.prog 6 args W fun e W' => e = .returned (.bool true) ∧ Below W.heap.size W W' := by
  rw [Tryd.params6] at hA hval
  obtain ⟨v0, v1, d0, d1, p0, p1, rfl, rfl, rfl, h0, h1⟩ := trodAll_two hA
  obtain ⟨e0, b0, rfl⟩ := Ac.open_action (hval 0 48 v0 rfl rfl) h0
  obtain ⟨s1, rfl, hl1, _⟩ := Go.ChangeMaps.open_string Tryd.underlying9 (hval 1 9 v1 rfl rfl) h1
  obtain ⟨A, hS⟩ := Er.sent_met (S := Ac.acs) hL (by kernel_rfl) (by kernel_rfl) (by kernel_rfl)
  exact Ac.wordslaw_c e0 b0 s1.data.toList W hS

set_option maxRecDepth 100000 in
theorem actionsWords_lifted (os : Os) (started : os.Started) (H : Type) (enc : TypeId × Value → H) :
    ReturnsInHanded {} Tryd.checked os 6 .any (fun w args => (Rows.actionsWordsSpec.pre enc Tryd.prog Tryd.f6 [] false w args ∧ laidMetH Tryd.prog Rows.actionsWordsRow.laid w) ∧ sizedMet enc Tryd.prog Tryd.f6 (OpenSpec.ofChange Rows.actionsWordsSpec) false w args)
      (Rows.actionsWordsSpec.post enc Tryd.prog Tryd.f6 false true false false) :=
  Kt.law_lifted_at (C := Tryd.checked) (tb := 4) (n := 2) (World.laidAll Tryd.prog os Rows.actionsWordsRow.laid) (World.laidAll_os _ _ _) #[.agg #[.string "".toUTF8, .string "".toUTF8], .string "".toUTF8] (by kernel_rfl) started (by kernel_rfl) Tryd.func6 (by kernel_rfl) rfl
    (fun ds h => by match ds, h with | [d1, d2], _ => rfl) (by kernel_rfl) (by kernel_rfl) Tryd.underlying4 (by kernel_rfl)
    (World.shaped_of_ZipB (by kernel_rfl) (by kernel_rfl)) (by kernel_rfl) (by kernel_rfl) (by kernel_rfl)
    (by rw [MakeChecks.laidMetH_plain _ _ _ (by kernel_rfl)]; exact laidMet_laidAll _ (by kernel_rfl) (by kernel_rfl))
    (actionsWords_walk H enc)
theorem actionsWords_holds : Rows.ActionsWordsSaid :=
  OpenClaim.holds_of_wide 6 Tryd.f6 rfl rfl rfl rfl rfl rfl rfl ⟨rfl, rfl, rfl, rfl, rfl⟩ rfl rfl rfl rfl rfl (by kernel_rfl) Tryd.func6 (by kernel_rfl)
    (of_decide_eq_true (by kernel_rfl)) (by unfold Func.isWrapper; first | (rw [if_pos (by decide +kernel)]; kernel_rfl) | (rw [if_neg (by decide +kernel)]; exact ⟨rfl, rfl⟩))
    (fun os started H enc _ => actionsWords_lifted os started H enc)
theorem actionsWords_card : Rows.ActionsWordsCardSaid :=
  Claim7.holds_tied_plain_at .later [] _ _ _ _
    actionsWords_holds (fun _ h => by cases h) (by kernel_rfl) (fun _ h => by cases h) actionsWords_row_tie rfl ⟨rfl, rfl⟩ (by kernel_rfl) rfl
    (fun f fn hf hfn => by
      obtain rfl : f = 6 := Option.some.inj ((show Tryd.prog.funcNamed Rows.actionsWordsRow.func = some 6 by kernel_rfl).symm.trans hf) |>.symm
      obtain rfl : fn = Tryd.f6 := (Option.some.inj (Tryd.func6.symm.trans hfn)).symm
      exact ⟨by kernel_rfl, fun j t ht => by
        have hm : t ∈ Tryd.f6.params.toList := by simpa using Array.mem_of_getElem? ht
        have hall : (Tryd.f6.params.toList.all fun u => !Tryd.prog.wantsStandIn u) = true := by kernel_rfl
        exact (show Tryd.prog.wantsStandIn t = false by simpa using List.all_eq_true.1 hall t hm)⟩)
    (by kernel_rfl)
#print axioms actionsWords_card
end Go.Proofs.YtmfcabidmacdcaaDoor
