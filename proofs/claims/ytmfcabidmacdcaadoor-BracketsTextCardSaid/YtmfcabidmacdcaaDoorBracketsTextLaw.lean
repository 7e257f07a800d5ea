/- The law BracketsText: for every set and all texts ahead and behind dofferlaw06.BracketsText returns true and changes nothing that was there. Condition: the variables that the program's text lays read as laid (the card ties them). -/
import Derived.Test.YtmfcabidmacdcaaDoorBrkText2
import Derived.Test.YtmfcabidmacdcaaDoorCards
import Derived.Test.YtmfcabidmacdcaaDoorTie
import Derived.SevenTiedAt
import Derived.ChangeMaps5
import Derived.Test.YtmfcabidmacdcaaDoorBitsTab
import Derived.Test.YtmfcabidmacdcaaDoorSetsOpen
namespace Go.Proofs.YtmfcabidmacdcaaDoor
open Go Go.RowKit Go.ChangeShapes Go.WideShapes Kt

set_option maxRecDepth 100000 in
theorem bracketsText_walk (H : Type) (enc : TypeId × Value → H) (W : World) (base : Nat) (args : Array Value) (ds : List (DataW H)) (ps : List MemPlace)
      (hval : ∀ (j : Nat) t v, Tryd.f4.params[j]? = some t → args[j]? = some v → Value.okWide Tryd.prog W .any base t v)
      (hA : DataW.TrodAll enc Tryd.prog W 0 (fun _ => true) true Tryd.f4.params.toList args.toList ds ps) (hL : laidMetH Tryd.prog Rows.bracketsTextRow.laid W) :
      Calls Tryd.prog 4 args W fun e W' => e = .returned (.bool true) ∧ Below W.heap.size W W' := by
  rw [Tryd.params4] at hA hval
  obtain ⟨v0, v1, v2, d0, d1, d2, p0, p1, p2, rfl, rfl, rfl, h0, h1, h2⟩ := trodAll_three hA
  obtain ⟨s0, rfl, hs0⟩ := St.open_set (hval 0 25 v0 rfl rfl) h0
  obtain ⟨s1, rfl, _, _⟩ := Go.ChangeMaps.open_string Tryd.underlying9 (hval 1 9 v1 rfl rfl) h1
  obtain ⟨s2, rfl, _, _⟩ := Go.ChangeMaps.open_string Tryd.underlying9 (hval 2 9 v2 rfl rfl) h2
  have hT := Bt.tab_met hL (by kernel_rfl) 0 (by kernel_rfl)
  obtain ⟨A, hS⟩ := Er.sent_met (S := Bk.bks) hL (by kernel_rfl) (by kernel_rfl) (by kernel_rfl)
  exact Bk.texts_c A s0 hs0 s1 s2 W hT hS

set_option maxRecDepth 100000 in
theorem bracketsText_lifted (os : Os) (started : os.Started) (H : Type) (enc : TypeId × Value → H) :
    ReturnsInHanded {} Tryd.checked os 4 .any (fun w args => (Rows.bracketsTextSpec.pre enc Tryd.prog Tryd.f4 [] false w args ∧ laidMetH Tryd.prog Rows.bracketsTextRow.laid w) ∧ sizedMet enc Tryd.prog Tryd.f4 (OpenSpec.ofChange Rows.bracketsTextSpec) false w args)
      (Rows.bracketsTextSpec.post enc Tryd.prog Tryd.f4 false true false false) :=
  Kt.law_lifted (C := Tryd.checked) (tb := 4) (n := 3) 371 #[.agg #[.int .u64 0, .int .u64 0, .int .u64 0, .int .u64 0], .string "".toUTF8, .string "".toUTF8] (by kernel_rfl) started (by kernel_rfl) Tryd.func4 (by kernel_rfl) rfl
    (fun ds h => by match ds, h with | [d1, d2, d3], _ => rfl) (by kernel_rfl) (by kernel_rfl) Tryd.underlying4 (by kernel_rfl)
    (World.shaped_of_RefB (by kernel_rfl) (by kernel_rfl)) (by kernel_rfl) (by kernel_rfl) (by kernel_rfl)
    (laidMetH_of_parts3 (fuel := 8) (laidMet_of_run' 8 (by kernel_rfl) (by kernel_rfl)) (by kernel_rfl) (by kernel_rfl))
    (bracketsText_walk H enc)
theorem bracketsText_holds : Rows.BracketsTextSaid :=
  OpenClaim.holds_of_wide 4 Tryd.f4 rfl rfl rfl rfl rfl rfl rfl ⟨rfl, rfl, rfl, rfl, rfl⟩ rfl rfl rfl rfl rfl (by kernel_rfl) Tryd.func4 (by kernel_rfl)
    (of_decide_eq_true (by kernel_rfl)) (by unfold Func.isWrapper; first | (rw [if_pos (by decide +kernel)]; kernel_rfl) | (rw [if_neg (by decide +kernel)]; exact ⟨rfl, rfl⟩))
    (fun os started H enc _ => bracketsText_lifted os started H enc)
theorem bracketsText_card : Rows.BracketsTextCardSaid :=
  Claim7.holds_tied_plain_at .later [] _ _ _ _
    bracketsText_holds (fun _ h => by cases h) (by kernel_rfl) (fun _ h => by cases h) bracketsText_row_tie rfl ⟨rfl, rfl⟩ (by kernel_rfl) rfl
    (fun f fn hf hfn => by
      obtain rfl : f = 4 := Option.some.inj ((show Tryd.prog.funcNamed Rows.bracketsTextRow.func = some 4 by kernel_rfl).symm.trans hf) |>.symm
      obtain rfl : fn = Tryd.f4 := (Option.some.inj (Tryd.func4.symm.trans hfn)).symm
      exact ⟨by kernel_rfl, fun j t ht => by
        have hm : t ∈ Tryd.f4.params.toList := by simpa using Array.mem_of_getElem? ht
        have hall : (Tryd.f4.params.toList.all fun u => !Tryd.prog.wantsStandIn u) = true := by kernel_rfl
        exact (show Tryd.prog.wantsStandIn t = false by simpa using List.all_eq_true.1 hall t hm)⟩)
    (by kernel_rfl)
#print axioms bracketsText_card
end Go.Proofs.YtmfcabidmacdcaaDoor
