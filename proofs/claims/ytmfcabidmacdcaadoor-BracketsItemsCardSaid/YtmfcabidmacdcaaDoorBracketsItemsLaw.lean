/- The law BracketsItems: for every list of bytes and every turn dofferlaw06.BracketsItems returns true and changes nothing that was there. Condition: the variables that the program's text lays read as laid (the card ties them). -/
import Derived.Test.YtmfcabidmacdcaaDoorBrkItems2
import Derived.Test.YtmfcabidmacdcaaDoorCards
import Derived.Test.YtmfcabidmacdcaaDoorTie
import Derived.SevenTiedAt
import Derived.Test.YtmfcabidmacdcaaDoorBitsTab
namespace Go.Proofs.YtmfcabidmacdcaaDoor
open Go Go.RowKit Go.ChangeShapes Go.WideShapes Kt

set_option maxRecDepth 100000 in
theorem bracketsItems_walk (H : Type) (enc : TypeId × Value → H) (W : World) (base : Nat) (args : Array Value) (ds : List (DataW H)) (ps : List MemPlace)
      (hval : ∀ (j : Nat) t v, Tryd.f5.params[j]? = some t → args[j]? = some v → Value.okWide Tryd.prog W .any base t v)
      (hA : DataW.TrodAll enc Tryd.prog W 0 (fun _ => true) true Tryd.f5.params.toList args.toList ds ps) (hL : laidMetH Tryd.prog Rows.bracketsItemsRow.laid W) :
      Calls Tryd.prog 5 args W fun e W' => e = .returned (.bool true) ∧ Below W.heap.size W W' := by
  rw [Tryd.params5] at hA hval
  obtain ⟨v0, v1, d0, d1, p0, p1, rfl, rfl, rfl, h0, h1⟩ := trodAll_two hA
  obtain ⟨xa0, xl0, xc0, rfl⟩ := okWide_slice Tryd.underlying40 (hval 0 40 v0 rfl rfl)
  obtain ⟨fuel0, hf0⟩ := h0
  obtain ⟨a0, c0, l0, hv0, hlc0, hm0, hn0, hr0⟩ := open_u8s Tryd.underlying40 Tryd.underlying5 (by kernel_rfl) (by simpa [Value.cells] using hf0)
  rw [hv0]
  obtain ⟨i1, rfl, _, _, _⟩ := open_int Tryd.underlying3 (hval 1 3 v1 rfl rfl) h1
  have hT := Bt.tab_met hL (by kernel_rfl) 0 (by kernel_rfl)
  obtain ⟨A, hS⟩ := Er.sent_met (S := Bk.bks) hL (by kernel_rfl) (by kernel_rfl) (by kernel_rfl)
  exact Bk.items_c i1 a0 c0 _ l0 W rfl hr0 hT hS

set_option maxRecDepth 100000 in
theorem bracketsItems_lifted (os : Os) (started : os.Started) (H : Type) (enc : TypeId × Value → H) :
    ReturnsInHanded {} Tryd.checked os 5 .any (fun w args => (Rows.bracketsItemsSpec.pre enc Tryd.prog Tryd.f5 [] false w args ∧ laidMetH Tryd.prog Rows.bracketsItemsRow.laid w) ∧ sizedMet enc Tryd.prog Tryd.f5 (OpenSpec.ofChange Rows.bracketsItemsSpec) false w args)
      (Rows.bracketsItemsSpec.post enc Tryd.prog Tryd.f5 false true false false) :=
  Kt.law_lifted (C := Tryd.checked) (tb := 4) (n := 2) 371 #[.slice none 0 0, .int .i64 0] (by kernel_rfl) started (by kernel_rfl) Tryd.func5 (by kernel_rfl) rfl
    (fun ds h => by match ds, h with | [d1, d2], _ => rfl) (by kernel_rfl) (by kernel_rfl) Tryd.underlying4 (by kernel_rfl)
    (World.shaped_of_RefB (by kernel_rfl) (by kernel_rfl)) (by kernel_rfl) (by kernel_rfl) (by kernel_rfl)
    (laidMetH_of_parts3 (fuel := 8) (laidMet_of_run' 8 (by kernel_rfl) (by kernel_rfl)) (by kernel_rfl) (by kernel_rfl))
    (bracketsItems_walk H enc)
theorem bracketsItems_holds : Rows.BracketsItemsSaid :=
  OpenClaim.holds_of_wide 5 Tryd.f5 rfl rfl rfl rfl rfl rfl rfl ⟨rfl, rfl, rfl, rfl, rfl⟩ rfl rfl rfl rfl rfl (by kernel_rfl) Tryd.func5 (by kernel_rfl)
    (of_decide_eq_true (by kernel_rfl)) (by unfold Func.isWrapper; first | (rw [if_pos (by decide +kernel)]; kernel_rfl) | (rw [if_neg (by decide +kernel)]; exact ⟨rfl, rfl⟩))
    (fun os started H enc _ => bracketsItems_lifted os started H enc)
theorem bracketsItems_card : Rows.BracketsItemsCardSaid :=
  Claim7.holds_tied_plain_at .later [] _ _ _ _
    bracketsItems_holds (fun _ h => by cases h) (by kernel_rfl) (fun _ h => by cases h) bracketsItems_row_tie rfl ⟨rfl, rfl⟩ (by kernel_rfl) rfl
    (fun f fn hf hfn => by
      obtain rfl : f = 5 := Option.some.inj ((show Tryd.prog.funcNamed Rows.bracketsItemsRow.func = some 5 by kernel_rfl).symm.trans hf) |>.symm
      obtain rfl : fn = Tryd.f5 := (Option.some.inj (Tryd.func5.symm.trans hfn)).symm
      exact ⟨by kernel_rfl, fun j t ht => by
        have hm : t ∈ Tryd.f5.params.toList := by simpa using Array.mem_of_getElem? ht
        have hall : (Tryd.f5.params.toList.all fun u => !Tryd.prog.wantsStandIn u) = true := by kernel_rfl
        exact (show Tryd.prog.wantsStandIn t = false by simpa using List.all_eq_true.1 hall t hm)⟩)
    (by kernel_rfl)
#print axioms bracketsItems_card
end Go.Proofs.YtmfcabidmacdcaaDoor
