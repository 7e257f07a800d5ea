/- The law MarksKeys: for every input dofferlaw02.MarksKeys returns true and changes nothing that was there. Condition: the variables of package api read as the program's text lays them (the card ties them). -/
import Derived.Test.YtbdpafdpkgeibaaDoorMarksKeys
import Derived.Test.YtbdpafdpkgeibaaDoorCards
import Derived.Test.YtbdpafdpkgeibaaDoorTie
import Derived.SevenTiedAt
import Derived.Test.YtbdpafdpkgeibaaDoorBitsTab
namespace Go.Proofs.YtbdpafdpkgeibaaDoor
open Go Go.RowKit Go.ChangeShapes Go.WideShapes Kt

set_option maxRecDepth 100000 in
theorem marksKeys_walk (H : Type) (enc : TypeId × Value → H) (W : World) (base : Nat) (args : Array Value) (ds : List (DataW H)) (ps : List MemPlace)
      (hval : ∀ (j : Nat) t v, Tryd.f11.params[j]? = some t → args[j]? = some v → Value.okWide Tryd.prog W .any base t v)
      (hA : DataW.TrodAll enc Tryd.prog W 0 (fun _ => true) true Tryd.f11.params.toList args.toList ds ps) (hL : laidMetH Tryd.prog Rows.marksKeysRow.laid W) :
      Calls Tryd.prog 11 args W fun e W' => e = .returned (.bool true) ∧ Below W.heap.size W W' := by
  rw [Tryd.params11] at hA hval
  obtain ⟨v0, v1, d0, d1, p0, p1, rfl, rfl, rfl, h0, h1⟩ := trodAll_two hA
  obtain ⟨xa0, xl0, xc0, rfl⟩ := okWide_slice Tryd.underlying23 (hval 0 23 v0 rfl rfl)
  obtain ⟨fuel0, hf0⟩ := h0
  obtain ⟨a0, c0, l0, hv0, hlc0, hm0, hn0, hr0, hw0⟩ := open_i64s Tryd.underlying23 Tryd.underlying3 (by kernel_rfl) (by simpa [Value.cells] using hf0)
  rw [hv0]
  have hl0 : l0.length ≤ 9223372036854775807 := by unfold maxLen at hm0; omega
  obtain ⟨xa1, xl1, xc1, rfl⟩ := okWide_slice Tryd.underlying23 (hval 1 23 v1 rfl rfl)
  obtain ⟨fuel1, hf1⟩ := h1
  obtain ⟨a1, c1, l1, hv1, hlc1, hm1, hn1, hr1, hw1⟩ := open_i64s Tryd.underlying23 Tryd.underlying3 (by kernel_rfl) (by simpa [Value.cells] using hf1)
  rw [hv1]
  have hl1 : l1.length ≤ 9223372036854775807 := by unfold maxLen at hm1; omega
  have hT := Bt.tab_met hL (by kernel_rfl) 0 (by kernel_rfl)
  exact Mk.keys_c a0 a1 c0 c1 _ _ l0 l1 rfl rfl hl0 hl1 hw0 hw1 W hr0 hr1 hT

set_option maxRecDepth 100000 in
theorem marksKeys_lifted (os : Os) (started : os.Started) (H : Type) (enc : TypeId × Value → H) :
    ReturnsInHanded {} Tryd.checked os 11 .any (fun w args => (Rows.marksKeysSpec.pre enc Tryd.prog Tryd.f11 [] false w args ∧ laidMetH Tryd.prog Rows.marksKeysRow.laid w) ∧ sizedMet enc Tryd.prog Tryd.f11 (OpenSpec.ofChange Rows.marksKeysSpec) false w args)
      (Rows.marksKeysSpec.post enc Tryd.prog Tryd.f11 false true false false) :=
  Kt.law_lifted (C := Tryd.checked) (tb := 4) (n := 2) 356 #[.slice none 0 0, .slice none 0 0] (by kernel_rfl) started (by kernel_rfl) Tryd.func11 (by kernel_rfl) rfl
    (fun ds h => by match ds, h with | [d1, d2], _ => rfl) (by kernel_rfl) (by kernel_rfl) Tryd.underlying4 (by kernel_rfl)
    (World.shaped_of_RefB (by kernel_rfl) (by kernel_rfl)) (by kernel_rfl) (by kernel_rfl) (by kernel_rfl)
    (laidMetH_of_parts3 (fuel := 8) (laidMet_of_run' 8 (by kernel_rfl) (by kernel_rfl)) (by kernel_rfl) (by kernel_rfl))
    (marksKeys_walk H enc)
theorem marksKeys_holds : Rows.MarksKeysSaid :=
  OpenClaim.holds_of_wide 11 Tryd.f11 rfl rfl rfl rfl rfl rfl rfl ⟨rfl, rfl, rfl, rfl, rfl⟩ rfl rfl rfl rfl rfl (by kernel_rfl) Tryd.func11 (by kernel_rfl)
    (of_decide_eq_true (by kernel_rfl)) (by unfold Func.isWrapper; first | (rw [if_pos (by decide +kernel)]; kernel_rfl) | (rw [if_neg (by decide +kernel)]; exact ⟨rfl, rfl⟩))
    (fun os started H enc _ => marksKeys_lifted os started H enc)
theorem marksKeys_card : Rows.MarksKeysCardSaid :=
  Claim7.holds_tied_plain_at .later [] _ _ _ _
    marksKeys_holds (fun _ h => by cases h) (by kernel_rfl) (fun _ h => by cases h) marksKeys_row_tie rfl ⟨rfl, rfl⟩ (by kernel_rfl) rfl
    (fun f fn hf hfn => by
      obtain rfl : f = 11 := Option.some.inj ((show Tryd.prog.funcNamed Rows.marksKeysRow.func = some 11 by kernel_rfl).symm.trans hf) |>.symm
      obtain rfl : fn = Tryd.f11 := (Option.some.inj (Tryd.func11.symm.trans hfn)).symm
      exact ⟨by kernel_rfl, fun j t ht => by
        have hm : t ∈ Tryd.f11.params.toList := by simpa using Array.mem_of_getElem? ht
        have hall : (Tryd.f11.params.toList.all fun u => !Tryd.prog.wantsStandIn u) = true := by kernel_rfl
        exact (show Tryd.prog.wantsStandIn t = false by simpa using List.all_eq_true.1 hall t hm)⟩)
    (by kernel_rfl)
#print axioms marksKeys_card
end Go.Proofs.YtbdpafdpkgeibaaDoor
