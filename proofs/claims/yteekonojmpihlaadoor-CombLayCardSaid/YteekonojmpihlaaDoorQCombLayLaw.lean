/- The law CombLay: for every input dofferlaw23.CombLay returns true and changes nothing that was there. Condition: the variables of package api read as the program's text lays them (the card ties them). -/
import Derived.Test.YteekonojmpihlaaDoorQCbLawLy
import Derived.Test.YteekonojmpihlaaDoorCards
import Derived.Test.YteekonojmpihlaaDoorTie
import Derived.SevenTiedAt
import Derived.Test.YteekonojmpihlaaDoorQIRows
namespace Go.Proofs.YteekonojmpihlaaDoor
namespace Kt
end Kt
open Go Go.RowKit Go.ChangeShapes Go.WideShapes Kt

set_option maxRecDepth 100000 in
theorem combLay_walk (H : Type) (enc : TypeId × Value → H) (W : World) (base : Nat) (args : Array Value) (ds : List (DataW H)) (ps : List MemPlace)
      (hval : ∀ (j : Nat) t v, Tryd.f8.params[j]? = some t → args[j]? = some v → Value.okWide Tryd.prog W .any base t v)
      (hA : DataW.TrodAll enc Tryd.prog W 0 (fun _ => true) true Tryd.f8.params.toList args.toList ds ps) (hL : laidMetH Tryd.prog Rows.combLayRow.laid W) :
      Calls Tryd.prog 8 args W fun e W' => e = .returned (.bool true) ∧ Below W.heap.size W W' := by
  rw [Tryd.params8] at hA hval
  obtain ⟨v0, d0, rfl, rfl, h0⟩ := trodAll_one hA
  obtain ⟨xa0, xl0, xc0, rfl⟩ := okWide_slice Tryd.underlying67 (hval 0 67 v0 rfl rfl)
  obtain ⟨fuel0, hf0⟩ := h0
  obtain ⟨a0, c0, l0, hv0, hlc0, hm0, hn0, hr0, hw0⟩ := open_irows Tryd.underlying67 Tryd.underlying69 Tryd.underlying3 (by kernel_rfl) (by kernel_rfl) (by simpa [Value.cells] using hf0)
  rw [hv0]
  have hl0 : l0.length ≤ 9223372036854775807 := by unfold maxLen at hm0; omega
  obtain ⟨A, hS⟩ := Er.sent_met (S := Er.egs) hL (by kernel_rfl) (by kernel_rfl) (by kernel_rfl)
  exact Cb.ly_law a0 l0.length c0 l0 _ rfl rfl hl0 A W hr0 (fun r h => (hw0 r h).1) hS

set_option maxRecDepth 100000 in
theorem combLay_lifted (os : Os) (started : os.Started) (H : Type) (enc : TypeId × Value → H) :
    ReturnsInHanded {} Tryd.checked os 8 .any (fun w args => (Rows.combLaySpec.pre enc Tryd.prog Tryd.f8 [] false w args ∧ laidMetH Tryd.prog Rows.combLayRow.laid w) ∧ sizedMet enc Tryd.prog Tryd.f8 (OpenSpec.ofChange Rows.combLaySpec) false w args)
      (Rows.combLaySpec.post enc Tryd.prog Tryd.f8 false true false false) :=
  Kt.law_lifted (C := Tryd.checked) (tb := 4) (n := 1) 356 #[.slice none 0 0] (by kernel_rfl) started (by kernel_rfl) Tryd.func8 (by kernel_rfl) rfl
    (fun ds h => by match ds, h with | [d1], _ => rfl) (by kernel_rfl) (by kernel_rfl) Tryd.underlying4 (by kernel_rfl)
    (World.shaped_of_RefB (by kernel_rfl) (by kernel_rfl)) (by kernel_rfl) (by kernel_rfl) (by kernel_rfl)
    (laidMetH_of_parts3 (fuel := 8) (laidMet_of_run' 8 (by kernel_rfl) (by kernel_rfl)) (by kernel_rfl) (by kernel_rfl))
    (combLay_walk H enc)
theorem combLay_holds : Rows.CombLaySaid :=
  OpenClaim.holds_of_wide 8 Tryd.f8 rfl rfl rfl rfl rfl rfl rfl ⟨rfl, rfl, rfl, rfl, rfl⟩ rfl rfl rfl rfl rfl (by kernel_rfl) Tryd.func8 (by kernel_rfl)
    (of_decide_eq_true (by kernel_rfl)) (by unfold Func.isWrapper; first | (rw [if_pos (by decide +kernel)]; kernel_rfl) | (rw [if_neg (by decide +kernel)]; exact ⟨rfl, rfl⟩))
    (fun os started H enc _ => combLay_lifted os started H enc)
theorem combLay_card : Rows.CombLayCardSaid :=
  Claim7.holds_tied_plain_at .later [] _ _ _ _
    combLay_holds (fun _ h => by cases h) (by kernel_rfl) (fun _ h => by cases h) combLay_row_tie rfl ⟨rfl, rfl⟩ (by kernel_rfl) rfl
    (fun f fn hf hfn => by
      obtain rfl : f = 8 := Option.some.inj ((show Tryd.prog.funcNamed Rows.combLayRow.func = some 8 by kernel_rfl).symm.trans hf) |>.symm
      obtain rfl : fn = Tryd.f8 := (Option.some.inj (Tryd.func8.symm.trans hfn)).symm
      exact ⟨by kernel_rfl, fun j t ht => by
        have hm : t ∈ Tryd.f8.params.toList := by simpa using Array.mem_of_getElem? ht
        have hall : (Tryd.f8.params.toList.all fun u => !Tryd.prog.wantsStandIn u) = true := by kernel_rfl
        exact (show Tryd.prog.wantsStandIn t = false by simpa using List.all_eq_true.1 hall t hm)⟩)
    (by kernel_rfl)
#print axioms combLay_card
end Go.Proofs.YteekonojmpihlaaDoor
