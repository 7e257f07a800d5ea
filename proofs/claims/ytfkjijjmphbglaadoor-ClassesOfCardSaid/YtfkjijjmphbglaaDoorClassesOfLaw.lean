/- The law ClassesOf: for every input dofferlaw22.ClassesOf returns true and changes nothing that was there. Condition: the variables of package api read as the program's text lays them (the card ties them). -/
import Derived.Test.YtfkjijjmphbglaaDoorClsOfLaw0
import Derived.Test.YtfkjijjmphbglaaDoorCards
import Derived.Test.YtfkjijjmphbglaaDoorTie
import Derived.SevenTiedAt
import Derived.Test.YtfkjijjmphbglaaDoorDfaOpen
namespace Go.Proofs.YtfkjijjmphbglaaDoor
open Go Go.RowKit Go.ChangeShapes Go.WideShapes Kt

set_option maxRecDepth 100000 in
theorem classesOf_walk (H : Type) (enc : TypeId × Value → H) (W : World) (base : Nat) (args : Array Value) (ds : List (DataW H)) (ps : List MemPlace)
      (hval : ∀ (j : Nat) t v, Tryd.f4.params[j]? = some t → args[j]? = some v → Value.okWide Tryd.prog W .any base t v)
      (hA : DataW.TrodAll enc Tryd.prog W 0 (fun _ => true) true Tryd.f4.params.toList args.toList ds ps) (hL : laidMetH Tryd.prog Rows.classesOfRow.laid W) :
      Calls Tryd.prog 4 args W fun e W' => e = .returned (.bool true) ∧ Below W.heap.size W W' := by
  rw [Tryd.params4] at hA hval
  obtain ⟨v0, d0, rfl, rfl, h0⟩ := trodAll_one hA
  obtain ⟨ra0, ua0, ea0, rc0, uc0, ec0, rows0, rule0, entry0, rfl, hD0, hx0, hy0, hz0, _, _, _⟩ := Sb.open_dfa (hval 0 25 v0 rfl rfl) h0
  obtain ⟨A, hS⟩ := Er.sent_met (S := Er.egs) hL (by kernel_rfl) (by kernel_rfl) (by kernel_rfl)
  exact Cl.clsof_c ra0 ua0 ea0 _ rc0 _ uc0 _ ec0 rows0 rule0 entry0 rfl rfl rfl hx0 hy0 hz0 W A hS hD0

set_option maxRecDepth 100000 in
theorem classesOf_lifted (os : Os) (started : os.Started) (H : Type) (enc : TypeId × Value → H) :
    ReturnsInHanded {} Tryd.checked os 4 .any (fun w args => (Rows.classesOfSpec.pre enc Tryd.prog Tryd.f4 [] false w args ∧ laidMetH Tryd.prog Rows.classesOfRow.laid w) ∧ sizedMet enc Tryd.prog Tryd.f4 (OpenSpec.ofChange Rows.classesOfSpec) false w args)
      (Rows.classesOfSpec.post enc Tryd.prog Tryd.f4 false true false false) :=
  Kt.law_lifted (C := Tryd.checked) (tb := 4) (n := 1) 356 #[.agg #[.slice none 0 0, .slice none 0 0, .slice none 0 0]] (by kernel_rfl) started (by kernel_rfl) Tryd.func4 (by kernel_rfl) rfl
    (fun ds h => by match ds, h with | [d1], _ => rfl) (by kernel_rfl) (by kernel_rfl) Tryd.underlying4 (by kernel_rfl)
    (World.shaped_of_RefB (by kernel_rfl) (by kernel_rfl)) (by kernel_rfl) (by kernel_rfl) (by kernel_rfl)
    (laidMetH_of_parts3 (fuel := 8) (laidMet_of_run' 8 (by kernel_rfl) (by kernel_rfl)) (by kernel_rfl) (by kernel_rfl))
    (classesOf_walk H enc)
theorem classesOf_holds : Rows.ClassesOfSaid :=
  OpenClaim.holds_of_wide 4 Tryd.f4 rfl rfl rfl rfl rfl rfl rfl ⟨rfl, rfl, rfl, rfl, rfl⟩ rfl rfl rfl rfl rfl (by kernel_rfl) Tryd.func4 (by kernel_rfl)
    (of_decide_eq_true (by kernel_rfl)) (by unfold Func.isWrapper; first | (rw [if_pos (by decide +kernel)]; kernel_rfl) | (rw [if_neg (by decide +kernel)]; exact ⟨rfl, rfl⟩))
    (fun os started H enc _ => classesOf_lifted os started H enc)
theorem classesOf_card : Rows.ClassesOfCardSaid :=
  Claim7.holds_tied_plain_at .later [] _ _ _ _
    classesOf_holds (fun _ h => by cases h) (by kernel_rfl) (fun _ h => by cases h) classesOf_row_tie rfl ⟨rfl, rfl⟩ (by kernel_rfl) rfl
    (fun f fn hf hfn => by
      obtain rfl : f = 4 := Option.some.inj ((show Tryd.prog.funcNamed Rows.classesOfRow.func = some 4 by kernel_rfl).symm.trans hf) |>.symm
      obtain rfl : fn = Tryd.f4 := (Option.some.inj (Tryd.func4.symm.trans hfn)).symm
      exact ⟨by kernel_rfl, fun j t ht => by
        have hm : t ∈ Tryd.f4.params.toList := by simpa using Array.mem_of_getElem? ht
        have hall : (Tryd.f4.params.toList.all fun u => !Tryd.prog.wantsStandIn u) = true := by kernel_rfl
        exact (show Tryd.prog.wantsStandIn t = false by simpa using List.all_eq_true.1 hall t hm)⟩)
    (by kernel_rfl)
#print axioms classesOf_card
end Go.Proofs.YtfkjijjmphbglaaDoor
