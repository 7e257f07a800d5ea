import Derived.Test.YtoeeddfinmfnoaaDoorQRxLawSim
import Derived.Test.YtoeeddfinmfnoaaDoorQTreeOpen
import Derived.Test.YtoeeddfinmfnoaaDoorCards
import Derived.Test.YtoeeddfinmfnoaaDoorTie
import Derived.SevenTiedAt
/- The law RegexSimple: for every input dofferlaw08.RegexSimple returns true and changes nothing that was there. Condition: the variables of package api read as the program's text lays them (the card ties them). -/
namespace Go.Proofs.YtoeeddfinmfnoaaDoor
namespace Kt
end Kt
open Go Go.RowKit Go.ChangeShapes Go.WideShapes Kt

set_option maxRecDepth 100000 in
theorem regexSimple_walk (H : Type) (enc : TypeId × Value → H) (W : World) (base : Nat) (args : Array Value) (ds : List (DataW H)) (ps : List MemPlace)
      (hval : ∀ (j : Nat) t v, Tryd.f3.params[j]? = some t → args[j]? = some v → Value.okWide Tryd.prog W .any base t v)
      (hA : DataW.TrodAll enc Tryd.prog W 0 (fun _ => true) true Tryd.f3.params.toList args.toList ds ps) (hL : laidMetH Tryd.prog Rows.regexSimpleRow.laid W) :
      Calls Tryd.prog 3 args W fun e W' => e = .returned (.bool true) ∧ Below W.heap.size W W' := by
  rw [Tryd.params3] at hA hval
  obtain ⟨v0, d0, rfl, rfl, h0⟩ := trodAll_one hA
  obtain ⟨n0, rfl, hI0, hw0, ht0⟩ := Tr.open_nodeT (hval 0 27 v0 rfl rfl) h0
  obtain ⟨A, hS⟩ := Er.sent_met (S := Rx.rgs) hL (by kernel_rfl) (by kernel_rfl) (by kernel_rfl)
  exact Rx.simple_law n0 A W hS hI0 (Tr.tl_walk ht0)

set_option maxRecDepth 100000 in
theorem regexSimple_lifted (os : Os) (started : os.Started) (H : Type) (enc : TypeId × Value → H) :
    ReturnsInHanded {} Tryd.checked os 3 .any (fun w args => (Rows.regexSimpleSpec.pre enc Tryd.prog Tryd.f3 [] false w args ∧ laidMetH Tryd.prog Rows.regexSimpleRow.laid w) ∧ sizedMet enc Tryd.prog Tryd.f3 (OpenSpec.ofChange Rows.regexSimpleSpec) false w args)
      (Rows.regexSimpleSpec.post enc Tryd.prog Tryd.f3 false true false false) :=
  Kt.law_lifted (C := Tryd.checked) (tb := 4) (n := 1) 356 #[.agg #[.int .i64 0, .int .u64 0, .int .u64 0, .int .u64 0, .int .u64 0, .slice none 0 0, .int .i64 0, .int .i64 0, .string "".toUTF8]] (by kernel_rfl) started (by kernel_rfl) Tryd.func3 (by kernel_rfl) rfl
    (fun ds h => by match ds, h with | [d1], _ => rfl) (by kernel_rfl) (by kernel_rfl) Tryd.underlying4 (by kernel_rfl)
    (World.shaped_of_RefB (by kernel_rfl) (by kernel_rfl)) (by kernel_rfl) (by kernel_rfl) (by kernel_rfl)
    (laidMetH_of_parts3 (fuel := 8) (laidMet_of_run' 8 (by kernel_rfl) (by kernel_rfl)) (by kernel_rfl) (by kernel_rfl))
    (regexSimple_walk H enc)
theorem regexSimple_holds : Rows.RegexSimpleSaid :=
  OpenClaim.holds_of_wide 3 Tryd.f3 rfl rfl rfl rfl rfl rfl rfl ⟨rfl, rfl, rfl, rfl, rfl⟩ rfl rfl rfl rfl rfl (by kernel_rfl) Tryd.func3 (by kernel_rfl)
    (of_decide_eq_true (by kernel_rfl)) (by unfold Func.isWrapper; first | (rw [if_pos (by decide +kernel)]; kernel_rfl) | (rw [if_neg (by decide +kernel)]; exact ⟨rfl, rfl⟩))
    (fun os started H enc _ => regexSimple_lifted os started H enc)
theorem regexSimple_card : Rows.RegexSimpleCardSaid :=
  Claim7.holds_tied_plain_at .later [] _ _ _ _
    regexSimple_holds (fun _ h => by cases h) (by kernel_rfl) (fun _ h => by cases h) regexSimple_row_tie rfl ⟨rfl, rfl⟩ (by kernel_rfl) rfl
    (fun f fn hf hfn => by
      obtain rfl : f = 3 := Option.some.inj ((show Tryd.prog.funcNamed Rows.regexSimpleRow.func = some 3 by kernel_rfl).symm.trans hf) |>.symm
      obtain rfl : fn = Tryd.f3 := (Option.some.inj (Tryd.func3.symm.trans hfn)).symm
      exact ⟨by kernel_rfl, fun j t ht => by
        have hm : t ∈ Tryd.f3.params.toList := by simpa using Array.mem_of_getElem? ht
        have hall : (Tryd.f3.params.toList.all fun u => !Tryd.prog.wantsStandIn u) = true := by kernel_rfl
        exact (show Tryd.prog.wantsStandIn t = false by simpa using List.all_eq_true.1 hall t hm)⟩)
    (by kernel_rfl)
#print axioms regexSimple_card
end Go.Proofs.YtoeeddfinmfnoaaDoor
