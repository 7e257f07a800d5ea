/- The law ChainNew: for every number and truth value dofferlaw31.ChainNew returns true and changes nothing that was there. Condition: the variables of package api and the table of TrailingZeros64 read as the program's text lays them (the card ties them). -/
import Derived.Test.YtpjimmdpcpcmoaaDoorQChnLaw1
import Derived.Test.YtpjimmdpcpcmoaaDoorQBitsTab
import Derived.Test.YtpjimmdpcpcmoaaDoorCards
import Derived.Test.YtpjimmdpcpcmoaaDoorTie
import Derived.SevenTiedAt
namespace Go.Proofs.YtpjimmdpcpcmoaaDoor
open Go Go.RowKit Go.ChangeShapes Go.WideShapes Kt

set_option maxRecDepth 100000 in
theorem chainNew_walk (H : Type) (enc : TypeId × Value → H) (W : World) (base : Nat) (args : Array Value) (ds : List (DataW H)) (ps : List MemPlace)
      (hval : ∀ (j : Nat) t v, Tryd.f4.params[j]? = some t → args[j]? = some v → Value.okWide Tryd.prog W .any base t v)
      (hA : DataW.TrodAll enc Tryd.prog W 0 (fun _ => true) true Tryd.f4.params.toList args.toList ds ps) (hL : laidMetH Tryd.prog Rows.chainNewRow.laid W) :
      Calls Tryd.prog 4 args W fun e W' => e = .returned (.bool true) ∧ Below W.heap.size W W' := by
  rw [Tryd.params4] at hA hval
  obtain ⟨v0, v1, d0, d1, p0, p1, rfl, rfl, rfl, h0, h1⟩ := trodAll_two hA
  obtain ⟨i0, rfl, _, hw0, hw1⟩ := open_int Tryd.underlying3 (hval 0 3 v0 rfl rfl) h0
  obtain ⟨b0, rfl, _⟩ := open_bool Tryd.underlying4 (hval 1 4 v1 rfl rfl) h1
  obtain ⟨A, hS⟩ := Er.sent_met (S := Er.egs) hL (by kernel_rfl) (by kernel_rfl) (by kernel_rfl)
  have hT := Bt.tab_met hL (by kernel_rfl) 0 (by kernel_rfl)
  exact Ch.new_law A i0 b0 W (by first | exact hw0 | exact hw1) hT hS

set_option maxRecDepth 100000 in
theorem chainNew_lifted (os : Os) (started : os.Started) (H : Type) (enc : TypeId × Value → H) :
    ReturnsInHanded {} Tryd.checked os 4 .any (fun w args => (Rows.chainNewSpec.pre enc Tryd.prog Tryd.f4 [] false w args ∧ laidMetH Tryd.prog Rows.chainNewRow.laid w) ∧ sizedMet enc Tryd.prog Tryd.f4 (OpenSpec.ofChange Rows.chainNewSpec) false w args)
      (Rows.chainNewSpec.post enc Tryd.prog Tryd.f4 false true false false) :=
  Kt.law_lifted (C := Tryd.checked) (tb := 4) (n := 2) 356 #[.int .i64 0, .bool false] (by kernel_rfl) started (by kernel_rfl) Tryd.func4 (by kernel_rfl) rfl
    (fun ds h => by match ds, h with | [d1, d2], _ => rfl) (by kernel_rfl) (by kernel_rfl) Tryd.underlying4 (by kernel_rfl)
    (World.shaped_of_RefB (by kernel_rfl) (by kernel_rfl)) (by kernel_rfl) (by kernel_rfl) (by kernel_rfl)
    (laidMetH_of_parts3 (fuel := 8) (laidMet_of_run' 8 (by kernel_rfl) (by kernel_rfl)) (by kernel_rfl) (by kernel_rfl))
    (chainNew_walk H enc)
theorem chainNew_holds : Rows.ChainNewSaid :=
  OpenClaim.holds_of_wide 4 Tryd.f4 rfl rfl rfl rfl rfl rfl rfl ⟨rfl, rfl, rfl, rfl, rfl⟩ rfl rfl rfl rfl rfl (by kernel_rfl) Tryd.func4 (by kernel_rfl)
    (of_decide_eq_true (by kernel_rfl)) (by unfold Func.isWrapper; first | (rw [if_pos (by decide +kernel)]; kernel_rfl) | (rw [if_neg (by decide +kernel)]; exact ⟨rfl, rfl⟩))
    (fun os started H enc _ => chainNew_lifted os started H enc)
theorem chainNew_card : Rows.ChainNewCardSaid :=
  Claim7.holds_tied_plain_at .later [] _ _ _ _
    chainNew_holds (fun _ h => by cases h) (by kernel_rfl) (fun _ h => by cases h) chainNew_row_tie rfl ⟨rfl, rfl⟩ (by kernel_rfl) rfl
    (fun f fn hf hfn => by
      obtain rfl : f = 4 := Option.some.inj ((show Tryd.prog.funcNamed Rows.chainNewRow.func = some 4 by kernel_rfl).symm.trans hf) |>.symm
      obtain rfl : fn = Tryd.f4 := (Option.some.inj (Tryd.func4.symm.trans hfn)).symm
      exact ⟨by kernel_rfl, fun j t ht => by
        have hm : t ∈ Tryd.f4.params.toList := by simpa using Array.mem_of_getElem? ht
        have hall : (Tryd.f4.params.toList.all fun u => !Tryd.prog.wantsStandIn u) = true := by kernel_rfl
        exact (show Tryd.prog.wantsStandIn t = false by simpa using List.all_eq_true.1 hall t hm)⟩)
    (by kernel_rfl)
#print axioms chainNew_card
end Go.Proofs.YtpjimmdpcpcmoaaDoor
