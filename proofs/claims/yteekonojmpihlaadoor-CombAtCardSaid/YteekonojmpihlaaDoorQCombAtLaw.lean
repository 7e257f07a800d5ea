/- The law CombAt: for every input dofferlaw23.CombAt returns true and changes nothing that was there. Condition: the variables of package api read as the program's text lays them (the card ties them). -/
import Derived.Test.YteekonojmpihlaaDoorQCbLawAt
import Derived.Test.YteekonojmpihlaaDoorCards
import Derived.Test.YteekonojmpihlaaDoorTie
import Derived.SevenTiedAt
import Derived.Test.YteekonojmpihlaaDoorQCbOpen
namespace Go.Proofs.YteekonojmpihlaaDoor
namespace Kt
end Kt
open Go Go.RowKit Go.ChangeShapes Go.WideShapes Kt

set_option maxRecDepth 100000 in
theorem combAt_walk (H : Type) (enc : TypeId × Value → H) (W : World) (base : Nat) (args : Array Value) (ds : List (DataW H)) (ps : List MemPlace)
      (hval : ∀ (j : Nat) t v, Tryd.f9.params[j]? = some t → args[j]? = some v → Value.okWide Tryd.prog W .any base t v)
      (hA : DataW.TrodAll enc Tryd.prog W 0 (fun _ => true) true Tryd.f9.params.toList args.toList ds ps) (hL : laidMetH Tryd.prog Rows.combAtRow.laid W) :
      Calls Tryd.prog 9 args W fun e W' => e = .returned (.bool true) ∧ Below W.heap.size W W' := by
  rw [Tryd.params9] at hA hval
  obtain ⟨v0, v1, v2, d0, d1, d2, p0, p1, p2, rfl, rfl, rfl, h0, h1, h2⟩ := trodAll_three hA
  obtain ⟨C0, rfl, hC0, hl0⟩ := Cb.open_comb (hval 0 71 v0 rfl rfl) h0
  obtain ⟨i1, rfl, _, _, _⟩ := open_int Tryd.underlying3 (hval 1 3 v1 rfl rfl) h1
  obtain ⟨i2, rfl, _, _, _⟩ := open_int Tryd.underlying3 (hval 2 3 v2 rfl rfl) h2
  obtain ⟨A, hS⟩ := Er.sent_met (S := Er.egs) hL (by kernel_rfl) (by kernel_rfl) (by kernel_rfl)
  exact Cb.at_law C0 i1 i2 A W hC0 hS

set_option maxRecDepth 100000 in
theorem combAt_lifted (os : Os) (started : os.Started) (H : Type) (enc : TypeId × Value → H) :
    ReturnsInHanded {} Tryd.checked os 9 .any (fun w args => (Rows.combAtSpec.pre enc Tryd.prog Tryd.f9 [] false w args ∧ laidMetH Tryd.prog Rows.combAtRow.laid w) ∧ sizedMet enc Tryd.prog Tryd.f9 (OpenSpec.ofChange Rows.combAtSpec) false w args)
      (Rows.combAtSpec.post enc Tryd.prog Tryd.f9 false true false false) :=
  Kt.law_lifted (C := Tryd.checked) (tb := 4) (n := 3) 356 #[.agg #[.int .i64 0, .slice none 0 0, .slice none 0 0, .slice none 0 0, .slice none 0 0], .int .i64 0, .int .i64 0] (by kernel_rfl) started (by kernel_rfl) Tryd.func9 (by kernel_rfl) rfl
    (fun ds h => by match ds, h with | [d1, d2, d3], _ => rfl) (by kernel_rfl) (by kernel_rfl) Tryd.underlying4 (by kernel_rfl)
    (World.shaped_of_RefB (by kernel_rfl) (by kernel_rfl)) (by kernel_rfl) (by kernel_rfl) (by kernel_rfl)
    (laidMetH_of_parts3 (fuel := 8) (laidMet_of_run' 8 (by kernel_rfl) (by kernel_rfl)) (by kernel_rfl) (by kernel_rfl))
    (combAt_walk H enc)
theorem combAt_holds : Rows.CombAtSaid :=
  OpenClaim.holds_of_wide 9 Tryd.f9 rfl rfl rfl rfl rfl rfl rfl ⟨rfl, rfl, rfl, rfl, rfl⟩ rfl rfl rfl rfl rfl (by kernel_rfl) Tryd.func9 (by kernel_rfl)
    (of_decide_eq_true (by kernel_rfl)) (by unfold Func.isWrapper; first | (rw [if_pos (by decide +kernel)]; kernel_rfl) | (rw [if_neg (by decide +kernel)]; exact ⟨rfl, rfl⟩))
    (fun os started H enc _ => combAt_lifted os started H enc)
theorem combAt_card : Rows.CombAtCardSaid :=
  Claim7.holds_tied_plain_at .later [] _ _ _ _
    combAt_holds (fun _ h => by cases h) (by kernel_rfl) (fun _ h => by cases h) combAt_row_tie rfl ⟨rfl, rfl⟩ (by kernel_rfl) rfl
    (fun f fn hf hfn => by
      obtain rfl : f = 9 := Option.some.inj ((show Tryd.prog.funcNamed Rows.combAtRow.func = some 9 by kernel_rfl).symm.trans hf) |>.symm
      obtain rfl : fn = Tryd.f9 := (Option.some.inj (Tryd.func9.symm.trans hfn)).symm
      exact ⟨by kernel_rfl, fun j t ht => by
        have hm : t ∈ Tryd.f9.params.toList := by simpa using Array.mem_of_getElem? ht
        have hall : (Tryd.f9.params.toList.all fun u => !Tryd.prog.wantsStandIn u) = true := by kernel_rfl
        exact (show Tryd.prog.wantsStandIn t = false by simpa using List.all_eq_true.1 hall t hm)⟩)
    (by kernel_rfl)
#print axioms combAt_card
end Go.Proofs.YteekonojmpihlaaDoor
