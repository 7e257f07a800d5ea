import Derived.Test.YtpjimmdpcpcmoaaDoorQChnPlays
import Derived.Test.YtpjimmdpcpcmoaaDoorQChnOpen
import Derived.Test.YtpjimmdpcpcmoaaDoorQBitsTab
import Derived.Test.YtpjimmdpcpcmoaaDoorCards
import Derived.Test.YtpjimmdpcpcmoaaDoorTie
import Derived.SevenTiedAt
/- The law ChainPlays: for all sizes and every list of acts dofferlaw31.ChainPlays returns true and changes nothing that was there. Condition: the variables of package api and the table of TrailingZeros64 read as the program's text lays them (the card ties them). -/
namespace Go.Proofs.YtpjimmdpcpcmoaaDoor
open Go Go.RowKit Go.ChangeShapes Go.WideShapes Kt

set_option maxRecDepth 100000 in
theorem chainPlays_walk (H : Type) (enc : TypeId × Value → H) (W : World) (base : Nat) (args : Array Value) (ds : List (DataW H)) (ps : List MemPlace)
      (hval : ∀ (j : Nat) t v, Tryd.f7.params[j]? = some t → args[j]? = some v → Value.okWide Tryd.prog W .any base t v)
      (hA : DataW.TrodAll enc Tryd.prog W 0 (fun _ => true) true Tryd.f7.params.toList args.toList ds ps) (hL : laidMetH Tryd.prog Rows.chainPlaysRow.laid W) :
      Calls Tryd.prog 7 args W fun e W' => e = .returned (.bool true) ∧ Below W.heap.size W W' := by
  rw [Tryd.params7] at hA hval
  obtain ⟨v0, v1, d0, d1, p0, p1, rfl, rfl, rfl, h0, h1⟩ := trodAll_two hA
  obtain ⟨z0, z1, z2, z3, rfl⟩ := Ch.open_sizes (hval 0 65 v0 rfl rfl) h0
  obtain ⟨a0, len0, cap0, rfl⟩ := okWide_slice Tryd.underlying66 (hval 1 66 v1 rfl rfl)
  obtain ⟨fuel, hf⟩ := h1
  obtain ⟨a, cap, l, hv, k1, k2, _, hr, hw⟩ := Ch.open_acts31 (by simpa [Value.cells] using hf)
  rw [hv]
  obtain ⟨A, hS⟩ := Er.sent_met (S := Er.egs) hL (by kernel_rfl) (by kernel_rfl) (by kernel_rfl)
  have hT := Bt.tab_met hL (by kernel_rfl) 0 (by kernel_rfl)
  exact Ch.plays_c A z0 z1 z2 z3 a cap l W (by unfold maxLen at k2; omega) hr hw hT hS

set_option maxRecDepth 100000 in
theorem chainPlays_lifted (os : Os) (started : os.Started) (H : Type) (enc : TypeId × Value → H) :
    ReturnsInHanded {} Tryd.checked os 7 .any (fun w args => (Rows.chainPlaysSpec.pre enc Tryd.prog Tryd.f7 [] false w args ∧ laidMetH Tryd.prog Rows.chainPlaysRow.laid w) ∧ sizedMet enc Tryd.prog Tryd.f7 (OpenSpec.ofChange Rows.chainPlaysSpec) false w args)
      (Rows.chainPlaysSpec.post enc Tryd.prog Tryd.f7 false true false false) :=
  Kt.law_lifted (C := Tryd.checked) (tb := 4) (n := 2) 356 #[.agg #[.int .i64 0, .int .i64 0, .int .i64 0, .int .i64 0], .slice none 0 0] (by kernel_rfl) started (by kernel_rfl) Tryd.func7 (by kernel_rfl) rfl
    (fun ds h => by match ds, h with | [d1, d2], _ => rfl) (by kernel_rfl) (by kernel_rfl) Tryd.underlying4 (by kernel_rfl)
    (World.shaped_of_RefB (by kernel_rfl) (by kernel_rfl)) (by kernel_rfl) (by kernel_rfl) (by kernel_rfl)
    (laidMetH_of_parts3 (fuel := 8) (laidMet_of_run' 8 (by kernel_rfl) (by kernel_rfl)) (by kernel_rfl) (by kernel_rfl))
    (chainPlays_walk H enc)
theorem chainPlays_holds : Rows.ChainPlaysSaid :=
  OpenClaim.holds_of_wide 7 Tryd.f7 rfl rfl rfl rfl rfl rfl rfl ⟨rfl, rfl, rfl, rfl, rfl⟩ rfl rfl rfl rfl rfl (by kernel_rfl) Tryd.func7 (by kernel_rfl)
    (of_decide_eq_true (by kernel_rfl)) (by unfold Func.isWrapper; first | (rw [if_pos (by decide +kernel)]; kernel_rfl) | (rw [if_neg (by decide +kernel)]; exact ⟨rfl, rfl⟩))
    (fun os started H enc _ => chainPlays_lifted os started H enc)
theorem chainPlays_card : Rows.ChainPlaysCardSaid :=
  Claim7.holds_tied_plain_at .later [] _ _ _ _
    chainPlays_holds (fun _ h => by cases h) (by kernel_rfl) (fun _ h => by cases h) chainPlays_row_tie rfl ⟨rfl, rfl⟩ (by kernel_rfl) rfl
    (fun f fn hf hfn => by
      obtain rfl : f = 7 := Option.some.inj ((show Tryd.prog.funcNamed Rows.chainPlaysRow.func = some 7 by kernel_rfl).symm.trans hf) |>.symm
      obtain rfl : fn = Tryd.f7 := (Option.some.inj (Tryd.func7.symm.trans hfn)).symm
      exact ⟨by kernel_rfl, fun j t ht => by
        have hm : t ∈ Tryd.f7.params.toList := by simpa using Array.mem_of_getElem? ht
        have hall : (Tryd.f7.params.toList.all fun u => !Tryd.prog.wantsStandIn u) = true := by kernel_rfl
        exact (show Tryd.prog.wantsStandIn t = false by simpa using List.all_eq_true.1 hall t hm)⟩)
    (by kernel_rfl)
#print axioms chainPlays_card
end Go.Proofs.YtpjimmdpcpcmoaaDoor
