/- The law PoolPlays: for every pair of numbers and every list of acts dofferlaw30.PoolPlays returns true and changes nothing that was there. Condition: the variables of package api and the table of TrailingZeros64 read as the program's text lays them (the card ties them). -/
import Derived.Test.YtpjimmdpcpcmoaaDoorQPoolPl2
import Derived.Test.YtpjimmdpcpcmoaaDoorQPoolOpen
import Derived.Test.YtpjimmdpcpcmoaaDoorQBitsTab
import Derived.Test.YtpjimmdpcpcmoaaDoorCards
import Derived.Test.YtpjimmdpcpcmoaaDoorTie
import Derived.SevenTiedAt
namespace Go.Proofs.YtpjimmdpcpcmoaaDoor
open Go Go.RowKit Go.ChangeShapes Go.WideShapes Kt

set_option maxRecDepth 100000 in
theorem poolPlays_walk (H : Type) (enc : TypeId × Value → H) (W : World) (base : Nat) (args : Array Value) (ds : List (DataW H)) (ps : List MemPlace)
      (hval : ∀ (j : Nat) t v, Tryd.f5.params[j]? = some t → args[j]? = some v → Value.okWide Tryd.prog W .any base t v)
      (hA : DataW.TrodAll enc Tryd.prog W 0 (fun _ => true) true Tryd.f5.params.toList args.toList ds ps) (hL : laidMetH Tryd.prog Rows.poolPlaysRow.laid W) :
      Calls Tryd.prog 5 args W fun e W' => e = .returned (.bool true) ∧ Below W.heap.size W W' := by
  rw [Tryd.params5] at hA hval
  obtain ⟨v0, v1, v2, d0, d1, d2, p0, p1, p2, rfl, rfl, rfl, h0, h1, h2⟩ := trodAll_three hA
  obtain ⟨i0, rfl, _, _, _⟩ := open_int Tryd.underlying3 (hval 0 3 v0 rfl rfl) h0
  obtain ⟨i1, rfl, _, _, _⟩ := open_int Tryd.underlying3 (hval 1 3 v1 rfl rfl) h1
  obtain ⟨a0, len0, cap0, rfl⟩ := okWide_slice Tryd.underlying22 (hval 2 22 v2 rfl rfl)
  obtain ⟨fuel, hf⟩ := h2
  obtain ⟨a, cap, l, hv, k1, k2, _, hr, hw⟩ := Po.open_acts30 (by simpa [Value.cells] using hf)
  rw [hv]
  obtain ⟨A, hS⟩ := Er.sent_met (S := Er.egs) hL (by kernel_rfl) (by kernel_rfl) (by kernel_rfl)
  have hT := Bt.tab_met hL (by kernel_rfl) 0 (by kernel_rfl)
  exact Po.plays_c A i0 i1 a cap l W (by unfold maxLen at k2; omega) hr hw hT hS

set_option maxRecDepth 100000 in
theorem poolPlays_lifted (os : Os) (started : os.Started) (H : Type) (enc : TypeId × Value → H) :
    ReturnsInHanded {} Tryd.checked os 5 .any (fun w args => (Rows.poolPlaysSpec.pre enc Tryd.prog Tryd.f5 [] false w args ∧ laidMetH Tryd.prog Rows.poolPlaysRow.laid w) ∧ sizedMet enc Tryd.prog Tryd.f5 (OpenSpec.ofChange Rows.poolPlaysSpec) false w args)
      (Rows.poolPlaysSpec.post enc Tryd.prog Tryd.f5 false true false false) :=
  Kt.law_lifted (C := Tryd.checked) (tb := 4) (n := 3) 356 #[.int .i64 0, .int .i64 0, .slice none 0 0] (by kernel_rfl) started (by kernel_rfl) Tryd.func5 (by kernel_rfl) rfl
    (fun ds h => by match ds, h with | [d1, d2, d3], _ => rfl) (by kernel_rfl) (by kernel_rfl) Tryd.underlying4 (by kernel_rfl)
    (World.shaped_of_RefB (by kernel_rfl) (by kernel_rfl)) (by kernel_rfl) (by kernel_rfl) (by kernel_rfl)
    (laidMetH_of_parts3 (fuel := 8) (laidMet_of_run' 8 (by kernel_rfl) (by kernel_rfl)) (by kernel_rfl) (by kernel_rfl))
    (poolPlays_walk H enc)
theorem poolPlays_holds : Rows.PoolPlaysSaid :=
  OpenClaim.holds_of_wide 5 Tryd.f5 rfl rfl rfl rfl rfl rfl rfl ⟨rfl, rfl, rfl, rfl, rfl⟩ rfl rfl rfl rfl rfl (by kernel_rfl) Tryd.func5 (by kernel_rfl)
    (of_decide_eq_true (by kernel_rfl)) (by unfold Func.isWrapper; first | (rw [if_pos (by decide +kernel)]; kernel_rfl) | (rw [if_neg (by decide +kernel)]; exact ⟨rfl, rfl⟩))
    (fun os started H enc _ => poolPlays_lifted os started H enc)
theorem poolPlays_card : Rows.PoolPlaysCardSaid :=
  Claim7.holds_tied_plain_at .later [] _ _ _ _
    poolPlays_holds (fun _ h => by cases h) (by kernel_rfl) (fun _ h => by cases h) poolPlays_row_tie rfl ⟨rfl, rfl⟩ (by kernel_rfl) rfl
    (fun f fn hf hfn => by
      obtain rfl : f = 5 := Option.some.inj ((show Tryd.prog.funcNamed Rows.poolPlaysRow.func = some 5 by kernel_rfl).symm.trans hf) |>.symm
      obtain rfl : fn = Tryd.f5 := (Option.some.inj (Tryd.func5.symm.trans hfn)).symm
      exact ⟨by kernel_rfl, fun j t ht => by
        have hm : t ∈ Tryd.f5.params.toList := by simpa using Array.mem_of_getElem? ht
        have hall : (Tryd.f5.params.toList.all fun u => !Tryd.prog.wantsStandIn u) = true := by kernel_rfl
        exact (show Tryd.prog.wantsStandIn t = false by simpa using List.all_eq_true.1 hall t hm)⟩)
    (by kernel_rfl)
#print axioms poolPlays_card
end Go.Proofs.YtpjimmdpcpcmoaaDoor
