/- The law SetsMake: for every input dofferlaw01.SetsMake returns true and changes nothing that was there. Condition: the variables of package api read as the program's text lays them (the card ties them). -/
import Derived.Test.YtbdpafdpkgeibaaDoorSetsMake
import Derived.Test.YtbdpafdpkgeibaaDoorCards
import Derived.Test.YtbdpafdpkgeibaaDoorTie
import Derived.SevenTiedAt
import Derived.Test.YtbdpafdpkgeibaaDoorBitsTab
namespace Go.Proofs.YtbdpafdpkgeibaaDoor
open Go Go.RowKit Go.ChangeShapes Go.WideShapes Kt

set_option maxRecDepth 100000 in
theorem setsMake_walk (H : Type) (enc : TypeId × Value → H) (W : World) (base : Nat) (args : Array Value) (ds : List (DataW H)) (ps : List MemPlace)
      (hval : ∀ (j : Nat) t v, Tryd.f7.params[j]? = some t → args[j]? = some v → Value.okWide Tryd.prog W .any base t v)
      (hA : DataW.TrodAll enc Tryd.prog W 0 (fun _ => true) true Tryd.f7.params.toList args.toList ds ps) (hL : laidMetH Tryd.prog Rows.setsMakeRow.laid W) :
      Calls Tryd.prog 7 args W fun e W' => e = .returned (.bool true) ∧ Below W.heap.size W W' := by
  rw [Tryd.params7] at hA hval
  obtain ⟨v0, v1, v2, d0, d1, d2, p0, p1, p2, rfl, rfl, rfl, h0, h1, h2⟩ := trodAll_three hA
  obtain ⟨j0, rfl, _, _, hj0⟩ := open_int Tryd.underlying5 (hval 0 5 v0 rfl rfl) h0
  obtain ⟨c0, rfl⟩ := wf_u8 hj0
  obtain ⟨j1, rfl, _, _, hj1⟩ := open_int Tryd.underlying5 (hval 1 5 v1 rfl rfl) h1
  obtain ⟨c1, rfl⟩ := wf_u8 hj1
  obtain ⟨xa2, xl2, xc2, rfl⟩ := okWide_slice Tryd.underlying45 (hval 2 45 v2 rfl rfl)
  obtain ⟨fuel2, hf2⟩ := h2
  obtain ⟨a2, c2, l2, hv2, hlc2, hm2, hn2, hr2⟩ := open_u8s Tryd.underlying45 Tryd.underlying5 (by kernel_rfl) (by simpa [Value.cells] using hf2)
  rw [hv2]
  have hl2 : l2.length ≤ 9223372036854775807 := by unfold maxLen at hm2; omega
  have hT := Bt.tab_met hL (by kernel_rfl) 0 (by kernel_rfl)
  exact St.make_c c0 c1 a2 c2 _ l2 rfl hl2 hn2 hlc2 W hr2 hT

set_option maxRecDepth 100000 in
theorem setsMake_lifted (os : Os) (started : os.Started) (H : Type) (enc : TypeId × Value → H) :
    ReturnsInHanded {} Tryd.checked os 7 .any (fun w args => (Rows.setsMakeSpec.pre enc Tryd.prog Tryd.f7 [] false w args ∧ laidMetH Tryd.prog Rows.setsMakeRow.laid w) ∧ sizedMet enc Tryd.prog Tryd.f7 (OpenSpec.ofChange Rows.setsMakeSpec) false w args)
      (Rows.setsMakeSpec.post enc Tryd.prog Tryd.f7 false true false false) :=
  Kt.law_lifted (C := Tryd.checked) (tb := 4) (n := 3) 356 #[.int .u8 0, .int .u8 0, .slice none 0 0] (by kernel_rfl) started (by kernel_rfl) Tryd.func7 (by kernel_rfl) rfl
    (fun ds h => by match ds, h with | [d1, d2, d3], _ => rfl) (by kernel_rfl) (by kernel_rfl) Tryd.underlying4 (by kernel_rfl)
    (World.shaped_of_RefB (by kernel_rfl) (by kernel_rfl)) (by kernel_rfl) (by kernel_rfl) (by kernel_rfl)
    (laidMetH_of_parts3 (fuel := 8) (laidMet_of_run' 8 (by kernel_rfl) (by kernel_rfl)) (by kernel_rfl) (by kernel_rfl))
    (setsMake_walk H enc)
theorem setsMake_holds : Rows.SetsMakeSaid :=
  OpenClaim.holds_of_wide 7 Tryd.f7 rfl rfl rfl rfl rfl rfl rfl ⟨rfl, rfl, rfl, rfl, rfl⟩ rfl rfl rfl rfl rfl (by kernel_rfl) Tryd.func7 (by kernel_rfl)
    (of_decide_eq_true (by kernel_rfl)) (by unfold Func.isWrapper; first | (rw [if_pos (by decide +kernel)]; kernel_rfl) | (rw [if_neg (by decide +kernel)]; exact ⟨rfl, rfl⟩))
    (fun os started H enc _ => setsMake_lifted os started H enc)
theorem setsMake_card : Rows.SetsMakeCardSaid :=
  Claim7.holds_tied_plain_at .later [] _ _ _ _
    setsMake_holds (fun _ h => by cases h) (by kernel_rfl) (fun _ h => by cases h) setsMake_row_tie rfl ⟨rfl, rfl⟩ (by kernel_rfl) rfl
    (fun f fn hf hfn => by
      obtain rfl : f = 7 := Option.some.inj ((show Tryd.prog.funcNamed Rows.setsMakeRow.func = some 7 by kernel_rfl).symm.trans hf) |>.symm
      obtain rfl : fn = Tryd.f7 := (Option.some.inj (Tryd.func7.symm.trans hfn)).symm
      exact ⟨by kernel_rfl, fun j t ht => by
        have hm : t ∈ Tryd.f7.params.toList := by simpa using Array.mem_of_getElem? ht
        have hall : (Tryd.f7.params.toList.all fun u => !Tryd.prog.wantsStandIn u) = true := by kernel_rfl
        exact (show Tryd.prog.wantsStandIn t = false by simpa using List.all_eq_true.1 hall t hm)⟩)
    (by kernel_rfl)
#print axioms setsMake_card
end Go.Proofs.YtbdpafdpkgeibaaDoor
