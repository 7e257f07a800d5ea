/- The law ClassesSpread: for every input dofferlaw22.ClassesSpread returns true and changes nothing that was there. Condition: the variables of package api read as the program's text lays them (the card ties them). -/
import Derived.Test.YtfkjijjmphbglaaDoorClsSpread
import Derived.Test.YtfkjijjmphbglaaDoorCards
import Derived.Test.YtfkjijjmphbglaaDoorTie
import Derived.SevenTiedAt
import Derived.Test.YtfkjijjmphbglaaDoorMapOpen
import Derived.Test.YtfkjijjmphbglaaDoorIRows
namespace Go.Proofs.YtfkjijjmphbglaaDoor
open Go Go.RowKit Go.ChangeShapes Go.WideShapes Kt

set_option maxRecDepth 100000 in
theorem classesSpread_walk (H : Type) (enc : TypeId × Value → H) (W : World) (base : Nat) (args : Array Value) (ds : List (DataW H)) (ps : List MemPlace)
      (hval : ∀ (j : Nat) t v, Tryd.f5.params[j]? = some t → args[j]? = some v → Value.okWide Tryd.prog W .any base t v)
      (hA : DataW.TrodAll enc Tryd.prog W 0 (fun _ => true) true Tryd.f5.params.toList args.toList ds ps) (hL : laidMetH Tryd.prog Rows.classesSpreadRow.laid W) :
      Calls Tryd.prog 5 args W fun e W' => e = .returned (.bool true) ∧ Below W.heap.size W W' := by
  rw [Tryd.params5] at hA hval
  obtain ⟨v0, v1, v2, d0, d1, d2, p0, p1, p2, rfl, rfl, rfl, h0, h1, h2⟩ := trodAll_three hA
  obtain ⟨C0, many0, rfl, hC0⟩ := Cl.open_map (hval 0 30 v0 rfl rfl) h0
  obtain ⟨xa1, xl1, xc1, rfl⟩ := okWide_slice Tryd.underlying41 (hval 1 41 v1 rfl rfl)
  obtain ⟨fuel1, hf1⟩ := h1
  obtain ⟨a1, c1, l1, hv1, hlc1, hm1, hn1, hr1, hw1⟩ := open_irows Tryd.underlying41 Tryd.underlying23 Tryd.underlying3 (by kernel_rfl) (by kernel_rfl) (by simpa [Value.cells] using hf1)
  rw [hv1]
  have hl1 : l1.length ≤ 9223372036854775807 := by unfold maxLen at hm1; omega
  obtain ⟨i2, rfl, _, _, _⟩ := open_int Tryd.underlying3 (hval 2 3 v2 rfl rfl) h2
  obtain ⟨A, hS⟩ := Er.sent_met (S := Er.egs) hL (by kernel_rfl) (by kernel_rfl) (by kernel_rfl)
  exact Cl.cspread_c C0 many0 i2 hC0 a1 c1 _ l1 rfl hl1 W A hS hr1 (fun r hr => (hw1 r hr).1)

set_option maxRecDepth 100000 in
theorem classesSpread_lifted (os : Os) (started : os.Started) (H : Type) (enc : TypeId × Value → H) :
    ReturnsInHanded {} Tryd.checked os 5 .any (fun w args => (Rows.classesSpreadSpec.pre enc Tryd.prog Tryd.f5 [] false w args ∧ laidMetH Tryd.prog Rows.classesSpreadRow.laid w) ∧ sizedMet enc Tryd.prog Tryd.f5 (OpenSpec.ofChange Rows.classesSpreadSpec) false w args)
      (Rows.classesSpreadSpec.post enc Tryd.prog Tryd.f5 false true false false) :=
  Kt.law_lifted (C := Tryd.checked) (tb := 4) (n := 3) 356 #[.agg Tryd.zeroCells30, .slice none 0 0, .int .i64 0] (by kernel_rfl) started (by kernel_rfl) Tryd.func5 (by kernel_rfl) rfl
    (fun ds h => by match ds, h with | [d1, d2, d3], _ => rfl) (by kernel_rfl) (by kernel_rfl) Tryd.underlying4 (by kernel_rfl)
    (World.shaped_of_RefB (by kernel_rfl) (by kernel_rfl)) (by kernel_rfl) (by kernel_rfl) (by kernel_rfl)
    (laidMetH_of_parts3 (fuel := 8) (laidMet_of_run' 8 (by kernel_rfl) (by kernel_rfl)) (by kernel_rfl) (by kernel_rfl))
    (classesSpread_walk H enc)
theorem classesSpread_holds : Rows.ClassesSpreadSaid :=
  OpenClaim.holds_of_wide 5 Tryd.f5 rfl rfl rfl rfl rfl rfl rfl ⟨rfl, rfl, rfl, rfl, rfl⟩ rfl rfl rfl rfl rfl (by kernel_rfl) Tryd.func5 (by kernel_rfl)
    (of_decide_eq_true (by kernel_rfl)) (by unfold Func.isWrapper; first | (rw [if_pos (by decide +kernel)]; kernel_rfl) | (rw [if_neg (by decide +kernel)]; exact ⟨rfl, rfl⟩))
    (fun os started H enc _ => classesSpread_lifted os started H enc)
theorem classesSpread_card : Rows.ClassesSpreadCardSaid :=
  Claim7.holds_tied_plain_at .later [] _ _ _ _
    classesSpread_holds (fun _ h => by cases h) (by kernel_rfl) (fun _ h => by cases h) classesSpread_row_tie rfl ⟨rfl, rfl⟩ (by kernel_rfl) rfl
    (fun f fn hf hfn => by
      obtain rfl : f = 5 := Option.some.inj ((show Tryd.prog.funcNamed Rows.classesSpreadRow.func = some 5 by kernel_rfl).symm.trans hf) |>.symm
      obtain rfl : fn = Tryd.f5 := (Option.some.inj (Tryd.func5.symm.trans hfn)).symm
      exact ⟨by kernel_rfl, fun j t ht => by
        have hm : t ∈ Tryd.f5.params.toList := by simpa using Array.mem_of_getElem? ht
        have hall : (Tryd.f5.params.toList.all fun u => !Tryd.prog.wantsStandIn u) = true := by kernel_rfl
        exact (show Tryd.prog.wantsStandIn t = false by simpa using List.all_eq_true.1 hall t hm)⟩)
    (by kernel_rfl)
#print axioms classesSpread_card
end Go.Proofs.YtfkjijjmphbglaaDoor
