/- The law CrcTurned: for every byte slice, index and byte dofferlaw03.CrcTurned returns true and changes nothing that was there. Condition: the table crc.steps and the errors of package api read as the program's text lays them (the card ties them). -/
import Derived.Test.YtjohljpcoodijaaDoorCrcTurned
import Derived.Test.YtjohljpcoodijaaDoorCrcTb
import Derived.Test.YtjohljpcoodijaaDoorCards
import Derived.Test.YtjohljpcoodijaaDoorTie
import Derived.SevenTiedAt
namespace Go.Proofs.YtjohljpcoodijaaDoor
open Go Go.RowKit Go.ChangeShapes Go.WideShapes Kt

set_option maxRecDepth 100000 in
theorem crcTurned_walk (H : Type) (enc : TypeId × Value → H) (W : World) (base : Nat) (args : Array Value) (ds : List (DataW H)) (ps : List MemPlace)
      (hval : ∀ (j : Nat) t v, Tryd.f12.params[j]? = some t → args[j]? = some v → Value.okWide Tryd.prog W .any base t v)
      (hA : DataW.TrodAll enc Tryd.prog W 0 (fun _ => true) true Tryd.f12.params.toList args.toList ds ps) (hL : laidMetH Tryd.prog Rows.crcTurnedRow.laid W) :
      Calls Tryd.prog 12 args W fun e W' => e = .returned (.bool true) ∧ Below W.heap.size W W' := by
  rw [Tryd.params12] at hA hval
  obtain ⟨v0, v1, v2, d0, d1, d2, p0, p1, p2, rfl, rfl, rfl, h0, h1, h2⟩ := trodAll_three hA
  obtain ⟨at0, rfl, _, _, _⟩ := open_int Tryd.underlying3 (hval 1 3 v1 rfl rfl) h1
  obtain ⟨c0, rfl, _, _, wc⟩ := open_int Tryd.underlying5 (hval 2 5 v2 rfl rfl) h2
  obtain ⟨c, rfl⟩ := wf_u8 wc
  obtain ⟨a0, len0, cap0, rfl⟩ := okWide_slice Tryd.underlying24 (hval 0 24 v0 rfl rfl)
  obtain ⟨fuel, hf⟩ := h0
  obtain ⟨a, cap, l, hv, k1, k2, k3, hr⟩ := open_u8s Tryd.underlying24 Tryd.underlying5 (by kernel_rfl) (by simpa [Value.cells] using hf)
  rw [hv]
  obtain ⟨A, hS⟩ := Er.sent_met (S := Er.egs) hL (by kernel_rfl) (by kernel_rfl) (by kernel_rfl)
  exact Crc.turned_c A a cap l at0 c W (by unfold maxLen at k2; omega) k3 hr (tb_of_laid hL (by kernel_rfl) (by kernel_rfl)) hS

set_option maxRecDepth 100000 in
theorem crcTurned_lifted (os : Os) (started : os.Started) (H : Type) (enc : TypeId × Value → H) :
    ReturnsInHanded {} Tryd.checked os 12 .any (fun w args => (Rows.crcTurnedSpec.pre enc Tryd.prog Tryd.f12 [] false w args ∧ laidMetH Tryd.prog Rows.crcTurnedRow.laid w) ∧ sizedMet enc Tryd.prog Tryd.f12 (OpenSpec.ofChange Rows.crcTurnedSpec) false w args)
      (Rows.crcTurnedSpec.post enc Tryd.prog Tryd.f12 false true false false) :=
  Kt.law_lifted (C := Tryd.checked) (tb := 4) (n := 3) 356 #[.slice none 0 0, .int .i64 0, .int .u8 0] (by kernel_rfl) started (by kernel_rfl) Tryd.func12 (by kernel_rfl) rfl
    (fun ds h => by match ds, h with | [d1, d2, d3], _ => rfl) (by kernel_rfl) (by kernel_rfl) Tryd.underlying4 (by kernel_rfl)
    (World.shaped_of_RefB (by kernel_rfl) (by kernel_rfl)) (by kernel_rfl) (by kernel_rfl) (by kernel_rfl)
    (laidMetH_of_parts3 (fuel := 8) (laidMet_of_run' 8 (by kernel_rfl) (by kernel_rfl)) (by kernel_rfl) (by kernel_rfl))
    (crcTurned_walk H enc)
theorem crcTurned_holds : Rows.CrcTurnedSaid :=
  OpenClaim.holds_of_wide 12 Tryd.f12 rfl rfl rfl rfl rfl rfl rfl ⟨rfl, rfl, rfl, rfl, rfl⟩ rfl rfl rfl rfl rfl (by kernel_rfl) Tryd.func12 (by kernel_rfl)
    (of_decide_eq_true (by kernel_rfl)) (by unfold Func.isWrapper; first | (rw [if_pos (by decide +kernel)]; kernel_rfl) | (rw [if_neg (by decide +kernel)]; exact ⟨rfl, rfl⟩))
    (fun os started H enc _ => crcTurned_lifted os started H enc)
theorem crcTurned_card : Rows.CrcTurnedCardSaid :=
  Claim7.holds_tied_plain_at .later [] _ _ _ _
    crcTurned_holds (fun _ h => by cases h) (by kernel_rfl) (fun _ h => by cases h) crcTurned_row_tie rfl ⟨rfl, rfl⟩ (by kernel_rfl) rfl
    (fun f fn hf hfn => by
      obtain rfl : f = 12 := Option.some.inj ((show Tryd.prog.funcNamed Rows.crcTurnedRow.func = some 12 by kernel_rfl).symm.trans hf) |>.symm
      obtain rfl : fn = Tryd.f12 := (Option.some.inj (Tryd.func12.symm.trans hfn)).symm
      exact ⟨by kernel_rfl, fun j t ht => by
        have hm : t ∈ Tryd.f12.params.toList := by simpa using Array.mem_of_getElem? ht
        have hall : (Tryd.f12.params.toList.all fun u => !Tryd.prog.wantsStandIn u) = true := by kernel_rfl
        exact (show Tryd.prog.wantsStandIn t = false by simpa using List.all_eq_true.1 hall t hm)⟩)
    (by kernel_rfl)
#print axioms crcTurned_card
end Go.Proofs.YtjohljpcoodijaaDoor
