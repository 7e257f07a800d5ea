/- The law CrcSum: for every list of byte slices and every sum, dofferlaw03.CrcSum returns true and changes nothing that was there. Condition: the table crc.steps reads as the program's text lays it (the card ties it). -/
import Derived.Test.YtjohljpcoodijaaDoorCrcSum
import Derived.Test.YtjohljpcoodijaaDoorCards
import Derived.Test.YtjohljpcoodijaaDoorTie
import Derived.SevenTiedAt
import Derived.Lib.LaidTab
namespace Go.Proofs.YtjohljpcoodijaaDoor
open Go Go.RowKit Go.ChangeShapes Go.WideShapes Kt

def tabI : List Int := [0, 498536548, 997073096, 651767980, 1994146192, 1802195444, 1303535960, 1342533948, 3988292384, 4027552580, 3604390888, 3412177804, 2607071920, 2262029012, 2685067896, 3183342108]
theorem tabI_at : ∀ i : Nat, i < 16 → tabI.getD i 0 = ((Crc.tab.getD i 0).toNat : Int) := by decide
/-- From the row's condition to what the walk asks of the table. -/
theorem tb_of_laid {W : World} (hL : laidMetH Tryd.prog [("doffer/crc.steps", Rows.laid_doffer_crc_steps)] W) : Crc.Tb W := by
  rw [MakeChecks.laidMetH_plain _ _ _ (by kernel_rfl)] at hL
  have gN : Tryd.prog.globalNamed "doffer/crc.steps" = some 0 := by kernel_rfl
  have hT : Lib.TabIs Tryd.prog W "doffer/crc.steps" .u32 tabI :=
    Lib.tabIs_of_head (rest := []) gN (show (Tryd.prog.globals[0]?).map (·.type) = some 113 by kernel_rfl) Tryd.underlying113 Tryd.underlying27 (by kernel_rfl) (by kernel_rfl) hL
  intro x
  rw [hT.cell gN _ (U32.lo4_lt x), tabI_at _ (U32.lo4_lt x)]
  rfl

set_option maxRecDepth 100000 in
theorem crcSum_walk (H : Type) (enc : TypeId × Value → H) (W : World) (base : Nat) (args : Array Value) (ds : List (DataW H)) (ps : List MemPlace)
      (hval : ∀ (j : Nat) t v, Tryd.f3.params[j]? = some t → args[j]? = some v → Value.okWide Tryd.prog W .any base t v)
      (hA : DataW.TrodAll enc Tryd.prog W 0 (fun _ => true) true Tryd.f3.params.toList args.toList ds ps) (hL : laidMetH Tryd.prog Rows.crcSumRow.laid W) :
      Calls Tryd.prog 3 args W fun e W' => e = .returned (.bool true) ∧ Below W.heap.size W W' := by
  rw [Tryd.params3] at hA hval
  obtain ⟨v0, v1, d0, d1, p0, p1, rfl, rfl, rfl, h0, h1⟩ := trodAll_two hA
  obtain ⟨sum, rfl, _, _, _⟩ := open_int Tryd.underlying3 (hval 1 3 v1 rfl rfl) h1
  obtain ⟨a0, len0, cap0, rfl⟩ := okWide_slice Tryd.underlying22 (hval 0 22 v0 rfl rfl)
  obtain ⟨fuel, hf⟩ := h0
  obtain ⟨a, cap, rs, hv, h1, h2, _, hr, hrs⟩ := open_rows Tryd.underlying22 Tryd.underlying24 Tryd.underlying5 (by kernel_rfl) (by kernel_rfl) (by simpa [Value.cells] using hf)
  rw [hv]
  exact Crc.crcSum_c a cap rs sum W (by unfold maxLen at h2; omega) hr hrs (tb_of_laid hL)

set_option maxRecDepth 100000 in
theorem crcSum_lifted (os : Os) (started : os.Started) (H : Type) (enc : TypeId × Value → H) :
    ReturnsInHanded {} Tryd.checked os 3 .any (fun w args => (Rows.crcSumSpec.pre enc Tryd.prog Tryd.f3 [] false w args ∧ laidMetH Tryd.prog Rows.crcSumRow.laid w) ∧ sizedMet enc Tryd.prog Tryd.f3 (OpenSpec.ofChange Rows.crcSumSpec) false w args)
      (Rows.crcSumSpec.post enc Tryd.prog Tryd.f3 false true false false) :=
  Kt.law_lifted (C := Tryd.checked) (tb := 4) (n := 2) 356 #[.slice none 0 0, .int .i64 0] (by kernel_rfl) started (by kernel_rfl) Tryd.func3 (by kernel_rfl) rfl
    (fun ds h => by match ds, h with | [d1, d2], _ => rfl) (by kernel_rfl) (by kernel_rfl) Tryd.underlying4 (by kernel_rfl)
    (World.shaped_of_RefB (by kernel_rfl) (by kernel_rfl)) (by kernel_rfl) (by kernel_rfl) (by kernel_rfl)
    (laidMetH_of_parts3 (fuel := 8) (laidMet_of_run' 8 (by kernel_rfl) (by kernel_rfl)) (by kernel_rfl) (by kernel_rfl))
    (crcSum_walk H enc)
theorem crcSum_holds : Rows.CrcSumSaid :=
  OpenClaim.holds_of_wide 3 Tryd.f3 rfl rfl rfl rfl rfl rfl rfl ⟨rfl, rfl, rfl, rfl, rfl⟩ rfl rfl rfl rfl rfl (by kernel_rfl) Tryd.func3 (by kernel_rfl)
    (of_decide_eq_true (by kernel_rfl)) (by unfold Func.isWrapper; first | (rw [if_pos (by decide +kernel)]; kernel_rfl) | (rw [if_neg (by decide +kernel)]; exact ⟨rfl, rfl⟩))
    (fun os started H enc _ => crcSum_lifted os started H enc)
theorem crcSum_card : Rows.CrcSumCardSaid :=
  Claim7.holds_tied_plain_at .later [] _ _ _ _
    crcSum_holds (fun _ h => by cases h) (by kernel_rfl) (fun _ h => by cases h) crcSum_row_tie rfl ⟨rfl, rfl⟩ (by kernel_rfl) rfl
    (fun f fn hf hfn => by
      obtain rfl : f = 3 := Option.some.inj ((show Tryd.prog.funcNamed Rows.crcSumRow.func = some 3 by kernel_rfl).symm.trans hf) |>.symm
      obtain rfl : fn = Tryd.f3 := (Option.some.inj (Tryd.func3.symm.trans hfn)).symm
      exact ⟨by kernel_rfl, fun j t ht => by
        have hm : t ∈ Tryd.f3.params.toList := by simpa using Array.mem_of_getElem? ht
        have hall : (Tryd.f3.params.toList.all fun u => !Tryd.prog.wantsStandIn u) = true := by kernel_rfl
        exact (show Tryd.prog.wantsStandIn t = false by simpa using List.all_eq_true.1 hall t hm)⟩)
    (by kernel_rfl)
#print axioms crcSum_card
end Go.Proofs.YtjohljpcoodijaaDoor
