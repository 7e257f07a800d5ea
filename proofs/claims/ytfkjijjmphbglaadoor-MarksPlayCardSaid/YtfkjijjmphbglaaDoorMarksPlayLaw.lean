/- The law MarksPlay: for both bounds and every list of acts dofferlaw02.MarksPlay returns true and changes nothing that was there. Condition: the variables of package api read as the program's text lays them (the card ties them). -/
import Derived.Test.YtfkjijjmphbglaaDoorMarksPlay
import Derived.Test.YtfkjijjmphbglaaDoorCards
import Derived.Test.YtfkjijjmphbglaaDoorTie
import Derived.SevenTiedAt
import Derived.Test.YtfkjijjmphbglaaDoorBitsTab
import Derived.Deep.Strs
namespace Go.Proofs.YtfkjijjmphbglaaDoor
open Go Go.RowKit Go.ChangeShapes Go.WideShapes Kt

set_option maxRecDepth 100000 in
theorem open_acts02 {H : Type} {enc : TypeId × Value → H} {w : World} {fuel : Nat} {v : Value} {x : DataW H × List MemPlace} (h : DataW.trod enc Tryd.prog w 0 (fun _ => true) true fuel 61 [v] = some x) :
    ∃ a cap, ∃ l : List (Int × Int × Bool), v = .slice a l.length cap ∧ l.length ≤ cap ∧ cap ≤ maxLen ∧ (a = none → cap = 0) ∧ Rd w a (l.flatMap Mk.c3) ∧ ∀ z ∈ l, (Lit.int .i64 z.2.1).wf = true := by
  obtain ⟨a, cap, l, h1, h2, h3, h4, h5, h6⟩ := open_structs (sz := 3) (α := Int × Int × Bool) Mk.c3 (fun z => (Lit.int .i64 z.2.1).wf = true) Tryd.underlying61 (by kernel_rfl) (by omega) (fun n cs y hy => by
    obtain ⟨y0, y1, y2, m, _, hl, t0, t1, t2⟩ := Deep.trod_struct3 Tryd.underlying71 hy
    rw [show Tryd.prog.cellsOf 71 = 3 from by kernel_rfl] at hl
    have c3 : Tryd.prog.cellsOf 3 = 1 := by kernel_rfl
    have cb : Tryd.prog.cellsOf 4 = 1 := by kernel_rfl
    match cs, hl with
    | [u0, u1, u2], _ =>
      obtain ⟨k0, e0, wa0, wb0⟩ := DataW.trod_int Tryd.underlying3 t0
      obtain ⟨k1, e1, wa1, wb1⟩ := DataW.trod_int Tryd.underlying3 t1
      obtain ⟨k2, e2, _⟩ := DataW.trod_bool Tryd.underlying4 t2
      simp only [c3, cb] at e0 e1 e2
      simp at e0 e1 e2
      subst e0 e1 e2
      exact ⟨(k0, k1, k2), rfl, rfl, by first | exact wa1 | exact wb1⟩) h
  exact ⟨a, cap, l, h1, h2, h3, h4, h5, fun z hz => (h6 z hz).2⟩

set_option maxRecDepth 100000 in
theorem marksPlay_walk (H : Type) (enc : TypeId × Value → H) (W : World) (base : Nat) (args : Array Value) (ds : List (DataW H)) (ps : List MemPlace)
      (hval : ∀ (j : Nat) t v, Tryd.f7.params[j]? = some t → args[j]? = some v → Value.okWide Tryd.prog W .any base t v)
      (hA : DataW.TrodAll enc Tryd.prog W 0 (fun _ => true) true Tryd.f7.params.toList args.toList ds ps) (hL : laidMetH Tryd.prog Rows.marksPlayRow.laid W) :
      Calls Tryd.prog 7 args W fun e W' => e = .returned (.bool true) ∧ Below W.heap.size W W' := by
  rw [Tryd.params7] at hA hval
  obtain ⟨v0, v1, v2, d0, d1, d2, p0, p1, p2, rfl, rfl, rfl, h0, h1, h2⟩ := trodAll_three hA
  obtain ⟨a0, rfl, _, _, _⟩ := open_int Tryd.underlying3 (hval 0 3 v0 rfl rfl) h0
  obtain ⟨b0, rfl, _, _, _⟩ := open_int Tryd.underlying3 (hval 1 3 v1 rfl rfl) h1
  obtain ⟨a2, len2, cap2, rfl⟩ := okWide_slice Tryd.underlying61 (hval 2 61 v2 rfl rfl)
  obtain ⟨fuel, hf⟩ := h2
  obtain ⟨a, cap, l, hv, k1, k2, _, hr, hw⟩ := open_acts02 (by simpa [Value.cells] using hf)
  rw [hv]
  have hT := Bt.tab_met hL (by kernel_rfl) 0 (by kernel_rfl)
  exact Mk.plays_c a0 b0 a cap l.length l W rfl (by unfold maxLen at k2; omega) hw hr hT

set_option maxRecDepth 100000 in
theorem marksPlay_lifted (os : Os) (started : os.Started) (H : Type) (enc : TypeId × Value → H) :
    ReturnsInHanded {} Tryd.checked os 7 .any (fun w args => (Rows.marksPlaySpec.pre enc Tryd.prog Tryd.f7 [] false w args ∧ laidMetH Tryd.prog Rows.marksPlayRow.laid w) ∧ sizedMet enc Tryd.prog Tryd.f7 (OpenSpec.ofChange Rows.marksPlaySpec) false w args)
      (Rows.marksPlaySpec.post enc Tryd.prog Tryd.f7 false true false false) :=
  Kt.law_lifted (C := Tryd.checked) (tb := 4) (n := 3) 356 #[.int .i64 0, .int .i64 0, .slice none 0 0] (by kernel_rfl) started (by kernel_rfl) Tryd.func7 (by kernel_rfl) rfl
    (fun ds h => by match ds, h with | [d1, d2, d3], _ => rfl) (by kernel_rfl) (by kernel_rfl) Tryd.underlying4 (by kernel_rfl)
    (World.shaped_of_RefB (by kernel_rfl) (by kernel_rfl)) (by kernel_rfl) (by kernel_rfl) (by kernel_rfl)
    (laidMetH_of_parts3 (fuel := 8) (laidMet_of_run' 8 (by kernel_rfl) (by kernel_rfl)) (by kernel_rfl) (by kernel_rfl))
    (marksPlay_walk H enc)
theorem marksPlay_holds : Rows.MarksPlaySaid :=
  OpenClaim.holds_of_wide 7 Tryd.f7 rfl rfl rfl rfl rfl rfl rfl ⟨rfl, rfl, rfl, rfl, rfl⟩ rfl rfl rfl rfl rfl (by kernel_rfl) Tryd.func7 (by kernel_rfl)
    (of_decide_eq_true (by kernel_rfl)) (by unfold Func.isWrapper; first | (rw [if_pos (by decide +kernel)]; kernel_rfl) | (rw [if_neg (by decide +kernel)]; exact ⟨rfl, rfl⟩))
    (fun os started H enc _ => marksPlay_lifted os started H enc)
theorem marksPlay_card : Rows.MarksPlayCardSaid :=
  Claim7.holds_tied_plain_at .later [] _ _ _ _
    marksPlay_holds (fun _ h => by cases h) (by kernel_rfl) (fun _ h => by cases h) marksPlay_row_tie rfl ⟨rfl, rfl⟩ (by kernel_rfl) rfl
    (fun f fn hf hfn => by
      obtain rfl : f = 7 := Option.some.inj ((show Tryd.prog.funcNamed Rows.marksPlayRow.func = some 7 by kernel_rfl).symm.trans hf) |>.symm
      obtain rfl : fn = Tryd.f7 := (Option.some.inj (Tryd.func7.symm.trans hfn)).symm
      exact ⟨by kernel_rfl, fun j t ht => by
        have hm : t ∈ Tryd.f7.params.toList := by simpa using Array.mem_of_getElem? ht
        have hall : (Tryd.f7.params.toList.all fun u => !Tryd.prog.wantsStandIn u) = true := by kernel_rfl
        exact (show Tryd.prog.wantsStandIn t = false by simpa using List.all_eq_true.1 hall t hm)⟩)
    (by kernel_rfl)
#print axioms marksPlay_card
end Go.Proofs.YtfkjijjmphbglaaDoor
