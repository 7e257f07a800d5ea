/- The law RobinPlays: for every quantum and every list of acts dofferlaw33.RobinPlays returns true and changes nothing that was there. Condition: the errors of package api read as the program's text lays them (the card ties them). -/
import Derived.Test.YtjohljpcoodijaaDoorRobinPlayLaw0
import Derived.Test.YtjohljpcoodijaaDoorCards
import Derived.Test.YtjohljpcoodijaaDoorTie
import Derived.SevenTiedAt
import Derived.Deep.Strs
namespace Go.Proofs.YtjohljpcoodijaaDoor
open Go Go.RowKit Go.ChangeShapes Go.WideShapes Kt

set_option maxRecDepth 100000 in
theorem open_acts33 {H : Type} {enc : TypeId × Value → H} {w : World} {fuel : Nat} {v : Value} {x : DataW H × List MemPlace} (h : DataW.trod enc Tryd.prog w 0 (fun _ => true) true fuel 91 [v] = some x) :
    ∃ a cap, ∃ l : List (Int × Int × Bool), v = .slice a l.length cap ∧ l.length ≤ cap ∧ cap ≤ maxLen ∧ (a = none → cap = 0) ∧ Rd w a (l.flatMap RbP.c3) := by
  obtain ⟨a, cap, l, h1, h2, h3, h4, h5, h6⟩ := open_structs (sz := 3) (α := Int × Int × Bool) RbP.c3 (fun _ => True) Tryd.underlying91 (by kernel_rfl) (by omega) (fun n cs y hy => by
    obtain ⟨y0, y1, y2, m, _, hl, t0, t1, t2⟩ := Deep.trod_struct3 Tryd.underlying96 hy
    rw [show Tryd.prog.cellsOf 96 = 3 from by kernel_rfl] at hl
    have c3 : Tryd.prog.cellsOf 3 = 1 := by kernel_rfl
    have cb : Tryd.prog.cellsOf 4 = 1 := by kernel_rfl
    match cs, hl with
    | [u0, u1, u2], _ =>
      obtain ⟨k0, e0, _, w0⟩ := DataW.trod_int Tryd.underlying3 t0
      obtain ⟨k1, e1, _, w1⟩ := DataW.trod_int Tryd.underlying3 t1
      obtain ⟨k2, e2, _⟩ := DataW.trod_bool Tryd.underlying4 t2
      simp only [c3, cb] at e0 e1 e2
      simp at e0 e1 e2
      subst e0 e1 e2
      exact ⟨(k0, k1, k2), rfl, rfl, trivial⟩) h
  exact ⟨a, cap, l, h1, h2, h3, h4, h5⟩

set_option maxRecDepth 100000 in
theorem robinPlays_walk (H : Type) (enc : TypeId × Value → H) (W : World) (base : Nat) (args : Array Value) (ds : List (DataW H)) (ps : List MemPlace)
      (hval : ∀ (j : Nat) t v, Tryd.f13.params[j]? = some t → args[j]? = some v → Value.okWide Tryd.prog W .any base t v)
      (hA : DataW.TrodAll enc Tryd.prog W 0 (fun _ => true) true Tryd.f13.params.toList args.toList ds ps) (hL : laidMetH Tryd.prog Rows.robinPlaysRow.laid W) :
      Calls Tryd.prog 13 args W fun e W' => e = .returned (.bool true) ∧ Below W.heap.size W W' := by
  rw [Tryd.params13] at hA hval
  obtain ⟨v0, v1, d0, d1, p0, p1, rfl, rfl, rfl, h0, h1⟩ := trodAll_two hA
  obtain ⟨q0, rfl, _, _, _⟩ := open_int Tryd.underlying3 (hval 0 3 v0 rfl rfl) h0
  obtain ⟨a0, len0, cap0, rfl⟩ := okWide_slice Tryd.underlying91 (hval 1 91 v1 rfl rfl)
  obtain ⟨fuel, hf⟩ := h1
  obtain ⟨a, cap, l, hv, k1, k2, _, hr⟩ := open_acts33 (by simpa [Value.cells] using hf)
  rw [hv]
  obtain ⟨A, hS⟩ := Er.sent_met (S := Er.egs) hL (by kernel_rfl) (by kernel_rfl) (by kernel_rfl)
  exact RbP.plays_c A q0 a cap l.length l W rfl (by unfold maxLen at k2; omega) hr hS

set_option maxRecDepth 100000 in
theorem robinPlays_lifted (os : Os) (started : os.Started) (H : Type) (enc : TypeId × Value → H) :
    ReturnsInHanded {} Tryd.checked os 13 .any (fun w args => (Rows.robinPlaysSpec.pre enc Tryd.prog Tryd.f13 [] false w args ∧ laidMetH Tryd.prog Rows.robinPlaysRow.laid w) ∧ sizedMet enc Tryd.prog Tryd.f13 (OpenSpec.ofChange Rows.robinPlaysSpec) false w args)
      (Rows.robinPlaysSpec.post enc Tryd.prog Tryd.f13 false true false false) :=
  Kt.law_lifted (C := Tryd.checked) (tb := 4) (n := 2) 356 #[.int .i64 0, .slice none 0 0] (by kernel_rfl) started (by kernel_rfl) Tryd.func13 (by kernel_rfl) rfl
    (fun ds h => by match ds, h with | [d1, d2], _ => rfl) (by kernel_rfl) (by kernel_rfl) Tryd.underlying4 (by kernel_rfl)
    (World.shaped_of_RefB (by kernel_rfl) (by kernel_rfl)) (by kernel_rfl) (by kernel_rfl) (by kernel_rfl)
    (laidMetH_of_parts3 (fuel := 8) (laidMet_of_run' 8 (by kernel_rfl) (by kernel_rfl)) (by kernel_rfl) (by kernel_rfl))
    (robinPlays_walk H enc)
theorem robinPlays_holds : Rows.RobinPlaysSaid :=
  OpenClaim.holds_of_wide 13 Tryd.f13 rfl rfl rfl rfl rfl rfl rfl ⟨rfl, rfl, rfl, rfl, rfl⟩ rfl rfl rfl rfl rfl (by kernel_rfl) Tryd.func13 (by kernel_rfl)
    (of_decide_eq_true (by kernel_rfl)) (by unfold Func.isWrapper; first | (rw [if_pos (by decide +kernel)]; kernel_rfl) | (rw [if_neg (by decide +kernel)]; exact ⟨rfl, rfl⟩))
    (fun os started H enc _ => robinPlays_lifted os started H enc)
theorem robinPlays_card : Rows.RobinPlaysCardSaid :=
  Claim7.holds_tied_plain_at .later [] _ _ _ _
    robinPlays_holds (fun _ h => by cases h) (by kernel_rfl) (fun _ h => by cases h) robinPlays_row_tie rfl ⟨rfl, rfl⟩ (by kernel_rfl) rfl
    (fun f fn hf hfn => by
      obtain rfl : f = 13 := Option.some.inj ((show Tryd.prog.funcNamed Rows.robinPlaysRow.func = some 13 by kernel_rfl).symm.trans hf) |>.symm
      obtain rfl : fn = Tryd.f13 := (Option.some.inj (Tryd.func13.symm.trans hfn)).symm
      exact ⟨by kernel_rfl, fun j t ht => by
        have hm : t ∈ Tryd.f13.params.toList := by simpa using Array.mem_of_getElem? ht
        have hall : (Tryd.f13.params.toList.all fun u => !Tryd.prog.wantsStandIn u) = true := by kernel_rfl
        exact (show Tryd.prog.wantsStandIn t = false by simpa using List.all_eq_true.1 hall t hm)⟩)
    (by kernel_rfl)
#print axioms robinPlays_card
end Go.Proofs.YtjohljpcoodijaaDoor
