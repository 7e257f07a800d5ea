/- The law PackWrites: for every list of values dofferlaw04.PackWrites returns true and changes nothing that was there. Condition: the errors of package api read as the program's text lays them (the card ties them). -/
import Derived.Test.YtjohljpcoodijaaDoorPackWrites
import Derived.Test.YtjohljpcoodijaaDoorCards
import Derived.Test.YtjohljpcoodijaaDoorTie
import Derived.SevenTiedAt
namespace Go.Proofs.YtjohljpcoodijaaDoor
open Go Go.RowKit Go.ChangeShapes Go.WideShapes Kt

theorem trod_struct4 {H : Type} {enc : TypeId × Value → H} {P : Program} {w : World} {base : Nat} {spare : Nat → Bool} {held : Bool} {t : TypeId} {f0 f1 f2 f3 : Field} {fuel : Nat} {cs : List Value} {x : DataW H × List MemPlace} (ht : P.underlying t = some (.struct #[f0, f1, f2, f3])) (h : DataW.trod enc P w base spare held fuel t cs = some x) :
    ∃ y0 y1 y2 y3 n, cs.length = P.cellsOf t ∧ DataW.trod enc P w base spare held n f0.type ((cs.drop f0.offset).take (P.cellsOf f0.type)) = some y0 ∧ DataW.trod enc P w base spare held n f1.type ((cs.drop f1.offset).take (P.cellsOf f1.type)) = some y1 ∧
      DataW.trod enc P w base spare held n f2.type ((cs.drop f2.offset).take (P.cellsOf f2.type)) = some y2 ∧ DataW.trod enc P w base spare held n f3.type ((cs.drop f3.offset).take (P.cellsOf f3.type)) = some y3 := by
  obtain ⟨xs, n, _, rfl, hl, hlen, hf⟩ := DataW.trod_struct ht h
  match xs, hlen with
  | [y0, y1, y2, y3], _ => exact ⟨y0, y1, y2, y3, n, hl, by simpa using hf 0 f0 rfl, by simpa using hf 1 f1 rfl, by simpa using hf 2 f2 rfl, by simpa using hf 3 f3 rfl⟩

set_option maxRecDepth 100000 in
theorem open_values {H : Type} {enc : TypeId × Value → H} {w : World} {fuel : Nat} {v : Value} {x : DataW H × List MemPlace} (h : DataW.trod enc Tryd.prog w 0 (fun _ => true) true fuel 101 [v] = some x) :
    ∃ a cap, ∃ l : List Pk.PV, v = .slice a l.length cap ∧ l.length ≤ cap ∧ cap ≤ maxLen ∧ (a = none → cap = 0) ∧ Rd w a (l.flatMap Pk.PV.cs) ∧ ∀ z ∈ l, z.ok w := by
  obtain ⟨a, cap, l, h1, h2, h3, h4, h5, h6⟩ := open_structs (sz := 4) (α := Pk.PV) Pk.PV.cs (fun z => z.ok w) Tryd.underlying101 (by kernel_rfl) (by omega) (fun n cs y hy => by
    obtain ⟨y0, y1, y2, y3, m, hl, t0, t1, t2, t3⟩ := trod_struct4 Tryd.underlying104 hy
    rw [show Tryd.prog.cellsOf 104 = 4 from by kernel_rfl] at hl
    have ci : Tryd.prog.cellsOf 3 = 1 := by kernel_rfl
    have cb : Tryd.prog.cellsOf 24 = 1 := by kernel_rfl
    have cr : Tryd.prog.cellsOf 32 = 1 := by kernel_rfl
    match cs, hl with
    | [u0, u1, u2, u3], _ =>
      obtain ⟨k0, e0, _, w0⟩ := DataW.trod_int Tryd.underlying3 t0
      obtain ⟨k1, e1, _, w1⟩ := DataW.trod_int Tryd.underlying3 t1
      simp only [ci] at e0 e1
      simp at e0 e1
      simp only [cb] at t2
      simp only [cr] at t3
      simp at t2 t3
      obtain ⟨ba, bc, bs, rfl, b2, b3, b4, b5⟩ := open_u8s Tryd.underlying24 Tryd.underlying5 (by kernel_rfl) t2
      obtain ⟨ra, rc, row, rfl, r2, r3, r4, r5, _⟩ := open_i64s Tryd.underlying32 Tryd.underlying3 (by kernel_rfl) t3
      subst e0 e1
      exact ⟨⟨k0, k1, ba, bc, bs, ra, rc, row⟩, rfl, rfl, ⟨b5, b2, b3, b4, r5, r2, r3⟩⟩) h
  exact ⟨a, cap, l, h1, h2, h3, h4, h5, fun z hz => (h6 z hz).2⟩

set_option maxRecDepth 100000 in
theorem packWrites_walk (H : Type) (enc : TypeId × Value → H) (W : World) (base : Nat) (args : Array Value) (ds : List (DataW H)) (ps : List MemPlace)
      (hval : ∀ (j : Nat) t v, Tryd.f14.params[j]? = some t → args[j]? = some v → Value.okWide Tryd.prog W .any base t v)
      (hA : DataW.TrodAll enc Tryd.prog W 0 (fun _ => true) true Tryd.f14.params.toList args.toList ds ps) (hL : laidMetH Tryd.prog Rows.packWritesRow.laid W) :
      Calls Tryd.prog 14 args W fun e W' => e = .returned (.bool true) ∧ Below W.heap.size W W' := by
  rw [Tryd.params14] at hA hval
  obtain ⟨v0, d0, rfl, rfl, h0⟩ := trodAll_one hA
  obtain ⟨a0, len0, cap0, rfl⟩ := okWide_slice Tryd.underlying101 (hval 0 101 v0 rfl rfl)
  obtain ⟨fuel, hf⟩ := h0
  obtain ⟨a, cap, l, hv, k1, k2, _, hr, hok⟩ := open_values (by simpa [Value.cells] using hf)
  rw [hv]
  obtain ⟨A, hS⟩ := Er.sent_met (S := Er.egs) hL (by kernel_rfl) (by kernel_rfl) (by kernel_rfl)
  exact Pk.writes_c A a cap l.length l W rfl (by unfold maxLen at k2; omega) hr hok hS

set_option maxRecDepth 100000 in
theorem packWrites_lifted (os : Os) (started : os.Started) (H : Type) (enc : TypeId × Value → H) :
    ReturnsInHanded {} Tryd.checked os 14 .any (fun w args => (Rows.packWritesSpec.pre enc Tryd.prog Tryd.f14 [] false w args ∧ laidMetH Tryd.prog Rows.packWritesRow.laid w) ∧ sizedMet enc Tryd.prog Tryd.f14 (OpenSpec.ofChange Rows.packWritesSpec) false w args)
      (Rows.packWritesSpec.post enc Tryd.prog Tryd.f14 false true false false) :=
  Kt.law_lifted (C := Tryd.checked) (tb := 4) (n := 1) 356 #[.slice none 0 0] (by kernel_rfl) started (by kernel_rfl) Tryd.func14 (by kernel_rfl) rfl
    (fun ds h => by match ds, h with | [d1], _ => rfl) (by kernel_rfl) (by kernel_rfl) Tryd.underlying4 (by kernel_rfl)
    (World.shaped_of_RefB (by kernel_rfl) (by kernel_rfl)) (by kernel_rfl) (by kernel_rfl) (by kernel_rfl)
    (laidMetH_of_parts3 (fuel := 8) (laidMet_of_run' 8 (by kernel_rfl) (by kernel_rfl)) (by kernel_rfl) (by kernel_rfl))
    (packWrites_walk H enc)
theorem packWrites_holds : Rows.PackWritesSaid :=
  OpenClaim.holds_of_wide 14 Tryd.f14 rfl rfl rfl rfl rfl rfl rfl ⟨rfl, rfl, rfl, rfl, rfl⟩ rfl rfl rfl rfl rfl (by kernel_rfl) Tryd.func14 (by kernel_rfl)
    (of_decide_eq_true (by kernel_rfl)) (by unfold Func.isWrapper; first | (rw [if_pos (by decide +kernel)]; kernel_rfl) | (rw [if_neg (by decide +kernel)]; exact ⟨rfl, rfl⟩))
    (fun os started H enc _ => packWrites_lifted os started H enc)
theorem packWrites_card : Rows.PackWritesCardSaid :=
  Claim7.holds_tied_plain_at .later [] _ _ _ _
    packWrites_holds (fun _ h => by cases h) (by kernel_rfl) (fun _ h => by cases h) packWrites_row_tie rfl ⟨rfl, rfl⟩ (by kernel_rfl) rfl
    (fun f fn hf hfn => by
      obtain rfl : f = 14 := Option.some.inj ((show Tryd.prog.funcNamed Rows.packWritesRow.func = some 14 by kernel_rfl).symm.trans hf) |>.symm
      obtain rfl : fn = Tryd.f14 := (Option.some.inj (Tryd.func14.symm.trans hfn)).symm
      exact ⟨by kernel_rfl, fun j t ht => by
        have hm : t ∈ Tryd.f14.params.toList := by simpa using Array.mem_of_getElem? ht
        have hall : (Tryd.f14.params.toList.all fun u => !Tryd.prog.wantsStandIn u) = true := by kernel_rfl
        exact (show Tryd.prog.wantsStandIn t = false by simpa using List.all_eq_true.1 hall t hm)⟩)
    (by kernel_rfl)
#print axioms packWrites_card
end Go.Proofs.YtjohljpcoodijaaDoor
