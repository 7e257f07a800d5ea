/- dofferlaw30.alive. Conditions: the sentinels, and the table of TrailingZeros64, read as laid. -/
import Derived.Test.YtpjimmdpcpcmoaaDoorQPoolTake2
import Derived.Test.YtpjimmdpcpcmoaaDoorQPoolNew
namespace Go.Proofs.YtpjimmdpcpcmoaaDoor
open Go Go.RowKit Kt
namespace Po
variable {w w' : World} {p ob oc bb mz mg mb : Nat} {A : List (Int × Int × Nat)} {G : List (Option Nat)} {m : Md} {L : List Nat}
set_option maxRecDepth 100000 in
set_option maxHeartbeats 2000000 in
theorem alive_c (E : Nat → Addr) (w : World) (hT : Bt.Tab w) (hs : Sent 169 w E Er.egs) : Calls Tryd.prog 9 #[] w fun e w' => e = .returned (.bool true) ∧ Below w.heap.size w w' := by
  have w1f : (Lit.int .i64 1).wf = true := by decide
  have o1 : opnE (new 2 8) 1 1 = 0 := by decide
  have t1 : takE (opn (new 2 8) 1 1) 1 = 0 := by decide
  have t2 : takE (tak (opn (new 2 8) 1 1) 1) 1 = 14 := by decide
  have HN := Lib.hid (show Calls Tryd.prog 10 #[.int .i64 2, .int .i64 8] w _ from new_yes 2 8 (by decide) (by decide) (by decide) (by decide) w)
  have HS := Lib.hid hs
  have HT := Lib.hid hT
  have HE := Lib.hid (And.intro w1f (And.intro o1 (And.intro t1 t2)))
  clear hs hT w1f o1 t1 t2
  go_enter Tryd.func9, Tryd.ntmps9
  go_wp2_with fail
  with_reducible refine HN.out.mono ?_
  rintro e w1 ⟨p, L, rfl, hP, hL, hb1⟩
  have HP1 := Lib.hid (And.intro hP (And.intro hL hb1))
  clear hP hL hb1 HN
  go_wp2_with fail
  with_reducible refine (open_yes 1 1 HE.out.1 w1 HP1.out.1 HE.out.2.1).mono ?_
  rintro e w2 ⟨L2, rfl, hP2, hM2, hF2⟩
  have hb2 : Below w.heap.size w w2 := HP1.out.2.2.trans (hM2.toBelow HP1.out.2.2.size HP1.out.2.1)
  have hL2 : ∀ k ∈ L2, w.heap.size ≤ k := fun k hk => by
    rcases hF2 k hk with h | h
    · exact HP1.out.2.1 k h
    · have := HP1.out.2.2.size; omega
  have HP2 := Lib.hid (And.intro hP2 (And.intro hL2 hb2))
  clear hP2 hM2 hF2 hb2 hL2 HP1
  go_wp2_with fail
  with_reducible refine (take_yes 1 HE.out.1 w2 HP2.out.1 (HT.out.below HP2.out.2.2) HE.out.2.2.1).mono ?_
  rintro e w3 ⟨L3, rfl, hP3, hM3, hF3⟩
  have hb3 : Below w.heap.size w w3 := HP2.out.2.2.trans (hM3.toBelow HP2.out.2.2.size HP2.out.2.1)
  have hL3 : ∀ k ∈ L3, w.heap.size ≤ k := fun k hk => by
    rcases hF3 k hk with h | h
    · exact HP2.out.2.1 k h
    · have := HP2.out.2.2.size; omega
  have HP3 := Lib.hid (And.intro hP3 (And.intro hL3 hb3))
  clear hP3 hM3 hF3 hb3 hL3 HP2
  go_wp2_with fail
  have hno := take_no E 1 HE.out.1 w3 HP3.out.1 (HT.out.below HP3.out.2.2) (HS.out.keep HP3.out.2.2) (by rw [HE.out.2.2.2]; decide)
  rw [HE.out.2.2.2] at hno
  with_reducible refine hno.mono ?_
  rintro e w4 ⟨rfl, hb4⟩
  have hb4' := HP3.out.2.2.trans (hb4.mono HP3.out.2.2.size)
  have hnum := num_ee E 14 (by decide) (by decide) w4 (HS.out.keep hb4')
  have HB4 := Lib.hid hb4'
  have HNum := Lib.hid hnum
  clear hb4 hb4' hnum hno HP3 HE HS HT
  go_wp2_with fail
  with_reducible refine HNum.out.mono ?_
  rintro e w5 ⟨rfl, hb5⟩
  go_wp2
  go_ret
  exact ⟨rfl, HB4.out.trans (hb5.mono HB4.out.size)⟩
end Po
end Go.Proofs.YtpjimmdpcpcmoaaDoor
