/- dofferlaw29.alive returns true; the opening of a list of acts. Condition: the sentinels read as laid. -/
import Derived.Test.YtjohljpcoodijaaDoorRingI
namespace Go.Proofs.YtjohljpcoodijaaDoor
open Go Go.RowKit Kt Rg
namespace RgA
set_option maxHeartbeats 1000000 in
set_option maxRecDepth 100000 in
theorem alive_c (A : Nat → Addr) (w : World) (hs : Sent 152 w A Er.egs) : Calls Tryd.prog 26 #[] w fun e w' => e = .returned (.bool true) ∧ Below w.heap.size w w' := by
  go_enter Tryd.func26, Tryd.ntmps26
  go_wp2_with fail
  refine (RgI.new_ok 1 1 rfl w (by omega) (by omega)).mono ?_
  rintro e w1 ⟨p, g, rfl, hI, hp, hg, hb1⟩
  go_wp2_with fail
  refine (RgI.put_ok 1 w1 p g 1 0 [] 0 0 hI (by simp) (by omega)).mono ?_
  rintro e w2 ⟨rfl, hI2, hM2⟩
  have B2 := hb1.trans (hM2.toBelow hb1.size (by intro k hk; simp at hk; omega))
  go_wp2_with fail
  refine (RgI.put_full A _ w2 p g 1 0 _ _ 0 hI2 (by simp) ((hs.keep B2).sub (by decide))).mono ?_
  rintro e w3 ⟨rfl, n3, rfl⟩
  have B3 := below_drewN B2 n3
  go_wp2_with (go_at_call 34; (with_reducible refine (Er.num_at A 4 13 12 (by omega) rfl rfl _ (hs.keep B3)).mono ?_); rintro e w9 ⟨rfl, hb9⟩)
  go_ret
  exact ⟨rfl, B3.trans (hb9.mono B3.size)⟩
end RgA
end Go.Proofs.YtjohljpcoodijaaDoor
