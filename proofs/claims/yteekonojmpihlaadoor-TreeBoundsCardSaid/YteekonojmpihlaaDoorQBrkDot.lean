/- brackets.Dot. -/
import Derived.Test.YteekonojmpihlaaDoorQBrkItem
import Derived.Test.YteekonojmpihlaaDoorQSets6
namespace Go.Proofs.YteekonojmpihlaaDoor
open Go Go.RowKit Kt Sp St
namespace Bk
set_option maxRecDepth 100000 in
theorem dot_c (w : World) : Calls Tryd.prog 112 #[] w fun e w' => ∃ rs, e = .returned (sv rs) ∧ IsSet rs (fun q => !decide (q = 10)) ∧ Below w.heap.size w w' := by
  have b1 := (Below.refl w.heap.size w).alloc (Nat.le_refl _) (.cells #[.int .u64 0, .int .u64 0, .int .u64 0, .int .u64 0] 34)
  have a1 : Ab (w.alloc (.cells #[.int .u64 0, .int .u64 0, .int .u64 0, .int .u64 0] 34)) w.heap.size 0 0 0 0 := heap_alloc_new w _
  have HO := Lib.hid (fun w => (show Calls Tryd.prog 53 #[.int .u8 10] w _ from St.one_c 10 (by omega) w))
  have HB1 := Lib.hid b1
  have HA1 := Lib.hid a1
  clear b1 a1
  go_enter Tryd.func112, Tryd.ntmps112
  go_wp2_with fail
  refine (HO.out _).mono ?_
  rintro e w2 ⟨rs, rfl, hset, hb2⟩
  obtain ⟨x0, x1, x2, x3, rfl⟩ := set_four hset
  have HN := Lib.hid (fun w => not_c [x0, x1, x2, x3] _ hset w)
  have HA2 := Lib.hid (HA1.out.below hb2)
  have HB2 := Lib.hid (HB1.out.trans (hb2.mono HB1.out.size))
  simp only [sv, vals, List.map_cons, List.map_nil] at HN ⊢
  clear hset hb2
  go_wp2_with fail
  refine (HN.out _).mono ?_
  rintro e w3 ⟨us, rfl, hu, hb3⟩
  obtain ⟨u0, u1, u2, u3, rfl⟩ := set_four hu
  have A3 := HA2.out.below hb3
  obtain ⟨⟨k0, k1, k2, k3⟩, f0, f1, f2, f3⟩ := A3.cells
  have HF := Lib.hid (A3.put u0 u1 u2 u3)
  have HB3 := Lib.hid (put4_below (HB2.out.trans (hb3.mono HB2.out.size)) (Nat.le_refl w.heap.size) u0 u1 u2 u3)
  have HU := Lib.hid hu
  try simp only [sv, vals, List.map_cons, List.map_nil]
  clear hu hb3 A3
  go_wp2
  ((try simp only [Exit.inBlock, Exit.then]); refine bodyPost_ret (results_cell_row rfl _ _ (w.heap.size) 34 _ (0, 0) _ rfl (HF.out) Tryd.underlying34 rfl ?hi1) rfl ?_; (case hi1 => kernel_rfl))
  exact ⟨[u0, u1, u2, u3], rfl, HU.out, HB3.out⟩
end Bk
end Go.Proofs.YteekonojmpihlaaDoor
