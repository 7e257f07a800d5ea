import Derived.Test.YteekonojmpihlaaDoorQBrkPure
import Derived.Test.YteekonojmpihlaaDoorQSpellRef
import Derived.Test.YteekonojmpihlaaDoorQSetsR
import Derived.Test.YteekonojmpihlaaDoorQTreePure
import Derived.Deep.RegionHeld3
/- The walks of package brackets' reader: a byte, an item. Condition: the sentinels read as laid. -/
namespace Go.Proofs.YteekonojmpihlaaDoor
open Go Go.RowKit Kt Sp St
namespace Bk
variable {w W W' : World} {p : Nat} {s : ByteArray} {i : Nat} {A : Nat → Addr}

/-- An array variable of four words at block r. -/
def Ab (W : World) (r x0 x1 x2 x3 : Nat) : Prop := W.heap[r]? = some (.cells #[.int .u64 (x0 : Int), .int .u64 (x1 : Int), .int .u64 (x2 : Int), .int .u64 (x3 : Int)] 34 (0, 0))
theorem Ab.mod {S : List Nat} {r x0 x1 x2 x3 : Nat} (h : Ab W r x0 x1 x2 x3) (hM : Mod S W W') (hr : r ∉ S) : Ab W' r x0 x1 x2 x3 := (hM.block r (block_lt h) hr).trans h
theorem Ab.below {r x0 x1 x2 x3 : Nat} (h : Ab W r x0 x1 x2 x3) (hb : Below W.heap.size W W') : Ab W' r x0 x1 x2 x3 := (hb.block r (block_lt h)).trans h
theorem Ab.cells {r x0 x1 x2 x3 : Nat} (h : Ab W r x0 x1 x2 x3) : (W.cell? ⟨r, 0, none⟩ = some (.int .u64 (x0 : Int)) ∧ W.cell? ⟨r, 1, none⟩ = some (.int .u64 (x1 : Int)) ∧ W.cell? ⟨r, 2, none⟩ = some (.int .u64 (x2 : Int)) ∧ W.cell? ⟨r, 3, none⟩ = some (.int .u64 (x3 : Int))) ∧
    W.frozen? ⟨r, 0, none⟩ = false ∧ W.frozen? ⟨r, 1, none⟩ = false ∧ W.frozen? ⟨r, 2, none⟩ = false ∧ W.frozen? ⟨r, 3, none⟩ = false :=
  ⟨⟨cell_block h 0, cell_block h 1, cell_block h 2, cell_block h 3⟩, frozen_block h 0, frozen_block h 1, frozen_block h 2, frozen_block h 3⟩
def put4 (W : World) (r x0 x1 x2 x3 : Nat) : World := (((W.setCell ⟨r, 0, none⟩ (.int .u64 (x0 : Int))).setCell ⟨r, 1, none⟩ (.int .u64 (x1 : Int))).setCell ⟨r, 2, none⟩ (.int .u64 (x2 : Int))).setCell ⟨r, 3, none⟩ (.int .u64 (x3 : Int))
theorem Ab.put {r x0 x1 x2 x3 : Nat} (h : Ab W r x0 x1 x2 x3) (z0 z1 z2 z3 : Nat) : Ab (put4 W r z0 z1 z2 z3) r z0 z1 z2 z3 := store4 h _ _ _ _
theorem put4_below {B : Nat} {W0 : World} {r : Nat} (h : Below B W0 W) (hr : B ≤ r) (z0 z1 z2 z3 : Nat) : Below B W0 (put4 W r z0 z1 z2 z3) :=
  (((h.setCell (p := ⟨r, 0, none⟩) hr _).setCell (p := ⟨r, 1, none⟩) hr _).setCell (p := ⟨r, 2, none⟩) hr _).setCell (p := ⟨r, 3, none⟩) hr _

end Bk
end Go.Proofs.YteekonojmpihlaaDoor

/- brackets' reader: an item, a bracket. Condition: the sentinels read as laid. -/
namespace Go.Proofs.YteekonojmpihlaaDoor
open Go Go.RowKit Kt Sp St
namespace Bk
variable {w W W' : World} {p : Nat} {s : ByteArray} {i : Nat} {A : Nat → Addr}

theorem set_four {rs : List Nat} {f : Nat → Bool} (h : IsSet rs f) : ∃ x0 x1 x2 x3, rs = [x0, x1, x2, x3] := four h.len

variable {W0 : World} {r : Nat}

end Bk
end Go.Proofs.YteekonojmpihlaaDoor

/- brackets.Dot. -/
namespace Go.Proofs.YteekonojmpihlaaDoor
open Go Go.RowKit Kt Sp St
namespace Bk
set_option maxRecDepth 100000 in
theorem dot_c (w : World) : Calls Tryd.prog 112 #[] w fun e w' => ∃ rs, e = .returned (sv rs) ∧ IsSet rs (fun q => !decide (q = 10)) ∧ Below w.heap.size w w' := by
  have b1 := (Below.refl w.heap.size w).alloc (Nat.le_refl _) (.cells #[.int .u64 0, .int .u64 0, .int .u64 0, .int .u64 0] 34)
  have a1 : Ab (w.alloc (.cells #[.int .u64 0, .int .u64 0, .int .u64 0, .int .u64 0] 34)) w.heap.size 0 0 0 0 := heap_alloc_new w _
  have HO := Lib.hid (fun w => (show Calls Tryd.prog 53 #[.int .u8 10] w _ from St.one_c 10 (by omega) w))
  have HB1 := Lib.hid b1
  have HA1 := Lib.hid a1
  clear b1 a1
  go_enter Tryd.func112, Tryd.ntmps112
  go_wp2_with fail
  refine (HO.out _).mono ?_
  rintro e w2 ⟨rs, rfl, hset, hb2⟩
  obtain ⟨x0, x1, x2, x3, rfl⟩ := set_four hset
  have HN := Lib.hid (fun w => not_c [x0, x1, x2, x3] _ hset w)
  have HA2 := Lib.hid (HA1.out.below hb2)
  have HB2 := Lib.hid (HB1.out.trans (hb2.mono HB1.out.size))
  simp only [sv, vals, List.map_cons, List.map_nil] at HN ⊢
  clear hset hb2
  go_wp2_with fail
  refine (HN.out _).mono ?_
  rintro e w3 ⟨us, rfl, hu, hb3⟩
  obtain ⟨u0, u1, u2, u3, rfl⟩ := set_four hu
  have A3 := HA2.out.below hb3
  obtain ⟨⟨k0, k1, k2, k3⟩, f0, f1, f2, f3⟩ := A3.cells
  have HF := Lib.hid (A3.put u0 u1 u2 u3)
  have HB3 := Lib.hid (put4_below (HB2.out.trans (hb3.mono HB2.out.size)) (Nat.le_refl w.heap.size) u0 u1 u2 u3)
  have HU := Lib.hid hu
  try simp only [sv, vals, List.map_cons, List.map_nil]
  clear hu hb3 A3
  go_wp2
  ((try simp only [Exit.inBlock, Exit.then]); refine bodyPost_ret (results_cell_row rfl _ _ (w.heap.size) 34 _ (0, 0) _ rfl (HF.out) Tryd.underlying34 rfl ?hi1) rfl ?_; (case hi1 => kernel_rfl))
  exact ⟨[u0, u1, u2, u3], rfl, HU.out, HB3.out⟩
end Bk
end Go.Proofs.YteekonojmpihlaaDoor
