import Derived.Test.YtoeeddfinmfnoaaDoorQRxBnd
import Derived.Test.YtoeeddfinmfnoaaDoorQTreeBnd
import Derived.Test.YtoeeddfinmfnoaaDoorQApp
import Derived.Test.YtoeeddfinmfnoaaDoorQRetCell
/- The walks of package regex: bytes (the tree of a set); trees without kids in memory. -/
namespace Go.Proofs.YtoeeddfinmfnoaaDoor
namespace Kt
end Kt
namespace Sp
end Sp
namespace St
end St
namespace Bk
end Bk
namespace Bo
end Bo
namespace Tr
end Tr
open Go Go.RowKit Kt Sp St Bk Bo Tr
namespace Rx
variable {w0 W W' : World} {p : Nat} {s : ByteArray} {A : Nat → Addr} {st : S}
theorem nd_cells {W : World} {b T : Nat} {k : Int} {x0 x1 x2 x3 : Nat} {a : Option Addr} {nl c : Nat} {mn mx : Int} {t : List UInt8} {f : Nat × Nat}
    (h : W.heap[b]? = some (Obj.cells #[.int .i64 k, .int .u64 (x0 : Int), .int .u64 (x1 : Int), .int .u64 (x2 : Int), .int .u64 (x3 : Int), .slice a nl c, .int .i64 mn, .int .i64 mx, .string (Str t)] T f)) :
    W.cell? ⟨b, 0, none⟩ = some (.int .i64 k) ∧ W.cell? ⟨b, 1, none⟩ = some (.int .u64 (x0 : Int)) ∧ W.cell? ⟨b, 2, none⟩ = some (.int .u64 (x1 : Int)) ∧ W.cell? ⟨b, 3, none⟩ = some (.int .u64 (x2 : Int)) ∧ W.cell? ⟨b, 4, none⟩ = some (.int .u64 (x3 : Int)) ∧
    W.cell? ⟨b, 5, none⟩ = some (.slice a nl c) ∧ W.cell? ⟨b, 6, none⟩ = some (.int .i64 mn) ∧ W.cell? ⟨b, 7, none⟩ = some (.int .i64 mx) ∧ W.cell? ⟨b, 8, none⟩ = some (.string (Str t)) :=
  ⟨cell_block h 0, cell_block h 1, cell_block h 2, cell_block h 3, cell_block h 4, cell_block h 5, cell_block h 6, cell_block h 7, cell_block h 8⟩
theorem frz9 {W : World} {b T : Nat} {c : Array Value} (h : W.heap[b]? = some (.cells c T (0, 0))) : W.frozen? ⟨b, 0, none⟩ = false ∧ W.frozen? ⟨b, 1, none⟩ = false ∧ W.frozen? ⟨b, 2, none⟩ = false ∧ W.frozen? ⟨b, 3, none⟩ = false ∧ W.frozen? ⟨b, 4, none⟩ = false ∧ W.frozen? ⟨b, 5, none⟩ = false ∧ W.frozen? ⟨b, 6, none⟩ = false ∧ W.frozen? ⟨b, 7, none⟩ = false ∧ W.frozen? ⟨b, 8, none⟩ = false :=
  ⟨frozen_block h 0, frozen_block h 1, frozen_block h 2, frozen_block h 3, frozen_block h 4, frozen_block h 5, frozen_block h 6, frozen_block h 7, frozen_block h 8⟩
theorem leaf_is (B : Nat) (W : World) (k mn mx : Int) (x0 x1 x2 x3 : Nat) (t : List UInt8) : Tr.Is B W (.mk k [x0, x1, x2, x3] mn mx t none 0 []) :=
  ⟨rfl, Nat.le_refl _, Nat.zero_le _, fun _ => rfl, Rd.nil W none, (fun p hp => by cases hp), trivial⟩
theorem leaf_bl (P : Nat → Prop) (k mn mx : Int) (x0 x1 x2 x3 : Nat) (t : List UInt8) : Bl P (.mk k [x0, x1, x2, x3] mn mx t none 0 []) := ⟨(fun p hp => by cases hp), trivial⟩
/-- A node's value, a leaf. -/
theorem leaf_nv (k mn mx : Int) (x0 x1 x2 x3 : Nat) (t : List UInt8) : nv (.mk k [x0, x1, x2, x3] mn mx t none 0 []) = .agg #[.int .i64 k, .int .u64 (x0 : Int), .int .u64 (x1 : Int), .int .u64 (x2 : Int), .int .u64 (x3 : Int), .slice none 0 0, .int .i64 mn, .int .i64 mx, .string (Str t)] := rfl
set_option maxRecDepth 100000 in
set_option maxHeartbeats 4000000 in
theorem bytes_c (x0 x1 x2 x3 : Nat) (W : World) : Calls Tryd.prog 150 #[.agg #[.int .u64 (x0 : Int), .int .u64 (x1 : Int), .int .u64 (x2 : Int), .int .u64 (x3 : Int)]] W fun e w' => e = .returned (nv (.mk 1 [x0, x1, x2, x3] 0 0 [] none 0 [])) ∧ Below W.heap.size W w' := by
  obtain ⟨B1, hB1⟩ : ∃ B, Obj.cells #[.int .u64 (x0 : Int), .int .u64 (x1 : Int), .int .u64 (x2 : Int), .int .u64 (x3 : Int)] 24 (0, 0) = B := ⟨_, rfl⟩
  obtain ⟨B4, hB4⟩ : ∃ B4, Obj.cells #[.int .i64 0, .int .u64 0, .int .u64 0, .int .u64 0, .int .u64 0, .slice none 0 0, .int .i64 0, .int .i64 0, .string ⟨#[]⟩] 27 (0, 0) = B4 := ⟨_, rfl⟩
  have z1 : (W.alloc B1).heap.size = W.heap.size + 1 := by simp
  have l2 : ((W.alloc B1).alloc B4).heap[W.heap.size]? = some B1 := block_alloc (World.alloc_heap_new W B1)
  have l4 : ((W.alloc B1).alloc B4).heap[W.heap.size + 1]? = some B4 := by rw [← z1]; exact World.alloc_heap_new _ B4
  have hB : Below W.heap.size W ((W.alloc B1).alloc B4) := ((Below.refl _ W).alloc (Nat.le_refl _) _).alloc (by simp) _
  obtain ⟨W3, hW3⟩ : ∃ W3, (W.alloc B1).alloc B4 = W3 := ⟨_, rfl⟩
  rw [hW3] at l2 l4 hB
  rw [← hB1, ← hB4] at hW3
  rw [← hB1] at l2
  rw [← hB4] at l4
  clear hB1 hB4 z1 B1 B4
  have a1 : Ab W3 W.heap.size x0 x1 x2 x3 := l2
  obtain ⟨⟨k0, k1, k2, k3⟩, _⟩ := a1.cells
  obtain ⟨d0, d1, d2, d3, d4, d5, d6, d7, d8⟩ := nd_cells l4
  obtain ⟨f0, f1, f2, f3, f4, f5, f6, f7, f8⟩ := frz9 l4
  have hpb := put9_block l4 (.int .i64 1) (.int .u64 (x0 : Int)) (.int .u64 (x1 : Int)) (.int .u64 (x2 : Int)) (.int .u64 (x3 : Int)) (.slice none 0 0) (.int .i64 0) (.int .i64 0) (.string ⟨#[]⟩)
  have hpm := put9_mod W3 (W.heap.size + 1) (.int .i64 1) (.int .u64 (x0 : Int)) (.int .u64 (x1 : Int)) (.int .u64 (x2 : Int)) (.int .u64 (x3 : Int)) (.slice none 0 0) (.int .i64 0) (.int .i64 0) (.string ⟨#[]⟩)
  have hre := hB.trans (hpm.toBelow hB.size (by simp))
  have HRe := Lib.hid hre
  have HPb := Lib.hid hpb
  have HW3 := Lib.hid hW3
  rw [leaf_nv]
  clear hre hpb hpm l2 l4 hB hW3 a1
  go_enter Tryd.func150, Tryd.ntmps150
  go_upto_region 1 with (fail)
  rw [HW3.out]
  go_wp2
  ((try simp only [Exit.inBlock, Exit.then]); refine bodyPost_ret (results_cell_row rfl _ _ (W.heap.size + 1) 27 _ (0, 0) _ rfl (HPb.out) Tryd.underlying27 rfl ?hi1) rfl ?_; (case hi1 => kernel_rfl))
  exact ⟨rfl, HRe.out⟩
/-- A tree that is read: the tree, the reader behind it. -/
def NdP (w0 W : World) (p : Nat) (s : ByteArray) (A : Nat → Addr) (r : Nd × S) (e : Ending) (w' : World) : Prop := ∃ m, e = .returned (nv m) ∧ er m = r.1 ∧ Tr.Is w'.heap.size w' m ∧ Bl (W.heap.size ≤ ·) m ∧ Rr w0 w' p s A r.2 ∧ Mod [p] W w'
/-- The nine cells of a node that is nothing. -/
def Z9 : Obj := .cells #[.int .i64 0, .int .u64 0, .int .u64 0, .int .u64 0, .int .u64 0, .slice none 0 0, .int .i64 0, .int .i64 0, .string ⟨#[]⟩] 27 (0, 0)
theorem Rr.put (h : Rr w0 W p s A st) {R : Nat} (hR : w0.heap.size ≤ R) (hpR : p ≠ R) (v0 v1 v2 v3 v4 v5 v6 v7 v8 : Value) : Rr w0 (put9 W R v0 v1 v2 v3 v4 v5 v6 v7 v8) p s A st := by
  have hm := put9_mod W R v0 v1 v2 v3 v4 v5 v6 v7 v8
  exact ⟨(hm.block p h.blk (by simpa using hpR)).trans h.hp, h.B.trans (hm.toBelow h.B.size (by simpa using hR)), h.l, h.hs⟩
theorem leaf_fin {V : World} {R : Nat} {st' : S} (h : Rr w0 W p s A st) (hR : W.heap.size ≤ R) (hV : V.heap[R]? = some Z9) (hr : Rr w0 V p s A st') (hm : Mod [p] W V) (k mn mx : Int) (x0 x1 x2 x3 : Nat) (t : List UInt8) :
    (put9 V R (.int .i64 k) (.int .u64 (x0 : Int)) (.int .u64 (x1 : Int)) (.int .u64 (x2 : Int)) (.int .u64 (x3 : Int)) (.slice none 0 0) (.int .i64 mn) (.int .i64 mx) (.string (Str t))).heap[R]? = some (.cells #[.int .i64 k, .int .u64 (x0 : Int), .int .u64 (x1 : Int), .int .u64 (x2 : Int), .int .u64 (x3 : Int), .slice none 0 0, .int .i64 mn, .int .i64 mx, .string (Str t)] 27 (0, 0)) ∧
    NdP w0 W p s A (.mk k [x0, x1, x2, x3] mn mx t none 0 [], st') (.returned (.agg #[.int .i64 k, .int .u64 (x0 : Int), .int .u64 (x1 : Int), .int .u64 (x2 : Int), .int .u64 (x3 : Int), .slice none 0 0, .int .i64 mn, .int .i64 mx, .string (Str t)])) (put9 V R (.int .i64 k) (.int .u64 (x0 : Int)) (.int .u64 (x1 : Int)) (.int .u64 (x2 : Int)) (.int .u64 (x3 : Int)) (.slice none 0 0) (.int .i64 mn) (.int .i64 mx) (.string (Str t))) := by
  have hb := h.blk
  have hz := h.B.size
  have hm2 := put9_mod V R (.int .i64 k) (.int .u64 (x0 : Int)) (.int .u64 (x1 : Int)) (.int .u64 (x2 : Int)) (.int .u64 (x3 : Int)) (.slice none 0 0) (.int .i64 mn) (.int .i64 mx) (.string (Str t))
  refine ⟨put9_block hV _ _ _ _ _ _ _ _ _, .mk k [x0, x1, x2, x3] mn mx t none 0 [], rfl, rfl, leaf_is _ _ _ _ _ _ _ _ _ _, leaf_bl _ _ _ _ _ _ _ _ _, hr.put (by omega) (by omega) _ _ _ _ _ _ _ _ _, hm.trans hm2 (fun x hx => .inr (by simp at hx; omega))⟩
theorem z9_cells {V : World} {R : Nat} (h : V.heap[R]? = some Z9) : (V.cell? ⟨R, 0, none⟩ = some (.int .i64 0) ∧ V.cell? ⟨R, 1, none⟩ = some (.int .u64 0) ∧ V.cell? ⟨R, 2, none⟩ = some (.int .u64 0) ∧ V.cell? ⟨R, 3, none⟩ = some (.int .u64 0) ∧ V.cell? ⟨R, 4, none⟩ = some (.int .u64 0) ∧ V.cell? ⟨R, 5, none⟩ = some (.slice none 0 0) ∧ V.cell? ⟨R, 6, none⟩ = some (.int .i64 0) ∧ V.cell? ⟨R, 7, none⟩ = some (.int .i64 0) ∧ V.cell? ⟨R, 8, none⟩ = some (.string ⟨#[]⟩)) ∧
    (V.frozen? ⟨R, 0, none⟩ = false ∧ V.frozen? ⟨R, 1, none⟩ = false ∧ V.frozen? ⟨R, 2, none⟩ = false ∧ V.frozen? ⟨R, 3, none⟩ = false ∧ V.frozen? ⟨R, 4, none⟩ = false ∧ V.frozen? ⟨R, 5, none⟩ = false ∧ V.frozen? ⟨R, 6, none⟩ = false ∧ V.frozen? ⟨R, 7, none⟩ = false ∧ V.frozen? ⟨R, 8, none⟩ = false) :=
  ⟨nd_cells (k := 0) (x0 := 0) (x1 := 0) (x2 := 0) (x3 := 0) (a := none) (nl := 0) (c := 0) (mn := 0) (mx := 0) (t := []) h, frz9 h⟩
/-- A leaf that is nothing. -/
theorem zero_fin {V : World} {R : Nat} {st' : S} (h : Rr w0 W p s A st) (hR : W.heap.size ≤ R) (hV : V.heap[R]? = some Z9) (hr : Rr w0 V p s A st') (hm : Mod [p] W V) :
    (put9 V R (.int .i64 0) (.int .u64 0) (.int .u64 0) (.int .u64 0) (.int .u64 0) (.slice none 0 0) (.int .i64 0) (.int .i64 0) (.string ⟨#[]⟩)).heap[R]? = some (.cells #[.int .i64 0, .int .u64 0, .int .u64 0, .int .u64 0, .int .u64 0, .slice none 0 0, .int .i64 0, .int .i64 0, .string ⟨#[]⟩] 27 (0, 0)) ∧
    NdP w0 W p s A (zero, st') (.returned (.agg #[.int .i64 0, .int .u64 0, .int .u64 0, .int .u64 0, .int .u64 0, .slice none 0 0, .int .i64 0, .int .i64 0, .string ⟨#[]⟩])) (put9 V R (.int .i64 0) (.int .u64 0) (.int .u64 0) (.int .u64 0) (.int .u64 0) (.slice none 0 0) (.int .i64 0) (.int .i64 0) (.string ⟨#[]⟩)) :=
  leaf_fin h hR hV hr hm 0 0 0 0 0 0 0 []
theorem slice_from (s : ByteArray) (a : Nat) (_ha : a ≤ s.size) : s.extract a s.size = Str (s.data.toList.drop a) := by
  rw [Lib.extract_eq]
  congr 1
  rw [List.take_of_length_le]
  rw [List.length_drop, ← size_list]
  exact Nat.le_refl _
theorem slice_two (s : ByteArray) (a k : Nat) : s.extract a (a + k) = Str ((s.data.toList.drop a).take k) := by
  rw [Lib.extract_eq, show a + k - a = k by omega]
  rfl
end Rx
end Go.Proofs.YtoeeddfinmfnoaaDoor
