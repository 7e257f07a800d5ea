import Derived.Test.YtoeeddfinmfnoaaDoorQRxBnd
import Derived.Test.YtoeeddfinmfnoaaDoorQTreeGrow
import Derived.Test.YtoeeddfinmfnoaaDoorQTreePure
import Derived.Test.YtoeeddfinmfnoaaDoorQTreeBnd
import Derived.Test.YtoeeddfinmfnoaaDoorQActNm
import Derived.Deep.RegionHeld3
/- The walks of package regex: bytes (the tree of a set); trees without kids in memory. -/
namespace Go.Proofs.YtoeeddfinmfnoaaDoor
namespace Kt
end Kt
namespace Sp
end Sp
namespace St
end St
namespace Bk
end Bk
namespace Bo
end Bo
namespace Tr
end Tr
open Go Go.RowKit Kt Sp St Bk Bo Tr
namespace Rx
variable {w0 W W' : World} {p : Nat} {s : ByteArray} {A : Nat → Addr} {st : S}
theorem nd_cells {W : World} {b T : Nat} {k : Int} {x0 x1 x2 x3 : Nat} {a : Option Addr} {nl c : Nat} {mn mx : Int} {t : List UInt8} {f : Nat × Nat}
    (h : W.heap[b]? = some (Obj.cells #[.int .i64 k, .int .u64 (x0 : Int), .int .u64 (x1 : Int), .int .u64 (x2 : Int), .int .u64 (x3 : Int), .slice a nl c, .int .i64 mn, .int .i64 mx, .string (Str t)] T f)) :
    W.cell? ⟨b, 0, none⟩ = some (.int .i64 k) ∧ W.cell? ⟨b, 1, none⟩ = some (.int .u64 (x0 : Int)) ∧ W.cell? ⟨b, 2, none⟩ = some (.int .u64 (x1 : Int)) ∧ W.cell? ⟨b, 3, none⟩ = some (.int .u64 (x2 : Int)) ∧ W.cell? ⟨b, 4, none⟩ = some (.int .u64 (x3 : Int)) ∧
    W.cell? ⟨b, 5, none⟩ = some (.slice a nl c) ∧ W.cell? ⟨b, 6, none⟩ = some (.int .i64 mn) ∧ W.cell? ⟨b, 7, none⟩ = some (.int .i64 mx) ∧ W.cell? ⟨b, 8, none⟩ = some (.string (Str t)) :=
  ⟨cell_block h 0, cell_block h 1, cell_block h 2, cell_block h 3, cell_block h 4, cell_block h 5, cell_block h 6, cell_block h 7, cell_block h 8⟩
theorem frz9 {W : World} {b T : Nat} {c : Array Value} (h : W.heap[b]? = some (.cells c T (0, 0))) : W.frozen? ⟨b, 0, none⟩ = false ∧ W.frozen? ⟨b, 1, none⟩ = false ∧ W.frozen? ⟨b, 2, none⟩ = false ∧ W.frozen? ⟨b, 3, none⟩ = false ∧ W.frozen? ⟨b, 4, none⟩ = false ∧ W.frozen? ⟨b, 5, none⟩ = false ∧ W.frozen? ⟨b, 6, none⟩ = false ∧ W.frozen? ⟨b, 7, none⟩ = false ∧ W.frozen? ⟨b, 8, none⟩ = false :=
  ⟨frozen_block h 0, frozen_block h 1, frozen_block h 2, frozen_block h 3, frozen_block h 4, frozen_block h 5, frozen_block h 6, frozen_block h 7, frozen_block h 8⟩
theorem leaf_is (B : Nat) (W : World) (k mn mx : Int) (x0 x1 x2 x3 : Nat) (t : List UInt8) : Tr.Is B W (.mk k [x0, x1, x2, x3] mn mx t none 0 []) :=
  ⟨rfl, Nat.le_refl _, Nat.zero_le _, fun _ => rfl, Rd.nil W none, (fun p hp => by cases hp), trivial⟩
theorem leaf_bl (P : Nat → Prop) (k mn mx : Int) (x0 x1 x2 x3 : Nat) (t : List UInt8) : Bl P (.mk k [x0, x1, x2, x3] mn mx t none 0 []) := ⟨(fun p hp => by cases hp), trivial⟩
/-- A node's value, a leaf. -/
theorem leaf_nv (k mn mx : Int) (x0 x1 x2 x3 : Nat) (t : List UInt8) : nv (.mk k [x0, x1, x2, x3] mn mx t none 0 []) = .agg #[.int .i64 k, .int .u64 (x0 : Int), .int .u64 (x1 : Int), .int .u64 (x2 : Int), .int .u64 (x3 : Int), .slice none 0 0, .int .i64 mn, .int .i64 mx, .string (Str t)] := rfl
set_option maxRecDepth 100000 in
set_option maxHeartbeats 4000000 in
theorem bytes_c (x0 x1 x2 x3 : Nat) (W : World) : Calls Tryd.prog 150 #[.agg #[.int .u64 (x0 : Int), .int .u64 (x1 : Int), .int .u64 (x2 : Int), .int .u64 (x3 : Int)]] W fun e w' => e = .returned (nv (.mk 1 [x0, x1, x2, x3] 0 0 [] none 0 [])) ∧ Below W.heap.size W w' := by
  obtain ⟨B1, hB1⟩ : ∃ B, Obj.cells #[.int .u64 (x0 : Int), .int .u64 (x1 : Int), .int .u64 (x2 : Int), .int .u64 (x3 : Int)] 24 (0, 0) = B := ⟨_, rfl⟩
  obtain ⟨B4, hB4⟩ : ∃ B4, Obj.cells #[.int .i64 0, .int .u64 0, .int .u64 0, .int .u64 0, .int .u64 0, .slice none 0 0, .int .i64 0, .int .i64 0, .string ⟨#[]⟩] 27 (0, 0) = B4 := ⟨_, rfl⟩
  have z1 : (W.alloc B1).heap.size = W.heap.size + 1 := by simp
  have l2 : ((W.alloc B1).alloc B4).heap[W.heap.size]? = some B1 := block_alloc (World.alloc_heap_new W B1)
  have l4 : ((W.alloc B1).alloc B4).heap[W.heap.size + 1]? = some B4 := by rw [← z1]; exact World.alloc_heap_new _ B4
  have hB : Below W.heap.size W ((W.alloc B1).alloc B4) := ((Below.refl _ W).alloc (Nat.le_refl _) _).alloc (by simp) _
  obtain ⟨W3, hW3⟩ : ∃ W3, (W.alloc B1).alloc B4 = W3 := ⟨_, rfl⟩
  rw [hW3] at l2 l4 hB
  rw [← hB1, ← hB4] at hW3
  rw [← hB1] at l2
  rw [← hB4] at l4
  clear hB1 hB4 z1 B1 B4
  have a1 : Ab W3 W.heap.size x0 x1 x2 x3 := l2
  obtain ⟨⟨k0, k1, k2, k3⟩, _⟩ := a1.cells
  obtain ⟨d0, d1, d2, d3, d4, d5, d6, d7, d8⟩ := nd_cells l4
  obtain ⟨f0, f1, f2, f3, f4, f5, f6, f7, f8⟩ := frz9 l4
  have hpb := put9_block l4 (.int .i64 1) (.int .u64 (x0 : Int)) (.int .u64 (x1 : Int)) (.int .u64 (x2 : Int)) (.int .u64 (x3 : Int)) (.slice none 0 0) (.int .i64 0) (.int .i64 0) (.string ⟨#[]⟩)
  have hpm := put9_mod W3 (W.heap.size + 1) (.int .i64 1) (.int .u64 (x0 : Int)) (.int .u64 (x1 : Int)) (.int .u64 (x2 : Int)) (.int .u64 (x3 : Int)) (.slice none 0 0) (.int .i64 0) (.int .i64 0) (.string ⟨#[]⟩)
  have hre := hB.trans (hpm.toBelow hB.size (by simp))
  have HRe := Lib.hid hre
  have HPb := Lib.hid hpb
  have HW3 := Lib.hid hW3
  rw [leaf_nv]
  clear hre hpb hpm l2 l4 hB hW3 a1
  go_enter Tryd.func150, Tryd.ntmps150
  go_upto_region 1 with (fail)
  rw [HW3.out]
  go_wp2
  ((try simp only [Exit.inBlock, Exit.then]); refine bodyPost_ret (results_cell_row rfl _ _ (W.heap.size + 1) 27 _ (0, 0) _ rfl (HPb.out) Tryd.underlying27 rfl ?hi1) rfl ?_; (case hi1 => kernel_rfl))
  exact ⟨rfl, HRe.out⟩
/-- A tree that is read: the tree, the reader behind it. -/
def NdP (w0 W : World) (p : Nat) (s : ByteArray) (A : Nat → Addr) (r : Nd × S) (e : Ending) (w' : World) : Prop := ∃ m, e = .returned (nv m) ∧ er m = r.1 ∧ Tr.Is w'.heap.size w' m ∧ Bl (W.heap.size ≤ ·) m ∧ Rr w0 w' p s A r.2 ∧ Mod [p] W w'
/-- The nine cells of a node that is nothing. -/
def Z9 : Obj := .cells #[.int .i64 0, .int .u64 0, .int .u64 0, .int .u64 0, .int .u64 0, .slice none 0 0, .int .i64 0, .int .i64 0, .string ⟨#[]⟩] 27 (0, 0)
theorem Rr.put (h : Rr w0 W p s A st) {R : Nat} (hR : w0.heap.size ≤ R) (hpR : p ≠ R) (v0 v1 v2 v3 v4 v5 v6 v7 v8 : Value) : Rr w0 (put9 W R v0 v1 v2 v3 v4 v5 v6 v7 v8) p s A st := by
  have hm := put9_mod W R v0 v1 v2 v3 v4 v5 v6 v7 v8
  exact ⟨(hm.block p h.blk (by simpa using hpR)).trans h.hp, h.B.trans (hm.toBelow h.B.size (by simpa using hR)), h.l, h.hs⟩
theorem leaf_fin {V : World} {R : Nat} {st' : S} (h : Rr w0 W p s A st) (hR : W.heap.size ≤ R) (hV : V.heap[R]? = some Z9) (hr : Rr w0 V p s A st') (hm : Mod [p] W V) (k mn mx : Int) (x0 x1 x2 x3 : Nat) (t : List UInt8) :
    (put9 V R (.int .i64 k) (.int .u64 (x0 : Int)) (.int .u64 (x1 : Int)) (.int .u64 (x2 : Int)) (.int .u64 (x3 : Int)) (.slice none 0 0) (.int .i64 mn) (.int .i64 mx) (.string (Str t))).heap[R]? = some (.cells #[.int .i64 k, .int .u64 (x0 : Int), .int .u64 (x1 : Int), .int .u64 (x2 : Int), .int .u64 (x3 : Int), .slice none 0 0, .int .i64 mn, .int .i64 mx, .string (Str t)] 27 (0, 0)) ∧
    NdP w0 W p s A (.mk k [x0, x1, x2, x3] mn mx t none 0 [], st') (.returned (.agg #[.int .i64 k, .int .u64 (x0 : Int), .int .u64 (x1 : Int), .int .u64 (x2 : Int), .int .u64 (x3 : Int), .slice none 0 0, .int .i64 mn, .int .i64 mx, .string (Str t)])) (put9 V R (.int .i64 k) (.int .u64 (x0 : Int)) (.int .u64 (x1 : Int)) (.int .u64 (x2 : Int)) (.int .u64 (x3 : Int)) (.slice none 0 0) (.int .i64 mn) (.int .i64 mx) (.string (Str t))) := by
  have hb := h.blk
  have hz := h.B.size
  have hm2 := put9_mod V R (.int .i64 k) (.int .u64 (x0 : Int)) (.int .u64 (x1 : Int)) (.int .u64 (x2 : Int)) (.int .u64 (x3 : Int)) (.slice none 0 0) (.int .i64 mn) (.int .i64 mx) (.string (Str t))
  refine ⟨put9_block hV _ _ _ _ _ _ _ _ _, .mk k [x0, x1, x2, x3] mn mx t none 0 [], rfl, rfl, leaf_is _ _ _ _ _ _ _ _ _ _, leaf_bl _ _ _ _ _ _ _ _ _, hr.put (by omega) (by omega) _ _ _ _ _ _ _ _ _, hm.trans hm2 (fun x hx => .inr (by simp at hx; omega))⟩
theorem z9_cells {V : World} {R : Nat} (h : V.heap[R]? = some Z9) : (V.cell? ⟨R, 0, none⟩ = some (.int .i64 0) ∧ V.cell? ⟨R, 1, none⟩ = some (.int .u64 0) ∧ V.cell? ⟨R, 2, none⟩ = some (.int .u64 0) ∧ V.cell? ⟨R, 3, none⟩ = some (.int .u64 0) ∧ V.cell? ⟨R, 4, none⟩ = some (.int .u64 0) ∧ V.cell? ⟨R, 5, none⟩ = some (.slice none 0 0) ∧ V.cell? ⟨R, 6, none⟩ = some (.int .i64 0) ∧ V.cell? ⟨R, 7, none⟩ = some (.int .i64 0) ∧ V.cell? ⟨R, 8, none⟩ = some (.string ⟨#[]⟩)) ∧
    (V.frozen? ⟨R, 0, none⟩ = false ∧ V.frozen? ⟨R, 1, none⟩ = false ∧ V.frozen? ⟨R, 2, none⟩ = false ∧ V.frozen? ⟨R, 3, none⟩ = false ∧ V.frozen? ⟨R, 4, none⟩ = false ∧ V.frozen? ⟨R, 5, none⟩ = false ∧ V.frozen? ⟨R, 6, none⟩ = false ∧ V.frozen? ⟨R, 7, none⟩ = false ∧ V.frozen? ⟨R, 8, none⟩ = false) :=
  ⟨nd_cells (k := 0) (x0 := 0) (x1 := 0) (x2 := 0) (x3 := 0) (a := none) (nl := 0) (c := 0) (mn := 0) (mx := 0) (t := []) h, frz9 h⟩
/-- A leaf that is nothing. -/
theorem zero_fin {V : World} {R : Nat} {st' : S} (h : Rr w0 W p s A st) (hR : W.heap.size ≤ R) (hV : V.heap[R]? = some Z9) (hr : Rr w0 V p s A st') (hm : Mod [p] W V) :
    (put9 V R (.int .i64 0) (.int .u64 0) (.int .u64 0) (.int .u64 0) (.int .u64 0) (.slice none 0 0) (.int .i64 0) (.int .i64 0) (.string ⟨#[]⟩)).heap[R]? = some (.cells #[.int .i64 0, .int .u64 0, .int .u64 0, .int .u64 0, .int .u64 0, .slice none 0 0, .int .i64 0, .int .i64 0, .string ⟨#[]⟩] 27 (0, 0)) ∧
    NdP w0 W p s A (zero, st') (.returned (.agg #[.int .i64 0, .int .u64 0, .int .u64 0, .int .u64 0, .int .u64 0, .slice none 0 0, .int .i64 0, .int .i64 0, .string ⟨#[]⟩])) (put9 V R (.int .i64 0) (.int .u64 0) (.int .u64 0) (.int .u64 0) (.int .u64 0) (.slice none 0 0) (.int .i64 0) (.int .i64 0) (.string ⟨#[]⟩)) :=
  leaf_fin h hR hV hr hm 0 0 0 0 0 0 0 []
theorem slice_from (s : ByteArray) (a : Nat) (_ha : a ≤ s.size) : s.extract a s.size = Str (s.data.toList.drop a) := by
  rw [Lib.extract_eq]
  congr 1
  rw [List.take_of_length_le]
  rw [List.length_drop, ← size_list]
  exact Nat.le_refl _
theorem slice_two (s : ByteArray) (a k : Nat) : s.extract a (a + k) = Str ((s.data.toList.drop a).take k) := by
  rw [Lib.extract_eq, show a + k - a = k by omega]
  rfl
end Rx
end Go.Proofs.YtoeeddfinmfnoaaDoor

/- The walks of package regex: lone. -/
namespace Go.Proofs.YtoeeddfinmfnoaaDoor
open Go Go.RowKit Kt St Sp Bk Tr
namespace Rx
theorem any_take {ks : List Nd} {j : Nat} (hj : j < ks.length) (h : (ks.take j).any lone = false) (hk : lone ks[j] = false) : (ks.take (j + 1)).any lone = false := by
  rw [List.take_add_one, List.getElem?_eq_getElem hj, Option.toList_some, List.any_append, h]
  simp [hk]
set_option maxRecDepth 100000 in
set_option maxHeartbeats 4000000 in
theorem lone_step (k : Int) (x0 x1 x2 x3 : Nat) (a : Option Addr) (ks : List Nd) (c : Nat) (mn mx : Int) (t : List UInt8) (w : World) (hIs : Is w.heap.size w (.mk k [x0, x1, x2, x3] mn mx t a c ks))
    (hx : ∀ n ∈ ks, ∀ W, Below w.heap.size w W → Calls Tryd.prog 44 #[nv n] W fun e w' => e = .returned (.bool (lone n)) ∧ Below W.heap.size W w') :
    Calls Tryd.prog 44 #[nv (.mk k [x0, x1, x2, x3] mn mx t a c ks)] w fun e w' => e = .returned (.bool (lone (.mk k [x0, x1, x2, x3] mn mx t a c ks))) ∧ Below w.heap.size w w' := by
  have hnv : nv (.mk k [x0, x1, x2, x3] mn mx t a c ks) = .agg #[.int .i64 k, .int .u64 (x0 : Int), .int .u64 (x1 : Int), .int .u64 (x2 : Int), .int .u64 (x3 : Int), .slice a ks.length c, .int .i64 mn, .int .i64 mx, .string (Str t)] := rfl
  have hln : lone (.mk k [x0, x1, x2, x3] mn mx t a c ks) = if k = 2 ∧ ks.length = 1 then true else ks.any lone := by rw [lone, lones_any]
  rw [hnv, hln]
  clear hnv hln
  obtain ⟨nl, hnl⟩ : ∃ nl, ks.length = nl := ⟨_, rfl⟩
  rw [hnl]
  obtain ⟨W1, hW1⟩ : ∃ W1, w.alloc (.cells #[.int .i64 k, .int .u64 (x0 : Int), .int .u64 (x1 : Int), .int .u64 (x2 : Int), .int .u64 (x3 : Int), .slice a nl c, .int .i64 mn, .int .i64 mx, .string (Str t)] 27) = W1 := ⟨_, rfl⟩
  have b1 : Below w.heap.size w W1 := by rw [← hW1]; exact (Below.refl _ _).alloc (Nat.le_refl _) _
  have l1 : W1.heap[w.heap.size]? = some (.cells #[.int .i64 k, .int .u64 (x0 : Int), .int .u64 (x1 : Int), .int .u64 (x2 : Int), .int .u64 (x3 : Int), .slice a nl c, .int .i64 mn, .int .i64 mx, .string (Str t)] 27 (0, 0)) := by rw [← hW1]; exact World.alloc_heap_new _ _
  obtain ⟨u0, u1, u2, u3, u4, u5, u6, u7, u8⟩ := nd_cells l1
  have HW1 := Lib.hid hW1
  have HB := Lib.hid b1
  have hn63 : nl ≤ 9223372036854775807 := by
    have h1 := hIs.2.1
    have h2 := hIs.2.2.1
    unfold maxLen at h2
    omega
  have HI := Lib.hid hIs
  have HX := Lib.hid hx
  have HNl := Lib.hid hnl
  clear hW1 b1 hIs hx l1 hnl
  go_enter Tryd.func44, Tryd.ntmps44
  by_cases hk : k = 2 ∧ nl = 1
  · obtain ⟨rfl, rfl⟩ := hk
    go_upto_region 1 with (fail)
    rw [HW1.out]
    go_wp2
    go_ret
    exact ⟨rfl, HB.out⟩
  rw [if_neg hk]
  have hc : (k = 2 ∧ ((nl : Int) == 1) = false) ∨ (k == 2) = false := by
    by_cases h : k = 2
    · exact .inl ⟨h, by simp; omega⟩
    · exact .inr (by simpa using h)
  clear hk
  rcases hc with ⟨rfl, hn1⟩ | hn1
  all_goals (
    go_upto_region 1 with (fail)
    rw [HW1.out]
    go_wp2_with fail
    clear hn1 u0 u1 u2 u3 u4 u5 u6 u7 u8
    go_loopw [2, 17] (fun r i W => ∃ j : Nat, j ≤ nl ∧ i = .int .i64 (j : Int) ∧ r = .bool false ∧ (ks.take j).any lone = false ∧ Below w.heap.size w W) (fun _ i _ => nl - (intOf i).toNat)
    case atStart => exact ⟨0, Nat.zero_le _, rfl, rfl, rfl, HB.out⟩
    case round =>
      obtain ⟨j, hj, rfl, rfl, hno, hbw⟩ := hrel
      by_cases hjl : j < nl
      · have hjk : j < ks.length := by rw [HNl.out]; exact hjl
        have hin : ks[j] ∈ ks := List.getElem_mem hjk
        obtain ⟨_, _, _, _, hrd, _, hall⟩ := Is.below hbw HI.out
        obtain ⟨b, off, rfl, hcs⟩ := kid_at hrd (fun n hn => (Is.all hall n hn).len) j hjk
        have hkid := Is.all hall _ hin
        have hxk := HX.out _ hin
        have hst := any_take hjk hno
        have han : ∀ h : lone ks[j] = true, ks.any lone = true := fun h => List.any_eq_true.2 ⟨_, hin, h⟩
        obtain ⟨kid, hkd⟩ : ∃ kid, ks[j] = kid := ⟨_, rfl⟩
        rw [hkd] at hcs hkid hxk hst han
        obtain ⟨y0, y1, y2, y3, hys⟩ := four hkid.len
        obtain ⟨kk, ksx, kmn, kmx, kt, ka, kc, kks⟩ := kid
        simp only [Nd.set] at hys
        subst hys
        have q0 := hcs 0 _ rfl (by omega)
        have q1 := hcs 1 _ rfl (by omega)
        have q2 := hcs 2 _ rfl (by omega)
        have q3 := hcs 3 _ rfl (by omega)
        have q4 := hcs 4 _ rfl (by omega)
        have q5 := hcs 5 _ rfl (by omega)
        have q6 := hcs 6 _ rfl (by omega)
        have q7 := hcs 7 _ rfl (by omega)
        have q8 := hcs 8 _ rfl (by omega)
        simp only [← Nat.add_assoc, Nat.add_zero, Nd.kind, Nd.a, Nd.kids, Nd.cap, Nd.mn, Nd.mx, Nd.text] at q0 q1 q2 q3 q4 q5 q6 q7 q8
        have hxk2 : ∀ W, Below w.heap.size w W → Calls Tryd.prog 44 #[.agg #[.int .i64 kk, .int .u64 (y0 : Int), .int .u64 (y1 : Int), .int .u64 (y2 : Int), .int .u64 (y3 : Int), .slice ka kks.length kc, .int .i64 kmn, .int .i64 kmx, .string (Str kt)]] W fun e w' => e = .returned (.bool (lone (.mk kk [y0, y1, y2, y3] kmn kmx kt ka kc kks))) ∧ Below W.heap.size W w' := hxk
        obtain ⟨kl, hkl⟩ : ∃ kl, kks.length = kl := ⟨_, rfl⟩
        obtain ⟨lo, hlo⟩ : ∃ lo, lone (.mk kk [y0, y1, y2, y3] kmn kmx kt ka kc kks) = lo := ⟨_, rfl⟩
        rw [hkl] at q5 hxk2
        rw [hlo] at hxk2 hst han
        obtain ⟨W7, hW7⟩ : ∃ W7, wr.alloc (.cells #[.int .i64 kk, .int .u64 (y0 : Int), .int .u64 (y1 : Int), .int .u64 (y2 : Int), .int .u64 (y3 : Int), .slice ka kl kc, .int .i64 kmn, .int .i64 kmx, .string (Str kt)] 27) = W7 := ⟨_, rfl⟩
        have b7 : Below wr.heap.size wr W7 := by rw [← hW7]; exact (Below.refl _ _).alloc (Nat.le_refl _) _
        have s7 : W7.heap[wr.heap.size]? = some (.cells #[.int .i64 kk, .int .u64 (y0 : Int), .int .u64 (y1 : Int), .int .u64 (y2 : Int), .int .u64 (y3 : Int), .slice ka kl kc, .int .i64 kmn, .int .i64 kmx, .string (Str kt)] 27 (0, 0)) := by rw [← hW7]; exact World.alloc_heap_new _ _
        obtain ⟨o0, o1, o2, o3, o4, o5, o6, o7, o8⟩ := nd_cells s7
        have hB7 : Below w.heap.size w W7 := hbw.trans (b7.mono hbw.size)
        have HC := Lib.hid (hxk2 W7 hB7)
        have HB7 := Lib.hid hB7
        have HW7 := Lib.hid hW7
        have HSt := Lib.hid hst
        have HAn := Lib.hid han
        have hjl2 : (j : Int) < (nl : Int) := by omega
        clear hxk hxk2 hB7 b7 s7 hW7 hst han hlo hkl hkd hkid hcs hrd hall hno hin hbw
        go_upto_region 6 with (fail)
        rw [HW7.out]
        clear q0 q1 q2 q3 q4 q5 q6 q7 q8
        go_wp2_with fail
        with_reducible refine HC.out.mono ?_
        rintro e w8 ⟨rfl, hb8⟩
        have hB8 := HB7.out.trans (hb8.mono HB7.out.size)
        have HB8 := Lib.hid hB8
        clear hb8 hB8
        cases lo with
        | true =>
          go_wp2
          go_ret
          exact ⟨by rw [HAn.out (by first | rfl | trivial)]; rfl, HB8.out⟩
        | false =>
          go_wp2_with fail
          go_roundw
          case rel => first | exact ⟨j + 1, by omega, by go_num, rfl, HSt.out (by first | rfl | trivial), HB8.out⟩ | ((repeat apply Exists.intro); (refine ⟨?_, ?_⟩); rotate_left 1; (focus (and_intros <;> rfl)); exact ⟨j + 1, by omega, by go_num, rfl, HSt.out (by first | rfl | trivial), HB8.out⟩)
          case measure => simp [intOf]; omega
      · obtain rfl : j = nl := by omega
        have hjl2 : ¬ ((j : Int) < (j : Int)) := by omega
        have hal : ks.any lone = false := by rw [← hno, ← HNl.out, List.take_length]
        have HAl := Lib.hid hal
        have HBw := Lib.hid hbw
        clear hal hbw hno
        go_wp2
        go_ret
        exact ⟨by rw [HAl.out]; rfl, HBw.out⟩)
mutual
theorem lone_all : ∀ (n : Nd) (w : World), Is w.heap.size w n → Calls Tryd.prog 44 #[nv n] w fun e w' => e = .returned (.bool (lone n)) ∧ Below w.heap.size w w'
  | .mk k s mn mx t a c ks, w, hIs => by
    obtain ⟨x0, x1, x2, x3, hxs⟩ := four (show s.length = 4 from hIs.1)
    subst hxs
    exact lone_step k x0 x1 x2 x3 a ks c mn mx t w hIs (lones_all ks w hIs.2.2.2.2.2.2)
theorem lones_all : ∀ (ks : List Nd) (w : World), IsAll w.heap.size w ks → ∀ n ∈ ks, ∀ W, Below w.heap.size w W → Calls Tryd.prog 44 #[nv n] W fun e w' => e = .returned (.bool (lone n)) ∧ Below W.heap.size W w'
  | [], _, _, n, hn => by cases hn
  | m :: r, w, hI, n, hn => by
    intro W hb
    rcases List.mem_cons.1 hn with h | h
    · rw [h]
      exact lone_all m W (Is.mono hb.size (Is.below hb hI.1))
    · exact lones_all r w hI.2 n h W hb
end
end Rx
end Go.Proofs.YtoeeddfinmfnoaaDoor

/- The walks of package regex's reader: name. -/
namespace Go.Proofs.YtoeeddfinmfnoaaDoor
open Go Go.RowKit Kt Sp St Bk Bo Tr
namespace Rx
variable {w0 W W' : World} {p : Nat} {s : ByteArray} {A : Nat → Addr} {st : S}
set_option maxRecDepth 100000 in
set_option maxHeartbeats 8000000 in
theorem name_c (hsz : s.size ≤ 1000000) (h : Rr w0 W p s A st) (hlt : st.pos < s.size) : Calls Tryd.prog 151 #[.pointer (some ⟨p, 0, none⟩)] W (NdP w0 W p s A (name s.data.toList st)) := by
  have hfS : ∀ V st' (q : Nat), Rr w0 V p s A st' → Calls Tryd.prog 49 #[.pointer (some ⟨p, 0, none⟩), .int .i64 (q : Int), Er.ev A 4] V fun r w' => r = .returned (.tuple #[]) ∧ Rr w0 w' p s A (fail st' q 2) ∧ Mod [p] V w' := fun V st' q h' => by rw [ee_short]; exact fail_c q 2 (by decide) h'
  have hfN : ∀ V st' (q : Nat), Rr w0 V p s A st' → Calls Tryd.prog 49 #[.pointer (some ⟨p, 0, none⟩), .int .i64 (q : Int), Er.ev A 6] V fun r w' => r = .returned (.tuple #[]) ∧ Rr w0 w' p s A (fail st' q 5) ∧ Mod [p] V w' := fun V st' q h' => by rw [ee_name]; exact fail_c q 5 (by decide) h'
  have hgS : ∀ V st', Rr w0 V p s A st' → V.cell? ⟨4, 0, none⟩ = some (Er.ev A 4) := fun V st' h' => h'.sent _ (by simp [rgs])
  have hgN : ∀ V st', Rr w0 V p s A st' → V.cell? ⟨6, 0, none⟩ = some (Er.ev A 6) := fun V st' h' => h'.sent _ (by simp [rgs])
  obtain ⟨ES, hES⟩ : ∃ E, Er.ev A 4 = E := ⟨_, rfl⟩
  obtain ⟨EN, hEN⟩ : ∃ E, Er.ev A 6 = E := ⟨_, rfl⟩
  rw [hES] at hfS hgS
  rw [hEN] at hfN hgN
  obtain ⟨W1, hW1⟩ : ∃ W1, W.alloc Z9 = W1 := ⟨_, rfl⟩
  have b1 : Below W.heap.size W W1 := by rw [← hW1]; exact (Below.refl _ _).alloc (Nat.le_refl _) _
  have s1 : W1.heap[W.heap.size]? = some Z9 := by rw [← hW1]; exact World.alloc_heap_new _ _
  have h1 := h.below b1
  have m1 : Mod [p] W W1 := Mod.of_below b1 _
  obtain ⟨k0, k1, k2, f1, f2⟩ := h1.cells
  have hsl := size_list s
  have u1 : IntKind.i64.wrap ((st.pos : Int) + 1) = ((st.pos + 1 : Nat) : Int) := by rw [IntKind.wrap_i64]; omega
  have u2 : (st.pos : Int) + 1 = ((st.pos + 1 : Nat) : Int) := by omega
  obtain ⟨F, hF⟩ : ∃ F, st.pos + 1 = F := ⟨_, rfl⟩
  have hF2 : F ≤ s.size := by omega
  have hx1 := slice_from s F hF2
  have hnm : name s.data.toList st = (if brace s.data.toList F < 0 then (zero, fail st s.size 2) else if Ac.nm ((s.data.toList.drop F).take (brace s.data.toList F).toNat) = false then (zero, fail st F 5) else (.mk 5 [0, 0, 0, 0] 0 0 ((s.data.toList.drop F).take (brace s.data.toList F).toNat) none 0 [], ⟨F + (brace s.data.toList F).toNat + 1, st.err⟩)) := by
    unfold name
    rw [hF, ← hsl]
  rw [hF] at u1 u2
  obtain ⟨K, hK⟩ : ∃ K, brace s.data.toList F = K := ⟨_, rfl⟩
  have hK0 : -1 ≤ K := by rw [← hK]; exact Lib.indexByte_ge _ _
  have hix := fun V => Sp.ix_c (s.data.toList.drop F) 125 K hK V
  obtain ⟨D, hD⟩ : ∃ D, Str (s.data.toList.drop F) = D := ⟨_, rfl⟩
  rw [hD] at hix hx1
  have hc125 : (((125 : UInt8).toNat : Nat) : Int) = 125 := rfl
  rw [hc125] at hix
  have H := Lib.hid h
  have H1 := Lib.hid h1
  have M1 := Lib.hid m1
  have HS1 := Lib.hid s1
  have HW1 := Lib.hid (show W.alloc (.cells #[.int .i64 0, .int .u64 0, .int .u64 0, .int .u64 0, .int .u64 0, .slice none 0 0, .int .i64 0, .int .i64 0, .string ⟨#[]⟩] 27) = W1 from hW1)
  have HfS := Lib.hid hfS
  have HfN := Lib.hid hfN
  have HgS := Lib.hid hgS
  have HgN := Lib.hid hgN
  have HIx := Lib.hid hix
  have HNm := Lib.hid hnm
  have hRp : W.heap.size ≠ p := by have := h.blk; omega
  obtain ⟨R, hR⟩ : ∃ R, W.heap.size = R := ⟨_, rfl⟩
  rw [hR] at HS1 hRp
  have HR := Lib.hid hR
  have hFi : (F : Int) ≤ (s.size : Int) := by omega
  have hFi0 : (0 : Int) ≤ (F : Int) := by omega
  have HBr : Hid (0 ≤ K → F + K.toNat < s.size) := Lib.hid (fun hk => by
    have := brace_lt (t := s.data.toList) (frm := F) (by rw [hK]; omega)
    rw [hK, ← hsl] at this
    exact this)
  have HD := Lib.hid hD
  rw [hK] at HNm
  clear h h1 m1 s1 b1 hW1 hfS hfN hgS hgN hix hnm hES hEN hF hK hD hsl
  go_enter Tryd.func151, Tryd.ntmps151
  go_upto_region 1 with (fail)
  rw [HW1.out]
  try rw [HR.out]
  clear hR
  go_wp2_with fail
  refine (HIx.out _).mono ?_
  rintro _ _ ⟨rfl, rfl⟩
  by_cases hk : K < 0
  · have hnm := HNm.out
    rw [if_pos hk] at hnm
    have HN := Lib.hid hnm
    have SK : Hid (∀ V st', Rr w0 V p s A st' → V.cell? ⟨p, 0, none⟩ = some (.string s) ∧ V.cell? ⟨4, 0, none⟩ = some ES) := Lib.hid (fun V st' h' => ⟨h'.cells.1, HgS.out V st' h'⟩)
    clear hnm HNm k0 k1 k2 f1 f2
    go_wp2_with fail
    refine wp_region_noPanic ?_
    refine wp_region_held_drew (S := fun V => V.cell? ⟨p, 0, none⟩ = some (.string s) ∧ V.cell? ⟨4, 0, none⟩ = some ES) (by kernel_rfl) (SK.out _ _ H1.out.drew) (fun hHeld => ?_)
    (refine wpAnyH_take (i := 0) (v := ?v0n1) (by simp only [List.getElem?_toArray, List.getElem?_cons_succ, List.getElem?_cons_zero]; rfl) (by kernel_rfl) (by kernel_rfl) (by kernel_rfl) (fun _ _ _ h => False.elim h) (Or.inl ⟨by rfl, ?hy0n1⟩) (by assumption) ?rest0n1; (case hy0n1 => (intro w hSw; (try dsimp only at hSw); go_simp; (try with_reducible rfl))); (try simp only [Act.put, List.setIfInBounds_toArray, List.set_cons_zero, List.set_cons_succ]))
    (refine wpAnyH_take (i := 1) (v := ?v1n2) (by simp only [List.getElem?_toArray, List.getElem?_cons_succ, List.getElem?_cons_zero]; rfl) (by kernel_rfl) (by kernel_rfl) (by kernel_rfl) (fun _ _ _ h => False.elim h) (Or.inl ⟨by rfl, ?hy1n2⟩) (by assumption) ?rest1n2; (case hy1n2 => (intro w hSw; (try dsimp only at hSw); go_simp; (try with_reducible rfl))); (try simp only [Act.put, List.setIfInBounds_toArray, List.set_cons_zero, List.set_cons_succ]))
    (refine wpAnyH_take (i := 2) (v := ?v2n3) (by simp only [List.getElem?_toArray, List.getElem?_cons_succ, List.getElem?_cons_zero]; rfl) (by kernel_rfl) (by kernel_rfl) (by kernel_rfl) (fun _ _ _ h => False.elim h) (Or.inl ⟨by rfl, ?hy2n3⟩) (by assumption) ?rest2n3; (case hy2n3 => (intro w hSw; (try dsimp only at hSw); go_simp; (try with_reducible rfl))); (try simp only [Act.put, List.setIfInBounds_toArray, List.set_cons_zero, List.set_cons_succ]))
    (refine wpAnyH_take (i := 3) (v := ?v3n4) (by simp only [List.getElem?_toArray, List.getElem?_cons_succ, List.getElem?_cons_zero]; rfl) (by kernel_rfl) (by kernel_rfl) (by kernel_rfl) (fun _ _ _ h => False.elim h) (Or.inl ⟨by rfl, ?hy3n4⟩) (by assumption) ?rest3n4; (case hy3n4 => (intro w hSw; (try dsimp only at hSw); go_simp; (try with_reducible rfl))); (try simp only [Act.put, List.setIfInBounds_toArray, List.set_cons_zero, List.set_cons_succ]))
    (refine wpAnyH_take (i := 4) (v := ?v4n5) (by simp only [List.getElem?_toArray, List.getElem?_cons_succ, List.getElem?_cons_zero]; rfl) (by kernel_rfl) (by kernel_rfl) (by kernel_rfl) (fun _ _ _ h => False.elim h) (Or.inl ⟨by rfl, ?hy4n5⟩) (by assumption) ?rest4n5; (case hy4n5 => (intro w hSw; (try dsimp only at hSw); go_simp; (try with_reducible rfl))); (try simp only [Act.put, List.setIfInBounds_toArray, List.set_cons_zero, List.set_cons_succ]))
    (refine wpAnyH_take (i := 5) (v := ?v5n6) (by simp only [List.getElem?_toArray, List.getElem?_cons_succ, List.getElem?_cons_zero]; rfl) (by kernel_rfl) (by kernel_rfl) (by kernel_rfl) (fun _ _ _ h => False.elim h) (Or.inl ⟨by rfl, ?hy5n6⟩) (by assumption) ?rest5n6; (case hy5n6 => (intro w hSw; (try dsimp only at hSw); go_simp; (try with_reducible rfl))); (try simp only [Act.put, List.setIfInBounds_toArray, List.set_cons_zero, List.set_cons_succ]))
    (refine wpAnyH_take (i := 6) (v := ?v6n7) (by simp only [List.getElem?_toArray, List.getElem?_cons_succ, List.getElem?_cons_zero]; rfl) (by kernel_rfl) (by kernel_rfl) (by kernel_rfl) (fun _ _ _ h => False.elim h) (Or.inl ⟨by rfl, ?hy6n7⟩) (by assumption) ?rest6n7; (case hy6n7 => (intro w hSw; (try dsimp only at hSw); go_simp; (try with_reducible rfl))); (try simp only [Act.put, List.setIfInBounds_toArray, List.set_cons_zero, List.set_cons_succ]))
    (refine wpAnyH_ready (rs := [7]) (by kernel_rfl) (by simp) ?_; refine AllReadyH.cons (o := _) (by simp only [List.getElem?_toArray, List.getElem?_cons_succ, List.getElem?_cons_zero]; rfl) (fun K hK => ?_) AllReadyH.nil; go_simp; ((with_reducible refine (HfS.out _ _ s.size H1.out.drew).mono ?_); rintro _ w6 ⟨rfl, hr6, hm6⟩); refine hK.out _ _ (by exact SK.out _ _ hr6) (fun hHeld => ?_); clear hK K; (try simp only [Act.put, List.setIfInBounds_toArray, List.set_cons_zero, List.set_cons_succ]))
    refine wpAnyH_done (by kernel_rfl) ?_ _
    refine NoPanic.normal ?_
    have hV : w6.heap[R]? = some Z9 := (hm6.block R (block_lt HS1.out) (by simpa using hRp)).trans HS1.out
    have hf := zero_fin H.out (by rw [HR.out]; exact Nat.le_refl _) hV hr6 (M1.out.drew.trans hm6 (fun x hx => .inl hx))
    obtain ⟨⟨d0, d1, d2, d3, d4, d5, d6, d7, d8⟩, g0, g1, g2, g3, g4, g5, g6, g7, g8⟩ := z9_cells hV
    have HPb := Lib.hid hf.1
    have HFin := Lib.hid hf.2
    clear hf hV hr6 hm6 hHeld
    go_wp2
    ((try simp only [Exit.inBlock, Exit.then]); refine bodyPost_ret (results_cell_row rfl _ _ (R) 27 _ (0, 0) _ rfl (HPb.out) Tryd.underlying27 rfl ?hi1) rfl ?_; (case hi1 => kernel_rfl))
    rw [HN.out]
    exact HFin.out
  · have hnm := HNm.out
    rw [if_neg hk] at hnm
    obtain ⟨k, rfl⟩ : ∃ k : Nat, K = (k : Int) := ⟨K.toNat, by omega⟩
    rw [Int.toNat_natCast] at hnm
    have hbr := HBr.out (by omega)
    rw [Int.toNat_natCast] at hbr
    have hx2 := slice_two s F k
    have u3 : IntKind.i64.wrap ((F : Int) + (k : Int)) = ((F + k : Nat) : Int) := by rw [IntKind.wrap_i64]; omega
    have u4 : (F : Int) + (k : Int) = ((F + k : Nat) : Int) := by omega
    have u5 : IntKind.i64.wrap (((F + k : Nat) : Int) + 1) = ((F + k + 1 : Nat) : Int) := by rw [IntKind.wrap_i64]; omega
    have u6 : ((F + k : Nat) : Int) + 1 = ((F + k + 1 : Nat) : Int) := by omega
    obtain ⟨w, hw⟩ : ∃ w, (s.data.toList.drop F).take k = w := ⟨_, rfl⟩
    rw [hw] at hnm hx2
    have hwl : w.length ≤ 9223372036854775807 := by
      rw [← hw, List.length_take]
      omega
    have hin := fun V => Ac.isname_c w hwl V
    obtain ⟨B, hB⟩ : ∃ b, Ac.nm w = b := ⟨_, rfl⟩
    rw [hB] at hnm hin
    have HIn := Lib.hid hin
    have HN := Lib.hid hnm
    have HBk := Lib.hid hbr
    have i1 : (F : Int) ≤ ((F + k : Nat) : Int) := by omega
    have i2 : ((F + k : Nat) : Int) ≤ (s.size : Int) := by omega
    obtain ⟨Q, hQ⟩ : ∃ Q, F + k = Q := ⟨_, rfl⟩
    rw [hQ] at u3 u4 u5 u6 hx2 i1 i2
    obtain ⟨Q2, hQ2⟩ : ∃ Q2, Q + 1 = Q2 := ⟨_, rfl⟩
    rw [hQ2] at u5 u6
    have hki : ¬ (k : Int) < 0 := by omega
    have HQ : Hid (F + k + 1 = Q2) := Lib.hid (by omega)
    clear hnm HNm hw hwl hin hB hbr HBr HIx hQ hQ2 hk HD hK0
    go_wp2_with fail
    refine (HIn.out _).mono ?_
    rintro _ _ ⟨rfl, rfl⟩
    cases B with
    | false =>
      have HN2 : Hid (name s.data.toList st = (zero, fail st F 5)) := Lib.hid (by rw [HN.out]; rfl)
      have g3 := HgN.out _ _ H1.out
      go_wp2_with fail
      refine (HfN.out _ _ F H1.out).mono ?_
      rintro _ w6 ⟨rfl, hr6, hm6⟩
      have hV : w6.heap[R]? = some Z9 := (hm6.block R (block_lt HS1.out) (by simpa using hRp)).trans HS1.out
      have hf := zero_fin H.out (by rw [HR.out]; exact Nat.le_refl _) hV hr6 (M1.out.trans hm6 (fun x hx => .inl hx))
      obtain ⟨⟨d0, d1, d2, d3, d4, d5, d6, d7, d8⟩, e0, e1, e2, e3, e4, e5, e6, e7, e8⟩ := z9_cells hV
      have HPb := Lib.hid hf.1
      have HFin := Lib.hid hf.2
      clear hf hV hr6 hm6 k0 k1 k2 f1 f2 g3
      go_wp2
      ((try simp only [Exit.inBlock, Exit.then]); refine bodyPost_ret (results_cell_row rfl _ _ (R) 27 _ (0, 0) _ rfl (HPb.out) Tryd.underlying27 rfl ?hi2) rfl ?_; (case hi2 => kernel_rfl))
      rw [HN2.out]
      exact HFin.out
    | true =>
      have HN2 : Hid (name s.data.toList st = (.mk 5 [0, 0, 0, 0] 0 0 w none 0 [], ⟨Q2, st.err⟩)) := Lib.hid (by rw [HN.out, HQ.out]; rfl)
      have hp2 := H1.out.setPos Q2
      obtain ⟨w5, hw5⟩ : ∃ x, W1.setCell ⟨p, 1, none⟩ (.int .i64 (Q2 : Int)) = x := ⟨_, rfl⟩
      rw [hw5] at hp2
      have hV : w5.heap[R]? = some Z9 := (hp2.2.block R (block_lt HS1.out) (by simpa using hRp)).trans HS1.out
      have hf := leaf_fin H.out (by rw [HR.out]; exact Nat.le_refl _) hV hp2.1 (M1.out.trans hp2.2 (fun x hx => .inl hx)) 5 0 0 0 0 0 0 w
      obtain ⟨⟨d0, d1, d2, d3, d4, d5, d6, d7, d8⟩, e0, e1, e2, e3, e4, e5, e6, e7, e8⟩ := z9_cells hV
      have q0 := hp2.1.cells.1
      have HPb := Lib.hid hf.1
      have HFin := Lib.hid hf.2
      clear hf hV hp2
      go_upto_region 10 with (fail)
      try rw [hw5]
      clear k0 k1 k2 f1 f2 hw5
      go_wp2
      ((try simp only [Exit.inBlock, Exit.then]); refine bodyPost_ret (results_cell_row rfl _ _ (R) 27 _ (0, 0) _ rfl (HPb.out) Tryd.underlying27 rfl ?hi3) rfl ?_; (case hi3 => kernel_rfl))
      rw [HN2.out]
      exact HFin.out
end Rx
end Go.Proofs.YtoeeddfinmfnoaaDoor
