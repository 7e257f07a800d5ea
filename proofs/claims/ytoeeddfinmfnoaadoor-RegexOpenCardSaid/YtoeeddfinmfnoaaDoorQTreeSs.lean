import Derived.Test.YtoeeddfinmfnoaaDoorQTreeSm
import Derived.Test.YtoeeddfinmfnoaaDoorQTreeCp
/- tree.Same. -/
namespace Go.Proofs.YtoeeddfinmfnoaaDoor
namespace Kt
end Kt
namespace St
end St
namespace Sp
end Sp
namespace Bk
end Bk
open Go Go.RowKit Kt St Sp Bk
namespace Tr
set_option maxRecDepth 100000 in
set_option maxHeartbeats 8000000 in
/-- tree.Same. -/
theorem Same_c (n m : Nd) (ht : ∀ x ∈ walk n, x.1.text.length ≤ 9223372036854775807) (ht' : ∀ x ∈ walk m, x.1.text.length ≤ 9223372036854775807) (w : World) (hIs : Is w.heap.size w n) (hIs' : Is w.heap.size w m) :
    Calls Tryd.prog 23 #[nv n, nv m] w fun e w' => e = .returned (.bool (rgt n && (rgt m && sm n m))) ∧ Below w.heap.size w w' := by
  have hI := fun (W : World) (hb : Below w.heap.size w W) => Is.mono hb.size (Is.below hb hIs)
  have hI' := fun (W : World) (hb : Below w.heap.size w W) => Is.mono hb.size (Is.below hb hIs')
  have hr := fun W hb => right_c n ht W (hI W hb)
  have hr' := fun W hb => right_c m ht' W (hI' W hb)
  have hs : ∀ W (hb : Below w.heap.size w W), Calls Tryd.prog 60 #[nv n, nv m] W fun e w' => e = .returned (.bool (sm n m)) ∧ Below W.heap.size W w' := fun W hb => same_all n m W (hI W hb) (hI' W hb)
  obtain ⟨x0, x1, x2, x3, hxs⟩ := four' hIs.len
  obtain ⟨y0, y1, y2, y3, hys⟩ := four' hIs'.len
  obtain ⟨k, mn, mx, a, nl, c, t, hnv, _⟩ := nv_explicit hxs
  obtain ⟨k', mn', mx', a', nl', c', t', hnv', _⟩ := nv_explicit hys
  rw [hnv] at hr hs ⊢
  rw [hnv'] at hr' hs ⊢
  obtain ⟨B1, hB1⟩ : ∃ B1, Obj.cells #[.int .i64 k, .int .u64 (x0 : Int), .int .u64 (x1 : Int), .int .u64 (x2 : Int), .int .u64 (x3 : Int), .slice a nl c, .int .i64 mn, .int .i64 mx, .string (Str t)] 27 (0, 0) = B1 := ⟨_, rfl⟩
  obtain ⟨B2, hB2⟩ : ∃ B2, Obj.cells #[.int .i64 k', .int .u64 (y0 : Int), .int .u64 (y1 : Int), .int .u64 (y2 : Int), .int .u64 (y3 : Int), .slice a' nl' c', .int .i64 mn', .int .i64 mx', .string (Str t')] 27 (0, 0) = B2 := ⟨_, rfl⟩
  have z1 : (w.alloc B1).heap.size = w.heap.size + 1 := by simp
  have l1 : ((w.alloc B1).alloc B2).heap[w.heap.size]? = some B1 := block_alloc (World.alloc_heap_new w B1)
  have l2 : ((w.alloc B1).alloc B2).heap[w.heap.size + 1]? = some B2 := by rw [← z1]; exact World.alloc_heap_new _ B2
  have hB : Below w.heap.size w ((w.alloc B1).alloc B2) := ((Below.refl _ w).alloc (Nat.le_refl _) _).alloc (by simp) _
  obtain ⟨W3, hW3⟩ : ∃ W3, (w.alloc B1).alloc B2 = W3 := ⟨_, rfl⟩
  rw [hW3] at l1 l2 hB
  rw [← hB1, ← hB2] at hW3
  rw [← hB1] at l1
  rw [← hB2] at l2
  clear hB1 hB2 z1 B1 B2
  have hcl := fun (W : World) (hb : Below W3.heap.size W3 W) => And.intro (nd_cells ((hb.block _ (block_lt l1)).trans l1)) (nd_cells ((hb.block _ (block_lt l2)).trans l2))
  obtain ⟨u0, u1, u2, u3, u4, u5, u6, u7, u8⟩ := nd_cells l1
  rw [← hW3] at u0 u1 u2 u3 u4 u5 u6 u7 u8
  have HR := Lib.hid (hr W3 hB)
  have HR' := Lib.hid hr'
  have HS := Lib.hid hs
  have HC := Lib.hid hcl
  have HB := Lib.hid hB
  have HW3 := Lib.hid hW3
  generalize rgt n = r1 at *
  generalize rgt m = r2 at *
  generalize sm n m = r3 at *
  clear hr hr' hs hcl hB hW3 l1 l2 hI hI' hnv hnv' hxs hys ht ht' hIs hIs'
  cases r1 with
  | false =>
    go_enter Tryd.func23, Tryd.ntmps23
    go_wp2_with fail
    rw [HW3.out]
    with_reducible refine HR.out.mono ?_
    rintro e w4 ⟨rfl, hb4⟩
    go_wp2
    go_ret
    exact ⟨rfl, HB.out.trans (hb4.mono HB.out.size)⟩
  | true =>
    cases r2 with
    | false =>
      go_enter Tryd.func23, Tryd.ntmps23
      go_wp2_with fail
      rw [HW3.out]
      with_reducible refine HR.out.mono ?_
      rintro e w4 ⟨rfl, hb4⟩
      obtain ⟨_, p0, p1, p2, p3, p4, p5, p6, p7, p8⟩ := HC.out _ hb4
      go_wp2_with fail
      with_reducible refine (HR'.out _ (HB.out.trans (hb4.mono HB.out.size))).mono ?_
      rintro e w5 ⟨rfl, hb5⟩
      have h5 := hb4.trans (hb5.mono hb4.size)
      go_wp2
      go_ret
      exact ⟨rfl, HB.out.trans (h5.mono HB.out.size)⟩
    | true =>
      go_enter Tryd.func23, Tryd.ntmps23
      go_wp2_with fail
      rw [HW3.out]
      with_reducible refine HR.out.mono ?_
      rintro e w4 ⟨rfl, hb4⟩
      obtain ⟨_, p0, p1, p2, p3, p4, p5, p6, p7, p8⟩ := HC.out _ hb4
      go_wp2_with fail
      with_reducible refine (HR'.out _ (HB.out.trans (hb4.mono HB.out.size))).mono ?_
      rintro e w5 ⟨rfl, hb5⟩
      have h5 := hb4.trans (hb5.mono hb4.size)
      obtain ⟨⟨q0, q1, q2, q3, q4, q5, q6, q7, q8⟩, o0, o1, o2, o3, o4, o5, o6, o7, o8⟩ := HC.out _ h5
      go_wp2_with fail
      with_reducible refine (HS.out _ (HB.out.trans (h5.mono HB.out.size))).mono ?_
      rintro e w6 ⟨rfl, hb6⟩
      have h6 := h5.trans (hb6.mono h5.size)
      go_wp2
      go_ret
      exact ⟨rfl, HB.out.trans (h6.mono HB.out.size)⟩
end Tr
end Go.Proofs.YtoeeddfinmfnoaaDoor
