import Derived.Test.YtoeeddfinmfnoaaDoorQTreeGrow
import Derived.Test.YtoeeddfinmfnoaaDoorQTreeRw
import Derived.Test.YtoeeddfinmfnoaaDoorQTreePure
/- dofferlaw07.Of: a tree as of the document, up to a number of nodes. -/
namespace Go.Proofs.YtoeeddfinmfnoaaDoor
namespace Kt
end Kt
namespace St
end St
namespace Sp
end Sp
namespace Bk
end Bk
open Go Go.RowKit Kt St Sp Bk
namespace Tr
theorem elRef : El Tryd.prog 29 31 (.agg #[.int .i64 0, .int .u64 0, .int .u64 0, .int .u64 0, .int .u64 0, .slice none 0 0, .int .i64 0, .int .i64 0, .string ⟨#[]⟩]) 9 96 := ⟨Tryd.underlying29, info_parts (by kernel_rfl), rfl, by decide⟩
/-- What Of answers. -/
def OfP (n : Nd) (left : Nat) (w : World) (e : Ending) (w' : World) : Prop := ∃ (m : Nd) (r : Nat), e = .returned (.tuple #[nv m, .int .i64 (r : Int)]) ∧ (sz n < left → r + sz n = left ∧ er m = er n) ∧ (¬ sz n < left → r = 0) ∧
  Is w'.heap.size w' m ∧ Bl (w.heap.size ≤ ·) m ∧ Below w.heap.size w w'
theorem szs_take (ks : List Nd) (j : Nat) (h : j < ks.length) : szs (ks.take (j + 1)) = szs (ks.take j) + sz ks[j] := by
  have : ∀ (r s : List Nd), szs (r ++ s) = szs r + szs s := by
    intro r
    induction r with
    | nil => intro s; simp [szs]
    | cons x r ih => intro s; simp [szs, ih]; omega
  rw [List.take_succ_eq_append_getElem h, this]
  simp [szs]
theorem szs_le (ks : List Nd) (j : Nat) : szs (ks.take j) ≤ szs ks := by
  have : ∀ (r s : List Nd), szs (r ++ s) = szs r + szs s := by
    intro r
    induction r with
    | nil => intro s; simp [szs]
    | cons x r ih => intro s; simp [szs, ih]; omega
  have h := this (ks.take j) (ks.drop j)
  rw [List.take_append_drop] at h
  omega
theorem map_take {α β : Type} (f : α → β) (ks : List α) (j : Nat) (h : j < ks.length) : (ks.take (j + 1)).map f = (ks.take j).map f ++ [f ks[j]] := by
  rw [List.take_succ_eq_append_getElem h, List.map_append]
  rfl
/-- Where Of's loop stands. -/
structure OfL (T b4 b6 : Nat) (k : Int) (x0 x1 x2 x3 : Nat) (mn mx : Int) (t : List UInt8) (ks : List Nd) (L0 : Nat) (W3 : World) (j cur : Nat) (W : World) : Prop where
  ex : ∃ ms a c g, Gw T b6 k x0 x1 x2 x3 mn mx t ms a j c W ∧ Mod (b6 :: g) W3 W ∧ (∀ x ∈ g, b6 < x) ∧ (szs (ks.take j) < L0 → cur + szs (ks.take j) = L0 ∧ ms.map er = (ks.take j).map er)
  no : ¬ szs (ks.take j) < L0 → cur = 0
  le : cur ≤ 100000
set_option maxRecDepth 100000 in
set_option maxHeartbeats 8000000 in
/-- One node, its kids' answers at hand. -/
theorem of_step (k : Int) (x0 x1 x2 x3 : Nat) (a : Option Addr) (ks : List Nd) (c : Nat) (mn mx : Int) (t : List UInt8) (left : Nat) (hl : 1 ≤ left) (hl2 : left ≤ 100000) (w : World) (hIs : Is w.heap.size w (.mk k [x0, x1, x2, x3] mn mx t a c ks))
    (hx : ∀ n ∈ ks, ∀ q : Nat, 1 ≤ q → q ≤ 100000 → ∀ W, Below w.heap.size w W → Calls Tryd.prog 13 #[nv n, .int .i64 (q : Int)] W (OfP n q W)) :
    Calls Tryd.prog 13 #[nv (.mk k [x0, x1, x2, x3] mn mx t a c ks), .int .i64 (left : Int)] w (OfP (.mk k [x0, x1, x2, x3] mn mx t a c ks) left w) := by
  have hnv : nv (.mk k [x0, x1, x2, x3] mn mx t a c ks) = .agg #[.int .i64 k, .int .u64 (x0 : Int), .int .u64 (x1 : Int), .int .u64 (x2 : Int), .int .u64 (x3 : Int), .slice a ks.length c, .int .i64 mn, .int .i64 mx, .string (Str t)] := rfl
  rw [hnv]
  clear hnv
  obtain ⟨nl, hnl⟩ : ∃ nl, ks.length = nl := ⟨_, rfl⟩
  rw [hnl]
  obtain ⟨L0, rfl⟩ : ∃ L0, left = L0 + 1 := ⟨left - 1, by omega⟩
  -- memory ahead of the loop
  obtain ⟨B2, hB2⟩ : ∃ B2, Obj.cells #[.int .i64 k, .int .u64 (x0 : Int), .int .u64 (x1 : Int), .int .u64 (x2 : Int), .int .u64 (x3 : Int), .slice a nl c, .int .i64 mn, .int .i64 mx, .string (Str t)] 27 (0, 0) = B2 := ⟨_, rfl⟩
  obtain ⟨B4, hB4⟩ : ∃ B4, Obj.cells #[.int .i64 0, .int .u64 0, .int .u64 0, .int .u64 0, .int .u64 0, .slice none 0 0, .int .i64 0, .int .i64 0, .string ⟨#[]⟩] 31 (0, 0) = B4 := ⟨_, rfl⟩
  obtain ⟨B6, hB6⟩ : ∃ B6, Obj.cells #[.int .i64 k, .int .u64 (x0 : Int), .int .u64 (x1 : Int), .int .u64 (x2 : Int), .int .u64 (x3 : Int), .slice none 0 0, .int .i64 mn, .int .i64 mx, .string (Str t)] 31 (0, 0) = B6 := ⟨_, rfl⟩
  have z1 : (w.alloc B2).heap.size = w.heap.size + 1 := by simp
  have z2 : ((w.alloc B2).alloc B4).heap.size = w.heap.size + 1 + 1 := by simp
  have l2 : (((w.alloc B2).alloc B4).alloc B6).heap[w.heap.size]? = some B2 := block_alloc (block_alloc (World.alloc_heap_new w B2))
  have l4 : (((w.alloc B2).alloc B4).alloc B6).heap[w.heap.size + 1]? = some B4 := block_alloc (by rw [← z1]; exact World.alloc_heap_new _ B4)
  have l6 : (((w.alloc B2).alloc B4).alloc B6).heap[w.heap.size + 1 + 1]? = some B6 := by rw [← z2]; exact World.alloc_heap_new _ B6
  have hB : Below w.heap.size w (((w.alloc B2).alloc B4).alloc B6) := (((Below.refl _ w).alloc (Nat.le_refl _) _).alloc (by simp) _).alloc (by simp; omega) _
  obtain ⟨W3, hW3⟩ : ∃ W3, ((w.alloc B2).alloc B4).alloc B6 = W3 := ⟨_, rfl⟩
  have z3 : W3.heap.size = w.heap.size + 3 := by rw [← hW3]; simp
  rw [hW3] at l2 l4 l6 hB
  rw [← hB2, ← hB4, ← hB6] at hW3
  rw [← hB2] at l2
  rw [← hB4] at l4
  rw [← hB6] at l6
  clear hB2 hB4 hB6 z1 z2 B2 B4 B6
  obtain ⟨u0, u1, u2, u3, u4, u5, u6, u7, u8⟩ := nd_cells l2
  have hfin : ∀ (m : Nd) (r : Nat) (w' : World), (sz (.mk k [x0, x1, x2, x3] mn mx t a c ks) < L0 + 1 → r + sz (.mk k [x0, x1, x2, x3] mn mx t a c ks) = L0 + 1 ∧ er m = er (.mk k [x0, x1, x2, x3] mn mx t a c ks)) → (¬ sz (.mk k [x0, x1, x2, x3] mn mx t a c ks) < L0 + 1 → r = 0) → Is w'.heap.size w' m → Bl (w.heap.size ≤ ·) m → Below w.heap.size w w' →
      OfP (.mk k [x0, x1, x2, x3] mn mx t a c ks) (L0 + 1) w (.returned (.tuple #[nv m, .int .i64 (r : Int)])) w' := fun m r w' h1 h2 h3 h4 h5 => ⟨m, r, rfl, h1, h2, h3, h4, h5⟩
  have HF := Lib.hid hfin
  have HI := Lib.hid hIs
  have HX := Lib.hid hx
  have HW3 := Lib.hid hW3
  have HB := Lib.hid hB
  have H4 := Lib.hid l4
  have H6 := Lib.hid l6
  have HZ3 := Lib.hid z3
  have HNl := Lib.hid hnl
  have hL0 : ((L0 + 1 : Nat) : Int) - 1 = (L0 : Int) := by omega
  have hL1 : ((L0 + 1 : Nat) : Int) = (L0 : Int) + 1 := by omega
  clear hfin hIs hx hW3 hB l2 l4 l6 z3 hnl
  rw [hL1]
  clear hL1 hL0
  go_enter Tryd.func13, Tryd.ntmps13
  go_wp2_with fail
  rw [HW3.out]
  clear u0 u1 u2 u3 u4 u5 u6 u7 u8
  go_loopw [1, 27] (fun lv i W => ∃ j cur : Nat, j ≤ nl ∧ i = .int .i64 (j : Int) ∧ lv = .int .i64 (cur : Int) ∧ OfL 31 (w.heap.size + 1) (w.heap.size + 1 + 1) k x0 x1 x2 x3 mn mx t ks L0 W3 j cur W) (fun _ i _ => nl - (intOf i).toNat)
  case atStart =>
    refine ⟨0, L0, Nat.zero_le _, rfl, rfl, ⟨[], none, 0, [], Gw.start H6.out, Mod.refl _ _, by simp, fun _ => ⟨rfl, rfl⟩⟩, ?_, by omega⟩
    intro h
    simp [szs] at h
    omega
  case round =>
    obtain ⟨j, cur, hj, rfl, rfl, ⟨ms, ma, mc, g, hgw, hM, hg, hy⟩, hno, hle⟩ := hrel
    have hbw : Below w.heap.size w wr := HB.out.trans (hM.toBelow HB.out.size (fun q hq => by
      rcases List.mem_cons.1 hq with h | h
      · omega
      · have := hg q h; omega))
    have h4 := (hM.block _ (block_lt H4.out) (fun hq => by
      rcases List.mem_cons.1 hq with h | h
      · omega
      · have := hg _ h; omega)).trans H4.out
    by_cases hjl : j < nl
    · have hjk : j < ks.length := by rw [HNl.out]; exact hjl
      have hin : ks[j] ∈ ks := List.getElem_mem hjk
      obtain ⟨_, _, _, _, hrd, _, hall⟩ := Is.below hbw HI.out
      obtain ⟨b, off, rfl, hcs⟩ := kid_at hrd (goods_len hall) j hjk
      have hkid := Is.all hall _ hin
      have hxk := HX.out _ hin
      have hst := szs_take ks j hjk
      have hmt := map_take er ks j hjk
      obtain ⟨kid, hkd⟩ : ∃ kid, ks[j] = kid := ⟨_, rfl⟩
      rw [hkd] at hcs hkid hxk hst hmt
      obtain ⟨y0, y1, y2, y3, hys⟩ := four' hkid.len
      obtain ⟨kk, ksx, kmn, kmx, kt, ka, kc, kks⟩ := kid
      simp only [Nd.set] at hys
      subst hys
      have q0 := hcs 0 _ rfl (by omega)
      have q1 := hcs 1 _ rfl (by omega)
      have q2 := hcs 2 _ rfl (by omega)
      have q3 := hcs 3 _ rfl (by omega)
      have q4 := hcs 4 _ rfl (by omega)
      have q5 := hcs 5 _ rfl (by omega)
      have q6 := hcs 6 _ rfl (by omega)
      have q7 := hcs 7 _ rfl (by omega)
      have q8 := hcs 8 _ rfl (by omega)
      simp only [← Nat.add_assoc, Nat.add_zero, Nd.kind, Nd.a, Nd.kids, Nd.cap, Nd.mn, Nd.mx, Nd.text] at q0 q1 q2 q3 q4 q5 q6 q7 q8
      have hnvk : nv (.mk kk [y0, y1, y2, y3] kmn kmx kt ka kc kks) = .agg #[.int .i64 kk, .int .u64 (y0 : Int), .int .u64 (y1 : Int), .int .u64 (y2 : Int), .int .u64 (y3 : Int), .slice ka kks.length kc, .int .i64 kmn, .int .i64 kmx, .string (Str kt)] := rfl
      rw [hnvk] at hxk
      obtain ⟨kl, hkl⟩ : ∃ kl, kks.length = kl := ⟨_, rfl⟩
      rw [hkl] at hxk q5
      obtain ⟨W5, hW5⟩ : ∃ W5, wr.alloc (.cells #[.int .i64 kk, .int .u64 (y0 : Int), .int .u64 (y1 : Int), .int .u64 (y2 : Int), .int .u64 (y3 : Int), .slice ka kl kc, .int .i64 kmn, .int .i64 kmx, .string (Str kt)] 27) = W5 := ⟨_, rfl⟩
      have b5 : Below wr.heap.size wr W5 := by rw [← hW5]; exact (Below.refl _ _).alloc (Nat.le_refl _) _
      have hz5 : W5.heap.size = wr.heap.size + 1 := by rw [← hW5]; simp
      have s5 : W5.heap[wr.heap.size]? = some (.cells #[.int .i64 kk, .int .u64 (y0 : Int), .int .u64 (y1 : Int), .int .u64 (y2 : Int), .int .u64 (y3 : Int), .slice ka kl kc, .int .i64 kmn, .int .i64 kmx, .string (Str kt)] 27 (0, 0)) := by rw [← hW5]; exact heap_alloc_new wr _
      by_cases hc0 : cur = 0
      · subst hc0
        have hgw5 := hgw.below b5
        have h45 := (b5.block _ (block_lt h4)).trans h4
        have bw5 := hbw.trans (b5.mono hbw.size)
        obtain ⟨c0, c1, c2, c3, c4, c5, c6, c7, c8⟩ := nd_cells (show W5.heap[w.heap.size + 1 + 1]? = some (Obj.cells #[.int .i64 k, .int .u64 (x0 : Int), .int .u64 (x1 : Int), .int .u64 (x2 : Int), .int .u64 (x3 : Int), .slice ma j mc, .int .i64 mn, .int .i64 mx, .string (Str t)] _ _) from hgw5.blk)
        have f0 := frozen_block (show _ = some (Obj.cells _ _ (0, 0)) from h45) 0
        have f1 := frozen_block (show _ = some (Obj.cells _ _ (0, 0)) from h45) 1
        have f2 := frozen_block (show _ = some (Obj.cells _ _ (0, 0)) from h45) 2
        have f3 := frozen_block (show _ = some (Obj.cells _ _ (0, 0)) from h45) 3
        have f4 := frozen_block (show _ = some (Obj.cells _ _ (0, 0)) from h45) 4
        have f5 := frozen_block (show _ = some (Obj.cells _ _ (0, 0)) from h45) 5
        have f6 := frozen_block (show _ = some (Obj.cells _ _ (0, 0)) from h45) 6
        have f7 := frozen_block (show _ = some (Obj.cells _ _ (0, 0)) from h45) 7
        have f8 := frozen_block (show _ = some (Obj.cells _ _ (0, 0)) from h45) 8
        have d0 := cell_block h45 0
        have d1 := cell_block h45 1
        have d2 := cell_block h45 2
        have d3 := cell_block h45 3
        have d4 := cell_block h45 4
        have d5 := cell_block h45 5
        have d6 := cell_block h45 6
        have d7 := cell_block h45 7
        have d8 := cell_block h45 8
        simp only [List.getElem?_toArray, List.getElem?_cons_zero, List.getElem?_cons_succ] at d0 d1 d2 d3 d4 d5 d6 d7 d8
        have hpb := put9_block h45 (.int .i64 k) (.int .u64 (x0 : Int)) (.int .u64 (x1 : Int)) (.int .u64 (x2 : Int)) (.int .u64 (x3 : Int)) (.slice ma j mc) (.int .i64 mn) (.int .i64 mx) (.string (Str t))
        have hpm := put9_mod W5 (w.heap.size + 1) (.int .i64 k) (.int .u64 (x0 : Int)) (.int .u64 (x1 : Int)) (.int .u64 (x2 : Int)) (.int .u64 (x3 : Int)) (.slice ma j mc) (.int .i64 mn) (.int .i64 mx) (.string (Str t))
        have hPP := hgw5.node
        have hre := HF.out (.mk k [x0, x1, x2, x3] mn mx t ma mc ms) 0 (put9 W5 (w.heap.size + 1) (.int .i64 k) (.int .u64 (x0 : Int)) (.int .u64 (x1 : Int)) (.int .u64 (x2 : Int)) (.int .u64 (x3 : Int)) (.slice ma j mc) (.int .i64 mn) (.int .i64 mx) (.string (Str t))) (by
          simp only [sz]
          intro h
          have := szs_le ks j
          have hz : 0 + szs (ks.take j) = L0 ∧ _ := hy (by omega)
          omega) (by
          intro _; rfl) (Is.mono hpm.size (Is.modB hpm hPP.1 (hPP.2.mono fun q hq => by simp; omega))) (hPP.2.mono fun q hq => by omega) (bw5.trans (hpm.toBelow bw5.size (by simp)))
        rw [hgw5.val] at hre
        have HRe := Lib.hid hre
        have HPb := Lib.hid hpb
        clear hpb hpm hPP hre
        have HW5 := Lib.hid hW5
        rw [← hW5] at c0 c1 c2 c3 c4 c5 c6 c7 c8 f0 f1 f2 f3 f4 f5 f6 f7 f8 d0 d1 d2 d3 d4 d5 d6 d7 d8
        clear hgw hgw5 h4 h45 bw5 hbw hM hg hy hno hle hcs hkid hxk hst hmt hkd hnvk hkl b5 hz5 s5 hin hrd hall hW5
        go_wp2
        rw [HW5.out]
        ((try simp only [Exit.inBlock, Exit.then]); refine bodyPost_ret (Kt.results_cell2_row rfl _ _ (w.heap.size + 1) 31 _ (0, 0) _ rfl (HPb.out) Tryd.underlying31 rfl ?hi1) rfl ?_; (case hi1 => kernel_rfl))
        exact HRe.out
      · have hxk2 := hxk cur (by omega) hle W5 (hbw.trans (b5.mono hbw.size))
        have hgw5 := hgw.below b5
        have bw5 := hbw.trans (b5.mono hbw.size)
        have hcd : decide ((cur : Int) ≤ 0) = false := by simp; omega
        have hjb : j ≤ 100000 := by
          have h1 := szs_len (ks.take j)
          rw [List.length_take, Nat.min_eq_left (by omega)] at h1
          have h2 : szs (ks.take j) < L0 := Nat.lt_of_not_le fun h => hc0 (hno (by omega))
          omega
        have hM5 : Mod ((w.heap.size + 1 + 1) :: g) W3 W5 := hM.trans (Mod.of_below b5 ((w.heap.size + 1 + 1) :: g)) (fun q hq => .inl hq)
        obtain ⟨u0, u1, u2, u3, u4, u5, u6, u7, u8⟩ := nd_cells s5
        obtain ⟨C, hC⟩ : ∃ C : Int, (cur : Int) = C := ⟨_, rfl⟩
        rw [hC] at hcd hxk2 ⊢
        have HK := Lib.hid hxk2
        have HG5 := Lib.hid (And.intro hgw5 (And.intro hM5 (And.intro hg (And.intro hy hno))))
        have HBw := Lib.hid bw5
        have HW5 := Lib.hid hW5
        have HSt := Lib.hid (And.intro hst hmt)
        have HLe := Lib.hid hle
        rw [← hW5] at u0 u1 u2 u3 u4 u5 u6 u7 u8
        clear hgw hgw5 h4 bw5 hbw hM hM5 hg hy hno hle hcs hkid hxk hxk2 hst hmt hkd hnvk hkl b5 hz5 s5 hin hrd hall hW5 hc0 hC
        go_wp2_with fail
        rw [HW5.out]
        with_reducible refine HK.out.mono ?_
        rintro e w6 ⟨m', r', rfl, r1, r2, r3, r4, hb6⟩
        obtain ⟨hgw5, hM5, hg, hy, hno⟩ := HG5.out
        have hset := r3.len
        have hgw6 := hgw5.below hb6
        obtain ⟨v0, v1, v2, v3, hvs⟩ := four' hset
        have hnv : ∃ (k' mn' mx' : Int) (a' : Option Addr) (nl' c' : Nat) (t' : List UInt8), nv m' = .agg #[.int .i64 k', .int .u64 (v0 : Int), .int .u64 (v1 : Int), .int .u64 (v2 : Int), .int .u64 (v3 : Int), .slice a' nl' c', .int .i64 mn', .int .i64 mx', .string (Str t')] ∧ (cells m').toArray = #[.int .i64 k', .int .u64 (v0 : Int), .int .u64 (v1 : Int), .int .u64 (v2 : Int), .int .u64 (v3 : Int), .slice a' nl' c', .int .i64 mn', .int .i64 mx', .string (Str t')] := by
          obtain ⟨k', s', mn', mx', t', a', c', ks'⟩ := m'
          simp only [Nd.set] at hvs
          subst hvs
          exact ⟨k', mn', mx', a', ks'.length, c', t', rfl, rfl⟩
        obtain ⟨k', mn', mx', a', nl', c', t', hnv, hcl⟩ := hnv
        rw [hnv]
        -- the kid in a box, then in the row
        have b7 : Below w6.heap.size w6 (w6.alloc (.cells #[.int .i64 k', .int .u64 (v0 : Int), .int .u64 (v1 : Int), .int .u64 (v2 : Int), .int .u64 (v3 : Int), .slice a' nl' c', .int .i64 mn', .int .i64 mx', .string (Str t')] 31)) := (Below.refl _ _).alloc (Nat.le_refl _) _
        have s7 := heap_alloc_new w6 (.cells #[.int .i64 k', .int .u64 (v0 : Int), .int .u64 (v1 : Int), .int .u64 (v2 : Int), .int .u64 (v3 : Int), .slice a' nl' c', .int .i64 mn', .int .i64 mx', .string (Str t')] 31)
        obtain ⟨W7, hW7⟩ : ∃ W7, w6.alloc (.cells #[.int .i64 k', .int .u64 (v0 : Int), .int .u64 (v1 : Int), .int .u64 (v2 : Int), .int .u64 (v3 : Int), .slice a' nl' c', .int .i64 mn', .int .i64 mx', .string (Str t')] 31) = W7 := ⟨_, rfl⟩
        rw [hW7] at b7 s7
        have hgw7 := hgw6.below b7
        have hz5 : w.heap.size + 3 ≤ W5.heap.size := by have := hM5.size; have := HZ3.out; omega
        have r37 := Is.mono b7.size (Is.below b7 r3)
        have hmb : Bl (fun q => w.heap.size + 1 + 1 < q ∧ (Value.slice ma j mc).ownBlock ≠ some q) m' := r4.mono fun q hq => ⟨by omega, fun e => by have := (hgw5.own.lt q e).2; omega⟩
        obtain ⟨gg, cap, w8, hrun, k8, f8, hgw8, hM8, hg8⟩ := hgw7.push elRef (by decide) (by omega) m' r37 hmb
        have hz7 : W7.heap.size = w6.heap.size + 1 := by rw [← hW7]; simp
        have k7 := cell_block (i := 5) (show _ = some (Obj.cells _ _ _) from hgw7.blk)
        simp only [nd9, List.getElem?_toArray, List.getElem?_cons_zero, List.getElem?_cons_succ] at k7
        obtain ⟨e0, e1, e2, e3, e4, e5, e6, e7, e8⟩ := nd_cells s7
        have hM9 : Mod ((w.heap.size + 1 + 1) :: ((Value.slice ma j mc).ownBlock.toList ++ g)) W3 (w8.setCell ⟨w.heap.size + 1 + 1, 5, none⟩ (.slice (some ⟨gg, 0, none⟩) (j + 1) cap)) := by
          have m1 : Mod ((w.heap.size + 1 + 1) :: ((Value.slice ma j mc).ownBlock.toList ++ g)) W3 W7 := ((hM5.sub (by intro q hq; rcases List.mem_cons.1 hq with h | h; exact List.mem_cons.2 (.inl h); exact List.mem_cons.2 (.inr (List.mem_append_right _ h)))).trans (Mod.of_below hb6 ((w.heap.size + 1 + 1) :: ((Value.slice ma j mc).ownBlock.toList ++ g))) (fun q hq => .inl hq)).trans (Mod.of_below b7 ((w.heap.size + 1 + 1) :: ((Value.slice ma j mc).ownBlock.toList ++ g))) (fun q hq => .inl hq)
          exact m1.trans hM8 (fun q hq => by
            rcases List.mem_cons.1 hq with h | h
            · exact .inl (List.mem_cons.2 (.inl h))
            · exact .inl (List.mem_cons.2 (.inr (List.mem_append_left _ h))))
        have hg9 : ∀ x ∈ (Value.slice ma j mc).ownBlock.toList ++ g, w.heap.size + 1 + 1 < x := fun x hx => by
          rcases List.mem_append.1 hx with h | h
          · exact hg8 x h
          · exact hg x h
        obtain ⟨hst, hmt⟩ := HSt.out
        have hfin2 : OfL 31 (w.heap.size + 1) (w.heap.size + 1 + 1) k x0 x1 x2 x3 mn mx t ks L0 W3 (j + 1) r' (w8.setCell ⟨w.heap.size + 1 + 1, 5, none⟩ (.slice (some ⟨gg, 0, none⟩) (j + 1) cap)) := by
          have hlev := HLe.out
          refine ⟨⟨_, _, _, _, hgw8, hM9, hg9, fun h => ?_⟩, fun h => ?_, ?_⟩
          · rw [hst] at h ⊢
            have h1 := hy (by omega)
            have h2 := r1 (by omega)
            refine ⟨by omega, ?_⟩
            rw [hmt, List.map_append, h1.2, List.map_cons, List.map_nil, h2.2]
          · rw [hst] at h
            by_cases h3 : szs (ks.take j) < L0
            · have h1 := hy h3
              exact r2 (by omega)
            · have := hno h3
              exact r2 (by omega)
          · by_cases h3 : sz (.mk kk [y0, y1, y2, y3] kmn kmx kt ka kc kks) < cur
            · have := r1 h3; omega
            · have := r2 h3; omega
        have HFin := Lib.hid hfin2
        rw [hz7, hcl] at hrun
        rw [← hW7] at hrun k7 e0 e1 e2 e3 e4 e5 e6 e7 e8
        clear hfin2 hM9 hg9 hst hmt hgw8 hM8 hg8 hmb r37 hz5 hgw7 s7 b7 hW7 hz7 hcl hnv hvs hgw6 hset hgw5 hM5 hg hy hno r1 r2 r3 r4 hb6
        go_wp2_with (at_builtin; (with_reducible apply wpList_append_run hrun); rfl; rfl; rfl; rfl; rfl)
        go_roundw
        case rel => exact ⟨j + 1, r', by omega, by go_num, rfl, HFin.out⟩
        case measure => simp [intOf]; omega
    · obtain rfl : j = nl := by omega
      obtain ⟨c0, c1, c2, c3, c4, c5, c6, c7, c8⟩ := nd_cells (show wr.heap[w.heap.size + 1 + 1]? = some (Obj.cells #[.int .i64 k, .int .u64 (x0 : Int), .int .u64 (x1 : Int), .int .u64 (x2 : Int), .int .u64 (x3 : Int), .slice ma j mc, .int .i64 mn, .int .i64 mx, .string (Str t)] _ _) from hgw.blk)
      have f0 := frozen_block (show _ = some (Obj.cells _ _ (0, 0)) from h4) 0
      have f1 := frozen_block (show _ = some (Obj.cells _ _ (0, 0)) from h4) 1
      have f2 := frozen_block (show _ = some (Obj.cells _ _ (0, 0)) from h4) 2
      have f3 := frozen_block (show _ = some (Obj.cells _ _ (0, 0)) from h4) 3
      have f4 := frozen_block (show _ = some (Obj.cells _ _ (0, 0)) from h4) 4
      have f5 := frozen_block (show _ = some (Obj.cells _ _ (0, 0)) from h4) 5
      have f6 := frozen_block (show _ = some (Obj.cells _ _ (0, 0)) from h4) 6
      have f7 := frozen_block (show _ = some (Obj.cells _ _ (0, 0)) from h4) 7
      have f8 := frozen_block (show _ = some (Obj.cells _ _ (0, 0)) from h4) 8
      have d0 := cell_block h4 0
      have d1 := cell_block h4 1
      have d2 := cell_block h4 2
      have d3 := cell_block h4 3
      have d4 := cell_block h4 4
      have d5 := cell_block h4 5
      have d6 := cell_block h4 6
      have d7 := cell_block h4 7
      have d8 := cell_block h4 8
      simp only [List.getElem?_toArray, List.getElem?_cons_zero, List.getElem?_cons_succ] at d0 d1 d2 d3 d4 d5 d6 d7 d8
      have hpb := put9_block h4 (.int .i64 k) (.int .u64 (x0 : Int)) (.int .u64 (x1 : Int)) (.int .u64 (x2 : Int)) (.int .u64 (x3 : Int)) (.slice ma j mc) (.int .i64 mn) (.int .i64 mx) (.string (Str t))
      have hpm := put9_mod wr (w.heap.size + 1) (.int .i64 k) (.int .u64 (x0 : Int)) (.int .u64 (x1 : Int)) (.int .u64 (x2 : Int)) (.int .u64 (x3 : Int)) (.slice ma j mc) (.int .i64 mn) (.int .i64 mx) (.string (Str t))
      have hPP := hgw.node
      have hre := HF.out (.mk k [x0, x1, x2, x3] mn mx t ma mc ms) cur (put9 wr (w.heap.size + 1) (.int .i64 k) (.int .u64 (x0 : Int)) (.int .u64 (x1 : Int)) (.int .u64 (x2 : Int)) (.int .u64 (x3 : Int)) (.slice ma j mc) (.int .i64 mn) (.int .i64 mx) (.string (Str t))) (by
        simp only [sz]
        intro h
        have hz := hy (by rw [List.take_of_length_le (by rw [HNl.out]; exact Nat.le_refl _)]; omega)
        rw [List.take_of_length_le (by rw [HNl.out]; exact Nat.le_refl _)] at hz
        refine ⟨by omega, ?_⟩
        simp only [er, ers_map, hz.2]) (by
        simp only [sz]
        intro h
        exact hno (by rw [List.take_of_length_le (by rw [HNl.out]; exact Nat.le_refl _)]; omega)) (Is.mono hpm.size (Is.modB hpm hPP.1 (hPP.2.mono fun q hq => by simp; omega))) (hPP.2.mono fun q hq => by omega) (hbw.trans (hpm.toBelow hbw.size (by simp)))
      rw [hgw.val] at hre
      have HRe := Lib.hid hre
      have HPb := Lib.hid hpb
      clear hpb hpm hPP hre
      clear hgw h4 hbw hM hg hy hno hle
      go_wp2
      ((try simp only [Exit.inBlock, Exit.then]); refine bodyPost_ret (Kt.results_cell2_row rfl _ _ (w.heap.size + 1) 31 _ (0, 0) _ rfl (HPb.out) Tryd.underlying31 rfl ?hi2) rfl ?_; (case hi2 => kernel_rfl))
      exact HRe.out
mutual
/-- dofferlaw07.Of. -/
theorem of_all : ∀ (n : Nd) (left : Nat), 1 ≤ left → left ≤ 100000 → ∀ w, Is w.heap.size w n → Calls Tryd.prog 13 #[nv n, .int .i64 (left : Int)] w (OfP n left w)
  | .mk k s mn mx t a c ks, left, h1, h2, w, hIs => by
    have hx := ofs_all ks w hIs.2.2.2.2.2.2
    obtain ⟨x0, x1, x2, x3, hl⟩ := four' hIs.1
    subst hl
    exact of_step k x0 x1 x2 x3 a ks c mn mx t left h1 h2 w hIs hx
theorem ofs_all : ∀ (ks : List Nd) (w : World), IsAll w.heap.size w ks → ∀ n ∈ ks, ∀ q : Nat, 1 ≤ q → q ≤ 100000 → ∀ W, Below w.heap.size w W → Calls Tryd.prog 13 #[nv n, .int .i64 (q : Int)] W (OfP n q W)
  | [], _, _, n, hn, _, _, _, _, _ => by cases hn
  | m :: r, w, hIs, n, hn, q, h1, h2, W, hb => by
    by_cases h : n = m
    · rw [h]
      exact of_all m q h1 h2 W (Is.mono hb.size (Is.below hb hIs.1))
    · exact ofs_all r w hIs.2 n (by rcases List.mem_cons.1 hn with h3 | h3; exact absurd h3 h; exact h3) q h1 h2 W hb
end
end Tr
end Go.Proofs.YtoeeddfinmfnoaaDoor
