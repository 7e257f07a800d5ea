/- dofferlaw07: TreeBounds. Condition: the table of TrailingZeros64 reads as laid. -/
import Derived.Test.YteekonojmpihlaaDoorQTreeLaw1
import Derived.Test.YteekonojmpihlaaDoorQTreeBnd
import Derived.Test.YteekonojmpihlaaDoorQTreeDep
import Derived.Test.YteekonojmpihlaaDoorQApp
namespace Go.Proofs.YteekonojmpihlaaDoor
open Go Go.RowKit Kt St Sp Bk
namespace Tr
theorem elNode : El Tryd.prog 35 37 (.agg #[.int .i64 0, .int .u64 0, .int .u64 0, .int .u64 0, .int .u64 0, .slice none 0 0, .int .i64 0, .int .i64 0, .string ⟨#[]⟩]) 9 96 := ⟨Tryd.underlying35, info_parts (by kernel_rfl), rfl, by decide⟩
theorem low (i : Int) (k : Int) (h0 : 0 < k) (h1 : k ≤ 1000) : ∃ L : Nat, wrap64 ((IntKind.u64.wrap i).tmod k) = (L : Int) ∧ (L : Int) < k := by
  have h2 : 0 ≤ IntKind.u64.wrap i := wrap_u64_nonneg i
  have h3 := Int.emod_nonneg (IntKind.u64.wrap i) (show k ≠ 0 by omega)
  have h4 := Int.emod_lt_of_pos (IntKind.u64.wrap i) h0
  refine ⟨((IntKind.u64.wrap i) % k).toNat, ?_, by omega⟩
  rw [Int.tmod_eq_emod_of_nonneg h2, show wrap64 (IntKind.u64.wrap i % k) = IntKind.u64.wrap i % k by unfold wrap64; omega]
  omega
set_option maxHeartbeats 4000000 in
set_option maxRecDepth 100000 in
theorem bounds_law (i0 i1 : Int) (w : World) (hT : Bt.Tab w) : Calls Tryd.prog 11 #[.int .i64 i0, .int .i64 i1] w fun e w' => e = .returned (.bool true) ∧ Below w.heap.size w w' := by
  have HT := Lib.hid hT
  have HA := Lib.hid (alive_c w hT)
  have HO := Lib.hid (fun w => (show Calls Tryd.prog 53 #[.int .u8 97] w _ from St.one_c 97 (by omega) w))
  clear hT
  go_enter Tryd.func11, Tryd.ntmps11
  go_wp2_with fail
  refine HA.out.mono ?_
  rintro e w1 ⟨rfl, hb1⟩
  go_wp2_with fail
  obtain ⟨L, hL, hL40⟩ := low i0 40 (by omega) (by omega)
  obtain ⟨M, hM, hM700⟩ := low i1 700 (by omega) (by omega)
  rw [hL, hM]
  clear hL hM
  generalize IntKind.u64.wrap i0 = j0
  generalize IntKind.u64.wrap i1 = j1
  refine (HO.out _).mono ?_
  rintro e w2 ⟨rs, rfl, hset, hb2⟩
  obtain ⟨x0, x1, x2, x3, rfl⟩ := four hset.len
  obtain ⟨S, hS⟩ : ∃ S, [x0, x1, x2, x3] = S := ⟨_, rfl⟩
  simp only [sv, vals, List.map_cons, List.map_nil]
  have hcl : (cells (leaf S)).toArray = #[.int .i64 1, .int .u64 (x0 : Int), .int .u64 (x1 : Int), .int .u64 (x2 : Int), .int .u64 (x3 : Int), .slice none 0 0, .int .i64 0, .int .i64 0, .string ⟨#[]⟩] := by rw [← hS]; rfl
  have b3 := hb2.alloc hb2.size (.cells #[.int .i64 1, .int .u64 (x0 : Int), .int .u64 (x1 : Int), .int .u64 (x2 : Int), .int .u64 (x3 : Int), .slice none 0 0, .int .i64 0, .int .i64 0, .string ⟨#[]⟩] 37)
  have b4 := b3.alloc b3.size (.cells #[.int .i64 1, .int .u64 (x0 : Int), .int .u64 (x1 : Int), .int .u64 (x2 : Int), .int .u64 (x3 : Int), .slice none 0 0, .int .i64 0, .int .i64 0, .string ⟨#[]⟩] 37)
  have l5 := heap_alloc_new w2 (.cells #[.int .i64 1, .int .u64 (x0 : Int), .int .u64 (x1 : Int), .int .u64 (x2 : Int), .int .u64 (x3 : Int), .slice none 0 0, .int .i64 0, .int .i64 0, .string ⟨#[]⟩] 37)
  have l6 := heap_alloc_new (w2.alloc (.cells #[.int .i64 1, .int .u64 (x0 : Int), .int .u64 (x1 : Int), .int .u64 (x2 : Int), .int .u64 (x3 : Int), .slice none 0 0, .int .i64 0, .int .i64 0, .string ⟨#[]⟩] 37)) (.cells #[.int .i64 1, .int .u64 (x0 : Int), .int .u64 (x1 : Int), .int .u64 (x2 : Int), .int .u64 (x3 : Int), .slice none 0 0, .int .i64 0, .int .i64 0, .string ⟨#[]⟩] 37)
  rw [World.size_alloc] at l6
  have l5' := block_alloc (x := .cells #[.int .i64 1, .int .u64 (x0 : Int), .int .u64 (x1 : Int), .int .u64 (x2 : Int), .int .u64 (x3 : Int), .slice none 0 0, .int .i64 0, .int .i64 0, .string ⟨#[]⟩] 37) l5
  obtain ⟨W4, hW4⟩ : ∃ W4, (w2.alloc (.cells #[.int .i64 1, .int .u64 (x0 : Int), .int .u64 (x1 : Int), .int .u64 (x2 : Int), .int .u64 (x3 : Int), .slice none 0 0, .int .i64 0, .int .i64 0, .string ⟨#[]⟩] 37)).alloc (.cells #[.int .i64 1, .int .u64 (x0 : Int), .int .u64 (x1 : Int), .int .u64 (x2 : Int), .int .u64 (x3 : Int), .slice none 0 0, .int .i64 0, .int .i64 0, .string ⟨#[]⟩] 37) = W4 := ⟨_, rfl⟩
  have hz4 : W4.heap.size = w2.heap.size + 2 := by rw [← hW4]; simp
  rw [hW4] at b4 l6 l5'
  obtain ⟨z0, z1, z2, z3, z4, z5, z6, z7, z8⟩ := nd_cells (t := []) l5'
  obtain ⟨y0, y1, y2, y3, y4, y5, y6, y7, y8⟩ := nd_cells (t := []) l6
  have h0 : Bx 37 (w2.heap.size + 1) (leaf S) W4 := ⟨by rw [hcl]; exact l6, by rw [← hS]; exact is_leafB _ _ rfl, ⟨fun p hp => (by cases hp), trivial⟩⟩
  have HW4 := Lib.hid hW4
  have HB4 := Lib.hid (hb1.trans (b4.mono hb1.size))
  have H0 := Lib.hid h0
  have HLe := Lib.hid (show w.heap.size ≤ w2.heap.size from Nat.le_trans hb1.size hb2.size)
  have H5 := Lib.hid (show W4.heap[w2.heap.size]? = some (.cells (cells (leaf S)).toArray 37 (0, 0)) by rw [hcl]; exact l5')
  have HSS := Lib.hid hS
  have HSet := Lib.hid hset
  have HZ4 := Lib.hid hz4
  have HCl := Lib.hid hcl
  clear hb1 hb2 b3 b4 l5 l6 l5' hW4 h0 hset hz4 hcl
  go_wp2_with fail
  rw [HW4.out]
  clear z0 z1 z2 z3 z4 z5 z6 z7 z8 y0 y1 y2 y3 y4 y5 y6 y7 y8
  go_loopw [22] (fun i W => ∃ j : Nat, j ≤ L ∧ i = .int .i64 (j : Int) ∧ (∃ n, er n = chn S j ∧ Bx 37 (w2.heap.size + 1) n W) ∧ Mod [w2.heap.size + 1] W4 W) (fun i _ => L - (intOf i).toNat)
  case atStart => exact ⟨0, Nat.zero_le _, rfl, ⟨leaf S, rfl, H0.out⟩, Mod.refl _ _⟩
  case round =>
    obtain ⟨j, hj, rfl, ⟨n, hn, hbx⟩, hM⟩ := hrel
    by_cases hjl : j < L
    · have hlen := hbx.is.len
      obtain ⟨hw1, hw2⟩ := hbx.wrap hlen
      obtain ⟨k, s, mn, mx, t, a, c, ks⟩ := n
      simp only [Nd.set] at hlen
      obtain ⟨q0, q1, q2, q3, rfl⟩ := four' hlen
      have hblk := hbx.blk
      have hcn : (cells (.mk k [q0, q1, q2, q3] mn mx t a c ks)).toArray = #[.int .i64 k, .int .u64 (q0 : Int), .int .u64 (q1 : Int), .int .u64 (q2 : Int), .int .u64 (q3 : Int), .slice a ks.length c, .int .i64 mn, .int .i64 mx, .string (Str t)] := rfl
      rw [hcn] at hblk
      simp only [hcn] at hw1 hw2
      obtain ⟨z0, z1, z2, z3, z4, z5, z6, z7, z8⟩ := nd_cells hblk
      obtain ⟨kl, hkl⟩ : ∃ kl, ks.length = kl := ⟨_, rfl⟩
      rw [hkl] at hblk hw1 hw2 z5
      have hblk2 := block_alloc (x := .cells #[.int .i64 k, .int .u64 (q0 : Int), .int .u64 (q1 : Int), .int .u64 (q2 : Int), .int .u64 (q3 : Int), .slice a kl c, .int .i64 mn, .int .i64 mx, .string (Str t)] 37) hblk
      obtain ⟨v0, v1, v2, v3, v4, v5, v6, v7, v8⟩ := nd_cells hblk2
      have f0 := frozen_block (show _ = some (Obj.cells _ _ (0, 0)) from hblk2) 0
      have f1 := frozen_block (show _ = some (Obj.cells _ _ (0, 0)) from hblk2) 1
      have f2 := frozen_block (show _ = some (Obj.cells _ _ (0, 0)) from hblk2) 2
      have f3 := frozen_block (show _ = some (Obj.cells _ _ (0, 0)) from hblk2) 3
      have f4 := frozen_block (show _ = some (Obj.cells _ _ (0, 0)) from hblk2) 4
      have f5 := frozen_block (show _ = some (Obj.cells _ _ (0, 0)) from hblk2) 5
      have f6 := frozen_block (show _ = some (Obj.cells _ _ (0, 0)) from hblk2) 6
      have f7 := frozen_block (show _ = some (Obj.cells _ _ (0, 0)) from hblk2) 7
      have f8 := frozen_block (show _ = some (Obj.cells _ _ (0, 0)) from hblk2) 8
      have HX := Lib.hid (And.intro hw1 (And.intro (hM.trans hw2 (fun x hx => .inl hx)) hn))
      clear hw1 hw2 hcn hblk hblk2 hbx hM hn hkl
      go_wp2
      go_roundw
      case rel => exact ⟨j + 1, by omega, by go_num, ⟨_, by have he := HX.out.2.2; simp only [er] at he; simp only [er, ers, chn, he], HX.out.1⟩, HX.out.2.1⟩
      case measure => simp [intOf]; omega
    · obtain rfl : j = L := by omega
      have hz4 := HZ4.out
      have hs4 := hM.size
      have b8 := (Below.refl wr.heap.size wr).alloc (Nat.le_refl _) (.cells #[.int .i64 2, .int .u64 0, .int .u64 0, .int .u64 0, .int .u64 0, .slice none 0 0, .int .i64 0, .int .i64 0, .string ⟨#[]⟩] 37)
      have l7 := heap_alloc_new wr (.cells #[.int .i64 2, .int .u64 0, .int .u64 0, .int .u64 0, .int .u64 0, .slice none 0 0, .int .i64 0, .int .i64 0, .string ⟨#[]⟩] 37)
      have h5 := (hM.block _ (block_lt H5.out) (by simp)).trans H5.out
      have h5' := (b8.block _ (block_lt h5)).trans h5
      have hbx8 := hbx.below b8
      have hbl : Bl (· < wr.heap.size) n := hbx.is.bl
      obtain ⟨W8, hW8⟩ : ∃ W8, wr.alloc (.cells #[.int .i64 2, .int .u64 0, .int .u64 0, .int .u64 0, .int .u64 0, .slice none 0 0, .int .i64 0, .int .i64 0, .string ⟨#[]⟩] 37) = W8 := ⟨_, rfl⟩
      have hz8 : W8.heap.size = wr.heap.size + 1 := by rw [← hW8]; simp
      rw [hW8] at b8 l7 h5' hbx8
      obtain ⟨b7, hb7⟩ : ∃ b7, wr.heap.size = b7 := ⟨_, rfl⟩
      have hB8 : Below w.heap.size w W8 := (HB4.out.trans (hM.toBelow HB4.out.size (fun k hk => by simp at hk; subst hk; have := HLe.out; omega))).trans (b8.mono (by have := HB4.out.size; omega))
      rw [hb7] at l7 hbl hz8
      have hb57 : w2.heap.size + 1 < b7 := by omega
      have HW8 := Lib.hid hW8
      have HB8 := Lib.hid hB8
      have H7 := Lib.hid l7
      have HBx := Lib.hid hbx8
      have HBl := Lib.hid hbl
      have H58 := Lib.hid h5'
      have HEr := Lib.hid hn
      have HZ8 := Lib.hid hz8
      have HZ7 := Lib.hid hb57
      have HB7 := Lib.hid hb7
      have k5 := cell_block (i := 5) (show _ = some (Obj.cells _ _ _) from l7)
      simp only [List.getElem?_toArray, List.getElem?_cons_zero, List.getElem?_cons_succ] at k5
      clear hz4 hs4 b8 l7 h5 h5' hbx hbx8 hbl hW8 hB8 hM hn hz8 hb57
      go_wp2_with fail
      rw [HW8.out]
      clear k5
      go_loopw [30] (fun i W => ∃ j : Nat, j ≤ M ∧ i = .int .i64 (j : Int) ∧ (∃ a c g, W.heap[b7]? = some (.cells #[.int .i64 2, .int .u64 0, .int .u64 0, .int .u64 0, .int .u64 0, .slice a j c, .int .i64 0, .int .i64 0, .string ⟨#[]⟩] 37 (0, 0)) ∧ W.ownsRow (b7 + 1) 37 9 (.slice a j c) j ((List.replicate j (leaf S)).flatMap cells) ∧ Mod (b7 :: g) W8 W ∧ ∀ x ∈ g, b7 + 1 ≤ x)) (fun i _ => M - (intOf i).toNat)
      case atStart => exact ⟨0, Nat.zero_le _, rfl, none, 0, [], H7.out, World.ownsRow_nil _ _ _ _, Mod.refl _ _, by simp⟩
      case round =>
        obtain ⟨q, hq, rfl, a, c, g, h7, hown, hM, hg⟩ := hrel
        by_cases hqm : q < M
        · have h5r := (hM.block _ (block_lt H58.out) (fun hm => by
            have := HZ7.out
            rcases List.mem_cons.1 hm with h | h
            · omega
            · have := hg _ h; omega)).trans H58.out
          rw [HCl.out] at h5r
          obtain ⟨z0, z1, z2, z3, z4, z5, z6, z7, z8'⟩ := nd_cells (t := []) h5r
          have z8 : wr.cell? ⟨w2.heap.size, 8, none⟩ = some (.string ⟨#[]⟩) := z8'
          clear z8'
          have k5 := cell_block (i := 5) (show _ = some (Obj.cells _ _ _) from h7)
          simp only [List.getElem?_toArray, List.getElem?_cons_zero, List.getElem?_cons_succ] at k5
          have b9 := (Below.refl wr.heap.size wr).alloc (Nat.le_refl _) (.cells #[.int .i64 1, .int .u64 (x0 : Int), .int .u64 (x1 : Int), .int .u64 (x2 : Int), .int .u64 (x3 : Int), .slice none 0 0, .int .i64 0, .int .i64 0, .string ⟨#[]⟩] 37)
          have hrn : Rd (wr.alloc (.cells #[.int .i64 1, .int .u64 (x0 : Int), .int .u64 (x1 : Int), .int .u64 (x2 : Int), .int .u64 (x3 : Int), .slice none 0 0, .int .i64 0, .int .i64 0, .string ⟨#[]⟩] 37)) (some ⟨wr.heap.size, 0, none⟩) (cells (leaf S)) := Rd.new _ _ _ _ _ (by rw [← HCl.out])
          have hlf : (cells (leaf S)).length = 1 * 9 := by rw [cells_len _ (by rw [← HSS.out]; rfl)]
          have h7lt := block_lt h7
          have own9 := own_keep hown b9
          obtain ⟨g2, cap2, w10, hrun, own10, gr10, hlie, _⟩ := elNode.lies (b7 + 1) (ty := 35) own9 1 1 hlf (by decide) hrn (cells_one _) (by unfold maxLen; omega) (by omega) (by simp; omega)
          have h7' := (b9.block _ h7lt).trans h7
          have hno : ∀ k, (Value.slice a q c).ownBlock = some k → b7 + 1 ≤ k := fun k hk => (own9.lt k hk).1
          have h10 := (gr10.block _ (block_lt h7') (fun e => by have := hno _ e.symm; omega)).trans h7'
          have f10 := frozen_block (show _ = some (Obj.cells _ _ (0, 0)) from h10) 5
          have k10 := cell_block (i := 5) (show _ = some (Obj.cells _ _ _) from h10)
          simp only [List.getElem?_toArray, List.getElem?_cons_zero, List.getElem?_cons_succ] at k10
          have h11 := block_setCell (i := 5) (show _ = some (Obj.cells _ _ _) from h10) (.slice (some ⟨g2, 0, none⟩) (q + 1) cap2)
          simp only [List.setIfInBounds_toArray, List.set_cons_succ, List.set_cons_zero] at h11
          have hg2 : b7 + 1 ≤ g2 := (own10.lt g2 rfl).1
          have own11 := own_mod own10 ((Mod.refl [b7] w10).setCell (p := ⟨b7, 5, none⟩) (.inl (by simp)) (.slice (some ⟨g2, 0, none⟩) (q + 1) cap2)) (fun k hk => by (have he : g2 = k := by simpa [Value.ownBlock] using hk); subst he; simp; omega)
          have hfl : (List.replicate q (leaf S)).flatMap cells ++ cells (leaf S) = (List.replicate (q + 1) (leaf S)).flatMap cells := by rw [List.replicate_succ', List.flatMap_append]; simp
          rw [hfl] at own11
          have hM11 : Mod (b7 :: ((Value.slice a q c).ownBlock.toList ++ g)) W8 (w10.setCell ⟨b7, 5, none⟩ (.slice (some ⟨g2, 0, none⟩) (q + 1) cap2)) := by
            have m1 : Mod (b7 :: ((Value.slice a q c).ownBlock.toList ++ g)) W8 wr := hM.sub (by intro k hk; simp at hk ⊢; rcases hk with h | h; exact .inl h; exact .inr (.inr h))
            exact ((m1.alloc _).grown gr10 (fun k hk => .inl (by simp [hk]))).setCell (.inl (by simp)) _
          have hg11 : ∀ x ∈ ((Value.slice a q c).ownBlock.toList ++ g), b7 + 1 ≤ x := by
            intro x hx
            rcases List.mem_append.1 hx with h | h
            · exact hno x (by simpa using h)
            · exact hg x h
          have HX := Lib.hid (And.intro h11 (And.intro own11 (And.intro hM11 hg11)))
          clear h11 own11 hM11 hg11 hg2 hfl h10 hno h7' gr10 own10 hlie own9 h7lt hlf hrn b9 h7 h5r hown hM hg
          go_wp2_with (at_builtin; (with_reducible apply wpList_append_run hrun); rfl; rfl; rfl; rfl; rfl)
          go_roundw
          case rel => exact ⟨q + 1, by omega, by go_num, _, _, _, HX.out.1, HX.out.2.1, HX.out.2.2.1, HX.out.2.2.2⟩
          case measure => simp [intOf]; omega
        · obtain rfl : q = M := by omega
          have hlt6 : w2.heap.size + 1 < b7 := HZ7.out
          have hbw : ∀ b, b < b7 → b ∉ b7 :: g := fun b hb hm => by
            rcases List.mem_cons.1 hm with h | h
            · omega
            · have := hg _ h; omega
          have hbx := HBx.out.mod hM (hbw _ hlt6) (HBl.out.mono hbw)
          have hBr : Below w.heap.size w wr := HB8.out.trans (hM.toBelow HB8.out.size (fun k hk => by
            have := HLe.out
            rcases List.mem_cons.1 hk with h | h
            · omega
            · have := hg _ h; omega))
          have hne := HEr.out.trans (er_chn S j).symm
          have hIsn := fun (W : World) (hb : Below wr.heap.size wr W) => Is.mono hb.size (Is.below hb hbx.is)
          have hrn := fun (W : World) (hb : Below wr.heap.size wr W) => right_c n (text_walk hne 1000000 (by
            rw [walk_chn]
            intro x hx
            rw [((full_chn S j 1 (by omega)).2 x hx).2]
            simp)) W (hIsn W hb)
          have hdn := fun (W : World) (hb : Below wr.heap.size wr W) => depth_c n W (hIsn W hb)
          rw [same_rgt hne, rgt_chn] at hrn
          rw [same_deep hne, deep_chn] at hdn
          have hS4 : S.length = 4 := by rw [← HSS.out]; rfl
          have hIsm := is_wide hS4 hown
          have hIsm2 := fun (W : World) (hb : Below wr.heap.size wr W) => Is.mono hb.size (Is.below hb hIsm)
          have hem := er_wide S q a c
          have hrm := fun (W : World) (hb : Below wr.heap.size wr W) => right_c _ (text_walk hem 1000000 (by
            intro x hx
            rw [text_wide S q x hx]
            simp)) W (hIsm2 W hb)
          have hcm := fun (W : World) (hb : Below wr.heap.size wr W) => count_c _ W (hIsm2 W hb)
          rw [same_rgt hem, rgt_wide] at hrm
          rw [same_len hem, walk_wide] at hcm
          have hnvm : nv (.mk 2 [0, 0, 0, 0] 0 0 [] a c (List.replicate q (leaf S))) = .agg #[.int .i64 2, .int .u64 0, .int .u64 0, .int .u64 0, .int .u64 0, .slice a q c, .int .i64 0, .int .i64 0, .string ⟨#[]⟩] := by
            show Value.agg #[.int .i64 2, .int .u64 0, .int .u64 0, .int .u64 0, .int .u64 0, .slice a (List.replicate q (leaf S)).length c, .int .i64 0, .int .i64 0, .string ⟨#[]⟩] = _
            rw [List.length_replicate]
          simp only [hnvm] at hrm hcm
          have h7l := block_lt h7
          have hc7 := fun (W : World) (hb : Below wr.heap.size wr W) => (hb.block _ h7l).trans h7
          have hlen := hbx.is.len
          have hblk := hbx.blk
          have h6l := block_lt hblk
          obtain ⟨kk, ss, mn, mx, tt, ka, kc, ks⟩ := n
          simp only [Nd.set] at hlen
          obtain ⟨q0, q1, q2, q3, rfl⟩ := four' hlen
          have hcn : (cells (.mk kk [q0, q1, q2, q3] mn mx tt ka kc ks)).toArray = #[.int .i64 kk, .int .u64 (q0 : Int), .int .u64 (q1 : Int), .int .u64 (q2 : Int), .int .u64 (q3 : Int), .slice ka ks.length kc, .int .i64 mn, .int .i64 mx, .string (Str tt)] := rfl
          have hnvn : nv (.mk kk [q0, q1, q2, q3] mn mx tt ka kc ks) = .agg #[.int .i64 kk, .int .u64 (q0 : Int), .int .u64 (q1 : Int), .int .u64 (q2 : Int), .int .u64 (q3 : Int), .slice ka ks.length kc, .int .i64 mn, .int .i64 mx, .string (Str tt)] := rfl
          rw [hcn] at hblk
          simp only [hnvn] at hrn hdn
          obtain ⟨kl, hkl⟩ : ∃ kl, ks.length = kl := ⟨_, rfl⟩
          rw [hkl] at hblk
          simp only [hkl] at hrn hdn
          have hc6 := fun (W : World) (hb : Below wr.heap.size wr W) => nd_cells ((hb.block _ h6l).trans hblk)
          obtain ⟨z0, z1, z2, z3, z4, z5, z6, z7, z8⟩ := nd_cells hblk
          have e1 : decide ((j : Int) < 24) = decide (j < 24) := decide_eq_decide.2 (by omega)
          have e2 : decide ((q : Int) < 600) = decide (q < 600) := decide_eq_decide.2 (by omega)
          have m1 : ((min (j + 1) 25 : Nat) : Int) = min ((j : Int) + 1) 25 := by omega
          have m2 : ((min (q + 1) 601 : Nat) : Int) = min ((q : Int) + 1) 601 := by omega
          rw [m1] at hdn
          rw [m2] at hcm
          generalize decide (j < 24) = c1 at *
          generalize decide (q < 600) = c2 at *
          have HRn := Lib.hid hrn
          have HDn := Lib.hid hdn
          have HRm := Lib.hid hrm
          have HCm := Lib.hid hcm
          have HC6 := Lib.hid hc6
          have HC7 := Lib.hid hc7
          have HBr := Lib.hid hBr
          have hbe1 : (c1 == c1) = true := by simp
          have hbe2 : (c2 == c2) = true := by simp
          have hbn1 : (c1 != c1) = false := by simp
          clear hrn hdn hrm hcm hc6 hc7 hBr hIsm hIsm2 hIsn hbx hbw hlt6 hne hem hnvm hnvn hcn hkl hblk h6l h7l h7 hlen hown hM hg hS4 m1 m2
          go_wp2_with fail
          with_reducible refine (HRn.out _ (Below.refl _ _)).mono ?_
          rintro e w5 ⟨rfl, hb5⟩
          obtain ⟨v0, v1, v2, v3, v4, v5, v6, v7, v8⟩ := HC6.out _ hb5
          go_wp2_with fail
          with_reducible refine (HDn.out _ hb5).mono ?_
          rintro e w6 ⟨rfl, hb6⟩
          have hb6 := hb5.trans (hb6.mono hb5.size)
          have h7 := HC7.out _ hb6
          have u0 := cell_block h7 0
          have u1 := cell_block h7 1
          have u2 := cell_block h7 2
          have u3 := cell_block h7 3
          have u4 := cell_block h7 4
          have u5 := cell_block h7 5
          have u6 := cell_block h7 6
          have u7 := cell_block h7 7
          have u8 := cell_block h7 8
          simp only [List.getElem?_toArray, List.getElem?_cons_zero, List.getElem?_cons_succ] at u0 u1 u2 u3 u4 u5 u6 u7 u8
          clear h7
          go_wp2_with fail
          with_reducible refine (HRm.out _ hb6).mono ?_
          rintro e w7 ⟨rfl, hb7'⟩
          have hb7' := hb6.trans (hb7'.mono hb6.size)
          have h7 := HC7.out _ hb7'
          have u0 := cell_block h7 0
          have u1 := cell_block h7 1
          have u2 := cell_block h7 2
          have u3 := cell_block h7 3
          have u4 := cell_block h7 4
          have u5 := cell_block h7 5
          have u6 := cell_block h7 6
          have u7 := cell_block h7 7
          have u8 := cell_block h7 8
          simp only [List.getElem?_toArray, List.getElem?_cons_zero, List.getElem?_cons_succ] at u0 u1 u2 u3 u4 u5 u6 u7 u8
          clear h7
          go_wp2_with fail
          with_reducible refine (HCm.out _ hb7').mono ?_
          rintro e w8 ⟨rfl, hb8⟩
          go_wp2
          go_ret
          exact ⟨by first | rfl | (simp; done), HBr.out.trans ((hb7'.trans (hb8.mono hb7'.size)).mono HBr.out.size)⟩
end Tr
end Go.Proofs.YteekonojmpihlaaDoor
