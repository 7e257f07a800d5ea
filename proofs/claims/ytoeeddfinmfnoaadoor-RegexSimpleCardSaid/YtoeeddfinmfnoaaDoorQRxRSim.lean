import Derived.Test.YtoeeddfinmfnoaaDoorQTreeBnd
import Derived.Test.YtoeeddfinmfnoaaDoorQRxName
import Derived.Test.YtoeeddfinmfnoaaDoorQTreeOf
import Derived.Test.YtoeeddfinmfnoaaDoorQRxOd
import Derived.Test.YtoeeddfinmfnoaaDoorQRegT
/- The document's walk: dofferref08.Simple. Printed by gen_rxrsim.py. -/
namespace Go.Proofs.YtoeeddfinmfnoaaDoor
namespace Kt
end Kt
namespace St
end St
namespace Sp
end Sp
namespace Bk
end Bk
namespace Tr
end Tr
open Go Go.RowKit Kt St Sp Bk Tr
namespace Rx
theorem zr_cells {V : World} {R : Nat} (h : V.heap[R]? = some (Obj.cells #[.int .i64 0, .int .u64 0, .int .u64 0, .int .u64 0, .int .u64 0, .slice none 0 0, .int .i64 0, .int .i64 0, .string ⟨#[]⟩] 31 (0, 0))) : (V.cell? ⟨R, 0, none⟩ = some (.int .i64 0) ∧ V.cell? ⟨R, 1, none⟩ = some (.int .u64 0) ∧ V.cell? ⟨R, 2, none⟩ = some (.int .u64 0) ∧ V.cell? ⟨R, 3, none⟩ = some (.int .u64 0) ∧ V.cell? ⟨R, 4, none⟩ = some (.int .u64 0) ∧ V.cell? ⟨R, 5, none⟩ = some (.slice none 0 0) ∧ V.cell? ⟨R, 6, none⟩ = some (.int .i64 0) ∧ V.cell? ⟨R, 7, none⟩ = some (.int .i64 0) ∧ V.cell? ⟨R, 8, none⟩ = some (.string ⟨#[]⟩)) ∧
    (V.frozen? ⟨R, 0, none⟩ = false ∧ V.frozen? ⟨R, 1, none⟩ = false ∧ V.frozen? ⟨R, 2, none⟩ = false ∧ V.frozen? ⟨R, 3, none⟩ = false ∧ V.frozen? ⟨R, 4, none⟩ = false ∧ V.frozen? ⟨R, 5, none⟩ = false ∧ V.frozen? ⟨R, 6, none⟩ = false ∧ V.frozen? ⟨R, 7, none⟩ = false ∧ V.frozen? ⟨R, 8, none⟩ = false) :=
  ⟨nd_cells (k := 0) (x0 := 0) (x1 := 0) (x2 := 0) (x3 := 0) (a := none) (nl := 0) (c := 0) (mn := 0) (mx := 0) (t := []) h, frz9 h⟩
/-- What the document's Simple answers. -/
def RsP (n : Nd) (w : World) (e : Ending) (w' : World) : Prop := ∃ m, e = .returned (nv m) ∧ er m = simp n ∧ Is w'.heap.size w' m ∧ Bl (w.heap.size ≤ ·) m ∧ Below w.heap.size w w'
/-- Where its loop stands. -/
structure RsL (T b : Nat) (k : Int) (x0 x1 x2 x3 : Nat) (mn mx : Int) (t : List UInt8) (ks : List Nd) (W3 : World) (j : Nat) (W : World) : Prop where
  ex : ∃ ms a c g, Gw T b k x0 x1 x2 x3 mn mx t ms a j c W ∧ Mod (b :: g) W3 W ∧ (∀ x ∈ g, b < x) ∧ ms.map er = (ks.take j).map simp
set_option maxRecDepth 100000 in
set_option maxHeartbeats 8000000 in
theorem rsimple_step (k : Int) (x0 x1 x2 x3 : Nat) (a : Option Addr) (ks : List Nd) (c : Nat) (mn mx : Int) (t : List UInt8) (w : World) (hIs : Is w.heap.size w (.mk k [x0, x1, x2, x3] mn mx t a c ks)) (h6 : ks.length ≤ 100000)
    (hx : ∀ n ∈ ks, ∀ W, Below w.heap.size w W → Calls Tryd.prog 17 #[nv n] W (RsP n W)) :
    Calls Tryd.prog 17 #[nv (.mk k [x0, x1, x2, x3] mn mx t a c ks)] w (RsP (.mk k [x0, x1, x2, x3] mn mx t a c ks) w) := by
  have hnv : nv (.mk k [x0, x1, x2, x3] mn mx t a c ks) = .agg #[.int .i64 k, .int .u64 (x0 : Int), .int .u64 (x1 : Int), .int .u64 (x2 : Int), .int .u64 (x3 : Int), .slice a ks.length c, .int .i64 mn, .int .i64 mx, .string (Str t)] := rfl
  rw [hnv]
  clear hnv
  obtain ⟨nl, hnl⟩ : ∃ nl, ks.length = nl := ⟨_, rfl⟩
  rw [hnl] at h6 ⊢
  obtain ⟨B2, hB2⟩ : ∃ B2, Obj.cells #[.int .i64 k, .int .u64 (x0 : Int), .int .u64 (x1 : Int), .int .u64 (x2 : Int), .int .u64 (x3 : Int), .slice a nl c, .int .i64 mn, .int .i64 mx, .string (Str t)] 31 (0, 0) = B2 := ⟨_, rfl⟩
  obtain ⟨B4, hB4⟩ : ∃ B4, Obj.cells #[.int .i64 0, .int .u64 0, .int .u64 0, .int .u64 0, .int .u64 0, .slice none 0 0, .int .i64 0, .int .i64 0, .string ⟨#[]⟩] 31 (0, 0) = B4 := ⟨_, rfl⟩
  have z1 : (w.alloc B2).heap.size = w.heap.size + 1 := by simp
  have l2 : ((w.alloc B2).alloc B4).heap[w.heap.size]? = some B2 := block_alloc (World.alloc_heap_new w B2)
  have l4 : ((w.alloc B2).alloc B4).heap[w.heap.size + 1]? = some B4 := by rw [← z1]; exact World.alloc_heap_new _ B4
  have hB : Below w.heap.size w ((w.alloc B2).alloc B4) := ((Below.refl _ w).alloc (Nat.le_refl _) _).alloc (by simp) _
  obtain ⟨W2, hW2⟩ : ∃ W2, (w.alloc B2).alloc B4 = W2 := ⟨_, rfl⟩
  have z2 : W2.heap.size = w.heap.size + 2 := by rw [← hW2]; simp
  rw [hW2] at l2 l4 hB
  rw [← hB2, ← hB4] at hW2
  rw [← hB2] at l2
  rw [← hB4] at l4
  clear hB2 hB4 z1 B2 B4
  obtain ⟨u0, u1, u2, u3, u4, u5, u6, u7, u8⟩ := nd_cells l2
  by_cases hk : k = 2 ∧ nl = 1
  · obtain ⟨rfl, rfl⟩ := hk
    obtain ⟨kid, rfl⟩ := one_kid hnl
    obtain ⟨_, _, _, _, hrd, _, hall⟩ := Is.below hB hIs
    obtain ⟨b, off, rfl, hcs0⟩ := kid_at hrd (fun n hn => (Is.all hall n hn).len) 0 (by simp)
    have hkid : Is w.heap.size W2 kid := hall.1
    have hxk : ∀ W, Below w.heap.size w W → Calls Tryd.prog 17 #[nv kid] W (RsP kid W) := hx kid (by simp)
    have hsx : simp (.mk 2 [x0, x1, x2, x3] mn mx t (some ⟨b, off, none⟩) c [kid]) = simp kid := by simp [simp, simps]
    have hcs : ∀ i v, (cells kid)[i]? = some v → i < 9 → W2.cell? ⟨b, off + i, none⟩ = some v := fun i v h h9 => by
      have := hcs0 i v h h9
      rwa [Nat.zero_mul, Nat.zero_add] at this
    clear hcs0
    obtain ⟨y0, y1, y2, y3, hys⟩ := four hkid.len
    obtain ⟨kk, ksx, kmn, kmx, kt, ka, kc, kks⟩ := kid
    simp only [Nd.set] at hys
    subst hys
    have q0 := hcs 0 _ rfl (by omega)
    have q1 := hcs 1 _ rfl (by omega)
    have q2 := hcs 2 _ rfl (by omega)
    have q3 := hcs 3 _ rfl (by omega)
    have q4 := hcs 4 _ rfl (by omega)
    have q5 := hcs 5 _ rfl (by omega)
    have q6 := hcs 6 _ rfl (by omega)
    have q7 := hcs 7 _ rfl (by omega)
    have q8 := hcs 8 _ rfl (by omega)
    simp only [← Nat.add_assoc, Nat.add_zero, Nat.zero_mul, Nd.kind, Nd.a, Nd.kids, Nd.cap, Nd.mn, Nd.mx, Nd.text] at q0 q1 q2 q3 q4 q5 q6 q7 q8
    have hnvk : nv (.mk kk [y0, y1, y2, y3] kmn kmx kt ka kc kks) = .agg #[.int .i64 kk, .int .u64 (y0 : Int), .int .u64 (y1 : Int), .int .u64 (y2 : Int), .int .u64 (y3 : Int), .slice ka kks.length kc, .int .i64 kmn, .int .i64 kmx, .string (Str kt)] := rfl
    rw [hnvk] at hxk
    obtain ⟨kl, hkl⟩ : ∃ kl, kks.length = kl := ⟨_, rfl⟩
    rw [hkl] at hxk q5
    have HSx := Lib.hid hsx
    have HC := Lib.hid (hxk W2 hB)
    have HW2 := Lib.hid (And.intro hW2 z2)
    have HB := Lib.hid hB
    have H4 := Lib.hid l4
    clear hsx hxk hW2 hB l4 hcs hkid hrd hall hx hIs hkl hnvk l2 hnl z2
    go_enter Tryd.func17, Tryd.ntmps17
    go_upto_region 1 with (fail)
    rw [HW2.out.1]
    go_wp2_with fail
    with_reducible refine HC.out.mono ?_
    rintro e w5 ⟨m, rfl, hme, hmi, hmb, hb5⟩
    clear q0 q1 q2 q3 q4 q5 q6 q7 q8 u0 u1 u2 u3 u4 u5 u6 u7 u8
    have h5 := (hb5.block _ (block_lt H4.out)).trans H4.out
    obtain ⟨v0, v1, v2, v3, hvs⟩ := four hmi.len
    obtain ⟨k', mn', mx', a', nl', c', t', hnv, hcl⟩ := nv_explicit hvs
    obtain ⟨⟨d0, d1, d2, d3, d4, d5, d6, d7, d8⟩, f0, f1, f2, f3, f4, f5, f6, f7, f8⟩ := zr_cells h5
    have hpb := put9_block h5 (.int .i64 k') (.int .u64 (v0 : Int)) (.int .u64 (v1 : Int)) (.int .u64 (v2 : Int)) (.int .u64 (v3 : Int)) (.slice a' nl' c') (.int .i64 mn') (.int .i64 mx') (.string (Str t'))
    have hpm := put9_mod w5 (w.heap.size + 1) (.int .i64 k') (.int .u64 (v0 : Int)) (.int .u64 (v1 : Int)) (.int .u64 (v2 : Int)) (.int .u64 (v3 : Int)) (.slice a' nl' c') (.int .i64 mn') (.int .i64 mx') (.string (Str t'))
    have hz2 := HW2.out.2
    have hre : RsP (.mk 2 [x0, x1, x2, x3] mn mx t (some ⟨b, off, none⟩) c [.mk kk [y0, y1, y2, y3] kmn kmx kt ka kc kks]) w (.returned (.agg #[.int .i64 k', .int .u64 (v0 : Int), .int .u64 (v1 : Int), .int .u64 (v2 : Int), .int .u64 (v3 : Int), .slice a' nl' c', .int .i64 mn', .int .i64 mx', .string (Str t')])) (put9 w5 (w.heap.size + 1) (.int .i64 k') (.int .u64 (v0 : Int)) (.int .u64 (v1 : Int)) (.int .u64 (v2 : Int)) (.int .u64 (v3 : Int)) (.slice a' nl' c') (.int .i64 mn') (.int .i64 mx') (.string (Str t'))) :=
      ⟨m, by rw [hnv], by rw [HSx.out, hme], Is.mono hpm.size (Is.modB hpm hmi (hmb.mono fun q hq => by simp; omega)), hmb.mono fun q hq => by omega, (HB.out.trans (hb5.mono HB.out.size)).trans (hpm.toBelow (by have := HB.out.size; have := hb5.size; omega) (by simp))⟩
    have HRe := Lib.hid hre
    have HPb := Lib.hid hpb
    simp only [hnv]
    clear hre hpb hpm hnv hcl hvs hme hmi hmb hb5 h5 hz2
    go_wp2
    ((try simp only [Exit.inBlock, Exit.then]); refine bodyPost_ret (results_cell_row rfl _ _ (w.heap.size + 1) 31 _ (0, 0) _ rfl (HPb.out) Tryd.underlying31 rfl ?hi1) rfl ?_; (case hi1 => kernel_rfl))
    exact HRe.out
  · have hc : (k = 2 ∧ ((nl : Int) == 1) = false) ∨ (k == 2) = false := by
      by_cases h : k = 2
      · exact .inl ⟨h, by simp; omega⟩
      · exact .inr (by simpa using h)
    have hsm : simp (.mk k [x0, x1, x2, x3] mn mx t a c ks) = .mk k [x0, x1, x2, x3] mn mx t none 0 (ks.map simp) := by rw [simp, hnl, if_neg hk, simps_map]
    obtain ⟨W3, hW3⟩ : ∃ W3, W2.alloc (.cells #[.int .i64 k, .int .u64 (x0 : Int), .int .u64 (x1 : Int), .int .u64 (x2 : Int), .int .u64 (x3 : Int), .slice none 0 0, .int .i64 mn, .int .i64 mx, .string (Str t)] 31) = W3 := ⟨_, rfl⟩
    have b3 : Below W2.heap.size W2 W3 := by rw [← hW3]; exact (Below.refl _ _).alloc (Nat.le_refl _) _
    have l6 : W3.heap[w.heap.size + 2]? = some (.cells #[.int .i64 k, .int .u64 (x0 : Int), .int .u64 (x1 : Int), .int .u64 (x2 : Int), .int .u64 (x3 : Int), .slice none 0 0, .int .i64 mn, .int .i64 mx, .string (Str t)] 31 (0, 0)) := by rw [← hW3, ← z2]; exact World.alloc_heap_new _ _
    have z3 : W3.heap.size = w.heap.size + 3 := by rw [← hW3, World.size_alloc, z2]
    have hB3 := hB.trans (b3.mono hB.size)
    have l43 := (b3.block _ (block_lt l4)).trans l4
    obtain ⟨p0, p1, p2, p3, p4, p5, p6, p7, p8⟩ := nd_cells ((b3.block _ (block_lt l2)).trans l2)
    have hn63 : nl ≤ 9223372036854775807 := by omega
    have HSm := Lib.hid hsm
    have HI := Lib.hid hIs
    have HX := Lib.hid hx
    have HW2 := Lib.hid hW2
    have HW3 := Lib.hid (And.intro hW3 z2)
    have HB := Lib.hid hB3
    have H4 := Lib.hid l43
    have H6 := Lib.hid l6
    have HZ3 := Lib.hid z3
    have HNl := Lib.hid hnl
    clear hsm hIs hx hW2 hW3 hB hB3 l4 l43 l6 l2 z2 z3 hnl b3 hk
    rcases hc with ⟨rfl, hn1⟩ | hn1
    · go_enter Tryd.func17, Tryd.ntmps17
      go_upto_region 1 with (fail)
      rw [HW2.out]
      go_upto_region 4 with (fail)
      rw [HW3.out.1]
      try rw [HW3.out.2]
      clear u0 u1 u2 u3 u4 u5 u6 u7 u8
      go_wp2_with fail
      clear p0 p1 p2 p3 p4 p5 p6 p7 p8 hn1
      go_loopw [34] (fun i W => ∃ j : Nat, j ≤ nl ∧ i = .int .i64 (j : Int) ∧ RsL 31 (w.heap.size + 2) 2 x0 x1 x2 x3 mn mx t ks W3 j W) (fun i _ => nl - (intOf i).toNat)
      case atStart => exact ⟨0, Nat.zero_le _, rfl, ⟨[], none, 0, [], Gw.start H6.out, Mod.refl _ _, by simp, rfl⟩⟩
      case round =>
        obtain ⟨j, hj, rfl, ⟨ms, ma, mc, g, hgw, hM, hg, hme⟩⟩ := hrel
        have hz3 := HZ3.out
        have hbw : Below w.heap.size w wr := HB.out.trans (hM.toBelow HB.out.size (fun q hq => by
          rcases List.mem_cons.1 hq with h | h
          · omega
          · have := hg q h; omega))
        have h4 := (hM.block _ (block_lt H4.out) (fun hq => by
          rcases List.mem_cons.1 hq with h | h
          · omega
          · have := hg _ h; omega)).trans H4.out
        by_cases hjl : j < nl
        · have hjk : j < ks.length := by rw [HNl.out]; exact hjl
          have hin : ks[j] ∈ ks := List.getElem_mem hjk
          obtain ⟨_, _, _, _, hrd, _, hall⟩ := Is.below hbw HI.out
          obtain ⟨b, off, rfl, hcs⟩ := kid_at hrd (fun n hn => (Is.all hall n hn).len) j hjk
          have hkid := Is.all hall _ hin
          have hxk := HX.out _ hin
          have hmt := map_take' simp ks j hjk
          obtain ⟨kid, hkd⟩ : ∃ kid, ks[j] = kid := ⟨_, rfl⟩
          rw [hkd] at hcs hkid hxk hmt
          have hxk : ∀ W, Below w.heap.size w W → Calls Tryd.prog 17 #[nv kid] W (RsP kid W) := hxk
          obtain ⟨y0, y1, y2, y3, hys⟩ := four hkid.len
          obtain ⟨kk, ksx, kmn, kmx, kt, ka, kc, kks⟩ := kid
          simp only [Nd.set] at hys
          subst hys
          have q0 := hcs 0 _ rfl (by omega)
          have q1 := hcs 1 _ rfl (by omega)
          have q2 := hcs 2 _ rfl (by omega)
          have q3 := hcs 3 _ rfl (by omega)
          have q4 := hcs 4 _ rfl (by omega)
          have q5 := hcs 5 _ rfl (by omega)
          have q6 := hcs 6 _ rfl (by omega)
          have q7 := hcs 7 _ rfl (by omega)
          have q8 := hcs 8 _ rfl (by omega)
          simp only [← Nat.add_assoc, Nat.add_zero, Nat.zero_mul, Nd.kind, Nd.a, Nd.kids, Nd.cap, Nd.mn, Nd.mx, Nd.text] at q0 q1 q2 q3 q4 q5 q6 q7 q8
          have hnvk : nv (.mk kk [y0, y1, y2, y3] kmn kmx kt ka kc kks) = .agg #[.int .i64 kk, .int .u64 (y0 : Int), .int .u64 (y1 : Int), .int .u64 (y2 : Int), .int .u64 (y3 : Int), .slice ka kks.length kc, .int .i64 kmn, .int .i64 kmx, .string (Str kt)] := rfl
          rw [hnvk] at hxk
          obtain ⟨kl, hkl⟩ : ∃ kl, kks.length = kl := ⟨_, rfl⟩
          rw [hkl] at hxk q5
          obtain ⟨W5, hW5⟩ : ∃ W5, wr.alloc (.cells #[.int .i64 kk, .int .u64 (y0 : Int), .int .u64 (y1 : Int), .int .u64 (y2 : Int), .int .u64 (y3 : Int), .slice ka kl kc, .int .i64 kmn, .int .i64 kmx, .string (Str kt)] 31) = W5 := ⟨_, rfl⟩
          have b5 : Below wr.heap.size wr W5 := by rw [← hW5]; exact (Below.refl _ _).alloc (Nat.le_refl _) _
          have s5 : W5.heap[wr.heap.size]? = some (.cells #[.int .i64 kk, .int .u64 (y0 : Int), .int .u64 (y1 : Int), .int .u64 (y2 : Int), .int .u64 (y3 : Int), .slice ka kl kc, .int .i64 kmn, .int .i64 kmx, .string (Str kt)] 31 (0, 0)) := by rw [← hW5]; exact World.alloc_heap_new _ _
          have hgw5 := hgw.below b5
          have bw5 := hbw.trans (b5.mono hbw.size)
          have hM5 : Mod ((w.heap.size + 2) :: g) W3 W5 := hM.trans (Mod.of_below b5 ((w.heap.size + 2) :: g)) (fun q hq => .inl hq)
          obtain ⟨X, hX⟩ : ∃ X, wr.heap.size = X := ⟨_, rfl⟩
          rw [hX] at s5
          have hox : ∀ q ∈ (w.heap.size + 2) :: (Value.slice ma j mc).ownBlock.toList, q < X := fun q hq => by
            rcases List.mem_cons.1 hq with h | h
            · have := hM.size; omega
            · have := (hgw.own.lt q (Option.mem_toList.1 h)).2; omega
          have HOx := Lib.hid (And.intro hox s5)
          clear hox
          have hw3 : w.heap.size + 3 ≤ W5.heap.size := by have := hM5.size; omega
          have hs1 : ∀ W, Below W5.heap.size W5 W → W.cell? ⟨X, 0, none⟩ = some (.int .i64 kk) ∧ W.cell? ⟨X, 1, none⟩ = some (.int .u64 (y0 : Int)) ∧ W.cell? ⟨X, 2, none⟩ = some (.int .u64 (y1 : Int)) ∧ W.cell? ⟨X, 3, none⟩ = some (.int .u64 (y2 : Int)) ∧ W.cell? ⟨X, 4, none⟩ = some (.int .u64 (y3 : Int)) ∧ W.cell? ⟨X, 5, none⟩ = some (.slice ka kl kc) ∧ W.cell? ⟨X, 6, none⟩ = some (.int .i64 kmn) ∧ W.cell? ⟨X, 7, none⟩ = some (.int .i64 kmx) ∧ W.cell? ⟨X, 8, none⟩ = some (.string (Str kt)) := fun W hb => nd_cells ((hb.block _ (block_lt s5)).trans s5)
          have hs0 : ∀ W, Below W5.heap.size W5 W → W.cell? ⟨w.heap.size + 2, 5, none⟩ = some (.slice ma j mc) := fun W hb => by rw [cell_block (hgw5.below hb).blk]; rfl
          have HS1 := Lib.hid hs1
          have HS0 := Lib.hid hs0
          have HXk := Lib.hid (fun W (hb : Below W5.heap.size W5 W) => hxk W (bw5.trans (hb.mono bw5.size)))
          have HG5 := Lib.hid (And.intro hgw5 (And.intro hM5 (And.intro hg hme)))
          have HMt := Lib.hid hmt
          have HW5 := Lib.hid (And.intro hW5 hX)
          have HBw := Lib.hid (And.intro bw5 hw3)
          have hjl2 : (j : Int) < (nl : Int) := by omega
          have n0 : Below W5.heap.size W5 W5.drew := (Below.refl _ _).drew
          clear hs1 hs0 hxk hgw5 hM5 hg hme hmt hW5 bw5 hw3 hgw hM b5 s5 hkl hnvk hkd hkid hcs hin hrd hall h4 hbw hz3
          go_upto_region 7 with (fail)
          rw [HW5.out.1]
          try rw [HW5.out.2]
          clear hX q0 q1 q2 q3 q4 q5 q6 q7 q8
          refine wp_region_noPanic ?_
          refine wp_region_T (fun _ => True) (fun V => V.cell? ⟨w.heap.size + 2, 5, none⟩ = some (.slice ma j mc) ∧ (V.cell? ⟨X, 0, none⟩ = some (.int .i64 kk) ∧ V.cell? ⟨X, 1, none⟩ = some (.int .u64 (y0 : Int)) ∧ V.cell? ⟨X, 2, none⟩ = some (.int .u64 (y1 : Int)) ∧ V.cell? ⟨X, 3, none⟩ = some (.int .u64 (y2 : Int)) ∧ V.cell? ⟨X, 4, none⟩ = some (.int .u64 (y3 : Int)) ∧ V.cell? ⟨X, 5, none⟩ = some (.slice ka kl kc) ∧ V.cell? ⟨X, 6, none⟩ = some (.int .i64 kmn) ∧ V.cell? ⟨X, 7, none⟩ = some (.int .i64 kmx) ∧ V.cell? ⟨X, 8, none⟩ = some (.string (Str kt)))) 7 (by kernel_rfl) ⟨trivial, fun _ => ⟨HS0.out _ n0, HS1.out _ n0⟩⟩ (fun _ => ?_)
          (refine wpAnyT_take (i := 0) (v := ?v0t1) (by simp only [List.getElem?_toArray, List.getElem?_cons_succ, List.getElem?_cons_zero]; rfl) (by kernel_rfl) (by kernel_rfl) (by kernel_rfl) (by decide) (fun _ _ _ h => False.elim h) (Or.inl ⟨by rfl, ?hy0t1⟩) (by exact ⟨trivial, fun _ => ⟨HS0.out _ n0, HS1.out _ n0⟩⟩) ?rest0t1; (case hy0t1 => (intro w hSw; (try dsimp only at hSw); go_simp; (try with_reducible rfl))); (try simp only [Act.put, List.setIfInBounds_toArray, List.set_cons_zero, List.set_cons_succ]))
          (refine wpAnyT_take0 (i := 1) (v := ?v1t2) (by simp only [List.getElem?_toArray, List.getElem?_cons_succ, List.getElem?_cons_zero]; rfl) (by kernel_rfl) (by kernel_rfl) (by kernel_rfl) (by decide) (by kernel_rfl) (by kernel_rfl) (fun _ _ _ h => False.elim h) (Or.inl ⟨by rfl, ?hy1t2⟩) (by exact ⟨trivial, fun _ => ⟨HS0.out _ n0, HS1.out _ n0⟩⟩) ?rest1t2; (case hy1t2 => (intro w hSw; (try dsimp only at hSw); go_simp; (try with_reducible rfl))); (try simp only [Act.put, List.setIfInBounds_toArray, List.set_cons_zero, List.set_cons_succ]))
          (refine wpAnyT_take0 (i := 2) (v := ?v2t3) (by simp only [List.getElem?_toArray, List.getElem?_cons_succ, List.getElem?_cons_zero]; rfl) (by kernel_rfl) (by kernel_rfl) (by kernel_rfl) (by decide) (by kernel_rfl) (by kernel_rfl) (fun _ _ _ h => False.elim h) (Or.inl ⟨by rfl, ?hy2t3⟩) (by exact ⟨trivial, fun _ => ⟨HS0.out _ n0, HS1.out _ n0⟩⟩) ?rest2t3; (case hy2t3 => (intro w hSw; (try dsimp only at hSw); go_simp; (try with_reducible rfl))); (try simp only [Act.put, List.setIfInBounds_toArray, List.set_cons_zero, List.set_cons_succ]))
          (refine wpAnyT_ready (rs := [3]) (by kernel_rfl) (by simp) ?_; refine AllReadyT.cons (o := _) (by simp only [List.getElem?_toArray, List.getElem?_cons_succ, List.getElem?_cons_zero]; rfl) (fun K hK => ?_) AllReadyT.nil; go_simp; ((with_reducible refine (HXk.out _ n0).mono ?_); rintro _ w6 ⟨m', rfl, r2, r3, r4, hb6⟩; have n1 := n0.trans (hb6.mono n0.size)); refine hK.out _ _ (by exact ⟨trivial, fun _ => ⟨HS0.out _ n1, HS1.out _ n1⟩⟩) (fun _ => ?_); clear hK K; (try simp only [Act.put, List.setIfInBounds_toArray, List.set_cons_zero, List.set_cons_succ]))
          obtain ⟨hgw5, hM5, hg, hme⟩ := HG5.out
          have hgw6 := hgw5.below n1
          obtain ⟨v0, v1, v2, v3, hvs⟩ := four r3.len
          obtain ⟨k', mn', mx', a', nl', c', t', hnv, hcl⟩ := nv_explicit hvs
          have hmb : Bl (fun q => w.heap.size + 2 < q ∧ (Value.slice ma j mc).ownBlock ≠ some q) m' := r4.mono fun q hq => ⟨by have := HBw.out.2; have := n0.size; omega, fun e => by have := (hgw5.own.lt q e).2; have := n0.size; omega⟩
          obtain ⟨gg, cap, w8, hrun, k8, f8, hgw8, hM8, hg8⟩ := hgw6.push elRef (by decide) (by omega) m' r3 hmb
          have hcl' : (cells m').toArray = #[.int .i64 k', .int .u64 (v0 : Int), .int .u64 (v1 : Int), .int .u64 (v2 : Int), .int .u64 (v3 : Int), .slice a' nl' c', .int .i64 mn', .int .i64 mx', .string (Str t')] := by rw [hcl]
          rw [hcl'] at hrun
          have hM9 : Mod ((w.heap.size + 2) :: ((Value.slice ma j mc).ownBlock.toList ++ g)) W3 (w8.setCell ⟨w.heap.size + 2, 5, none⟩ (.slice (some ⟨gg, 0, none⟩) (j + 1) cap)) := by
            have m1 : Mod ((w.heap.size + 2) :: ((Value.slice ma j mc).ownBlock.toList ++ g)) W3 w6 := (hM5.sub (by intro q hq; rcases List.mem_cons.1 hq with h | h; exact List.mem_cons.2 (.inl h); exact List.mem_cons.2 (.inr (List.mem_append_right _ h)))).trans (Mod.of_below n1 ((w.heap.size + 2) :: ((Value.slice ma j mc).ownBlock.toList ++ g))) (fun q hq => .inl hq)
            exact m1.trans hM8 (fun q hq => by
              rcases List.mem_cons.1 hq with h | h
              · exact .inl (List.mem_cons.2 (.inl h))
              · exact .inl (List.mem_cons.2 (.inr (List.mem_append_left _ h))))
          have hg9 : ∀ x ∈ (Value.slice ma j mc).ownBlock.toList ++ g, w.heap.size + 2 < x := fun x hx => by
            rcases List.mem_append.1 hx with h | h
            · exact hg8 x h
            · exact hg x h
          have hfin2 : RsL 31 (w.heap.size + 2) 2 x0 x1 x2 x3 mn mx t ks W3 (j + 1) (w8.setCell ⟨w.heap.size + 2, 5, none⟩ (.slice (some ⟨gg, 0, none⟩) (j + 1) cap)) :=
            ⟨⟨_, _, _, _, hgw8, hM9, hg9, by rw [HMt.out, List.map_append, hme, List.map_cons, List.map_nil, r2]⟩⟩
          have HFin := Lib.hid hfin2
          have n2 := n1.alloc n1.size (.cells #[.int .i64 k', .int .u64 (v0 : Int), .int .u64 (v1 : Int), .int .u64 (v2 : Int), .int .u64 (v3 : Int), .slice a' nl' c', .int .i64 mn', .int .i64 mx', .string (Str t')] 31)
          have HS8 : Hid (w8.cell? ⟨w.heap.size + 2, 5, none⟩ = some (.slice ma j mc) ∧ (w8.cell? ⟨X, 0, none⟩ = some (.int .i64 kk) ∧ w8.cell? ⟨X, 1, none⟩ = some (.int .u64 (y0 : Int)) ∧ w8.cell? ⟨X, 2, none⟩ = some (.int .u64 (y1 : Int)) ∧ w8.cell? ⟨X, 3, none⟩ = some (.int .u64 (y2 : Int)) ∧ w8.cell? ⟨X, 4, none⟩ = some (.int .u64 (y3 : Int)) ∧ w8.cell? ⟨X, 5, none⟩ = some (.slice ka kl kc) ∧ w8.cell? ⟨X, 6, none⟩ = some (.int .i64 kmn) ∧ w8.cell? ⟨X, 7, none⟩ = some (.int .i64 kmx) ∧ w8.cell? ⟨X, 8, none⟩ = some (.string (Str kt)))) := Lib.hid (by
            refine ⟨k8, ?_⟩
            have h6 : w6.heap[X]? = _ := (n1.block _ (block_lt HOx.out.2)).trans HOx.out.2
            have h9 := (hM8.block X (block_lt h6) (fun hq => Nat.lt_irrefl _ (HOx.out.1 X hq))).trans h6
            rw [block_setOther (fun e => Nat.lt_irrefl X (HOx.out.1 X (by rw [e]; simp)))] at h9
            exact nd_cells h9)
          simp only [hnv]
          clear hfin2 hM9 hg9 hgw8 hM8 hg8 hmb hcl hcl' hnv hvs hgw6 hgw5 hM5 hg hme r2 r3 r4 hb6
          (refine wpAnyT_ready (rs := [4]) (by kernel_rfl) (by simp) ?_; refine AllReadyT.cons (o := _) (by simp only [List.getElem?_toArray, List.getElem?_cons_succ, List.getElem?_cons_zero]; rfl) (fun K hK => ?_) AllReadyT.nil; go_simp; (skip); refine hK.out _ _ (by exact ⟨trivial, fun _ => ⟨HS0.out _ n2, HS1.out _ n2⟩⟩) (fun _ => ?_); clear hK K; (try simp only [Act.put, List.setIfInBounds_toArray, List.set_cons_zero, List.set_cons_succ]))
          (refine wpAnyT_ready (rs := [5]) (by kernel_rfl) (by simp) ?_; refine AllReadyT.cons (o := _) (by simp only [List.getElem?_toArray, List.getElem?_cons_succ, List.getElem?_cons_zero]; rfl) (fun K hK => ?_) AllReadyT.nil; (((with_reducible apply step_append_run hrun); rfl; rfl; rfl; rfl; rfl)); refine hK.out _ _ (by exact ⟨trivial, fun _ => HS8.out⟩) (fun _ => ?_); clear hK K; (try simp only [Act.put, List.setIfInBounds_toArray, List.set_cons_zero, List.set_cons_succ]))
          (refine wpAnyT_take (i := 6) (v := ?v6t4) (by simp only [List.getElem?_toArray, List.getElem?_cons_succ, List.getElem?_cons_zero]; rfl) (by kernel_rfl) (by kernel_rfl) (by kernel_rfl) (by decide) (fun _ _ _ h => False.elim h) (Or.inl ⟨by rfl, ?hy6t4⟩) (by exact ⟨trivial, fun _ => HS8.out⟩) ?rest6t4; (case hy6t4 => (intro w hSw; (try dsimp only at hSw); go_simp; (try with_reducible rfl))); (try simp only [Act.put, List.setIfInBounds_toArray, List.set_cons_zero, List.set_cons_succ]))
          (refine wpAnyT_ready (rs := [7]) (by kernel_rfl) (by simp) ?_; refine AllReadyT.cons (o := _) (by simp only [List.getElem?_toArray, List.getElem?_cons_succ, List.getElem?_cons_zero]; rfl) (fun K hK => ?_) AllReadyT.nil; go_simp; (skip); refine hK.out _ _ (by exact ⟨trivial, fun h => absurd h (by decide)⟩) (fun _ => ?_); clear hK K; (try simp only [Act.put, List.setIfInBounds_toArray, List.set_cons_zero, List.set_cons_succ]))
          refine wpAnyT_done (by kernel_rfl) ?_ _
          refine NoPanic.normal ?_
          go_wp2
          go_roundw
          case rel => first | exact ⟨j + 1, by omega, by go_num, HFin.out⟩ | ((repeat apply Exists.intro); (refine ⟨?_, ?_⟩); rotate_left 1; (focus (and_intros <;> rfl)); exact ⟨j + 1, by omega, by go_num, HFin.out⟩)
          case measure => simp [intOf]; omega
        · obtain rfl : j = nl := by omega
          obtain ⟨c0, c1, c2, c3, c4, c5, c6, c7, c8⟩ := nd_cells (show wr.heap[w.heap.size + 2]? = some (Obj.cells #[.int .i64 2, .int .u64 (x0 : Int), .int .u64 (x1 : Int), .int .u64 (x2 : Int), .int .u64 (x3 : Int), .slice ma j mc, .int .i64 mn, .int .i64 mx, .string (Str t)] _ _) from hgw.blk)
          obtain ⟨⟨d0, d1, d2, d3, d4, d5, d6, d7, d8⟩, f0, f1, f2, f3, f4, f5, f6, f7, f8⟩ := zr_cells h4
          have hpb := put9_block h4 (.int .i64 2) (.int .u64 (x0 : Int)) (.int .u64 (x1 : Int)) (.int .u64 (x2 : Int)) (.int .u64 (x3 : Int)) (.slice ma j mc) (.int .i64 mn) (.int .i64 mx) (.string (Str t))
          have hpm := put9_mod wr (w.heap.size + 1) (.int .i64 2) (.int .u64 (x0 : Int)) (.int .u64 (x1 : Int)) (.int .u64 (x2 : Int)) (.int .u64 (x3 : Int)) (.slice ma j mc) (.int .i64 mn) (.int .i64 mx) (.string (Str t))
          have hPP := hgw.node
          have htk : ks.take j = ks := List.take_of_length_le (by rw [HNl.out]; exact Nat.le_refl _)
          rw [htk] at hme
          have hre : RsP (.mk 2 [x0, x1, x2, x3] mn mx t a c ks) w (.returned (nv (.mk 2 [x0, x1, x2, x3] mn mx t ma mc ms))) (put9 wr (w.heap.size + 1) (.int .i64 2) (.int .u64 (x0 : Int)) (.int .u64 (x1 : Int)) (.int .u64 (x2 : Int)) (.int .u64 (x3 : Int)) (.slice ma j mc) (.int .i64 mn) (.int .i64 mx) (.string (Str t))) :=
            ⟨_, rfl, by rw [HSm.out]; simp only [er, ers_map, hme], Is.mono hpm.size (Is.modB hpm hPP.1 (hPP.2.mono fun q hq => by simp; omega)), hPP.2.mono fun q hq => by omega, hbw.trans (hpm.toBelow hbw.size (by simp))⟩
          rw [hgw.val] at hre
          have HRe := Lib.hid hre
          have HPb := Lib.hid hpb
          have hjl2 : ¬ ((j : Int) < (j : Int)) := by omega
          clear hpb hpm hPP hre htk
          clear hgw h4 hbw hM hg hme hz3
          go_wp2
          ((try simp only [Exit.inBlock, Exit.then]); refine bodyPost_ret (results_cell_row rfl _ _ (w.heap.size + 1) 31 _ (0, 0) _ rfl (HPb.out) Tryd.underlying31 rfl ?hi2) rfl ?_; (case hi2 => kernel_rfl))
          exact HRe.out
    · go_enter Tryd.func17, Tryd.ntmps17
      go_upto_region 1 with (fail)
      rw [HW2.out]
      go_upto_region 4 with (fail)
      rw [HW3.out.1]
      try rw [HW3.out.2]
      clear u0 u1 u2 u3 u4 u5 u6 u7 u8
      go_wp2_with fail
      clear p0 p1 p2 p3 p4 p5 p6 p7 p8 hn1
      go_loopw [34] (fun i W => ∃ j : Nat, j ≤ nl ∧ i = .int .i64 (j : Int) ∧ RsL 31 (w.heap.size + 2) k x0 x1 x2 x3 mn mx t ks W3 j W) (fun i _ => nl - (intOf i).toNat)
      case atStart => exact ⟨0, Nat.zero_le _, rfl, ⟨[], none, 0, [], Gw.start H6.out, Mod.refl _ _, by simp, rfl⟩⟩
      case round =>
        obtain ⟨j, hj, rfl, ⟨ms, ma, mc, g, hgw, hM, hg, hme⟩⟩ := hrel
        have hz3 := HZ3.out
        have hbw : Below w.heap.size w wr := HB.out.trans (hM.toBelow HB.out.size (fun q hq => by
          rcases List.mem_cons.1 hq with h | h
          · omega
          · have := hg q h; omega))
        have h4 := (hM.block _ (block_lt H4.out) (fun hq => by
          rcases List.mem_cons.1 hq with h | h
          · omega
          · have := hg _ h; omega)).trans H4.out
        by_cases hjl : j < nl
        · have hjk : j < ks.length := by rw [HNl.out]; exact hjl
          have hin : ks[j] ∈ ks := List.getElem_mem hjk
          obtain ⟨_, _, _, _, hrd, _, hall⟩ := Is.below hbw HI.out
          obtain ⟨b, off, rfl, hcs⟩ := kid_at hrd (fun n hn => (Is.all hall n hn).len) j hjk
          have hkid := Is.all hall _ hin
          have hxk := HX.out _ hin
          have hmt := map_take' simp ks j hjk
          obtain ⟨kid, hkd⟩ : ∃ kid, ks[j] = kid := ⟨_, rfl⟩
          rw [hkd] at hcs hkid hxk hmt
          have hxk : ∀ W, Below w.heap.size w W → Calls Tryd.prog 17 #[nv kid] W (RsP kid W) := hxk
          obtain ⟨y0, y1, y2, y3, hys⟩ := four hkid.len
          obtain ⟨kk, ksx, kmn, kmx, kt, ka, kc, kks⟩ := kid
          simp only [Nd.set] at hys
          subst hys
          have q0 := hcs 0 _ rfl (by omega)
          have q1 := hcs 1 _ rfl (by omega)
          have q2 := hcs 2 _ rfl (by omega)
          have q3 := hcs 3 _ rfl (by omega)
          have q4 := hcs 4 _ rfl (by omega)
          have q5 := hcs 5 _ rfl (by omega)
          have q6 := hcs 6 _ rfl (by omega)
          have q7 := hcs 7 _ rfl (by omega)
          have q8 := hcs 8 _ rfl (by omega)
          simp only [← Nat.add_assoc, Nat.add_zero, Nat.zero_mul, Nd.kind, Nd.a, Nd.kids, Nd.cap, Nd.mn, Nd.mx, Nd.text] at q0 q1 q2 q3 q4 q5 q6 q7 q8
          have hnvk : nv (.mk kk [y0, y1, y2, y3] kmn kmx kt ka kc kks) = .agg #[.int .i64 kk, .int .u64 (y0 : Int), .int .u64 (y1 : Int), .int .u64 (y2 : Int), .int .u64 (y3 : Int), .slice ka kks.length kc, .int .i64 kmn, .int .i64 kmx, .string (Str kt)] := rfl
          rw [hnvk] at hxk
          obtain ⟨kl, hkl⟩ : ∃ kl, kks.length = kl := ⟨_, rfl⟩
          rw [hkl] at hxk q5
          obtain ⟨W5, hW5⟩ : ∃ W5, wr.alloc (.cells #[.int .i64 kk, .int .u64 (y0 : Int), .int .u64 (y1 : Int), .int .u64 (y2 : Int), .int .u64 (y3 : Int), .slice ka kl kc, .int .i64 kmn, .int .i64 kmx, .string (Str kt)] 31) = W5 := ⟨_, rfl⟩
          have b5 : Below wr.heap.size wr W5 := by rw [← hW5]; exact (Below.refl _ _).alloc (Nat.le_refl _) _
          have s5 : W5.heap[wr.heap.size]? = some (.cells #[.int .i64 kk, .int .u64 (y0 : Int), .int .u64 (y1 : Int), .int .u64 (y2 : Int), .int .u64 (y3 : Int), .slice ka kl kc, .int .i64 kmn, .int .i64 kmx, .string (Str kt)] 31 (0, 0)) := by rw [← hW5]; exact World.alloc_heap_new _ _
          have hgw5 := hgw.below b5
          have bw5 := hbw.trans (b5.mono hbw.size)
          have hM5 : Mod ((w.heap.size + 2) :: g) W3 W5 := hM.trans (Mod.of_below b5 ((w.heap.size + 2) :: g)) (fun q hq => .inl hq)
          obtain ⟨X, hX⟩ : ∃ X, wr.heap.size = X := ⟨_, rfl⟩
          rw [hX] at s5
          have hox : ∀ q ∈ (w.heap.size + 2) :: (Value.slice ma j mc).ownBlock.toList, q < X := fun q hq => by
            rcases List.mem_cons.1 hq with h | h
            · have := hM.size; omega
            · have := (hgw.own.lt q (Option.mem_toList.1 h)).2; omega
          have HOx := Lib.hid (And.intro hox s5)
          clear hox
          have hw3 : w.heap.size + 3 ≤ W5.heap.size := by have := hM5.size; omega
          have hs1 : ∀ W, Below W5.heap.size W5 W → W.cell? ⟨X, 0, none⟩ = some (.int .i64 kk) ∧ W.cell? ⟨X, 1, none⟩ = some (.int .u64 (y0 : Int)) ∧ W.cell? ⟨X, 2, none⟩ = some (.int .u64 (y1 : Int)) ∧ W.cell? ⟨X, 3, none⟩ = some (.int .u64 (y2 : Int)) ∧ W.cell? ⟨X, 4, none⟩ = some (.int .u64 (y3 : Int)) ∧ W.cell? ⟨X, 5, none⟩ = some (.slice ka kl kc) ∧ W.cell? ⟨X, 6, none⟩ = some (.int .i64 kmn) ∧ W.cell? ⟨X, 7, none⟩ = some (.int .i64 kmx) ∧ W.cell? ⟨X, 8, none⟩ = some (.string (Str kt)) := fun W hb => nd_cells ((hb.block _ (block_lt s5)).trans s5)
          have hs0 : ∀ W, Below W5.heap.size W5 W → W.cell? ⟨w.heap.size + 2, 5, none⟩ = some (.slice ma j mc) := fun W hb => by rw [cell_block (hgw5.below hb).blk]; rfl
          have HS1 := Lib.hid hs1
          have HS0 := Lib.hid hs0
          have HXk := Lib.hid (fun W (hb : Below W5.heap.size W5 W) => hxk W (bw5.trans (hb.mono bw5.size)))
          have HG5 := Lib.hid (And.intro hgw5 (And.intro hM5 (And.intro hg hme)))
          have HMt := Lib.hid hmt
          have HW5 := Lib.hid (And.intro hW5 hX)
          have HBw := Lib.hid (And.intro bw5 hw3)
          have hjl2 : (j : Int) < (nl : Int) := by omega
          have n0 : Below W5.heap.size W5 W5.drew := (Below.refl _ _).drew
          clear hs1 hs0 hxk hgw5 hM5 hg hme hmt hW5 bw5 hw3 hgw hM b5 s5 hkl hnvk hkd hkid hcs hin hrd hall h4 hbw hz3
          go_upto_region 7 with (fail)
          rw [HW5.out.1]
          try rw [HW5.out.2]
          clear hX q0 q1 q2 q3 q4 q5 q6 q7 q8
          refine wp_region_noPanic ?_
          refine wp_region_T (fun _ => True) (fun V => V.cell? ⟨w.heap.size + 2, 5, none⟩ = some (.slice ma j mc) ∧ (V.cell? ⟨X, 0, none⟩ = some (.int .i64 kk) ∧ V.cell? ⟨X, 1, none⟩ = some (.int .u64 (y0 : Int)) ∧ V.cell? ⟨X, 2, none⟩ = some (.int .u64 (y1 : Int)) ∧ V.cell? ⟨X, 3, none⟩ = some (.int .u64 (y2 : Int)) ∧ V.cell? ⟨X, 4, none⟩ = some (.int .u64 (y3 : Int)) ∧ V.cell? ⟨X, 5, none⟩ = some (.slice ka kl kc) ∧ V.cell? ⟨X, 6, none⟩ = some (.int .i64 kmn) ∧ V.cell? ⟨X, 7, none⟩ = some (.int .i64 kmx) ∧ V.cell? ⟨X, 8, none⟩ = some (.string (Str kt)))) 7 (by kernel_rfl) ⟨trivial, fun _ => ⟨HS0.out _ n0, HS1.out _ n0⟩⟩ (fun _ => ?_)
          (refine wpAnyT_take (i := 0) (v := ?v0t5) (by simp only [List.getElem?_toArray, List.getElem?_cons_succ, List.getElem?_cons_zero]; rfl) (by kernel_rfl) (by kernel_rfl) (by kernel_rfl) (by decide) (fun _ _ _ h => False.elim h) (Or.inl ⟨by rfl, ?hy0t5⟩) (by exact ⟨trivial, fun _ => ⟨HS0.out _ n0, HS1.out _ n0⟩⟩) ?rest0t5; (case hy0t5 => (intro w hSw; (try dsimp only at hSw); go_simp; (try with_reducible rfl))); (try simp only [Act.put, List.setIfInBounds_toArray, List.set_cons_zero, List.set_cons_succ]))
          (refine wpAnyT_take0 (i := 1) (v := ?v1t6) (by simp only [List.getElem?_toArray, List.getElem?_cons_succ, List.getElem?_cons_zero]; rfl) (by kernel_rfl) (by kernel_rfl) (by kernel_rfl) (by decide) (by kernel_rfl) (by kernel_rfl) (fun _ _ _ h => False.elim h) (Or.inl ⟨by rfl, ?hy1t6⟩) (by exact ⟨trivial, fun _ => ⟨HS0.out _ n0, HS1.out _ n0⟩⟩) ?rest1t6; (case hy1t6 => (intro w hSw; (try dsimp only at hSw); go_simp; (try with_reducible rfl))); (try simp only [Act.put, List.setIfInBounds_toArray, List.set_cons_zero, List.set_cons_succ]))
          (refine wpAnyT_take0 (i := 2) (v := ?v2t7) (by simp only [List.getElem?_toArray, List.getElem?_cons_succ, List.getElem?_cons_zero]; rfl) (by kernel_rfl) (by kernel_rfl) (by kernel_rfl) (by decide) (by kernel_rfl) (by kernel_rfl) (fun _ _ _ h => False.elim h) (Or.inl ⟨by rfl, ?hy2t7⟩) (by exact ⟨trivial, fun _ => ⟨HS0.out _ n0, HS1.out _ n0⟩⟩) ?rest2t7; (case hy2t7 => (intro w hSw; (try dsimp only at hSw); go_simp; (try with_reducible rfl))); (try simp only [Act.put, List.setIfInBounds_toArray, List.set_cons_zero, List.set_cons_succ]))
          (refine wpAnyT_ready (rs := [3]) (by kernel_rfl) (by simp) ?_; refine AllReadyT.cons (o := _) (by simp only [List.getElem?_toArray, List.getElem?_cons_succ, List.getElem?_cons_zero]; rfl) (fun K hK => ?_) AllReadyT.nil; go_simp; ((with_reducible refine (HXk.out _ n0).mono ?_); rintro _ w6 ⟨m', rfl, r2, r3, r4, hb6⟩; have n1 := n0.trans (hb6.mono n0.size)); refine hK.out _ _ (by exact ⟨trivial, fun _ => ⟨HS0.out _ n1, HS1.out _ n1⟩⟩) (fun _ => ?_); clear hK K; (try simp only [Act.put, List.setIfInBounds_toArray, List.set_cons_zero, List.set_cons_succ]))
          obtain ⟨hgw5, hM5, hg, hme⟩ := HG5.out
          have hgw6 := hgw5.below n1
          obtain ⟨v0, v1, v2, v3, hvs⟩ := four r3.len
          obtain ⟨k', mn', mx', a', nl', c', t', hnv, hcl⟩ := nv_explicit hvs
          have hmb : Bl (fun q => w.heap.size + 2 < q ∧ (Value.slice ma j mc).ownBlock ≠ some q) m' := r4.mono fun q hq => ⟨by have := HBw.out.2; have := n0.size; omega, fun e => by have := (hgw5.own.lt q e).2; have := n0.size; omega⟩
          obtain ⟨gg, cap, w8, hrun, k8, f8, hgw8, hM8, hg8⟩ := hgw6.push elRef (by decide) (by omega) m' r3 hmb
          have hcl' : (cells m').toArray = #[.int .i64 k', .int .u64 (v0 : Int), .int .u64 (v1 : Int), .int .u64 (v2 : Int), .int .u64 (v3 : Int), .slice a' nl' c', .int .i64 mn', .int .i64 mx', .string (Str t')] := by rw [hcl]
          rw [hcl'] at hrun
          have hM9 : Mod ((w.heap.size + 2) :: ((Value.slice ma j mc).ownBlock.toList ++ g)) W3 (w8.setCell ⟨w.heap.size + 2, 5, none⟩ (.slice (some ⟨gg, 0, none⟩) (j + 1) cap)) := by
            have m1 : Mod ((w.heap.size + 2) :: ((Value.slice ma j mc).ownBlock.toList ++ g)) W3 w6 := (hM5.sub (by intro q hq; rcases List.mem_cons.1 hq with h | h; exact List.mem_cons.2 (.inl h); exact List.mem_cons.2 (.inr (List.mem_append_right _ h)))).trans (Mod.of_below n1 ((w.heap.size + 2) :: ((Value.slice ma j mc).ownBlock.toList ++ g))) (fun q hq => .inl hq)
            exact m1.trans hM8 (fun q hq => by
              rcases List.mem_cons.1 hq with h | h
              · exact .inl (List.mem_cons.2 (.inl h))
              · exact .inl (List.mem_cons.2 (.inr (List.mem_append_left _ h))))
          have hg9 : ∀ x ∈ (Value.slice ma j mc).ownBlock.toList ++ g, w.heap.size + 2 < x := fun x hx => by
            rcases List.mem_append.1 hx with h | h
            · exact hg8 x h
            · exact hg x h
          have hfin2 : RsL 31 (w.heap.size + 2) k x0 x1 x2 x3 mn mx t ks W3 (j + 1) (w8.setCell ⟨w.heap.size + 2, 5, none⟩ (.slice (some ⟨gg, 0, none⟩) (j + 1) cap)) :=
            ⟨⟨_, _, _, _, hgw8, hM9, hg9, by rw [HMt.out, List.map_append, hme, List.map_cons, List.map_nil, r2]⟩⟩
          have HFin := Lib.hid hfin2
          have n2 := n1.alloc n1.size (.cells #[.int .i64 k', .int .u64 (v0 : Int), .int .u64 (v1 : Int), .int .u64 (v2 : Int), .int .u64 (v3 : Int), .slice a' nl' c', .int .i64 mn', .int .i64 mx', .string (Str t')] 31)
          have HS8 : Hid (w8.cell? ⟨w.heap.size + 2, 5, none⟩ = some (.slice ma j mc) ∧ (w8.cell? ⟨X, 0, none⟩ = some (.int .i64 kk) ∧ w8.cell? ⟨X, 1, none⟩ = some (.int .u64 (y0 : Int)) ∧ w8.cell? ⟨X, 2, none⟩ = some (.int .u64 (y1 : Int)) ∧ w8.cell? ⟨X, 3, none⟩ = some (.int .u64 (y2 : Int)) ∧ w8.cell? ⟨X, 4, none⟩ = some (.int .u64 (y3 : Int)) ∧ w8.cell? ⟨X, 5, none⟩ = some (.slice ka kl kc) ∧ w8.cell? ⟨X, 6, none⟩ = some (.int .i64 kmn) ∧ w8.cell? ⟨X, 7, none⟩ = some (.int .i64 kmx) ∧ w8.cell? ⟨X, 8, none⟩ = some (.string (Str kt)))) := Lib.hid (by
            refine ⟨k8, ?_⟩
            have h6 : w6.heap[X]? = _ := (n1.block _ (block_lt HOx.out.2)).trans HOx.out.2
            have h9 := (hM8.block X (block_lt h6) (fun hq => Nat.lt_irrefl _ (HOx.out.1 X hq))).trans h6
            rw [block_setOther (fun e => Nat.lt_irrefl X (HOx.out.1 X (by rw [e]; simp)))] at h9
            exact nd_cells h9)
          simp only [hnv]
          clear hfin2 hM9 hg9 hgw8 hM8 hg8 hmb hcl hcl' hnv hvs hgw6 hgw5 hM5 hg hme r2 r3 r4 hb6
          (refine wpAnyT_ready (rs := [4]) (by kernel_rfl) (by simp) ?_; refine AllReadyT.cons (o := _) (by simp only [List.getElem?_toArray, List.getElem?_cons_succ, List.getElem?_cons_zero]; rfl) (fun K hK => ?_) AllReadyT.nil; go_simp; (skip); refine hK.out _ _ (by exact ⟨trivial, fun _ => ⟨HS0.out _ n2, HS1.out _ n2⟩⟩) (fun _ => ?_); clear hK K; (try simp only [Act.put, List.setIfInBounds_toArray, List.set_cons_zero, List.set_cons_succ]))
          (refine wpAnyT_ready (rs := [5]) (by kernel_rfl) (by simp) ?_; refine AllReadyT.cons (o := _) (by simp only [List.getElem?_toArray, List.getElem?_cons_succ, List.getElem?_cons_zero]; rfl) (fun K hK => ?_) AllReadyT.nil; (((with_reducible apply step_append_run hrun); rfl; rfl; rfl; rfl; rfl)); refine hK.out _ _ (by exact ⟨trivial, fun _ => HS8.out⟩) (fun _ => ?_); clear hK K; (try simp only [Act.put, List.setIfInBounds_toArray, List.set_cons_zero, List.set_cons_succ]))
          (refine wpAnyT_take (i := 6) (v := ?v6t8) (by simp only [List.getElem?_toArray, List.getElem?_cons_succ, List.getElem?_cons_zero]; rfl) (by kernel_rfl) (by kernel_rfl) (by kernel_rfl) (by decide) (fun _ _ _ h => False.elim h) (Or.inl ⟨by rfl, ?hy6t8⟩) (by exact ⟨trivial, fun _ => HS8.out⟩) ?rest6t8; (case hy6t8 => (intro w hSw; (try dsimp only at hSw); go_simp; (try with_reducible rfl))); (try simp only [Act.put, List.setIfInBounds_toArray, List.set_cons_zero, List.set_cons_succ]))
          (refine wpAnyT_ready (rs := [7]) (by kernel_rfl) (by simp) ?_; refine AllReadyT.cons (o := _) (by simp only [List.getElem?_toArray, List.getElem?_cons_succ, List.getElem?_cons_zero]; rfl) (fun K hK => ?_) AllReadyT.nil; go_simp; (skip); refine hK.out _ _ (by exact ⟨trivial, fun h => absurd h (by decide)⟩) (fun _ => ?_); clear hK K; (try simp only [Act.put, List.setIfInBounds_toArray, List.set_cons_zero, List.set_cons_succ]))
          refine wpAnyT_done (by kernel_rfl) ?_ _
          refine NoPanic.normal ?_
          go_wp2
          go_roundw
          case rel => first | exact ⟨j + 1, by omega, by go_num, HFin.out⟩ | ((repeat apply Exists.intro); (refine ⟨?_, ?_⟩); rotate_left 1; (focus (and_intros <;> rfl)); exact ⟨j + 1, by omega, by go_num, HFin.out⟩)
          case measure => simp [intOf]; omega
        · obtain rfl : j = nl := by omega
          obtain ⟨c0, c1, c2, c3, c4, c5, c6, c7, c8⟩ := nd_cells (show wr.heap[w.heap.size + 2]? = some (Obj.cells #[.int .i64 k, .int .u64 (x0 : Int), .int .u64 (x1 : Int), .int .u64 (x2 : Int), .int .u64 (x3 : Int), .slice ma j mc, .int .i64 mn, .int .i64 mx, .string (Str t)] _ _) from hgw.blk)
          obtain ⟨⟨d0, d1, d2, d3, d4, d5, d6, d7, d8⟩, f0, f1, f2, f3, f4, f5, f6, f7, f8⟩ := zr_cells h4
          have hpb := put9_block h4 (.int .i64 k) (.int .u64 (x0 : Int)) (.int .u64 (x1 : Int)) (.int .u64 (x2 : Int)) (.int .u64 (x3 : Int)) (.slice ma j mc) (.int .i64 mn) (.int .i64 mx) (.string (Str t))
          have hpm := put9_mod wr (w.heap.size + 1) (.int .i64 k) (.int .u64 (x0 : Int)) (.int .u64 (x1 : Int)) (.int .u64 (x2 : Int)) (.int .u64 (x3 : Int)) (.slice ma j mc) (.int .i64 mn) (.int .i64 mx) (.string (Str t))
          have hPP := hgw.node
          have htk : ks.take j = ks := List.take_of_length_le (by rw [HNl.out]; exact Nat.le_refl _)
          rw [htk] at hme
          have hre : RsP (.mk k [x0, x1, x2, x3] mn mx t a c ks) w (.returned (nv (.mk k [x0, x1, x2, x3] mn mx t ma mc ms))) (put9 wr (w.heap.size + 1) (.int .i64 k) (.int .u64 (x0 : Int)) (.int .u64 (x1 : Int)) (.int .u64 (x2 : Int)) (.int .u64 (x3 : Int)) (.slice ma j mc) (.int .i64 mn) (.int .i64 mx) (.string (Str t))) :=
            ⟨_, rfl, by rw [HSm.out]; simp only [er, ers_map, hme], Is.mono hpm.size (Is.modB hpm hPP.1 (hPP.2.mono fun q hq => by simp; omega)), hPP.2.mono fun q hq => by omega, hbw.trans (hpm.toBelow hbw.size (by simp))⟩
          rw [hgw.val] at hre
          have HRe := Lib.hid hre
          have HPb := Lib.hid hpb
          have hjl2 : ¬ ((j : Int) < (j : Int)) := by omega
          clear hpb hpm hPP hre htk
          clear hgw h4 hbw hM hg hme hz3
          go_wp2
          ((try simp only [Exit.inBlock, Exit.then]); refine bodyPost_ret (results_cell_row rfl _ _ (w.heap.size + 1) 31 _ (0, 0) _ rfl (HPb.out) Tryd.underlying31 rfl ?hi3) rfl ?_; (case hi3 => kernel_rfl))
          exact HRe.out
mutual
theorem rsimple_all : ∀ (n : Nd), sz n ≤ 100000 → ∀ w, Is w.heap.size w n → Calls Tryd.prog 17 #[nv n] w (RsP n w)
  | .mk k s mn mx t a c ks, h1, w, hIs => by
    have hk := szs_kids k s mn mx t a c ks h1
    have hx := rsimples_all ks hk.1 w hIs.2.2.2.2.2.2
    obtain ⟨x0, x1, x2, x3, hl⟩ := four (show s.length = 4 from hIs.1)
    subst hl
    exact rsimple_step k x0 x1 x2 x3 a ks c mn mx t w hIs hk.2 hx
theorem rsimples_all : ∀ (ks : List Nd), szs ks ≤ 100000 → ∀ (w : World), IsAll w.heap.size w ks → ∀ n ∈ ks, ∀ W, Below w.heap.size w W → Calls Tryd.prog 17 #[nv n] W (RsP n W)
  | [], _, _, _, n, hn => by cases hn
  | m :: r, h1, w, hI, n, hn => by
    intro W hb
    simp only [szs] at h1
    by_cases h : n = m
    · rw [h]
      exact rsimple_all m (by omega) W (Is.mono hb.size (Is.below hb hI.1))
    · exact rsimples_all r (by omega) w hI.2 n (by rcases List.mem_cons.1 hn with h3 | h3; exact absurd h3 h; exact h3) W hb
end
end Rx
end Go.Proofs.YtoeeddfinmfnoaaDoor
