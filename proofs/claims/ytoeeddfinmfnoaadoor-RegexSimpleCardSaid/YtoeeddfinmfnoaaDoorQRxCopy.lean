import Derived.Test.YtoeeddfinmfnoaaDoorQRxOd
/- tree.copied, tree.Copy: every row of the copy is owned. Printed by gen_rxcopy.py. -/
namespace Go.Proofs.YtoeeddfinmfnoaaDoor
namespace Kt
end Kt
namespace St
end St
namespace Sp
end Sp
namespace Bk
end Bk
namespace Tr
end Tr
open Go Go.RowKit Kt St Sp Bk Tr
namespace Rx
/-- What copied answers. -/
def CpP (n : Nd) (w : World) (e : Ending) (w' : World) : Prop := ∃ m, e = .returned (nv m) ∧ er m = er n ∧ Od w.heap.size w' m ∧ (bks m).Nodup ∧ Below w.heap.size w w'
/-- Where copied's loop stands: the first j kids are copies. -/
structure CpL (base b1 : Nat) (ks : List Nd) (a : Option Addr) (nl c : Nat) (W1 : World) (j : Nat) (W : World) : Prop where
  ex : ∃ ms : List Nd, ms.length = j ∧ ms.map er = (ks.take j).map er ∧ W.ownsRow base 27 9 (.slice a nl c) nl (ms.flatMap cells ++ (ks.drop j).flatMap cells) ∧ (∀ x ∈ ms, Od base W x) ∧ (bkss ms).Nodup ∧ ∀ q, (Value.slice a nl c).ownBlock = some q → q ∉ bkss ms
  mod : Mod (Value.slice a nl c).ownBlock.toList W1 W
theorem CpL.step {base b1 g nl c j : Nat} {ks : List Nd} {W1 W w8 : World} (h : CpL base b1 ks (some ⟨g, 0, none⟩) nl c W1 j W) (hbs : base ≤ W.heap.size) (hj : j < ks.length) (hks : ∀ n ∈ ks, n.set.length = 4) (hb : Below W.heap.size W w8) (m : Nd) (he : er m = er ks[j]) (hI : Od W.heap.size w8 m) (hnd : (bks m).Nodup)
    (v0 v1 v2 v3 v4 v5 v6 v7 v8 : Value) (hv : cells m = [v0, v1, v2, v3, v4, v5, v6, v7, v8]) : CpL base b1 ks (some ⟨g, 0, none⟩) nl c W1 (j + 1) (put9o w8 g (j * 9) v0 v1 v2 v3 v4 v5 v6 v7 v8) := by
  obtain ⟨⟨ms, hml, hme, hown, hmk, hmd, hmg⟩, hM⟩ := h
  have hglt := (hown.lt g rfl).2
  have hgb := (hown.lt g rfl).1
  have hgm : g ∉ bkss ms := hmg g rfl
  have hdr : ks.drop j = ks[j] :: ks.drop (j + 1) := (List.getElem_cons_drop hj).symm
  have hlist : ms.flatMap cells ++ (ks.drop j).flatMap cells = ms.flatMap cells ++ cells ks[j] ++ (ks.drop (j + 1)).flatMap cells := by rw [hdr, List.flatMap_cons, List.append_assoc]
  rw [hlist] at hown
  have hpl : (ms.flatMap cells).length = j * 9 := by rw [flat_len ms (fun x hx => (hmk x hx).len), hml]
  obtain ⟨own9, m9⟩ := row_put (own_keep hown hb) hpl (cells_len _ (hks _ (List.getElem_mem hj))) v0 v1 v2 v3 v4 v5 v6 v7 v8
  rw [← hv] at own9
  have hgn : g ∉ bks m := fun hg => by have := (hI.lt g hg).1; omega
  have hap : bkss (ms ++ [m]) = bkss ms ++ bks m := by rw [bkss_append]; simp [bkss]
  refine ⟨⟨ms ++ [m], by simp [hml], by rw [map_take' er ks j hj, List.map_append, hme, List.map_cons, List.map_nil, he], ?_, ?_, ?_, ?_⟩, ?_⟩
  · rw [List.flatMap_append, show [m].flatMap cells = cells m by simp]
    exact own9
  · intro x hx
    rcases List.mem_append.1 hx with hx | hx
    · exact Od.mod m9 ((hmk x hx).below hb) fun q hq => by
        have : q ∈ bkss ms := bkss_mem hx q hq
        simp only [List.mem_singleton]
        intro e
        subst e
        exact hgm this
    · simp only [List.mem_singleton] at hx
      subst hx
      exact (Od.mod m9 hI fun q hq => by
        simp only [List.mem_singleton]
        intro e
        subst e
        exact hgn hq).base hbs
  · rw [hap, List.nodup_append]
    refine ⟨hmd, hnd, fun x hx y hy e => ?_⟩
    subst e
    obtain ⟨n, hn, hg⟩ := bkss_of hx
    have h1 := (hmk n hn).lt x hg
    have h2 := hI.lt x hy
    omega
  · intro q hq
    simp only [Value.ownBlock, Option.some.injEq] at hq
    subst hq
    rw [hap, List.mem_append]
    rintro (h | h)
    · exact hgm h
    · exact hgn h
  · exact (hM.trans (Mod.of_below hb _) (fun q hq => .inl hq)).trans m9 (fun q hq => .inl (by simp at hq; subst hq; simp [Value.ownBlock]))
set_option maxRecDepth 100000 in
set_option maxHeartbeats 8000000 in
/-- One node, its kids' copies at hand. -/
theorem copied_step (k : Int) (x0 x1 x2 x3 : Nat) (a : Option Addr) (ks : List Nd) (c : Nat) (mn mx : Int) (t : List UInt8) (w : World) (hIs : Is w.heap.size w (.mk k [x0, x1, x2, x3] mn mx t a c ks)) (h6 : ks.length ≤ 100000)
    (hx : ∀ n ∈ ks, ∀ W, Is W.heap.size W n → Calls Tryd.prog 72 #[nv n] W (CpP n W)) :
    Calls Tryd.prog 72 #[nv (.mk k [x0, x1, x2, x3] mn mx t a c ks)] w (CpP (.mk k [x0, x1, x2, x3] mn mx t a c ks) w) := by
  have hnv : nv (.mk k [x0, x1, x2, x3] mn mx t a c ks) = .agg #[.int .i64 k, .int .u64 (x0 : Int), .int .u64 (x1 : Int), .int .u64 (x2 : Int), .int .u64 (x3 : Int), .slice a ks.length c, .int .i64 mn, .int .i64 mx, .string (Str t)] := rfl
  rw [hnv]
  clear hnv
  obtain ⟨nl, hnl⟩ : ∃ nl, ks.length = nl := ⟨_, rfl⟩
  rw [hnl] at h6 ⊢
  obtain ⟨_, hkc, hcm, hno, hrd, _, hall⟩ := id hIs
  have hcl := fun (W : World) (hb : Below w.heap.size w W) => clone_n a ks nl c W hnl (by omega) (fun h => ⟨hno h, by have := hno h; omega⟩) (goods_len hall) (hrd.keep hb)
  obtain ⟨B2, hB2⟩ : ∃ B2, Obj.cells #[.int .i64 k, .int .u64 (x0 : Int), .int .u64 (x1 : Int), .int .u64 (x2 : Int), .int .u64 (x3 : Int), .slice a nl c, .int .i64 mn, .int .i64 mx, .string (Str t)] 27 (0, 0) = B2 := ⟨_, rfl⟩
  obtain ⟨B4, hB4⟩ : ∃ B4, Obj.cells #[.int .i64 0, .int .u64 0, .int .u64 0, .int .u64 0, .int .u64 0, .slice none 0 0, .int .i64 0, .int .i64 0, .string ⟨#[]⟩] 27 (0, 0) = B4 := ⟨_, rfl⟩
  have z1 : (w.alloc B2).heap.size = w.heap.size + 1 := by simp
  have l2 : ((w.alloc B2).alloc B4).heap[w.heap.size]? = some B2 := block_alloc (World.alloc_heap_new w B2)
  have l4 : ((w.alloc B2).alloc B4).heap[w.heap.size + 1]? = some B4 := by rw [← z1]; exact World.alloc_heap_new _ B4
  have hB : Below w.heap.size w ((w.alloc B2).alloc B4) := ((Below.refl _ w).alloc (Nat.le_refl _) _).alloc (by simp) _
  have hc1 := hcl _ hB
  obtain ⟨W3, hW3⟩ : ∃ W3, (w.alloc B2).alloc B4 = W3 := ⟨_, rfl⟩
  have z3 : W3.heap.size = w.heap.size + 2 := by rw [← hW3]; simp
  rw [hW3] at l2 l4 hB hc1
  rw [← hB2, ← hB4] at hW3
  rw [← hB2] at l2
  rw [← hB4] at l4
  clear hB2 hB4 z1 B2 B4
  obtain ⟨u0, u1, u2, u3, u4, u5, u6, u7, u8⟩ := nd_cells l2
  have HK := Lib.hid hc1
  have HI := Lib.hid hIs
  have HX := Lib.hid hx
  have HB := Lib.hid hB
  have HW3 := Lib.hid hW3
  have H2 := Lib.hid l2
  have H4 := Lib.hid l4
  have HZ3 := Lib.hid z3
  have HNl := Lib.hid (And.intro hnl (goods_len hall))
  rw [← hW3] at u0 u1 u2 u3 u4 u5 u6 u7 u8
  clear hcl hc1 hIs hx hB hW3 l2 l4 z3 hnl hkc hcm hno hrd hall
  go_enter Tryd.func72, Tryd.ntmps72
  go_wp2_with fail
  rw [HW3.out]
  with_reducible refine HK.out.mono ?_
  rintro e w4 ⟨a4, c4, rfl, own4, hb4⟩
  have h2 := (hb4.block _ (block_lt H2.out)).trans H2.out
  have k5 := cell_block (i := 5) (show _ = some (Obj.cells _ _ _) from h2)
  have f5 := frozen_block (show _ = some (Obj.cells _ _ (0, 0)) from h2) 5
  simp only [List.getElem?_toArray, List.getElem?_cons_zero, List.getElem?_cons_succ] at k5
  have h2s := block_setCell (i := 5) (show _ = some (Obj.cells _ _ _) from h2) (.slice a4 nl c4)
  simp only [List.setIfInBounds_toArray, List.set_cons_succ, List.set_cons_zero] at h2s
  have m5 := (Mod.refl [w.heap.size] w4).setCell (p := ⟨w.heap.size, 5, none⟩) (.inl (by simp)) (.slice a4 nl c4)
  have hz3 := HZ3.out
  have own5 := own_mod own4 m5 (fun q hq => by have := (own4.lt q hq).1; simp; omega)
  have hB5 : Below w.heap.size w (w4.setCell ⟨w.heap.size, 5, none⟩ (.slice a4 nl c4)) := (HB.out.trans (hb4.mono HB.out.size)).trans (m5.toBelow (by have := hb4.size; omega) (by simp))
  have h4 := (m5.block _ (by have := block_lt H4.out; have := hb4.size; omega) (by simp)).trans ((hb4.block _ (block_lt H4.out)).trans H4.out)
  obtain ⟨W5, hW5⟩ : ∃ W5, w4.setCell ⟨w.heap.size, 5, none⟩ (.slice a4 nl c4) = W5 := ⟨_, rfl⟩
  rw [hW5] at own5 hB5 h4 h2s
  have k5' := cell_block (i := 5) (show _ = some (Obj.cells _ _ _) from h2s)
  simp only [List.getElem?_toArray, List.getElem?_cons_zero, List.getElem?_cons_succ] at k5'
  rw [← hW5] at k5'
  have HO5 := Lib.hid own5
  have HB5 := Lib.hid hB5
  have H45 := Lib.hid h4
  have H25 := Lib.hid h2s
  have HW5 := Lib.hid hW5
  clear own4 hb4 h2 h2s m5 hz3 own5 hB5 h4 hW5 u0 u1 u2 u3 u4 u5 u6 u7 u8
  go_wp2_with fail
  rw [HW5.out]
  clear k5 f5 k5'
  go_loopw [12] (fun i W => ∃ j : Nat, j ≤ nl ∧ i = .int .i64 (j : Int) ∧ CpL W3.heap.size w.heap.size ks a4 nl c4 W5 j W) (fun i _ => nl - (intOf i).toNat)
  case atStart => exact ⟨0, Nat.zero_le _, rfl, ⟨[], rfl, rfl, HO5.out, by simp, List.nodup_nil, fun _ _ => by simp [bkss]⟩, Mod.refl _ _⟩
  case round =>
    obtain ⟨j, hj, rfl, hcpl⟩ := hrel
    obtain ⟨⟨ms, hml, hme, hown, hmk, hmd, hmg⟩, hM⟩ := id hcpl
    have hz3 := HZ3.out
    have hob : ∀ q, (Value.slice a4 nl c4).ownBlock = some q → W3.heap.size ≤ q := fun q hq => (hown.lt q hq).1
    have hbw : Below w.heap.size w wr := HB5.out.trans (hM.toBelow HB5.out.size (fun q hq => by have := hob q (by simpa using hq); omega))
    have h4 := (hM.block _ (block_lt H45.out) (fun hq => by have := hob _ (by simpa using hq); omega)).trans H45.out
    have h2 := (hM.block _ (block_lt H25.out) (fun hq => by have := hob _ (by simpa using hq); omega)).trans H25.out
    by_cases hjl : j < nl
    · have hjk : j < ks.length := by rw [HNl.out.1]; exact hjl
      obtain ⟨g, rfl, hg3, hglt⟩ := own_some' hown (by omega)
      have hin : ks[j] ∈ ks := List.getElem_mem hjk
      have hdr : ks.drop j = ks[j] :: ks.drop (j + 1) := (List.getElem_cons_drop hjk).symm
      have hlist : ms.flatMap cells ++ (ks.drop j).flatMap cells = ms.flatMap cells ++ cells ks[j] ++ (ks.drop (j + 1)).flatMap cells := by rw [hdr, List.flatMap_cons, List.append_assoc]
      rw [hlist] at hown
      have hms : ∀ x ∈ ms, x.set.length = 4 := fun x hx => (hmk x hx).len
      have hpl : (ms.flatMap cells).length = j * 9 := by rw [flat_len ms hms, hml]
      have hIk : Is wr.heap.size wr ks[j] := Is.mono hbw.size (Is.all (Is.below hbw HI.out).2.2.2.2.2.2 _ hin)
      have hxk := HX.out _ hin
      have hmt := map_take' er ks j hjk
      have hset := HNl.out.2 _ hin
      have hcel : ∀ i x, (cells ks[j])[i]? = some x → wr.cell? ⟨g, j * 9 + i, none⟩ = some x := fun i x hi => by
        obtain ⟨b', o', he, hc'⟩ := (Rd.own hown) (j * 9 + i) x (by
          rw [List.append_assoc, List.getElem?_append_right (by omega), hpl, Nat.add_sub_cancel_left, List.getElem?_append_left (List.getElem?_eq_some_iff.1 hi).1]
          exact hi)
        simp only [Option.some.injEq, Addr.mk.injEq, and_true] at he
        obtain ⟨rfl, rfl⟩ := he
        simpa using hc'
      obtain ⟨kid, hkd⟩ : ∃ kid, ks[j] = kid := ⟨_, rfl⟩
      rw [hkd] at hown hIk hxk hmt hset hcel
      have hxk : ∀ W, Is W.heap.size W kid → Calls Tryd.prog 72 #[nv kid] W (CpP kid W) := hxk
      obtain ⟨y0, y1, y2, y3, hys⟩ := four' hset
      obtain ⟨kk, ksx, kmn, kmx, kt, ka, kc, kks⟩ := kid
      simp only [Nd.set] at hys
      subst hys
      have q0 := hcel 0 _ rfl
      have q1 := hcel 1 _ rfl
      have q2 := hcel 2 _ rfl
      have q3 := hcel 3 _ rfl
      have q4 := hcel 4 _ rfl
      have q5 := hcel 5 _ rfl
      have q6 := hcel 6 _ rfl
      have q7 := hcel 7 _ rfl
      have q8 := hcel 8 _ rfl
      simp only [Nat.add_zero, Nd.kind, Nd.a, Nd.kids, Nd.cap, Nd.mn, Nd.mx, Nd.text] at q0 q1 q2 q3 q4 q5 q6 q7 q8
      have hnvk : nv (.mk kk [y0, y1, y2, y3] kmn kmx kt ka kc kks) = .agg #[.int .i64 kk, .int .u64 (y0 : Int), .int .u64 (y1 : Int), .int .u64 (y2 : Int), .int .u64 (y3 : Int), .slice ka kks.length kc, .int .i64 kmn, .int .i64 kmx, .string (Str kt)] := rfl
      rw [hnvk] at hxk
      obtain ⟨kl, hkl⟩ : ∃ kl, kks.length = kl := ⟨_, rfl⟩
      rw [hkl] at hxk q5
      obtain ⟨W7, hW7⟩ : ∃ W7, wr.alloc (.cells #[.int .i64 kk, .int .u64 (y0 : Int), .int .u64 (y1 : Int), .int .u64 (y2 : Int), .int .u64 (y3 : Int), .slice ka kl kc, .int .i64 kmn, .int .i64 kmx, .string (Str kt)] 27) = W7 := ⟨_, rfl⟩
      have b7 : Below wr.heap.size wr W7 := by rw [← hW7]; exact (Below.refl _ _).alloc (Nat.le_refl _) _
      have s7 : W7.heap[wr.heap.size]? = some (.cells #[.int .i64 kk, .int .u64 (y0 : Int), .int .u64 (y1 : Int), .int .u64 (y2 : Int), .int .u64 (y3 : Int), .slice ka kl kc, .int .i64 kmn, .int .i64 kmx, .string (Str kt)] 27 (0, 0)) := by rw [← hW7]; exact heap_alloc_new wr _
      have skm : ∀ W : World, W.heap[w.heap.size]? = W7.heap[w.heap.size]? → W.heap[wr.heap.size]? = W7.heap[wr.heap.size]? → W.cell? ⟨w.heap.size, 5, none⟩ = some (.slice (some ⟨g, 0, none⟩) nl c4) ∧ (W.cell? ⟨wr.heap.size, 0, none⟩ = some (.int .i64 kk) ∧ W.cell? ⟨wr.heap.size, 1, none⟩ = some (.int .u64 (y0 : Int)) ∧ W.cell? ⟨wr.heap.size, 2, none⟩ = some (.int .u64 (y1 : Int)) ∧ W.cell? ⟨wr.heap.size, 3, none⟩ = some (.int .u64 (y2 : Int)) ∧ W.cell? ⟨wr.heap.size, 4, none⟩ = some (.int .u64 (y3 : Int)) ∧ W.cell? ⟨wr.heap.size, 5, none⟩ = some (.slice ka kl kc) ∧ W.cell? ⟨wr.heap.size, 6, none⟩ = some (.int .i64 kmn) ∧ W.cell? ⟨wr.heap.size, 7, none⟩ = some (.int .i64 kmx) ∧ W.cell? ⟨wr.heap.size, 8, none⟩ = some (.string (Str kt))) := fun W e1 e2 => by
        have e3 := e1.trans ((b7.block _ (block_lt h2)).trans h2)
        refine ⟨?_, nd_cells (e2.trans s7)⟩
        rw [cell_block e3]; rfl
      have hl2 := block_lt h2
      have hl7 := block_lt s7
      have sk := fun (W : World) (hb : Below W7.heap.size W7 W) => skm W (hb.block _ (by have := b7.size; omega)) (hb.block _ hl7)
      have hgne : w.heap.size ≠ g ∧ wr.heap.size ≠ g := ⟨by omega, by omega⟩
      have skg : ∀ (w8 W : World), Below W7.heap.size W7 w8 → Mod [g] w8 W → W.cell? ⟨w.heap.size, 5, none⟩ = some (.slice (some ⟨g, 0, none⟩) nl c4) ∧ (W.cell? ⟨wr.heap.size, 0, none⟩ = some (.int .i64 kk) ∧ W.cell? ⟨wr.heap.size, 1, none⟩ = some (.int .u64 (y0 : Int)) ∧ W.cell? ⟨wr.heap.size, 2, none⟩ = some (.int .u64 (y1 : Int)) ∧ W.cell? ⟨wr.heap.size, 3, none⟩ = some (.int .u64 (y2 : Int)) ∧ W.cell? ⟨wr.heap.size, 4, none⟩ = some (.int .u64 (y3 : Int)) ∧ W.cell? ⟨wr.heap.size, 5, none⟩ = some (.slice ka kl kc) ∧ W.cell? ⟨wr.heap.size, 6, none⟩ = some (.int .i64 kmn) ∧ W.cell? ⟨wr.heap.size, 7, none⟩ = some (.int .i64 kmx) ∧ W.cell? ⟨wr.heap.size, 8, none⟩ = some (.string (Str kt))) := fun w8 W hb hM => skm W ((hM.block _ (by have := hb.size; have := b7.size; omega) (by simp; exact hgne.1)).trans (hb.block _ (by have := b7.size; omega))) ((hM.block _ (by have := hb.size; omega) (by simp; exact hgne.2)).trans (hb.block _ hl7))
      have HSg := Lib.hid skg
      have HXk := Lib.hid (fun (W : World) (hb : Below W7.heap.size W7 W) => hxk W (Is.mono (Nat.le_trans b7.size hb.size) (Is.below (hb.mono b7.size) (Is.below b7 hIk))))
      have HSk := Lib.hid sk
      have HW7 := Lib.hid hW7
      have hown7 := own_keep hown b7
      have hcell8 : ∀ W, Below W7.heap.size W7 W → ∀ i x, ((cells (.mk kk [y0, y1, y2, y3] kmn kmx kt ka kc kks)))[i]? = some x → W.cell? ⟨g, j * 9 + i, none⟩ = some x := fun W hb i x hi => by
        rw [hb.cell (p := ⟨g, j * 9 + i, none⟩) (by have := b7.size; show g < _; omega), b7.cell (p := ⟨g, j * 9 + i, none⟩) hglt]
        exact hcel i x hi
      have hfr8 : ∀ W, Below W7.heap.size W7 W → ∀ i, W.frozen? ⟨g, i, none⟩ = false := fun W hb i => (own_keep hown7 hb).frozenAt i
      have hstep := fun (w8 : World) (hb : Below W7.heap.size W7 w8) (m : Nd) (he : er m = er ks[j]) (hI : Od W7.heap.size w8 m) (hnd : (bks m).Nodup) => CpL.step hcpl (by have := hM.size; have := HB5.out.size; omega) hjk HNl.out.2 (b7.trans (hb.mono b7.size)) m he (hI.base b7.size) hnd
      rw [hkd] at hstep
      have HStep := Lib.hid hstep
      have HC8 := Lib.hid (And.intro hcell8 hfr8)
      obtain ⟨s0, s1, s2, s3, s4, s5, s6, s7', s8, s9⟩ := sk W7 (Below.refl _ _)
      clear hstep hcell8 hfr8 hown7 hcpl hown hpl hmk hme hml hmt hM b7 hg3 hglt hxk sk skm skg hgne hl2 hl7 hW7 hnvk hkl hcel hset hkd hIk hms hlist hdr hin h2 h4 hbw hob hz3 s7 hmd hmg
      go_wp2_with fail
      rw [HW7.out]
      have n0 : Below W7.heap.size W7 W7.drew := (Below.refl _ _).drew
      have hjl2 : (j : Int) < (nl : Int) := by omega
      refine wp_region_noPanic ?_
      refine wp_region_held_drew (S := fun W => W.cell? ⟨w.heap.size, 5, none⟩ = some (.slice (some ⟨g, 0, none⟩) nl c4) ∧ (W.cell? ⟨wr.heap.size, 0, none⟩ = some (.int .i64 kk) ∧ W.cell? ⟨wr.heap.size, 1, none⟩ = some (.int .u64 (y0 : Int)) ∧ W.cell? ⟨wr.heap.size, 2, none⟩ = some (.int .u64 (y1 : Int)) ∧ W.cell? ⟨wr.heap.size, 3, none⟩ = some (.int .u64 (y2 : Int)) ∧ W.cell? ⟨wr.heap.size, 4, none⟩ = some (.int .u64 (y3 : Int)) ∧ W.cell? ⟨wr.heap.size, 5, none⟩ = some (.slice ka kl kc) ∧ W.cell? ⟨wr.heap.size, 6, none⟩ = some (.int .i64 kmn) ∧ W.cell? ⟨wr.heap.size, 7, none⟩ = some (.int .i64 kmx) ∧ W.cell? ⟨wr.heap.size, 8, none⟩ = some (.string (Str kt)))) (by kernel_rfl) (HSk.out _ n0) (fun hHeld => ?_)
      (refine wpAnyH_take (i := 0) (v := ?v0n1) (by simp only [List.getElem?_toArray, List.getElem?_cons_succ, List.getElem?_cons_zero]; rfl) (by kernel_rfl) (by kernel_rfl) (by kernel_rfl) (fun _ _ _ h => False.elim h) (Or.inl ⟨by rfl, ?hy0n1⟩) (by assumption) ?rest0n1; (case hy0n1 => (intro w hSw; (try dsimp only at hSw); go_simp; (try with_reducible rfl))); (try simp only [Act.put, List.setIfInBounds_toArray, List.set_cons_zero, List.set_cons_succ]))
      (refine wpAnyH_take (i := 1) (v := ?v1n2) (by simp only [List.getElem?_toArray, List.getElem?_cons_succ, List.getElem?_cons_zero]; rfl) (by kernel_rfl) (by kernel_rfl) (by kernel_rfl) (fun _ _ _ h => False.elim h) (Or.inl ⟨by rfl, ?hy1n2⟩) (by assumption) ?rest1n2; (case hy1n2 => (intro w hSw; (try dsimp only at hSw); go_simp; (try with_reducible rfl))); (try simp only [Act.put, List.setIfInBounds_toArray, List.set_cons_zero, List.set_cons_succ]))
      (refine wpAnyH_take (i := 2) (v := ?v2n3) (by simp only [List.getElem?_toArray, List.getElem?_cons_succ, List.getElem?_cons_zero]; rfl) (by kernel_rfl) (by kernel_rfl) (by kernel_rfl) (fun _ _ _ h => False.elim h) (Or.inl ⟨by rfl, ?hy2n3⟩) (by assumption) ?rest2n3; (case hy2n3 => (intro w hSw; (try dsimp only at hSw); go_simp; (try with_reducible rfl))); (try simp only [Act.put, List.setIfInBounds_toArray, List.set_cons_zero, List.set_cons_succ]))
      (refine wpAnyH_take (i := 3) (v := ?v3n4) (by simp only [List.getElem?_toArray, List.getElem?_cons_succ, List.getElem?_cons_zero]; rfl) (by kernel_rfl) (by kernel_rfl) (by kernel_rfl) (fun _ _ _ h => False.elim h) (Or.inl ⟨by rfl, ?hy3n4⟩) (by assumption) ?rest3n4; (case hy3n4 => (intro w hSw; (try dsimp only at hSw); go_simp; (try with_reducible rfl))); (try simp only [Act.put, List.setIfInBounds_toArray, List.set_cons_zero, List.set_cons_succ]))
      (refine wpAnyH_ready (rs := [4]) (by kernel_rfl) (by simp) ?_; refine AllReadyH.cons (o := _) (by simp only [List.getElem?_toArray, List.getElem?_cons_succ, List.getElem?_cons_zero]; rfl) (fun K hK => ?_) AllReadyH.nil; go_simp; ((with_reducible refine (HXk.out _ n0).mono ?_); rintro e w8 ⟨m, rfl, hme, hmi, hmb, hb8⟩; have n1 := n0.trans (hb8.mono n0.size)); refine hK.out _ _ (by exact HSk.out _ n1) (fun hHeld => ?_); clear hK K; (try simp only [Act.put, List.setIfInBounds_toArray, List.set_cons_zero, List.set_cons_succ]))
      obtain ⟨v0, v1, v2, v3, hvs⟩ := four' hmi.len
      obtain ⟨k', mn', mx', a', nl', c', t', hnv, hcl⟩ := nv_explicit hvs
      have HS8 := Lib.hid (HStep.out w8 n1 m hme hmi hmb _ _ _ _ _ _ _ _ _ hcl)
      have p0 := HC8.out.1 w8 n1 0 _ rfl
      have p1 := HC8.out.1 w8 n1 1 _ rfl
      have p2 := HC8.out.1 w8 n1 2 _ rfl
      have p3 := HC8.out.1 w8 n1 3 _ rfl
      have p4 := HC8.out.1 w8 n1 4 _ rfl
      have p5 := HC8.out.1 w8 n1 5 _ rfl
      have p6 := HC8.out.1 w8 n1 6 _ rfl
      have p7 := HC8.out.1 w8 n1 7 _ rfl
      have p8 := HC8.out.1 w8 n1 8 _ rfl
      simp only [Nat.add_zero] at p0
      have f0 := HC8.out.2 w8 n1 (j * 9)
      have f1 := HC8.out.2 w8 n1 (j * 9 + 1)
      have f2 := HC8.out.2 w8 n1 (j * 9 + 2)
      have f3 := HC8.out.2 w8 n1 (j * 9 + 3)
      have f4 := HC8.out.2 w8 n1 (j * 9 + 4)
      have f5 := HC8.out.2 w8 n1 (j * 9 + 5)
      have f6 := HC8.out.2 w8 n1 (j * 9 + 6)
      have f7 := HC8.out.2 w8 n1 (j * 9 + 7)
      have f8 := HC8.out.2 w8 n1 (j * 9 + 8)
      simp only [hnv]
      clear hnv hcl hvs hme hmi hmb hb8
      (refine wpAnyH_take (i := 5) (v := ?v5n5) (by simp only [List.getElem?_toArray, List.getElem?_cons_succ, List.getElem?_cons_zero]; rfl) (by kernel_rfl) (by kernel_rfl) (by kernel_rfl) (fun _ _ _ h => False.elim h) (Or.inl ⟨by rfl, ?hy5n5⟩) (by assumption) ?rest5n5; (case hy5n5 => (intro w hSw; (try dsimp only at hSw); go_simp; (try with_reducible rfl))); (try simp only [Act.put, List.setIfInBounds_toArray, List.set_cons_zero, List.set_cons_succ]))
      (refine wpAnyH_ready (rs := [6]) (by kernel_rfl) (by simp) ?_; refine AllReadyH.cons (o := _) (by simp only [List.getElem?_toArray, List.getElem?_cons_succ, List.getElem?_cons_zero]; rfl) (fun K hK => ?_) AllReadyH.nil; go_simp; (skip); refine hK.out _ _ (by (refine HSg.out w8 _ n1 ?_; exact put9o_mod w8 g (j * 9) (.int .i64 k') (.int .u64 (v0 : Int)) (.int .u64 (v1 : Int)) (.int .u64 (v2 : Int)) (.int .u64 (v3 : Int)) (.slice a' nl' c') (.int .i64 mn') (.int .i64 mx') (.string (Str t')))) (fun hHeld => ?_); clear hK K; (try simp only [Act.put, List.setIfInBounds_toArray, List.set_cons_zero, List.set_cons_succ]))
      refine wpAnyH_done (by kernel_rfl) ?_ _
      refine NoPanic.normal ?_
      go_wp2
      go_roundw
      case rel => exact ⟨j + 1, by omega, by go_num, HS8.out⟩
      case measure => simp [intOf]; omega
    · obtain rfl : j = nl := by omega
      have hdrop : ks.drop j = [] := List.drop_eq_nil_of_le (by rw [HNl.out.1]; exact Nat.le_refl _)
      have htake : ks.take j = ks := List.take_of_length_le (by rw [HNl.out.1]; exact Nat.le_refl _)
      rw [hdrop, List.flatMap_nil, List.append_nil] at hown
      rw [htake] at hme
      obtain ⟨u0, u1, u2, u3, u4, u5, u6, u7, u8⟩ := nd_cells h2
      have d0 := cell_block h4 0
      have d1 := cell_block h4 1
      have d2 := cell_block h4 2
      have d3 := cell_block h4 3
      have d4 := cell_block h4 4
      have d5 := cell_block h4 5
      have d6 := cell_block h4 6
      have d7 := cell_block h4 7
      have d8 := cell_block h4 8
      simp only [List.getElem?_toArray, List.getElem?_cons_zero, List.getElem?_cons_succ] at d0 d1 d2 d3 d4 d5 d6 d7 d8
      have f0 := frozen_block (show _ = some (Obj.cells _ _ (0, 0)) from h4) 0
      have f1 := frozen_block (show _ = some (Obj.cells _ _ (0, 0)) from h4) 1
      have f2 := frozen_block (show _ = some (Obj.cells _ _ (0, 0)) from h4) 2
      have f3 := frozen_block (show _ = some (Obj.cells _ _ (0, 0)) from h4) 3
      have f4 := frozen_block (show _ = some (Obj.cells _ _ (0, 0)) from h4) 4
      have f5 := frozen_block (show _ = some (Obj.cells _ _ (0, 0)) from h4) 5
      have f6 := frozen_block (show _ = some (Obj.cells _ _ (0, 0)) from h4) 6
      have f7 := frozen_block (show _ = some (Obj.cells _ _ (0, 0)) from h4) 7
      have f8 := frozen_block (show _ = some (Obj.cells _ _ (0, 0)) from h4) 8
      have hpb := put9_block h4 (.int .i64 k) (.int .u64 (x0 : Int)) (.int .u64 (x1 : Int)) (.int .u64 (x2 : Int)) (.int .u64 (x3 : Int)) (.slice a4 j c4) (.int .i64 mn) (.int .i64 mx) (.string (Str t))
      have hpm := put9_mod wr (w.heap.size + 1) (.int .i64 k) (.int .u64 (x0 : Int)) (.int .u64 (x1 : Int)) (.int .u64 (x2 : Int)) (.int .u64 (x3 : Int)) (.slice a4 j c4) (.int .i64 mn) (.int .i64 mx) (.string (Str t))
      have hnvm : nv (.mk k [x0, x1, x2, x3] mn mx t a4 c4 ms) = .agg #[.int .i64 k, .int .u64 (x0 : Int), .int .u64 (x1 : Int), .int .u64 (x2 : Int), .int .u64 (x3 : Int), .slice a4 j c4, .int .i64 mn, .int .i64 mx, .string (Str t)] := by rw [← hml]; rfl
      have hng : ∀ q, (Value.slice a4 j c4).ownBlock = some q → q ∉ bkss ms := hmg
      have hre : CpP (.mk k [x0, x1, x2, x3] mn mx t a c ks) w (.returned (.agg #[.int .i64 k, .int .u64 (x0 : Int), .int .u64 (x1 : Int), .int .u64 (x2 : Int), .int .u64 (x3 : Int), .slice a4 j c4, .int .i64 mn, .int .i64 mx, .string (Str t)])) (put9 wr (w.heap.size + 1) (.int .i64 k) (.int .u64 (x0 : Int)) (.int .u64 (x1 : Int)) (.int .u64 (x2 : Int)) (.int .u64 (x3 : Int)) (.slice a4 j c4) (.int .i64 mn) (.int .i64 mx) (.string (Str t))) := by
        refine ⟨.mk k [x0, x1, x2, x3] mn mx t a4 c4 ms, by rw [hnvm], by simp only [er, ers_map, hme], ⟨rfl, ?_, Ods.of fun x hx => ?_⟩, ?_, hbw.trans (hpm.toBelow hbw.size (by simp))⟩
        · rw [hml]
          exact own_base (own_mod hown hpm (fun q hq => by have := hob q hq; simp; omega)) (by omega)
        · exact (Od.mod hpm (hmk x hx) fun q hq => by have := ((hmk x hx).lt q hq).1; simp; omega).base (by omega)
        · rw [bks, hml, List.nodup_append]
          refine ⟨by cases h : (Value.slice a4 j c4).ownBlock <;> simp, hmd, fun x hx y hy e => ?_⟩
          subst e
          exact hng x (Option.mem_toList.1 hx) hy
      have HRe := Lib.hid hre
      have HPb := Lib.hid hpb
      clear hre hpb hpm hnvm hng hmd hmg hown hmk hme hml hM hcpl hob hbw h2 h4 hdrop htake hz3
      go_wp2
      ((try simp only [Exit.inBlock, Exit.then]); refine bodyPost_ret (results_cell_row rfl _ _ (w.heap.size + 1) 27 _ (0, 0) _ rfl (HPb.out) Tryd.underlying27 rfl ?hi1) rfl ?_; (case hi1 => kernel_rfl))
      exact HRe.out
mutual
/-- tree.copied. -/
theorem copied_all : ∀ (n : Nd), sz n ≤ 100000 → ∀ w, Is w.heap.size w n → Calls Tryd.prog 72 #[nv n] w (CpP n w)
  | .mk k s mn mx t a c ks, h1, w, hIs => by
    have hk := szs_kids k s mn mx t a c ks h1
    have hx := copieds_all ks hk.1
    obtain ⟨x0, x1, x2, x3, hl⟩ := four' hIs.1
    subst hl
    exact copied_step k x0 x1 x2 x3 a ks c mn mx t w hIs hk.2 hx
theorem copieds_all : ∀ (ks : List Nd), szs ks ≤ 100000 → ∀ n ∈ ks, ∀ W, Is W.heap.size W n → Calls Tryd.prog 72 #[nv n] W (CpP n W)
  | [], _, n, hn, _, _ => by cases hn
  | m :: r, h1, n, hn, W, hIs => by
    simp only [szs] at h1
    by_cases h : n = m
    · rw [h] at hIs ⊢
      exact copied_all m (by omega) W hIs
    · exact copieds_all r (by omega) n (by rcases List.mem_cons.1 hn with h3 | h3; exact absurd h3 h; exact h3) W hIs
end
/-- What Copy answers: a copy, or an empty node. -/
def CoP (n : Nd) (w : World) (e : Ending) (w' : World) : Prop := ∃ m, e = .returned (nv m) ∧ (rgt n = true → er m = er n) ∧ (rgt n = false → m = .mk 0 [0, 0, 0, 0] 0 0 [] none 0 []) ∧ Od w.heap.size w' m ∧ (bks m).Nodup ∧ Below w.heap.size w w'
set_option maxRecDepth 100000 in
set_option maxHeartbeats 8000000 in
/-- tree.Copy. -/
theorem Copy_c (n : Nd) (ht : ∀ x ∈ walk n, x.1.text.length ≤ 9223372036854775807) (w : World) (hIs : Is w.heap.size w n) : Calls Tryd.prog 46 #[nv n] w (CoP n w) := by
  have hr := fun W h => right_c n ht W h
  have hcp := fun (h : rgt n = true) W h2 => copied_all n (by have := rgt_sz h; omega) W h2
  obtain ⟨x0, x1, x2, x3, hs⟩ := four' hIs.len
  obtain ⟨k, mn, mx, a, nl, c, t, hnv, _⟩ := nv_explicit hs
  obtain ⟨B2, hB2⟩ : ∃ B2, Obj.cells #[.int .i64 k, .int .u64 (x0 : Int), .int .u64 (x1 : Int), .int .u64 (x2 : Int), .int .u64 (x3 : Int), .slice a nl c, .int .i64 mn, .int .i64 mx, .string (Str t)] 27 (0, 0) = B2 := ⟨_, rfl⟩
  obtain ⟨B4, hB4⟩ : ∃ B4, Obj.cells #[.int .i64 0, .int .u64 0, .int .u64 0, .int .u64 0, .int .u64 0, .slice none 0 0, .int .i64 0, .int .i64 0, .string ⟨#[]⟩] 27 (0, 0) = B4 := ⟨_, rfl⟩
  have z1 : (w.alloc B2).heap.size = w.heap.size + 1 := by simp
  have l2 : ((w.alloc B2).alloc B4).heap[w.heap.size]? = some B2 := block_alloc (World.alloc_heap_new w B2)
  have l4 : ((w.alloc B2).alloc B4).heap[w.heap.size + 1]? = some B4 := by rw [← z1]; exact World.alloc_heap_new _ B4
  have hB : Below w.heap.size w ((w.alloc B2).alloc B4) := ((Below.refl _ w).alloc (Nat.le_refl _) _).alloc (by simp) _
  obtain ⟨W3, hW3⟩ : ∃ W3, (w.alloc B2).alloc B4 = W3 := ⟨_, rfl⟩
  have z3 : W3.heap.size = w.heap.size + 2 := by rw [← hW3]; simp
  rw [hW3] at l2 l4 hB
  rw [← hB2, ← hB4] at hW3
  rw [← hB2] at l2
  rw [← hB4] at l4
  clear hB2 hB4 z1 B2 B4
  have hI := fun (W : World) (hb : Below w.heap.size w W) => Is.mono hb.size (Is.below hb hIs)
  have hr3 := hr W3 (hI W3 hB)
  have hcp3 : ∀ (_ : rgt n = true) W, Below w.heap.size w W → Calls Tryd.prog 72 #[nv n] W fun e w' => ∃ m, e = .returned (nv m) ∧ er m = er n ∧ Od W.heap.size w' m ∧ (bks m).Nodup ∧ Below W.heap.size W w' := fun h W hb => hcp h W (hI W hb)
  rw [hnv] at hr3 hcp3 ⊢
  obtain ⟨u0, u1, u2, u3, u4, u5, u6, u7, u8⟩ := nd_cells l2
  have hcl := fun (W : World) (hb : Below W3.heap.size W3 W) => (⟨nd_cells ((hb.block _ (block_lt l2)).trans l2), (hb.block _ (block_lt l4)).trans l4⟩ : (_ ∧ W.heap[w.heap.size + 1]? = some (Obj.cells #[.int .i64 0, .int .u64 0, .int .u64 0, .int .u64 0, .int .u64 0, .slice none 0 0, .int .i64 0, .int .i64 0, .string ⟨#[]⟩] 27 (0, 0))))
  have HR := Lib.hid hr3
  have HCp := Lib.hid hcp3
  have HC := Lib.hid hcl
  have HB := Lib.hid hB
  have HW3 := Lib.hid hW3
  have HZ := Lib.hid z3
  rw [← hW3] at u0 u1 u2 u3 u4 u5 u6 u7 u8
  clear hr hr3 hcp hcp3 hcl hB hW3 l2 l4 z3 hI hnv hs ht hIs
  have HFin := Lib.hid (show ∀ m e w', e = .returned (nv m) → (rgt n = true → er m = er n) → (rgt n = false → m = .mk 0 [0, 0, 0, 0] 0 0 [] none 0 []) → Od w.heap.size w' m → (bks m).Nodup → Below w.heap.size w w' → CoP n w e w' from fun m e w' h1 h2 h3 h4 h5 h6 => ⟨m, h1, h2, h3, h4, h5, h6⟩)
  cases hrg : rgt n with
  | true =>
    rw [hrg] at HR
    have HCp := Lib.hid (HCp.out hrg)
    have HRg := Lib.hid hrg
    clear hrg
    go_enter Tryd.func46, Tryd.ntmps46
    go_wp2_with fail
    rw [HW3.out]
    with_reducible refine HR.out.mono ?_
    rintro e w4 ⟨rfl, hb4⟩
    obtain ⟨⟨p0, p1, p2, p3, p4, p5, p6, p7, p8⟩, _⟩ := HC.out _ hb4
    have HB4 := Lib.hid (HB.out.trans (hb4.mono HB.out.size))
    have H34 := Lib.hid hb4
    clear hb4
    go_wp2_with fail
    with_reducible refine (HCp.out _ HB4.out).mono ?_
    rintro e w5 ⟨m, rfl, hme, hmi, hmb, hb5⟩
    have h34 := H34.out.trans (hb5.mono H34.out.size)
    obtain ⟨_, h5⟩ := HC.out _ h34
    obtain ⟨v0, v1, v2, v3, hvs⟩ := four' hmi.len
    obtain ⟨k', mn', mx', a', nl', c', t', hnv, hcl⟩ := nv_explicit hvs
    have d0 := cell_block h5 0
    have d1 := cell_block h5 1
    have d2 := cell_block h5 2
    have d3 := cell_block h5 3
    have d4 := cell_block h5 4
    have d5 := cell_block h5 5
    have d6 := cell_block h5 6
    have d7 := cell_block h5 7
    have d8 := cell_block h5 8
    simp only [List.getElem?_toArray, List.getElem?_cons_zero, List.getElem?_cons_succ] at d0 d1 d2 d3 d4 d5 d6 d7 d8
    have f0 := frozen_block (show _ = some (Obj.cells _ _ (0, 0)) from h5) 0
    have f1 := frozen_block (show _ = some (Obj.cells _ _ (0, 0)) from h5) 1
    have f2 := frozen_block (show _ = some (Obj.cells _ _ (0, 0)) from h5) 2
    have f3 := frozen_block (show _ = some (Obj.cells _ _ (0, 0)) from h5) 3
    have f4 := frozen_block (show _ = some (Obj.cells _ _ (0, 0)) from h5) 4
    have f5 := frozen_block (show _ = some (Obj.cells _ _ (0, 0)) from h5) 5
    have f6 := frozen_block (show _ = some (Obj.cells _ _ (0, 0)) from h5) 6
    have f7 := frozen_block (show _ = some (Obj.cells _ _ (0, 0)) from h5) 7
    have f8 := frozen_block (show _ = some (Obj.cells _ _ (0, 0)) from h5) 8
    have hpb := put9_block h5 (.int .i64 k') (.int .u64 (v0 : Int)) (.int .u64 (v1 : Int)) (.int .u64 (v2 : Int)) (.int .u64 (v3 : Int)) (.slice a' nl' c') (.int .i64 mn') (.int .i64 mx') (.string (Str t'))
    have hpm := put9_mod w5 (w.heap.size + 1) (.int .i64 k') (.int .u64 (v0 : Int)) (.int .u64 (v1 : Int)) (.int .u64 (v2 : Int)) (.int .u64 (v3 : Int)) (.slice a' nl' c') (.int .i64 mn') (.int .i64 mx') (.string (Str t'))
    have hz := HZ.out
    have hz4 := H34.out.size
    have hre := HFin.out m (.returned (.agg #[.int .i64 k', .int .u64 (v0 : Int), .int .u64 (v1 : Int), .int .u64 (v2 : Int), .int .u64 (v3 : Int), .slice a' nl' c', .int .i64 mn', .int .i64 mx', .string (Str t')])) _ (by rw [hnv]) (fun _ => hme) (fun h => by rw [HRg.out] at h; cases h) ((Od.mod hpm hmi fun q hq => by have := (hmi.lt q hq).1; simp; omega).base (by omega)) hmb ((HB4.out.trans (hb5.mono HB4.out.size)).trans (hpm.toBelow (by have := HB4.out.size; have := hb5.size; omega) (by simp)))
    have HRe := Lib.hid hre
    have HPb := Lib.hid hpb
    simp only [hnv]
    clear hre hpb hpm hnv hcl hvs hme hmi hmb hb5 h34 h5 hz hz4
    go_wp2
    ((try simp only [Exit.inBlock, Exit.then]); refine bodyPost_ret (results_cell_row rfl _ _ (w.heap.size + 1) 27 _ (0, 0) _ rfl (HPb.out) Tryd.underlying27 rfl ?hi2) rfl ?_; (case hi2 => kernel_rfl))
    exact HRe.out
  | false =>
    rw [hrg] at HR
    have HRg := Lib.hid hrg
    clear hrg HCp
    go_enter Tryd.func46, Tryd.ntmps46
    go_wp2_with fail
    rw [HW3.out]
    with_reducible refine HR.out.mono ?_
    rintro e w5 ⟨rfl, hb4⟩
    obtain ⟨_, h5⟩ := HC.out _ hb4
    have d0 := cell_block h5 0
    have d1 := cell_block h5 1
    have d2 := cell_block h5 2
    have d3 := cell_block h5 3
    have d4 := cell_block h5 4
    have d5 := cell_block h5 5
    have d6 := cell_block h5 6
    have d7 := cell_block h5 7
    have d8 := cell_block h5 8
    simp only [List.getElem?_toArray, List.getElem?_cons_zero, List.getElem?_cons_succ] at d0 d1 d2 d3 d4 d5 d6 d7 d8
    have f0 := frozen_block (show _ = some (Obj.cells _ _ (0, 0)) from h5) 0
    have f1 := frozen_block (show _ = some (Obj.cells _ _ (0, 0)) from h5) 1
    have f2 := frozen_block (show _ = some (Obj.cells _ _ (0, 0)) from h5) 2
    have f3 := frozen_block (show _ = some (Obj.cells _ _ (0, 0)) from h5) 3
    have f4 := frozen_block (show _ = some (Obj.cells _ _ (0, 0)) from h5) 4
    have f5 := frozen_block (show _ = some (Obj.cells _ _ (0, 0)) from h5) 5
    have f6 := frozen_block (show _ = some (Obj.cells _ _ (0, 0)) from h5) 6
    have f7 := frozen_block (show _ = some (Obj.cells _ _ (0, 0)) from h5) 7
    have f8 := frozen_block (show _ = some (Obj.cells _ _ (0, 0)) from h5) 8
    have hpb := put9_block h5 (.int .i64 0) (.int .u64 0) (.int .u64 0) (.int .u64 0) (.int .u64 0) (.slice none 0 0) (.int .i64 0) (.int .i64 0) (.string ⟨#[]⟩)
    have hpm := put9_mod w5 (w.heap.size + 1) (.int .i64 0) (.int .u64 0) (.int .u64 0) (.int .u64 0) (.int .u64 0) (.slice none 0 0) (.int .i64 0) (.int .i64 0) (.string ⟨#[]⟩)
    have hre := HFin.out (.mk 0 [0, 0, 0, 0] 0 0 [] none 0 []) (.returned (.agg #[.int .i64 0, .int .u64 0, .int .u64 0, .int .u64 0, .int .u64 0, .slice none 0 0, .int .i64 0, .int .i64 0, .string ⟨#[]⟩])) _ rfl (fun h => by rw [HRg.out] at h; cases h) (fun _ => rfl) ⟨rfl, World.ownsRow_nil _ _ _ _, trivial⟩ List.nodup_nil ((HB.out.trans (hb4.mono HB.out.size)).trans (hpm.toBelow (by have := HB.out.size; have := hb4.size; omega) (by simp)))
    have HRe := Lib.hid hre
    have HPb := Lib.hid hpb
    clear hre hpb hpm h5 hb4
    go_wp2
    ((try simp only [Exit.inBlock, Exit.then]); refine bodyPost_ret (results_cell_row rfl _ _ (w.heap.size + 1) 27 _ (0, 0) _ rfl (HPb.out) Tryd.underlying27 rfl ?hi3) rfl ?_; (case hi3 => kernel_rfl))
    exact HRe.out
end Rx
end Go.Proofs.YtoeeddfinmfnoaaDoor
