import Derived.Test.YtoeeddfinmfnoaaDoorQRxCopy
import Derived.Test.YtoeeddfinmfnoaaDoorQTreeBnd
import Derived.Test.YtoeeddfinmfnoaaDoorQRxName
/- The walk of package regex: simple (a tree of the call's own, changed where it lies). -/
namespace Go.Proofs.YtoeeddfinmfnoaaDoor
namespace Kt
end Kt
namespace St
end St
namespace Sp
end Sp
namespace Bk
end Bk
namespace Tr
end Tr
open Go Go.RowKit Kt St Sp Bk Tr
namespace Rx
theorem least_of {P : Nat → Prop} : ∀ (k : Nat), P k → ∃ m, P m ∧ ∀ j, P j → m ≤ j := by
  intro k
  induction k using Nat.strongRecOn with
  | _ k ih =>
    intro hk
    by_cases h : ∃ j, j < k ∧ P j
    · obtain ⟨j, h1, h2⟩ := h
      exact ih j h1 h2
    · exact ⟨k, hk, fun j hj => Nat.le_of_not_lt fun hl => h ⟨j, hl, hj⟩⟩
open Classical in
/-- The least number with a property. -/
noncomputable def msr (P : Nat → Prop) : Nat := if h : ∃ m, P m ∧ ∀ j, P j → m ≤ j then Classical.choose h else 0
theorem msr_at {P : Nat → Prop} {k : Nat} (h : P k) : P (msr P) ∧ msr P ≤ k := by
  have hx := least_of k h
  unfold msr
  rw [dif_pos hx]
  exact ⟨(Classical.choose_spec hx).1, (Classical.choose_spec hx).2 k h⟩
/-- What simple answers. -/
def SiP (B : Nat) (n : Nd) (w : World) (e : Ending) (w' : World) : Prop := ∃ m, e = .returned (nv m) ∧ er m = simp n ∧ Od B w' m ∧ (bks m).Sublist (bks n) ∧ Mod (bks n) w w'
/-- Where simple's first loop stands: at a node below, as simple as the first. -/
structure DnL (B P : Nat) (n : Nd) (W3 : World) (m : Nd) (W : World) : Prop where
  blk : W.heap[P]? = some (.cells (cells m).toArray 27 (0, 0))
  od : Od B W m
  eq : simp m = simp n
  sub : (bks m).Sublist (bks n)
  mod : Mod [P] W3 W
/-- Where its second loop stands: the first j kids are simple. -/
structure SmL (B : Nat) (ks : List Nd) (a : Option Addr) (nl c : Nat) (W5 : World) (j : Nat) (W : World) : Prop where
  ex : ∃ ms : List Nd, ms.length = j ∧ ms.map er = (ks.take j).map simp ∧ W.ownsRow B 27 9 (.slice a nl c) nl (ms.flatMap cells ++ (ks.drop j).flatMap cells) ∧ (∀ x ∈ ms, Od B W x) ∧ Ods B W (ks.drop j) ∧ (bkss ms).Sublist (bkss (ks.take j))
  mod : Mod ((Value.slice a nl c).ownBlock.toList ++ bkss ks) W5 W
theorem bkss_take_drop (ks : List Nd) (j : Nat) (hj : j < ks.length) : bkss ks = bkss (ks.take j) ++ (bks ks[j] ++ bkss (ks.drop (j + 1))) := by
  have h : ks = ks.take j ++ ks[j] :: ks.drop (j + 1) := by rw [List.getElem_cons_drop hj, List.take_append_drop]
  have h2 := congrArg bkss h
  rw [bkss_append] at h2
  exact h2
theorem SmL.step {B g nl c j : Nat} {ks : List Nd} {W5 W W7 w8 : World} (h : SmL B ks (some ⟨g, 0, none⟩) nl c W5 j W) (hnd : (bkss ks).Nodup) (hg : g ∉ bkss ks) (hj : j < ks.length) (hb : Below W.heap.size W W7) (m : Nd) (he : er m = simp ks[j]) (hI : Od B w8 m) (hs : (bks m).Sublist (bks ks[j])) (hM8 : Mod (bks ks[j]) W7 w8)
    (v0 v1 v2 v3 v4 v5 v6 v7 v8 : Value) (hv : cells m = [v0, v1, v2, v3, v4, v5, v6, v7, v8]) : SmL B ks (some ⟨g, 0, none⟩) nl c W5 (j + 1) (put9o w8 g (j * 9) v0 v1 v2 v3 v4 v5 v6 v7 v8) := by
  obtain ⟨⟨ms, hml, hme, hown, hmk, hdk, hms⟩, hM⟩ := h
  have htd := bkss_take_drop ks j hj
  rw [htd, List.nodup_append, List.nodup_append] at hnd
  obtain ⟨hn1, ⟨hn2, hn3, hn4⟩, hn5⟩ := hnd
  rw [htd, List.mem_append, List.mem_append, not_or, not_or] at hg
  obtain ⟨hg1, hg2, hg3⟩ := hg
  have hdr : ks.drop j = ks[j] :: ks.drop (j + 1) := (List.getElem_cons_drop hj).symm
  rw [hdr] at hown hdk
  have hlist : ms.flatMap cells ++ (ks[j] :: ks.drop (j + 1)).flatMap cells = ms.flatMap cells ++ cells ks[j] ++ (ks.drop (j + 1)).flatMap cells := by rw [List.flatMap_cons, List.append_assoc]
  rw [hlist] at hown
  have hpl : (ms.flatMap cells).length = j * 9 := by rw [flat_len ms (fun x hx => (hmk x hx).len), hml]
  have hgb := hown.lt g rfl
  have own8 := own_mod (own_keep hown hb) hM8 (fun q hq => by simp only [Value.ownBlock, Option.some.injEq] at hq; subst hq; exact hg2)
  obtain ⟨own9, m9⟩ := row_put own8 hpl (cells_len _ hdk.1.len) v0 v1 v2 v3 v4 v5 v6 v7 v8
  rw [← hv] at own9
  have hgm : g ∉ bkss ms := fun h => hg1 (hms.subset h)
  have hgn : g ∉ bks m := fun h => hg2 (hs.subset h)
  have ne : ∀ {q : Nat} {l : List Nat}, g ∉ l → q ∈ l → q ∉ [g] := fun h1 h2 => by
    simp only [List.mem_singleton]
    rintro rfl
    exact h1 h2
  refine ⟨⟨ms ++ [m], by simp [hml], by rw [map_take' simp ks j hj, List.map_append, hme, List.map_cons, List.map_nil, he], ?_, ?_, ?_, ?_⟩, ?_⟩
  · rw [List.flatMap_append, show [m].flatMap cells = cells m by simp]
    exact own9
  · intro x hx
    rcases List.mem_append.1 hx with hx | hx
    · have hxm : ∀ q ∈ bks x, q ∈ bkss ms := fun q hq => bkss_mem hx q hq
      exact Od.mod m9 (Od.mod hM8 ((hmk x hx).below hb) fun q hq hk => hn5 q (hms.subset (hxm q hq)) q (List.mem_append.2 (.inl hk)) rfl) fun q hq => ne hgm (hxm q hq)
    · simp only [List.mem_singleton] at hx
      subst hx
      exact Od.mod m9 hI fun q hq => ne hgn hq
  · exact Ods.mod m9 (Ods.mod hM8 (Ods.mod (Mod.of_below hb []) hdk.2 fun _ _ => by simp) fun q hq hk => hn4 q hk q hq rfl) fun q hq => ne hg3 hq
  · rw [bkss_append, List.take_add_one, List.getElem?_eq_getElem hj, Option.toList_some, bkss_append]
    simp only [bkss, List.append_nil]
    exact hms.append hs
  · refine ((hM.trans (Mod.of_below hb []) (fun q hq => by simp at hq)).trans hM8 fun q hq => .inl ?_).trans m9 fun q hq => .inl ?_
    · rw [htd]
      simp [hq]
    · simp only [List.mem_singleton] at hq
      subst hq
      simp [Value.ownBlock]
set_option maxRecDepth 100000 in
set_option maxHeartbeats 8000000 in
theorem simple_step (B N : Nat) (n : Nd) (hsz : sz n ≤ N) (w : World) (hOd : Od B w n) (hnd : (bks n).Nodup)
    (hx : ∀ m, sz m < N → (bks m).Nodup → ∀ W, Od B W m → Calls Tryd.prog 45 #[nv m] W (SiP B m W)) :
    Calls Tryd.prog 45 #[nv n] w (SiP B n w) := by
  obtain ⟨x0, x1, x2, x3, hs⟩ := four hOd.len
  obtain ⟨k, mn, mx, a, nl, c, t, hnv, hcn⟩ := nv_explicit hs
  obtain ⟨B2, hB2⟩ : ∃ B2, Obj.cells #[.int .i64 k, .int .u64 (x0 : Int), .int .u64 (x1 : Int), .int .u64 (x2 : Int), .int .u64 (x3 : Int), .slice a nl c, .int .i64 mn, .int .i64 mx, .string (Str t)] 27 (0, 0) = B2 := ⟨_, rfl⟩
  obtain ⟨B4, hB4⟩ : ∃ B4, Obj.cells #[.int .i64 0, .int .u64 0, .int .u64 0, .int .u64 0, .int .u64 0, .slice none 0 0, .int .i64 0, .int .i64 0, .string ⟨#[]⟩] 27 (0, 0) = B4 := ⟨_, rfl⟩
  have z1 : (w.alloc B2).heap.size = w.heap.size + 1 := by simp
  have l2 : ((w.alloc B2).alloc B4).heap[w.heap.size]? = some B2 := block_alloc (World.alloc_heap_new w B2)
  have l4 : ((w.alloc B2).alloc B4).heap[w.heap.size + 1]? = some B4 := by rw [← z1]; exact World.alloc_heap_new _ B4
  have hB : Below w.heap.size w ((w.alloc B2).alloc B4) := ((Below.refl _ w).alloc (Nat.le_refl _) _).alloc (by simp) _
  obtain ⟨W3, hW3⟩ : ∃ W3, (w.alloc B2).alloc B4 = W3 := ⟨_, rfl⟩
  have z3 : W3.heap.size = w.heap.size + 2 := by rw [← hW3]; simp
  rw [hW3] at l2 l4 hB
  rw [← hB2, ← hB4] at hW3
  rw [← hB2] at l2
  rw [← hB4] at l4
  have l2' : W3.heap[w.heap.size]? = some (.cells (cells n).toArray 27 (0, 0)) := by rw [l2, hcn]
  clear hB2 hB4 z1 B2 B4
  have hstart : DnL B w.heap.size n W3 n W3 := ⟨l2', hOd.below hB, rfl, List.Sublist.refl _, Mod.refl _ _⟩
  have HStart := Lib.hid hstart
  have HX := Lib.hid hx
  have HB := Lib.hid hB
  have HW3 := Lib.hid hW3
  have H4 := Lib.hid l4
  have HZ3 := Lib.hid z3
  have HN := Lib.hid (And.intro hsz hnd)
  have HLt := Lib.hid hOd.lt
  rw [hnv]
  clear hnv hcn hs hsz hnd hstart hx hB hW3 l2 l2' l4 z3 hOd
  go_enter Tryd.func45, Tryd.ntmps45
  go_upto_region 1 with (fail)
  rw [HW3.out]
  go_loopw [] (fun W => ∃ m, DnL B w.heap.size n W3 m W ∧ sz m ≤ N) (fun W => msr fun q => ∃ m, DnL B w.heap.size n W3 m W ∧ sz m = q)
  case atStart => exact ⟨n, HStart.out, HN.out.1⟩
  case round =>
    obtain ⟨m0, hm0, hmN⟩ := hrel
    obtain ⟨⟨m, hdn, hmz⟩, hle⟩ := msr_at (P := fun q => ∃ m, DnL B w.heap.size n W3 m wr ∧ sz m = q) ⟨m0, hm0, rfl⟩
    have hmN' : sz m ≤ N := by rw [hmz]; omega
    have HMz := Lib.hid hmz
    clear hm0 hmN hle hmz m0
    obtain ⟨y0, y1, y2, y3, hys⟩ := four hdn.od.len
    obtain ⟨k', sx, mn', mx', t', a', c', ks⟩ := m
    simp only [Nd.set] at hys
    subst hys
    obtain ⟨nl', hnl⟩ : ∃ nl, ks.length = nl := ⟨_, rfl⟩
    have hblk : wr.heap[w.heap.size]? = some (.cells #[.int .i64 k', .int .u64 (y0 : Int), .int .u64 (y1 : Int), .int .u64 (y2 : Int), .int .u64 (y3 : Int), .slice a' nl' c', .int .i64 mn', .int .i64 mx', .string (Str t')] 27 (0, 0)) := by rw [hdn.blk, ← hnl]; rfl
    have hown : wr.ownsRow B 27 9 (.slice a' nl' c') nl' (ks.flatMap cells) := by rw [← hnl]; exact hdn.od.2.1
    have hn63 : nl' ≤ 9223372036854775807 := by
      obtain ⟨h1, h2, _, _⟩ := own_hdr hown
      unfold maxLen at h2
      omega
    obtain ⟨u0, u1, u2, u3, u4', u5, u6, u7, u8⟩ := nd_cells hblk
    by_cases hk : k' = 2 ∧ nl' = 1
    · obtain ⟨rfl, rfl⟩ := hk
      obtain ⟨x, rfl⟩ := one_kid hnl
      obtain ⟨g, rfl, _, hglt⟩ := own_some' hown (by omega)
      have hox := hdn.od.2.2.1
      have hcel : ∀ i v, (cells x)[i]? = some v → wr.cell? ⟨g, 0 + i, none⟩ = some v := fun i v hi => by
        obtain ⟨b', o', he, hc'⟩ := (Rd.own hown) i v (by simpa using hi)
        simp only [Option.some.injEq, Addr.mk.injEq, and_true] at he
        obtain ⟨rfl, rfl⟩ := he
        exact hc'
      obtain ⟨f0, f1, f2, f3, f4, f5, f6, f7, f8⟩ := frz9 hblk
      have hsx : simp x = simp n := by
        rw [← hdn.eq]
        simp [simp, simps]
      have hsub : (bks x).Sublist (bks n) := List.Sublist.trans (by simp [bks, bkss]) hdn.sub
      have hzx : sz x + 1 = sz (.mk 2 [y0, y1, y2, y3] mn' mx' t' (some ⟨g, 0, none⟩) c' [x]) := by simp [sz, szs]; omega
      obtain ⟨z0, z1, z2, z3, hzs⟩ := four hox.len
      obtain ⟨kk, ksx, kmn, kmx, kt, ka, kc, kks⟩ := x
      simp only [Nd.set] at hzs
      subst hzs
      have q0 := hcel 0 _ rfl
      have q1 := hcel 1 _ rfl
      have q2 := hcel 2 _ rfl
      have q3 := hcel 3 _ rfl
      have q4 := hcel 4 _ rfl
      have q5 := hcel 5 _ rfl
      have q6 := hcel 6 _ rfl
      have q7 := hcel 7 _ rfl
      have q8 := hcel 8 _ rfl
      simp only [Nat.zero_add, Nd.kind, Nd.a, Nd.kids, Nd.cap, Nd.mn, Nd.mx, Nd.text] at q0 q1 q2 q3 q4 q5 q6 q7 q8
      obtain ⟨kl, hkl⟩ : ∃ kl, kks.length = kl := ⟨_, rfl⟩
      rw [hkl] at q5
      have hpb := put9_block hblk (.int .i64 kk) (.int .u64 (z0 : Int)) (.int .u64 (z1 : Int)) (.int .u64 (z2 : Int)) (.int .u64 (z3 : Int)) (.slice ka kl kc) (.int .i64 kmn) (.int .i64 kmx) (.string (Str kt))
      have hpm := put9_mod wr w.heap.size (.int .i64 kk) (.int .u64 (z0 : Int)) (.int .u64 (z1 : Int)) (.int .u64 (z2 : Int)) (.int .u64 (z3 : Int)) (.slice ka kl kc) (.int .i64 kmn) (.int .i64 kmx) (.string (Str kt))
      have hnew : DnL B w.heap.size n W3 (.mk kk [z0, z1, z2, z3] kmn kmx kt ka kc kks) (put9 wr w.heap.size (.int .i64 kk) (.int .u64 (z0 : Int)) (.int .u64 (z1 : Int)) (.int .u64 (z2 : Int)) (.int .u64 (z3 : Int)) (.slice ka kl kc) (.int .i64 kmn) (.int .i64 kmx) (.string (Str kt))) :=
        ⟨by rw [hpb, ← hkl]; rfl, Od.mod hpm hox (fun q hq => by have := (HLt.out q (hsub.subset hq)).2; simp; omega), hsx, hsub, hdn.mod.trans hpm (fun q hq => .inl hq)⟩
      have hms := (msr_at (P := fun q => ∃ m, DnL B w.heap.size n W3 m (put9 wr w.heap.size (.int .i64 kk) (.int .u64 (z0 : Int)) (.int .u64 (z1 : Int)) (.int .u64 (z2 : Int)) (.int .u64 (z3 : Int)) (.slice ka kl kc) (.int .i64 kmn) (.int .i64 kmx) (.string (Str kt))) ∧ sz m = q) ⟨_, hnew, rfl⟩).2
      have HNew := Lib.hid hnew
      have HMs := Lib.hid (Nat.lt_of_le_of_lt hms (show _ < (msr fun q => ∃ m, DnL B w.heap.size n W3 m wr ∧ sz m = q) by rw [← HMz.out]; omega))
      have HZx := Lib.hid (show sz (.mk kk [z0, z1, z2, z3] kmn kmx kt ka kc kks) ≤ N by omega)
      clear hnew hms hpb hpm hzx hsub hsx hcel hox hown hdn HMz hmN' hkl hblk hglt
      go_wp2
      go_roundw
      case rel => exact ⟨_, HNew.out, HZx.out⟩
      case measure => exact HMs.out
    · have hc : (k' = 2 ∧ ((nl' : Int) == 1) = false) ∨ (k' == 2) = false := by
        by_cases h : k' = 2
        · exact .inl ⟨h, by simp; omega⟩
        · exact .inr (by simpa using h)
      have hsim : simp (.mk k' [y0, y1, y2, y3] mn' mx' t' a' c' ks) = .mk k' [y0, y1, y2, y3] mn' mx' t' none 0 (ks.map simp) := by
        rw [simp, hnl, if_neg hk, simps_map]
      have hbk : bks (.mk k' [y0, y1, y2, y3] mn' mx' t' a' c' ks) = (Value.slice a' nl' c').ownBlock.toList ++ bkss ks := by rw [bks, hnl]
      have hnd := HN.out.2.sublist hdn.sub
      rw [hbk, List.nodup_append] at hnd
      have hlt : ∀ q ∈ (Value.slice a' nl' c').ownBlock.toList ++ bkss ks, B ≤ q ∧ q < w.heap.size := fun q hq => HLt.out q (hdn.sub.subset (by rw [hbk]; exact hq))
      have hz3 := HZ3.out
      have hzw := hdn.mod.size
      have hbx : ∀ W, Mod ((Value.slice a' nl' c').ownBlock.toList ++ bkss ks) wr W → W.heap[w.heap.size]? = some (.cells #[.int .i64 k', .int .u64 (y0 : Int), .int .u64 (y1 : Int), .int .u64 (y2 : Int), .int .u64 (y3 : Int), .slice a' nl' c', .int .i64 mn', .int .i64 mx', .string (Str t')] 27 (0, 0)) ∧ W.heap[w.heap.size + 1]? = some (Obj.cells #[.int .i64 0, .int .u64 0, .int .u64 0, .int .u64 0, .int .u64 0, .slice none 0 0, .int .i64 0, .int .i64 0, .string ⟨#[]⟩] 27 (0, 0)) := fun W hM => by
        have h4 : wr.heap[w.heap.size + 1]? = _ := (hdn.mod.block _ (block_lt H4.out) (by simp)).trans H4.out
        exact ⟨(hM.block _ (block_lt hblk) (fun hq => by have := (hlt _ hq).2; omega)).trans hblk, (hM.block _ (block_lt h4) (fun hq => by have := (hlt _ hq).2; omega)).trans h4⟩
      have hsl : SmL B ks a' nl' c' wr 0 wr := ⟨⟨[], rfl, rfl, hown, by simp, hdn.od.2.2, List.Sublist.refl _⟩, Mod.refl _ _⟩
      have hfinM : ∀ W, Mod ((Value.slice a' nl' c').ownBlock.toList ++ bkss ks) wr W → Mod (bks n) w W := fun W hM => ((Mod.of_below HB.out (bks n)).trans hdn.mod (fun q hq => .inr (by simp only [List.mem_singleton] at hq; omega))).trans hM (fun q hq => .inl (hdn.sub.subset (by rw [hbk]; exact hq)))
      have hsubf : ∀ ms : List Nd, (bkss ms).Sublist (bkss ks) → ((Value.slice a' nl' c').ownBlock.toList ++ bkss ms).Sublist (bks n) := fun ms h => ((List.Sublist.refl _).append h).trans (by rw [← hbk]; exact hdn.sub)
      have hkz : ∀ x ∈ ks, sz x < N := fun x hx => by
        have h1 := szs_mem hx
        simp only [sz] at hmN'
        omega
      have heq := hdn.eq
      rw [hsim] at heq
      have HBx := Lib.hid hbx
      have HSl := Lib.hid hsl
      have HFinM := Lib.hid hfinM
      have HSubf := Lib.hid hsubf
      have HNd := Lib.hid hnd
      have HLt2 := Lib.hid hlt
      have HEq := Lib.hid heq
      have HKz := Lib.hid hkz
      have HNl := Lib.hid hnl
      have HZw := Lib.hid (show w.heap.size + 2 ≤ wr.heap.size by omega)
      clear hk hsim hbk hnd hlt hz3 hzw hbx hsl hfinM hsubf hkz heq hnl hown hdn HMz hmN' hblk
      rcases hc with ⟨rfl, hn1⟩ | hn1
      · go_wp2_with fail
        clear hn1 u0 u1 u2 u3 u4' u5 u6 u7 u8
        go_loopw [21] (fun i W => ∃ j : Nat, j ≤ nl' ∧ i = .int .i64 (j : Int) ∧ SmL B ks a' nl' c' wr j W) (fun i _ => nl' - (intOf i).toNat)
        case atStart => exact ⟨0, Nat.zero_le _, rfl, HSl.out⟩
        case round =>
          obtain ⟨j, hj, rfl, hsm⟩ := hrel
          obtain ⟨⟨ms, hml, hme, hown, hmk, hdk, hms⟩, hM⟩ := id hsm
          obtain ⟨h2, h4⟩ := HBx.out _ hM
          have hlt := HLt2.out
          have hnd := HNd.out
          have hzr : w.heap.size + 2 ≤ wr.heap.size := Nat.le_trans HZw.out hM.size
          by_cases hjl : j < nl'
          · have hjk : j < ks.length := by rw [HNl.out]; exact hjl
            obtain ⟨g, rfl, _, hglt⟩ := own_some' hown (by omega)
            have hob : (Value.slice (some (⟨g, 0, none⟩ : Addr)) nl' c').ownBlock.toList = [g] := rfl
            have hin : ks[j] ∈ ks := List.getElem_mem hjk
            have hgk : g ∉ bkss ks := fun h => hnd.2.2 g (by simp [hob]) g h rfl
            have hgj : g ∉ bks ks[j] := fun h => hgk (bkss_mem hin g h)
            have hdr : ks.drop j = ks[j] :: ks.drop (j + 1) := (List.getElem_cons_drop hjk).symm
            have hlist : ms.flatMap cells ++ (ks.drop j).flatMap cells = ms.flatMap cells ++ cells ks[j] ++ (ks.drop (j + 1)).flatMap cells := by rw [hdr, List.flatMap_cons, List.append_assoc]
            rw [hlist] at hown
            rw [hdr] at hdk
            have hkd0 := hdk.1
            have hndk : (bks ks[j]).Nodup := by
              have := hnd.2.1
              rw [bkss_take_drop ks j hjk, List.nodup_append, List.nodup_append] at this
              exact this.2.1.1
            have hpl : (ms.flatMap cells).length = j * 9 := by rw [flat_len ms (fun x hx => (hmk x hx).len), hml]
            have hxk := HX.out _ (HKz.out _ hin) hndk
            have hsub : ∀ q ∈ bks ks[j], q ∈ (Value.slice (some (⟨g, 0, none⟩ : Addr)) nl' c').ownBlock.toList ++ bkss ks := fun q hq => List.mem_append.2 (.inr (bkss_mem hin q hq))
            have hcel : ∀ i x, (cells ks[j])[i]? = some x → wr.cell? ⟨g, j * 9 + i, none⟩ = some x := fun i x hi => by
              obtain ⟨b', o', he, hc'⟩ := (Rd.own hown) (j * 9 + i) x (by
                rw [List.append_assoc, List.getElem?_append_right (by omega), hpl, Nat.add_sub_cancel_left, List.getElem?_append_left (List.getElem?_eq_some_iff.1 hi).1]
                exact hi)
              simp only [Option.some.injEq, Addr.mk.injEq, and_true] at he
              obtain ⟨rfl, rfl⟩ := he
              simpa using hc'
            have hstep := fun (W7 W w8 : World) (hb : Below wr.heap.size wr W) (m : Nd) (he : er m = simp ks[j]) (hI : Od B w8 m) (hs : (bks m).Sublist (bks ks[j])) (hM8 : Mod (bks ks[j]) W w8) => SmL.step hsm hnd.2.1 hgk hjk hb m he hI hs hM8
            obtain ⟨kid, hkd⟩ : ∃ kid, ks[j] = kid := ⟨_, rfl⟩
            rw [hkd] at hown hkd0 hndk hxk hsub hcel hstep hgj
            have hxk : ∀ W, Od B W kid → Calls Tryd.prog 45 #[nv kid] W (SiP B kid W) := hxk
            obtain ⟨y0, y1, y2, y3, hys⟩ := four hkd0.len
            obtain ⟨kk, ksx, kmn, kmx, kt, ka, kc, kks⟩ := kid
            simp only [Nd.set] at hys
            subst hys
            have q0 := hcel 0 _ rfl
            have q1 := hcel 1 _ rfl
            have q2 := hcel 2 _ rfl
            have q3 := hcel 3 _ rfl
            have q4 := hcel 4 _ rfl
            have q5 := hcel 5 _ rfl
            have q6 := hcel 6 _ rfl
            have q7 := hcel 7 _ rfl
            have q8 := hcel 8 _ rfl
            simp only [Nat.add_zero, Nd.kind, Nd.a, Nd.kids, Nd.cap, Nd.mn, Nd.mx, Nd.text] at q0 q1 q2 q3 q4 q5 q6 q7 q8
            have hnvk : nv (.mk kk [y0, y1, y2, y3] kmn kmx kt ka kc kks) = .agg #[.int .i64 kk, .int .u64 (y0 : Int), .int .u64 (y1 : Int), .int .u64 (y2 : Int), .int .u64 (y3 : Int), .slice ka kks.length kc, .int .i64 kmn, .int .i64 kmx, .string (Str kt)] := rfl
            rw [hnvk] at hxk
            obtain ⟨kl, hkl⟩ : ∃ kl, kks.length = kl := ⟨_, rfl⟩
            rw [hkl] at hxk q5
            obtain ⟨W7, hW7⟩ : ∃ W7, wr.alloc (.cells #[.int .i64 kk, .int .u64 (y0 : Int), .int .u64 (y1 : Int), .int .u64 (y2 : Int), .int .u64 (y3 : Int), .slice ka kl kc, .int .i64 kmn, .int .i64 kmx, .string (Str kt)] 27) = W7 := ⟨_, rfl⟩
            have b7 : Below wr.heap.size wr W7 := by rw [← hW7]; exact (Below.refl _ _).alloc (Nat.le_refl _) _
            have s7 : W7.heap[wr.heap.size]? = some (.cells #[.int .i64 kk, .int .u64 (y0 : Int), .int .u64 (y1 : Int), .int .u64 (y2 : Int), .int .u64 (y3 : Int), .slice ka kl kc, .int .i64 kmn, .int .i64 kmx, .string (Str kt)] 27 (0, 0)) := by rw [← hW7]; exact World.alloc_heap_new _ _
            obtain ⟨X, hX⟩ : ∃ X, wr.heap.size = X := ⟨_, rfl⟩
            rw [hX] at s7
            have h27 := (b7.block _ (block_lt h2)).trans h2
            have skm : ∀ W : World, Mod ((Value.slice (some (⟨g, 0, none⟩ : Addr)) nl' c').ownBlock.toList ++ bkss ks) W7 W → W.cell? ⟨w.heap.size, 5, none⟩ = some (.slice (some ⟨g, 0, none⟩) nl' c') ∧ (W.cell? ⟨X, 0, none⟩ = some (.int .i64 kk) ∧ W.cell? ⟨X, 1, none⟩ = some (.int .u64 (y0 : Int)) ∧ W.cell? ⟨X, 2, none⟩ = some (.int .u64 (y1 : Int)) ∧ W.cell? ⟨X, 3, none⟩ = some (.int .u64 (y2 : Int)) ∧ W.cell? ⟨X, 4, none⟩ = some (.int .u64 (y3 : Int)) ∧ W.cell? ⟨X, 5, none⟩ = some (.slice ka kl kc) ∧ W.cell? ⟨X, 6, none⟩ = some (.int .i64 kmn) ∧ W.cell? ⟨X, 7, none⟩ = some (.int .i64 kmx) ∧ W.cell? ⟨X, 8, none⟩ = some (.string (Str kt))) := fun W hM => by
              have e2 := (hM.block _ (block_lt h27) (fun hq => by have := (hlt _ hq).2; omega)).trans h27
              have e3 := (hM.block _ (block_lt s7) (fun hq => by have := (hlt _ hq).2; omega)).trans s7
              exact ⟨cell_block e2 5, nd_cells e3⟩
            have hSg := fun (w8 W : World) (h1 : Mod ((Value.slice (some (⟨g, 0, none⟩ : Addr)) nl' c').ownBlock.toList ++ bkss ks) W7 w8) (h2 : Mod [g] w8 W) => skm W (h1.trans h2 (fun q hq => .inl (by simp only [List.mem_singleton] at hq; subst hq; simp [hob])))
            have hown7 := own_keep hown b7
            have hc8 : ∀ W w8, Below W7.heap.size W7 W → Mod (bks (.mk kk [y0, y1, y2, y3] kmn kmx kt ka kc kks)) W w8 → (∀ i x, (cells (.mk kk [y0, y1, y2, y3] kmn kmx kt ka kc kks))[i]? = some x → w8.cell? ⟨g, j * 9 + i, none⟩ = some x) ∧ ∀ i, w8.frozen? ⟨g, i, none⟩ = false := fun W w8 hb hM => by
              have hg7 : g < W7.heap.size := Nat.lt_of_lt_of_le hglt b7.size
              refine ⟨fun i x hi => ?_, fun i => ?_⟩
              · rw [hM.cell (p := ⟨g, j * 9 + i, none⟩) (Nat.lt_of_lt_of_le hg7 hb.size) hgj, hb.cell (p := ⟨g, j * 9 + i, none⟩) hg7, b7.cell (p := ⟨g, j * 9 + i, none⟩) hglt]
                exact hcel i x hi
              · exact (own_mod (own_keep hown7 hb) hM (fun q hq => by simp only [Value.ownBlock, Option.some.injEq] at hq; subst hq; exact hgj)).frozenAt i
            have HXk := Lib.hid (fun (W : World) (hb : Below W7.heap.size W7 W) => hxk W ((hkd0.below b7).below hb))
            have HSk := Lib.hid skm
            have HSg := Lib.hid hSg
            have HW7 := Lib.hid (And.intro hW7 hX)
            have HC8 := Lib.hid hc8
            have HStep := Lib.hid (fun (W w8 : World) (hb : Below W7.heap.size W7 W) => hstep W7 W w8 (b7.trans (hb.mono b7.size)))
            have HSub := Lib.hid (fun (W w8 : World) (hb : Below W7.heap.size W7 W) (hM : Mod (bks (.mk kk [y0, y1, y2, y3] kmn kmx kt ka kc kks)) W w8) => (Mod.of_below hb ((Value.slice (some (⟨g, 0, none⟩ : Addr)) nl' c').ownBlock.toList ++ bkss ks)).trans hM (fun q hq => .inl (hsub q hq)))
            obtain ⟨s0, s1, s2, s3, s4, s5, s6, s7', s8, s9⟩ := skm W7 (Mod.refl _ _)
            have hjl2 : (j : Int) < (nl' : Int) := by omega
            clear hstep hc8 hown7 hSg skm h27 s7 b7 hW7 hkl hnvk hxk hcel hsub hpl hndk hkd0 hkd hlist hdr hgj hgk hin hob hglt hsm hown hmk hdk hms hM hme hml h2 h4 hlt hnd hzr
            go_upto_region 6 with (fail)
            rw [HW7.out.1]
            try rw [HW7.out.2]
            clear hX
            have n0 : Below W7.heap.size W7 W7.drew := (Below.refl _ _).drew
            have m0 : Mod ((Value.slice (some (⟨g, 0, none⟩ : Addr)) nl' c').ownBlock.toList ++ bkss ks) W7 W7.drew := Mod.of_below n0 _
            refine wp_region_noPanic ?_
            refine wp_region_held_drew (S := fun W => W.cell? ⟨w.heap.size, 5, none⟩ = some (.slice (some ⟨g, 0, none⟩) nl' c') ∧ (W.cell? ⟨X, 0, none⟩ = some (.int .i64 kk) ∧ W.cell? ⟨X, 1, none⟩ = some (.int .u64 (y0 : Int)) ∧ W.cell? ⟨X, 2, none⟩ = some (.int .u64 (y1 : Int)) ∧ W.cell? ⟨X, 3, none⟩ = some (.int .u64 (y2 : Int)) ∧ W.cell? ⟨X, 4, none⟩ = some (.int .u64 (y3 : Int)) ∧ W.cell? ⟨X, 5, none⟩ = some (.slice ka kl kc) ∧ W.cell? ⟨X, 6, none⟩ = some (.int .i64 kmn) ∧ W.cell? ⟨X, 7, none⟩ = some (.int .i64 kmx) ∧ W.cell? ⟨X, 8, none⟩ = some (.string (Str kt)))) (by kernel_rfl) (HSk.out _ m0) (fun hHeld => ?_)
            (refine wpAnyH_take (i := 0) (v := ?v0n1) (by simp only [List.getElem?_toArray, List.getElem?_cons_succ, List.getElem?_cons_zero]; rfl) (by kernel_rfl) (by kernel_rfl) (by kernel_rfl) (fun _ _ _ h => False.elim h) (Or.inl ⟨by rfl, ?hy0n1⟩) (by assumption) ?rest0n1; (case hy0n1 => (intro w hSw; (try dsimp only at hSw); go_simp; (try with_reducible rfl))); (try simp only [Act.put, List.setIfInBounds_toArray, List.set_cons_zero, List.set_cons_succ]))
            (refine wpAnyH_take (i := 1) (v := ?v1n2) (by simp only [List.getElem?_toArray, List.getElem?_cons_succ, List.getElem?_cons_zero]; rfl) (by kernel_rfl) (by kernel_rfl) (by kernel_rfl) (fun _ _ _ h => False.elim h) (Or.inl ⟨by rfl, ?hy1n2⟩) (by assumption) ?rest1n2; (case hy1n2 => (intro w hSw; (try dsimp only at hSw); go_simp; (try with_reducible rfl))); (try simp only [Act.put, List.setIfInBounds_toArray, List.set_cons_zero, List.set_cons_succ]))
            (refine wpAnyH_take (i := 2) (v := ?v2n3) (by simp only [List.getElem?_toArray, List.getElem?_cons_succ, List.getElem?_cons_zero]; rfl) (by kernel_rfl) (by kernel_rfl) (by kernel_rfl) (fun _ _ _ h => False.elim h) (Or.inl ⟨by rfl, ?hy2n3⟩) (by assumption) ?rest2n3; (case hy2n3 => (intro w hSw; (try dsimp only at hSw); go_simp; (try with_reducible rfl))); (try simp only [Act.put, List.setIfInBounds_toArray, List.set_cons_zero, List.set_cons_succ]))
            (refine wpAnyH_take (i := 3) (v := ?v3n4) (by simp only [List.getElem?_toArray, List.getElem?_cons_succ, List.getElem?_cons_zero]; rfl) (by kernel_rfl) (by kernel_rfl) (by kernel_rfl) (fun _ _ _ h => False.elim h) (Or.inl ⟨by rfl, ?hy3n4⟩) (by assumption) ?rest3n4; (case hy3n4 => (intro w hSw; (try dsimp only at hSw); go_simp; (try with_reducible rfl))); (try simp only [Act.put, List.setIfInBounds_toArray, List.set_cons_zero, List.set_cons_succ]))
            (refine wpAnyH_ready (rs := [4]) (by kernel_rfl) (by simp) ?_; refine AllReadyH.cons (o := _) (by simp only [List.getElem?_toArray, List.getElem?_cons_succ, List.getElem?_cons_zero]; rfl) (fun K hK => ?_) AllReadyH.nil; go_simp; ((with_reducible refine (HXk.out _ n0).mono ?_); rintro e w8 ⟨m, rfl, hme, hmo, hms, hM8⟩; have m1 := HSub.out _ _ n0 hM8); refine hK.out _ _ (by exact HSk.out _ m1) (fun hHeld => ?_); clear hK K; (try simp only [Act.put, List.setIfInBounds_toArray, List.set_cons_zero, List.set_cons_succ]))
            obtain ⟨v0, v1, v2, v3, hvs⟩ := four hmo.len
            obtain ⟨k9, mn9, mx9, a9, nl9, c9, t9, hnv, hcl⟩ := nv_explicit hvs
            have HS8 := Lib.hid (HStep.out _ w8 n0 m hme hmo hms hM8 _ _ _ _ _ _ _ _ _ hcl)
            obtain ⟨hc1, hc2⟩ := HC8.out _ w8 n0 hM8
            have p0 := hc1 0 _ rfl
            have p1 := hc1 1 _ rfl
            have p2 := hc1 2 _ rfl
            have p3 := hc1 3 _ rfl
            have p4 := hc1 4 _ rfl
            have p5 := hc1 5 _ rfl
            have p6 := hc1 6 _ rfl
            have p7 := hc1 7 _ rfl
            have p8 := hc1 8 _ rfl
            simp only [Nat.add_zero] at p0
            have f0 := hc2 (j * 9)
            have f1 := hc2 (j * 9 + 1)
            have f2 := hc2 (j * 9 + 2)
            have f3 := hc2 (j * 9 + 3)
            have f4 := hc2 (j * 9 + 4)
            have f5 := hc2 (j * 9 + 5)
            have f6 := hc2 (j * 9 + 6)
            have f7 := hc2 (j * 9 + 7)
            have f8 := hc2 (j * 9 + 8)
            simp only [hnv]
            clear hnv hcl hvs hme hmo hms hM8 hc1 hc2
            (refine wpAnyH_take (i := 5) (v := ?v5n5) (by simp only [List.getElem?_toArray, List.getElem?_cons_succ, List.getElem?_cons_zero]; rfl) (by kernel_rfl) (by kernel_rfl) (by kernel_rfl) (fun _ _ _ h => False.elim h) (Or.inl ⟨by rfl, ?hy5n5⟩) (by assumption) ?rest5n5; (case hy5n5 => (intro w hSw; (try dsimp only at hSw); go_simp; (try with_reducible rfl))); (try simp only [Act.put, List.setIfInBounds_toArray, List.set_cons_zero, List.set_cons_succ]))
            (refine wpAnyH_ready (rs := [6]) (by kernel_rfl) (by simp) ?_; refine AllReadyH.cons (o := _) (by simp only [List.getElem?_toArray, List.getElem?_cons_succ, List.getElem?_cons_zero]; rfl) (fun K hK => ?_) AllReadyH.nil; go_simp; (skip); refine hK.out _ _ (by (refine HSg.out w8 _ m1 ?_; exact put9o_mod w8 g (j * 9) (.int .i64 k9) (.int .u64 (v0 : Int)) (.int .u64 (v1 : Int)) (.int .u64 (v2 : Int)) (.int .u64 (v3 : Int)) (.slice a9 nl9 c9) (.int .i64 mn9) (.int .i64 mx9) (.string (Str t9)))) (fun hHeld => ?_); clear hK K; (try simp only [Act.put, List.setIfInBounds_toArray, List.set_cons_zero, List.set_cons_succ]))
            refine wpAnyH_done (by kernel_rfl) ?_ _
            refine NoPanic.normal ?_
            go_wp2
            go_roundw
            case rel => first | exact ⟨j + 1, by omega, by go_num, HS8.out⟩ | ((repeat apply Exists.intro); (refine ⟨?_, ?_⟩); rotate_left 1; (focus (and_intros <;> rfl)); exact ⟨j + 1, by omega, by go_num, HS8.out⟩)
            case measure => simp [intOf]; omega
          · obtain rfl : j = nl' := by omega
            have hdrop : ks.drop j = [] := List.drop_eq_nil_of_le (by rw [HNl.out]; exact Nat.le_refl _)
            have htake : ks.take j = ks := List.take_of_length_le (by rw [HNl.out]; exact Nat.le_refl _)
            rw [hdrop, List.flatMap_nil, List.append_nil] at hown
            rw [htake] at hme hms
            obtain ⟨u0, u1, u2, u3, u4', u5, u6, u7, u8⟩ := nd_cells h2
            obtain ⟨⟨d0, d1, d2, d3, d4, d5, d6, d7, d8⟩, f0, f1, f2, f3, f4, f5, f6, f7, f8⟩ := z9_cells h4
            have hpb := put9_block h4 (.int .i64 2) (.int .u64 (y0 : Int)) (.int .u64 (y1 : Int)) (.int .u64 (y2 : Int)) (.int .u64 (y3 : Int)) (.slice a' j c') (.int .i64 mn') (.int .i64 mx') (.string (Str t'))
            have hpm := put9_mod wr (w.heap.size + 1) (.int .i64 2) (.int .u64 (y0 : Int)) (.int .u64 (y1 : Int)) (.int .u64 (y2 : Int)) (.int .u64 (y3 : Int)) (.slice a' j c') (.int .i64 mn') (.int .i64 mx') (.string (Str t'))
            have hnvm : nv (.mk 2 [y0, y1, y2, y3] mn' mx' t' a' c' ms) = .agg #[.int .i64 2, .int .u64 (y0 : Int), .int .u64 (y1 : Int), .int .u64 (y2 : Int), .int .u64 (y3 : Int), .slice a' j c', .int .i64 mn', .int .i64 mx', .string (Str t')] := by rw [← hml]; rfl
            have hms' : ∀ x ∈ ms, ∀ q ∈ bks x, q < w.heap.size := fun x hx q hq => (hlt q (List.mem_append.2 (.inr (hms.subset (bkss_mem hx q hq))))).2
            have hre : SiP B n w (.returned (.agg #[.int .i64 2, .int .u64 (y0 : Int), .int .u64 (y1 : Int), .int .u64 (y2 : Int), .int .u64 (y3 : Int), .slice a' j c', .int .i64 mn', .int .i64 mx', .string (Str t')])) (put9 wr (w.heap.size + 1) (.int .i64 2) (.int .u64 (y0 : Int)) (.int .u64 (y1 : Int)) (.int .u64 (y2 : Int)) (.int .u64 (y3 : Int)) (.slice a' j c') (.int .i64 mn') (.int .i64 mx') (.string (Str t'))) := by
              refine ⟨.mk 2 [y0, y1, y2, y3] mn' mx' t' a' c' ms, by rw [hnvm], by rw [← HEq.out]; simp only [er, ers_map, hme], ⟨rfl, ?_, Ods.of fun x hx => ?_⟩, ?_, ?_⟩
              · rw [hml]
                exact own_mod hown hpm (fun q hq => by have := (hlt q (List.mem_append.2 (.inl (Option.mem_toList.2 hq)))).2; simp; omega)
              · exact Od.mod hpm (hmk x hx) fun q hq => by have := hms' x hx q hq; simp; omega
              · rw [bks, hml]
                exact HSubf.out ms hms
              · exact (HFinM.out _ hM).trans hpm (fun q hq => .inr (by simp only [List.mem_singleton] at hq; omega))
            have HRe := Lib.hid hre
            have HPb := Lib.hid hpb
            have hjl2 : ¬ ((j : Int) < (j : Int)) := by omega
            clear hre hpb hpm hnvm hms' hown hmk hdk hms hM hme hml h2 h4 hdrop htake hlt hnd hzr hsm
            go_wp2
            ((try simp only [Exit.inBlock, Exit.then]); refine bodyPost_ret (results_cell_row rfl _ _ (w.heap.size + 1) 27 _ (0, 0) _ rfl (HPb.out) Tryd.underlying27 rfl ?hi1) rfl ?_; (case hi1 => kernel_rfl))
            exact HRe.out
      · go_wp2_with fail
        clear hn1 u0 u1 u2 u3 u4' u5 u6 u7 u8
        go_loopw [21] (fun i W => ∃ j : Nat, j ≤ nl' ∧ i = .int .i64 (j : Int) ∧ SmL B ks a' nl' c' wr j W) (fun i _ => nl' - (intOf i).toNat)
        case atStart => exact ⟨0, Nat.zero_le _, rfl, HSl.out⟩
        case round =>
          obtain ⟨j, hj, rfl, hsm⟩ := hrel
          obtain ⟨⟨ms, hml, hme, hown, hmk, hdk, hms⟩, hM⟩ := id hsm
          obtain ⟨h2, h4⟩ := HBx.out _ hM
          have hlt := HLt2.out
          have hnd := HNd.out
          have hzr : w.heap.size + 2 ≤ wr.heap.size := Nat.le_trans HZw.out hM.size
          by_cases hjl : j < nl'
          · have hjk : j < ks.length := by rw [HNl.out]; exact hjl
            obtain ⟨g, rfl, _, hglt⟩ := own_some' hown (by omega)
            have hob : (Value.slice (some (⟨g, 0, none⟩ : Addr)) nl' c').ownBlock.toList = [g] := rfl
            have hin : ks[j] ∈ ks := List.getElem_mem hjk
            have hgk : g ∉ bkss ks := fun h => hnd.2.2 g (by simp [hob]) g h rfl
            have hgj : g ∉ bks ks[j] := fun h => hgk (bkss_mem hin g h)
            have hdr : ks.drop j = ks[j] :: ks.drop (j + 1) := (List.getElem_cons_drop hjk).symm
            have hlist : ms.flatMap cells ++ (ks.drop j).flatMap cells = ms.flatMap cells ++ cells ks[j] ++ (ks.drop (j + 1)).flatMap cells := by rw [hdr, List.flatMap_cons, List.append_assoc]
            rw [hlist] at hown
            rw [hdr] at hdk
            have hkd0 := hdk.1
            have hndk : (bks ks[j]).Nodup := by
              have := hnd.2.1
              rw [bkss_take_drop ks j hjk, List.nodup_append, List.nodup_append] at this
              exact this.2.1.1
            have hpl : (ms.flatMap cells).length = j * 9 := by rw [flat_len ms (fun x hx => (hmk x hx).len), hml]
            have hxk := HX.out _ (HKz.out _ hin) hndk
            have hsub : ∀ q ∈ bks ks[j], q ∈ (Value.slice (some (⟨g, 0, none⟩ : Addr)) nl' c').ownBlock.toList ++ bkss ks := fun q hq => List.mem_append.2 (.inr (bkss_mem hin q hq))
            have hcel : ∀ i x, (cells ks[j])[i]? = some x → wr.cell? ⟨g, j * 9 + i, none⟩ = some x := fun i x hi => by
              obtain ⟨b', o', he, hc'⟩ := (Rd.own hown) (j * 9 + i) x (by
                rw [List.append_assoc, List.getElem?_append_right (by omega), hpl, Nat.add_sub_cancel_left, List.getElem?_append_left (List.getElem?_eq_some_iff.1 hi).1]
                exact hi)
              simp only [Option.some.injEq, Addr.mk.injEq, and_true] at he
              obtain ⟨rfl, rfl⟩ := he
              simpa using hc'
            have hstep := fun (W7 W w8 : World) (hb : Below wr.heap.size wr W) (m : Nd) (he : er m = simp ks[j]) (hI : Od B w8 m) (hs : (bks m).Sublist (bks ks[j])) (hM8 : Mod (bks ks[j]) W w8) => SmL.step hsm hnd.2.1 hgk hjk hb m he hI hs hM8
            obtain ⟨kid, hkd⟩ : ∃ kid, ks[j] = kid := ⟨_, rfl⟩
            rw [hkd] at hown hkd0 hndk hxk hsub hcel hstep hgj
            have hxk : ∀ W, Od B W kid → Calls Tryd.prog 45 #[nv kid] W (SiP B kid W) := hxk
            obtain ⟨y0, y1, y2, y3, hys⟩ := four hkd0.len
            obtain ⟨kk, ksx, kmn, kmx, kt, ka, kc, kks⟩ := kid
            simp only [Nd.set] at hys
            subst hys
            have q0 := hcel 0 _ rfl
            have q1 := hcel 1 _ rfl
            have q2 := hcel 2 _ rfl
            have q3 := hcel 3 _ rfl
            have q4 := hcel 4 _ rfl
            have q5 := hcel 5 _ rfl
            have q6 := hcel 6 _ rfl
            have q7 := hcel 7 _ rfl
            have q8 := hcel 8 _ rfl
            simp only [Nat.add_zero, Nd.kind, Nd.a, Nd.kids, Nd.cap, Nd.mn, Nd.mx, Nd.text] at q0 q1 q2 q3 q4 q5 q6 q7 q8
            have hnvk : nv (.mk kk [y0, y1, y2, y3] kmn kmx kt ka kc kks) = .agg #[.int .i64 kk, .int .u64 (y0 : Int), .int .u64 (y1 : Int), .int .u64 (y2 : Int), .int .u64 (y3 : Int), .slice ka kks.length kc, .int .i64 kmn, .int .i64 kmx, .string (Str kt)] := rfl
            rw [hnvk] at hxk
            obtain ⟨kl, hkl⟩ : ∃ kl, kks.length = kl := ⟨_, rfl⟩
            rw [hkl] at hxk q5
            obtain ⟨W7, hW7⟩ : ∃ W7, wr.alloc (.cells #[.int .i64 kk, .int .u64 (y0 : Int), .int .u64 (y1 : Int), .int .u64 (y2 : Int), .int .u64 (y3 : Int), .slice ka kl kc, .int .i64 kmn, .int .i64 kmx, .string (Str kt)] 27) = W7 := ⟨_, rfl⟩
            have b7 : Below wr.heap.size wr W7 := by rw [← hW7]; exact (Below.refl _ _).alloc (Nat.le_refl _) _
            have s7 : W7.heap[wr.heap.size]? = some (.cells #[.int .i64 kk, .int .u64 (y0 : Int), .int .u64 (y1 : Int), .int .u64 (y2 : Int), .int .u64 (y3 : Int), .slice ka kl kc, .int .i64 kmn, .int .i64 kmx, .string (Str kt)] 27 (0, 0)) := by rw [← hW7]; exact World.alloc_heap_new _ _
            obtain ⟨X, hX⟩ : ∃ X, wr.heap.size = X := ⟨_, rfl⟩
            rw [hX] at s7
            have h27 := (b7.block _ (block_lt h2)).trans h2
            have skm : ∀ W : World, Mod ((Value.slice (some (⟨g, 0, none⟩ : Addr)) nl' c').ownBlock.toList ++ bkss ks) W7 W → W.cell? ⟨w.heap.size, 5, none⟩ = some (.slice (some ⟨g, 0, none⟩) nl' c') ∧ (W.cell? ⟨X, 0, none⟩ = some (.int .i64 kk) ∧ W.cell? ⟨X, 1, none⟩ = some (.int .u64 (y0 : Int)) ∧ W.cell? ⟨X, 2, none⟩ = some (.int .u64 (y1 : Int)) ∧ W.cell? ⟨X, 3, none⟩ = some (.int .u64 (y2 : Int)) ∧ W.cell? ⟨X, 4, none⟩ = some (.int .u64 (y3 : Int)) ∧ W.cell? ⟨X, 5, none⟩ = some (.slice ka kl kc) ∧ W.cell? ⟨X, 6, none⟩ = some (.int .i64 kmn) ∧ W.cell? ⟨X, 7, none⟩ = some (.int .i64 kmx) ∧ W.cell? ⟨X, 8, none⟩ = some (.string (Str kt))) := fun W hM => by
              have e2 := (hM.block _ (block_lt h27) (fun hq => by have := (hlt _ hq).2; omega)).trans h27
              have e3 := (hM.block _ (block_lt s7) (fun hq => by have := (hlt _ hq).2; omega)).trans s7
              exact ⟨cell_block e2 5, nd_cells e3⟩
            have hSg := fun (w8 W : World) (h1 : Mod ((Value.slice (some (⟨g, 0, none⟩ : Addr)) nl' c').ownBlock.toList ++ bkss ks) W7 w8) (h2 : Mod [g] w8 W) => skm W (h1.trans h2 (fun q hq => .inl (by simp only [List.mem_singleton] at hq; subst hq; simp [hob])))
            have hown7 := own_keep hown b7
            have hc8 : ∀ W w8, Below W7.heap.size W7 W → Mod (bks (.mk kk [y0, y1, y2, y3] kmn kmx kt ka kc kks)) W w8 → (∀ i x, (cells (.mk kk [y0, y1, y2, y3] kmn kmx kt ka kc kks))[i]? = some x → w8.cell? ⟨g, j * 9 + i, none⟩ = some x) ∧ ∀ i, w8.frozen? ⟨g, i, none⟩ = false := fun W w8 hb hM => by
              have hg7 : g < W7.heap.size := Nat.lt_of_lt_of_le hglt b7.size
              refine ⟨fun i x hi => ?_, fun i => ?_⟩
              · rw [hM.cell (p := ⟨g, j * 9 + i, none⟩) (Nat.lt_of_lt_of_le hg7 hb.size) hgj, hb.cell (p := ⟨g, j * 9 + i, none⟩) hg7, b7.cell (p := ⟨g, j * 9 + i, none⟩) hglt]
                exact hcel i x hi
              · exact (own_mod (own_keep hown7 hb) hM (fun q hq => by simp only [Value.ownBlock, Option.some.injEq] at hq; subst hq; exact hgj)).frozenAt i
            have HXk := Lib.hid (fun (W : World) (hb : Below W7.heap.size W7 W) => hxk W ((hkd0.below b7).below hb))
            have HSk := Lib.hid skm
            have HSg := Lib.hid hSg
            have HW7 := Lib.hid (And.intro hW7 hX)
            have HC8 := Lib.hid hc8
            have HStep := Lib.hid (fun (W w8 : World) (hb : Below W7.heap.size W7 W) => hstep W7 W w8 (b7.trans (hb.mono b7.size)))
            have HSub := Lib.hid (fun (W w8 : World) (hb : Below W7.heap.size W7 W) (hM : Mod (bks (.mk kk [y0, y1, y2, y3] kmn kmx kt ka kc kks)) W w8) => (Mod.of_below hb ((Value.slice (some (⟨g, 0, none⟩ : Addr)) nl' c').ownBlock.toList ++ bkss ks)).trans hM (fun q hq => .inl (hsub q hq)))
            obtain ⟨s0, s1, s2, s3, s4, s5, s6, s7', s8, s9⟩ := skm W7 (Mod.refl _ _)
            have hjl2 : (j : Int) < (nl' : Int) := by omega
            clear hstep hc8 hown7 hSg skm h27 s7 b7 hW7 hkl hnvk hxk hcel hsub hpl hndk hkd0 hkd hlist hdr hgj hgk hin hob hglt hsm hown hmk hdk hms hM hme hml h2 h4 hlt hnd hzr
            go_upto_region 6 with (fail)
            rw [HW7.out.1]
            try rw [HW7.out.2]
            clear hX
            have n0 : Below W7.heap.size W7 W7.drew := (Below.refl _ _).drew
            have m0 : Mod ((Value.slice (some (⟨g, 0, none⟩ : Addr)) nl' c').ownBlock.toList ++ bkss ks) W7 W7.drew := Mod.of_below n0 _
            refine wp_region_noPanic ?_
            refine wp_region_held_drew (S := fun W => W.cell? ⟨w.heap.size, 5, none⟩ = some (.slice (some ⟨g, 0, none⟩) nl' c') ∧ (W.cell? ⟨X, 0, none⟩ = some (.int .i64 kk) ∧ W.cell? ⟨X, 1, none⟩ = some (.int .u64 (y0 : Int)) ∧ W.cell? ⟨X, 2, none⟩ = some (.int .u64 (y1 : Int)) ∧ W.cell? ⟨X, 3, none⟩ = some (.int .u64 (y2 : Int)) ∧ W.cell? ⟨X, 4, none⟩ = some (.int .u64 (y3 : Int)) ∧ W.cell? ⟨X, 5, none⟩ = some (.slice ka kl kc) ∧ W.cell? ⟨X, 6, none⟩ = some (.int .i64 kmn) ∧ W.cell? ⟨X, 7, none⟩ = some (.int .i64 kmx) ∧ W.cell? ⟨X, 8, none⟩ = some (.string (Str kt)))) (by kernel_rfl) (HSk.out _ m0) (fun hHeld => ?_)
            (refine wpAnyH_take (i := 0) (v := ?v0n6) (by simp only [List.getElem?_toArray, List.getElem?_cons_succ, List.getElem?_cons_zero]; rfl) (by kernel_rfl) (by kernel_rfl) (by kernel_rfl) (fun _ _ _ h => False.elim h) (Or.inl ⟨by rfl, ?hy0n6⟩) (by assumption) ?rest0n6; (case hy0n6 => (intro w hSw; (try dsimp only at hSw); go_simp; (try with_reducible rfl))); (try simp only [Act.put, List.setIfInBounds_toArray, List.set_cons_zero, List.set_cons_succ]))
            (refine wpAnyH_take (i := 1) (v := ?v1n7) (by simp only [List.getElem?_toArray, List.getElem?_cons_succ, List.getElem?_cons_zero]; rfl) (by kernel_rfl) (by kernel_rfl) (by kernel_rfl) (fun _ _ _ h => False.elim h) (Or.inl ⟨by rfl, ?hy1n7⟩) (by assumption) ?rest1n7; (case hy1n7 => (intro w hSw; (try dsimp only at hSw); go_simp; (try with_reducible rfl))); (try simp only [Act.put, List.setIfInBounds_toArray, List.set_cons_zero, List.set_cons_succ]))
            (refine wpAnyH_take (i := 2) (v := ?v2n8) (by simp only [List.getElem?_toArray, List.getElem?_cons_succ, List.getElem?_cons_zero]; rfl) (by kernel_rfl) (by kernel_rfl) (by kernel_rfl) (fun _ _ _ h => False.elim h) (Or.inl ⟨by rfl, ?hy2n8⟩) (by assumption) ?rest2n8; (case hy2n8 => (intro w hSw; (try dsimp only at hSw); go_simp; (try with_reducible rfl))); (try simp only [Act.put, List.setIfInBounds_toArray, List.set_cons_zero, List.set_cons_succ]))
            (refine wpAnyH_take (i := 3) (v := ?v3n9) (by simp only [List.getElem?_toArray, List.getElem?_cons_succ, List.getElem?_cons_zero]; rfl) (by kernel_rfl) (by kernel_rfl) (by kernel_rfl) (fun _ _ _ h => False.elim h) (Or.inl ⟨by rfl, ?hy3n9⟩) (by assumption) ?rest3n9; (case hy3n9 => (intro w hSw; (try dsimp only at hSw); go_simp; (try with_reducible rfl))); (try simp only [Act.put, List.setIfInBounds_toArray, List.set_cons_zero, List.set_cons_succ]))
            (refine wpAnyH_ready (rs := [4]) (by kernel_rfl) (by simp) ?_; refine AllReadyH.cons (o := _) (by simp only [List.getElem?_toArray, List.getElem?_cons_succ, List.getElem?_cons_zero]; rfl) (fun K hK => ?_) AllReadyH.nil; go_simp; ((with_reducible refine (HXk.out _ n0).mono ?_); rintro e w8 ⟨m, rfl, hme, hmo, hms, hM8⟩; have m1 := HSub.out _ _ n0 hM8); refine hK.out _ _ (by exact HSk.out _ m1) (fun hHeld => ?_); clear hK K; (try simp only [Act.put, List.setIfInBounds_toArray, List.set_cons_zero, List.set_cons_succ]))
            obtain ⟨v0, v1, v2, v3, hvs⟩ := four hmo.len
            obtain ⟨k9, mn9, mx9, a9, nl9, c9, t9, hnv, hcl⟩ := nv_explicit hvs
            have HS8 := Lib.hid (HStep.out _ w8 n0 m hme hmo hms hM8 _ _ _ _ _ _ _ _ _ hcl)
            obtain ⟨hc1, hc2⟩ := HC8.out _ w8 n0 hM8
            have p0 := hc1 0 _ rfl
            have p1 := hc1 1 _ rfl
            have p2 := hc1 2 _ rfl
            have p3 := hc1 3 _ rfl
            have p4 := hc1 4 _ rfl
            have p5 := hc1 5 _ rfl
            have p6 := hc1 6 _ rfl
            have p7 := hc1 7 _ rfl
            have p8 := hc1 8 _ rfl
            simp only [Nat.add_zero] at p0
            have f0 := hc2 (j * 9)
            have f1 := hc2 (j * 9 + 1)
            have f2 := hc2 (j * 9 + 2)
            have f3 := hc2 (j * 9 + 3)
            have f4 := hc2 (j * 9 + 4)
            have f5 := hc2 (j * 9 + 5)
            have f6 := hc2 (j * 9 + 6)
            have f7 := hc2 (j * 9 + 7)
            have f8 := hc2 (j * 9 + 8)
            simp only [hnv]
            clear hnv hcl hvs hme hmo hms hM8 hc1 hc2
            (refine wpAnyH_take (i := 5) (v := ?v5n10) (by simp only [List.getElem?_toArray, List.getElem?_cons_succ, List.getElem?_cons_zero]; rfl) (by kernel_rfl) (by kernel_rfl) (by kernel_rfl) (fun _ _ _ h => False.elim h) (Or.inl ⟨by rfl, ?hy5n10⟩) (by assumption) ?rest5n10; (case hy5n10 => (intro w hSw; (try dsimp only at hSw); go_simp; (try with_reducible rfl))); (try simp only [Act.put, List.setIfInBounds_toArray, List.set_cons_zero, List.set_cons_succ]))
            (refine wpAnyH_ready (rs := [6]) (by kernel_rfl) (by simp) ?_; refine AllReadyH.cons (o := _) (by simp only [List.getElem?_toArray, List.getElem?_cons_succ, List.getElem?_cons_zero]; rfl) (fun K hK => ?_) AllReadyH.nil; go_simp; (skip); refine hK.out _ _ (by (refine HSg.out w8 _ m1 ?_; exact put9o_mod w8 g (j * 9) (.int .i64 k9) (.int .u64 (v0 : Int)) (.int .u64 (v1 : Int)) (.int .u64 (v2 : Int)) (.int .u64 (v3 : Int)) (.slice a9 nl9 c9) (.int .i64 mn9) (.int .i64 mx9) (.string (Str t9)))) (fun hHeld => ?_); clear hK K; (try simp only [Act.put, List.setIfInBounds_toArray, List.set_cons_zero, List.set_cons_succ]))
            refine wpAnyH_done (by kernel_rfl) ?_ _
            refine NoPanic.normal ?_
            go_wp2
            go_roundw
            case rel => first | exact ⟨j + 1, by omega, by go_num, HS8.out⟩ | ((repeat apply Exists.intro); (refine ⟨?_, ?_⟩); rotate_left 1; (focus (and_intros <;> rfl)); exact ⟨j + 1, by omega, by go_num, HS8.out⟩)
            case measure => simp [intOf]; omega
          · obtain rfl : j = nl' := by omega
            have hdrop : ks.drop j = [] := List.drop_eq_nil_of_le (by rw [HNl.out]; exact Nat.le_refl _)
            have htake : ks.take j = ks := List.take_of_length_le (by rw [HNl.out]; exact Nat.le_refl _)
            rw [hdrop, List.flatMap_nil, List.append_nil] at hown
            rw [htake] at hme hms
            obtain ⟨u0, u1, u2, u3, u4', u5, u6, u7, u8⟩ := nd_cells h2
            obtain ⟨⟨d0, d1, d2, d3, d4, d5, d6, d7, d8⟩, f0, f1, f2, f3, f4, f5, f6, f7, f8⟩ := z9_cells h4
            have hpb := put9_block h4 (.int .i64 k') (.int .u64 (y0 : Int)) (.int .u64 (y1 : Int)) (.int .u64 (y2 : Int)) (.int .u64 (y3 : Int)) (.slice a' j c') (.int .i64 mn') (.int .i64 mx') (.string (Str t'))
            have hpm := put9_mod wr (w.heap.size + 1) (.int .i64 k') (.int .u64 (y0 : Int)) (.int .u64 (y1 : Int)) (.int .u64 (y2 : Int)) (.int .u64 (y3 : Int)) (.slice a' j c') (.int .i64 mn') (.int .i64 mx') (.string (Str t'))
            have hnvm : nv (.mk k' [y0, y1, y2, y3] mn' mx' t' a' c' ms) = .agg #[.int .i64 k', .int .u64 (y0 : Int), .int .u64 (y1 : Int), .int .u64 (y2 : Int), .int .u64 (y3 : Int), .slice a' j c', .int .i64 mn', .int .i64 mx', .string (Str t')] := by rw [← hml]; rfl
            have hms' : ∀ x ∈ ms, ∀ q ∈ bks x, q < w.heap.size := fun x hx q hq => (hlt q (List.mem_append.2 (.inr (hms.subset (bkss_mem hx q hq))))).2
            have hre : SiP B n w (.returned (.agg #[.int .i64 k', .int .u64 (y0 : Int), .int .u64 (y1 : Int), .int .u64 (y2 : Int), .int .u64 (y3 : Int), .slice a' j c', .int .i64 mn', .int .i64 mx', .string (Str t')])) (put9 wr (w.heap.size + 1) (.int .i64 k') (.int .u64 (y0 : Int)) (.int .u64 (y1 : Int)) (.int .u64 (y2 : Int)) (.int .u64 (y3 : Int)) (.slice a' j c') (.int .i64 mn') (.int .i64 mx') (.string (Str t'))) := by
              refine ⟨.mk k' [y0, y1, y2, y3] mn' mx' t' a' c' ms, by rw [hnvm], by rw [← HEq.out]; simp only [er, ers_map, hme], ⟨rfl, ?_, Ods.of fun x hx => ?_⟩, ?_, ?_⟩
              · rw [hml]
                exact own_mod hown hpm (fun q hq => by have := (hlt q (List.mem_append.2 (.inl (Option.mem_toList.2 hq)))).2; simp; omega)
              · exact Od.mod hpm (hmk x hx) fun q hq => by have := hms' x hx q hq; simp; omega
              · rw [bks, hml]
                exact HSubf.out ms hms
              · exact (HFinM.out _ hM).trans hpm (fun q hq => .inr (by simp only [List.mem_singleton] at hq; omega))
            have HRe := Lib.hid hre
            have HPb := Lib.hid hpb
            have hjl2 : ¬ ((j : Int) < (j : Int)) := by omega
            clear hre hpb hpm hnvm hms' hown hmk hdk hms hM hme hml h2 h4 hdrop htake hlt hnd hzr hsm
            go_wp2
            ((try simp only [Exit.inBlock, Exit.then]); refine bodyPost_ret (results_cell_row rfl _ _ (w.heap.size + 1) 27 _ (0, 0) _ rfl (HPb.out) Tryd.underlying27 rfl ?hi2) rfl ?_; (case hi2 => kernel_rfl))
            exact HRe.out
theorem simple_all (B : Nat) : ∀ (N : Nat) (n : Nd), sz n ≤ N → (bks n).Nodup → ∀ w, Od B w n → Calls Tryd.prog 45 #[nv n] w (SiP B n w)
  | 0, n, h, _, _, _ => by cases n; simp [sz] at h
  | N + 1, n, h, hnd, w, hOd => simple_step B (N + 1) n h w hOd hnd fun m hm hmd W hW => simple_all B N m (by omega) hmd W hW
end Rx
end Go.Proofs.YtoeeddfinmfnoaaDoor
