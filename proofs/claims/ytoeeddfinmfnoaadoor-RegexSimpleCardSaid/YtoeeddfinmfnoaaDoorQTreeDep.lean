import Derived.Test.YtoeeddfinmfnoaaDoorQTreeWalk
/- tree.all, tree.Count, tree.Depth: the range over the walk. -/
namespace Go.Proofs.YtoeeddfinmfnoaaDoor
namespace Kt
end Kt
open Go Go.RowKit Go.Shelf Kt
namespace Tr
attribute [local go_sem] Oper.semAt_some
set_option maxRecDepth 100000 in
set_option maxHeartbeats 1000000 in
/-- all(n): the node is boxed; the function value captures the box. -/
theorem all_in (m : Nat) (n : Nd) (hs : n.set.length = 4) (w : World) :
    CallsIn Fence.wide m Tryd.prog 58 #[nv n] w fun e w' => e = .returned (.func (.func 81) #[] #[.pointer (some ⟨w.heap.size, 0, none⟩)]) ∧ w' = w.alloc (.cells (cells n).toArray 27) := by
  obtain ⟨x0, x1, x2, x3, hs⟩ := four' hs
  obtain ⟨k, s, mn, mx, t, a, c, ks⟩ := n
  simp only [Nd.set] at hs
  subst hs
  have hnvk : nv (.mk k [x0, x1, x2, x3] mn mx t a c ks) = .agg #[.int .i64 k, .int .u64 (x0 : Int), .int .u64 (x1 : Int), .int .u64 (x2 : Int), .int .u64 (x3 : Int), .slice a ks.length c, .int .i64 mn, .int .i64 mx, .string (Str t)] := rfl
  have hck : (cells (.mk k [x0, x1, x2, x3] mn mx t a c ks)).toArray = #[.int .i64 k, .int .u64 (x0 : Int), .int .u64 (x1 : Int), .int .u64 (x2 : Int), .int .u64 (x3 : Int), .slice a ks.length c, .int .i64 mn, .int .i64 mx, .string (Str t)] := rfl
  rw [hnvk, hck]
  clear hnvk hck
  generalize ks.length = nl
  refine callsIn_of_wp Tryd.func58 rfl trivial ?_ rfl
  simp only [Tryd.ntmps58, List.size_toArray, List.length_cons, List.length_nil, Nat.reduceAdd, Nat.reduceSub, Array.replicate_succ, Array.replicate_zero, List.push_toArray, List.append_toArray, List.nil_append, List.cons_append]
  gi_wp2
  go_ret
  exact ⟨rfl, rfl⟩
/-- Where a range that keeps one number stands: its box, what it says. -/
structure Nr (w : World) (z b : Nat) (T : List Nat) (v : Value) (W : World) : Prop where
  T : ∀ t ∈ T, z ≤ t
  box : W.heap[b]? = some (.cells #[v] 3 (0, 0))
  B : Below w.heap.size w W
theorem Nr.mod {w : World} {z b : Nat} {T T' : List Nat} {v : Value} {A A' : World} (hz : w.heap.size ≤ z) (hb : b < z) (hA : z ≤ A.heap.size) (h : Nr w z b T v A) (hM : Mod T A A') (hT : ∀ t ∈ T', t ∈ T ∨ A.heap.size ≤ t) : Nr w z b T' v A' := by
  refine ⟨fun t ht => ?_, (hM.block b (block_lt h.box) (fun hm => by have := h.T b hm; omega)).trans h.box, h.B.trans (hM.toBelow h.B.size (fun k hk => by have := h.T k hk; omega))⟩
  rcases hT t ht with h1 | h1
  · exact h.T t h1
  · omega
set_option maxRecDepth 100000 in
set_option maxHeartbeats 2000000 in
/-- tree.Count. -/
theorem count_c (n : Nd) (w : World) (hIs : Is w.heap.size w n) :
    Calls Tryd.prog 51 #[nv n] w fun e W' => e = .returned (.int .i64 (((walk n).length : Nat) : Int)) ∧ Below w.heap.size w W' := by
  refine (callsIn_wide (n := 3)).1 ?_
  have hall := fun m w => all_in m n hIs.len w
  have hseqs := fun bn w0 h1 h2 h3 => all_seq (3 - 1) w.heap.size bn n w0 h1 h2 h3
  have hlen : ∀ pre x, pre ++ [x] <+: walk n → pre.length < 601 := fun pre x h => by
    have h1 := h.length_le
    have h2 : (walk n).length ≤ 601 := by simp only [walk, List.length_take]; omega
    simp at h1
    omega
  obtain ⟨x0, x1, x2, x3, hs⟩ := four' hIs.len
  have hnk : ∃ (k mn mx : Int) (a : Option Addr) (nl c : Nat) (t : List UInt8), nv n = .agg #[.int .i64 k, .int .u64 (x0 : Int), .int .u64 (x1 : Int), .int .u64 (x2 : Int), .int .u64 (x3 : Int), .slice a nl c, .int .i64 mn, .int .i64 mx, .string (Str t)] ∧ (cells n).toArray = #[.int .i64 k, .int .u64 (x0 : Int), .int .u64 (x1 : Int), .int .u64 (x2 : Int), .int .u64 (x3 : Int), .slice a nl c, .int .i64 mn, .int .i64 mx, .string (Str t)] := by
    obtain ⟨k, s, mn, mx, t, a, c, ks⟩ := n
    simp only [Nd.set] at hs
    subst hs
    exact ⟨k, mn, mx, a, ks.length, c, t, rfl, rfl⟩
  obtain ⟨k, mn, mx, a, nl, c, t, hnv, hcl⟩ := hnk
  rw [hnv, hcl] at hall
  rw [hcl] at hseqs
  rw [hnv]
  have HA := Lib.hid hall
  have HS := Lib.hid hseqs
  have HI := Lib.hid hIs
  have HL := Lib.hid hlen
  clear hall hseqs hIs hlen hnv hcl hs
  refine callsIn_of_wp_marks Tryd.func51 rfl trivial ?_ rfl
  simp only [Tryd.ntmps51, List.size_toArray, List.length_cons, List.length_nil, Nat.reduceAdd, Nat.reduceSub, Array.replicate_succ, Array.replicate_zero, List.push_toArray, List.append_toArray, List.nil_append, List.cons_append]
  gi_wp2_with (refine ⟨trivial, ?_⟩; gi_at_call 58; refine (HA.out _ _).mono ?_; rintro e w' ⟨rfl, rfl⟩)
  obtain ⟨nd, hnd⟩ : ∃ nd : Array Value, nd = #[.int .i64 k, .int .u64 (x0 : Int), .int .u64 (x1 : Int), .int .u64 (x2 : Int), .int .u64 (x3 : Int), .slice a nl c, .int .i64 mn, .int .i64 mx, .string (Str t)] := ⟨_, rfl⟩
  rw [← hnd] at HS ⊢
  obtain ⟨w3, hw3⟩ : ∃ w3, (((w.alloc (.cells nd 27)).alloc (.cells #[.int .i64 0] 3)).alloc (.cells nd 27)) = w3 := ⟨_, rfl⟩
  have hs3 : w3.heap.size = w.heap.size + 3 := by rw [← hw3]; simp
  have hB0 : Below w.heap.size w w3 := by
    rw [← hw3]
    exact (((Below.refl _ w).alloc (Nat.le_refl _) _).alloc (by simp) _).alloc (by simp; omega) _
  have bO : w3.heap[w.heap.size + 1]? = some (.cells #[.int .i64 0] 3 (0, 0)) := by
    rw [← hw3]
    have := heap_alloc_new (w.alloc (.cells nd 27)) (.cells #[.int .i64 0] 3)
    rw [World.size_alloc] at this
    exact block_alloc this
  have hBn : w3.heap[w.heap.size + 1 + 1]? = some (.cells nd 27 (0, 0)) := by
    rw [← hw3]
    have := heap_alloc_new ((w.alloc (.cells nd 27)).alloc (.cells #[.int .i64 0] 3)) (.cells nd 27)
    rw [World.size_alloc, World.size_alloc] at this
    exact this
  have hseq := HS.out _ w3 hBn (Is.below hB0 HI.out) (by omega)
  rw [hw3]
  clear hw3 hBn HS HI HA
  refine wp_rangeT (gf := 81) (lb := #[.pointer (some ⟨w.heap.size + 1 + 1, 0, none⟩)]) rfl (enters_of Tryd.func81 (by kernel_rfl) rfl)
    hseq (Below.refl _ _) (by omega) (fun _ => rfl)
    (fun T pre W => Nr w (w.heap.size + 3) (w.heap.size + 1) T (.int .i64 (pre.length : Nat)) W ∧ w.heap.size + 3 ≤ W.heap.size) (fun _ _ _ _ => False)
    (fun T T' pre A A' h hM hT => ⟨h.1.mod (by omega) (by omega) h.2 hM hT, Nat.le_trans h.2 hM.size⟩) (fun _ _ _ _ _ _ h _ _ => h)
    (fun T W' hT hB => ⟨⟨fun t ht => by have := hT t ht; omega, (hB.block _ (block_lt bO)).trans bO, hB0.trans (hB.mono (by omega))⟩, by have := hB.size; omega⟩)
    (fun x => { tmps := #[.agg nd, .pointer (some ⟨w.heap.size, 0, none⟩), .int .i64 0, .pointer (some ⟨w.heap.size + 1, 0, none⟩), .agg nd, .func (.func 81) #[] #[.pointer (some ⟨w.heap.size + 1 + 1, 0, none⟩)], nv x.1, .int .i64 (x.2 : Nat), undef, undef, undef], defers := [] }) ?assign ?body ?done ?stop
  case assign =>
    intro l x W K hK
    unfold enc
    gi_wp2
    have hz : (#[6, 7] : Array Tmp).zip #[nv x.1, .int .i64 (x.2 : Nat)] = #[(6, nv x.1), (7, .int .i64 (x.2 : Nat))] := by simp
    rw [hz]
    exact hK
  case body =>
    rintro l T pre x W ⟨hN, hz⟩ hTW hpre
    have hlt := HL.out _ _ hpre
    have hc : W.cell? ⟨w.heap.size + 1, 0, none⟩ = some (.int .i64 (pre.length : Nat)) := by rw [cell_block (show _ = some (Obj.cells _ _ _) from hN.box)]; rfl
    have hf := frozen_block (show _ = some (Obj.cells _ _ (0, 0)) from hN.box) 0
    have hlen : ((pre ++ [x]).length : Int) = (pre.length : Int) + 1 := by simp
    have hset : ∀ v, Nr w (w.heap.size + 3) (w.heap.size + 1) T v (W.setCell ⟨w.heap.size + 1, 0, none⟩ v) ∧ Mod [w.heap.size + 1] W (W.setCell ⟨w.heap.size + 1, 0, none⟩ v) := fun v =>
      ⟨⟨hN.T, block_setCell (i := 0) (show _ = some (Obj.cells _ _ _) from hN.box) _, hN.B.setCell (p := ⟨w.heap.size + 1, 0, none⟩) (by simp) _⟩, (Mod.refl _ W).setCell (p := ⟨w.heap.size + 1, 0, none⟩) (.inl (by simp)) _⟩
    have hk : ∀ v, (W.heap.size ≤ (W.setCell ⟨w.heap.size + 1, 0, none⟩ v).heap.size ∧ ∀ t ∈ T, (W.setCell ⟨w.heap.size + 1, 0, none⟩ v).heap[t]? = W.heap[t]?) ∧ Below w.heap.size W (W.setCell ⟨w.heap.size + 1, 0, none⟩ v) := fun v =>
      ⟨⟨(hset v).2.size, fun t ht => (hset v).2.block t (hTW t ht).2 (by have := hN.T t ht; simp; omega)⟩, (hset v).2.toBelow hN.B.size (by simp)⟩
    have HN := Lib.hid hset
    have HK := Lib.hid hk
    have HE := Lib.hid hlen
    have HZ := Lib.hid hz
    clear hset hk hN hlen hTW hpre hz
    generalize pre.length = q at *
    gi_wp2
    exact ⟨(HK.out _).1, (HK.out _).2, by rw [HE.out]; exact (HN.out _).1, Nat.le_trans HZ.out (HN.out _).2.size⟩
  case done =>
    rintro D W hD ⟨hN, hz⟩ hK
    have hc : W.cell? ⟨w.heap.size + 1, 0, none⟩ = some (.int .i64 ((walk n).length : Nat)) := by rw [cell_block (show _ = some (Obj.cells _ _ _) from hN.box)]; rfl
    have hB := Lib.hid hN.B
    clear hN
    gi_wp2
    refine ⟨by simp, .inl ⟨_, _, rfl, run_takeDeferred hK, ?_⟩⟩
    exact ⟨_, results_tmp rfl _ _ _, rfl, hB.out.trans (belowK_b (w := w) (Nat.le_refl _) W D _ _ (by omega) hK rfl rfl)⟩
  case stop =>
    rintro D c pre W _ _ h _
    exact h.elim
end Tr
end Go.Proofs.YtoeeddfinmfnoaaDoor

/- tree.Depth. -/
namespace Go.Proofs.YtoeeddfinmfnoaaDoor
open Go Go.RowKit Go.Shelf Kt
namespace Tr
attribute [local go_sem] Oper.semAt_some
set_option maxRecDepth 100000 in
set_option maxHeartbeats 2000000 in
/-- tree.Depth. -/
theorem depth_c (n : Nd) (w : World) (hIs : Is w.heap.size w n) :
    Calls Tryd.prog 50 #[nv n] w fun e W' => e = .returned (.int .i64 ((deep (walk n) : Nat) : Int)) ∧ Below w.heap.size w W' := by
  refine (callsIn_wide (n := 3)).1 ?_
  have hall := fun m w => all_in m n hIs.len w
  have hseqs := fun bn w0 h1 h2 h3 => all_seq (3 - 1) w.heap.size bn n w0 h1 h2 h3
  obtain ⟨x0, x1, x2, x3, hs⟩ := four' hIs.len
  have hnk : ∃ (k mn mx : Int) (a : Option Addr) (nl c : Nat) (t : List UInt8), nv n = .agg #[.int .i64 k, .int .u64 (x0 : Int), .int .u64 (x1 : Int), .int .u64 (x2 : Int), .int .u64 (x3 : Int), .slice a nl c, .int .i64 mn, .int .i64 mx, .string (Str t)] ∧ (cells n).toArray = #[.int .i64 k, .int .u64 (x0 : Int), .int .u64 (x1 : Int), .int .u64 (x2 : Int), .int .u64 (x3 : Int), .slice a nl c, .int .i64 mn, .int .i64 mx, .string (Str t)] := by
    obtain ⟨k, s, mn, mx, t, a, c, ks⟩ := n
    simp only [Nd.set] at hs
    subst hs
    exact ⟨k, mn, mx, a, ks.length, c, t, rfl, rfl⟩
  obtain ⟨k, mn, mx, a, nl, c, t, hnv, hcl⟩ := hnk
  rw [hnv, hcl] at hall
  rw [hcl] at hseqs
  rw [hnv]
  have HA := Lib.hid hall
  have HS := Lib.hid hseqs
  have HI := Lib.hid hIs
  clear hall hseqs hIs hnv hcl hs
  refine callsIn_of_wp_marks Tryd.func50 rfl trivial ?_ rfl
  simp only [Tryd.ntmps50, List.size_toArray, List.length_cons, List.length_nil, Nat.reduceAdd, Nat.reduceSub, Array.replicate_succ, Array.replicate_zero, List.push_toArray, List.append_toArray, List.nil_append, List.cons_append]
  gi_wp2_with (refine ⟨trivial, ?_⟩; gi_at_call 58; refine (HA.out _ _).mono ?_; rintro e w' ⟨rfl, rfl⟩)
  obtain ⟨nd, hnd⟩ : ∃ nd : Array Value, nd = #[.int .i64 k, .int .u64 (x0 : Int), .int .u64 (x1 : Int), .int .u64 (x2 : Int), .int .u64 (x3 : Int), .slice a nl c, .int .i64 mn, .int .i64 mx, .string (Str t)] := ⟨_, rfl⟩
  rw [← hnd] at HS ⊢
  obtain ⟨w3, hw3⟩ : ∃ w3, (((w.alloc (.cells nd 27)).alloc (.cells #[.int .i64 0] 3)).alloc (.cells nd 27)) = w3 := ⟨_, rfl⟩
  have hs3 : w3.heap.size = w.heap.size + 3 := by rw [← hw3]; simp
  have hB0 : Below w.heap.size w w3 := by
    rw [← hw3]
    exact (((Below.refl _ w).alloc (Nat.le_refl _) _).alloc (by simp) _).alloc (by simp; omega) _
  have bO : w3.heap[w.heap.size + 1]? = some (.cells #[.int .i64 0] 3 (0, 0)) := by
    rw [← hw3]
    have := heap_alloc_new (w.alloc (.cells nd 27)) (.cells #[.int .i64 0] 3)
    rw [World.size_alloc] at this
    exact block_alloc this
  have hBn : w3.heap[w.heap.size + 1 + 1]? = some (.cells nd 27 (0, 0)) := by
    rw [← hw3]
    have := heap_alloc_new ((w.alloc (.cells nd 27)).alloc (.cells #[.int .i64 0] 3)) (.cells nd 27)
    rw [World.size_alloc, World.size_alloc] at this
    exact this
  have hseq := HS.out _ w3 hBn (Is.below hB0 HI.out) (by omega)
  rw [hw3]
  clear hw3 hBn HS HI HA hnd
  refine wp_rangeT (gf := 81) (lb := #[.pointer (some ⟨w.heap.size + 1 + 1, 0, none⟩)]) rfl (enters_of Tryd.func81 (by kernel_rfl) rfl)
    hseq (Below.refl _ _) (by omega) (fun _ => rfl)
    (fun T pre W => Nr w (w.heap.size + 3) (w.heap.size + 1) T (.int .i64 (deep pre : Nat)) W ∧ w.heap.size + 3 ≤ W.heap.size) (fun _ _ _ _ => False)
    (fun T T' pre A A' h hM hT => ⟨h.1.mod (by omega) (by omega) h.2 hM hT, Nat.le_trans h.2 hM.size⟩) (fun _ _ _ _ _ _ h _ _ => h)
    (fun T W' hT hB => ⟨⟨fun t ht => by have := hT t ht; omega, (hB.block _ (block_lt bO)).trans bO, hB0.trans (hB.mono (by omega))⟩, by have := hB.size; omega⟩)
    (fun x => { tmps := #[.agg nd, .pointer (some ⟨w.heap.size, 0, none⟩), .int .i64 0, .pointer (some ⟨w.heap.size + 1, 0, none⟩), undef, .int .i64 (x.2 : Nat), .agg nd, .func (.func 81) #[] #[.pointer (some ⟨w.heap.size + 1 + 1, 0, none⟩)], nv x.1, .int .i64 (x.2 : Nat), undef, undef, undef, undef], defers := [] }) ?assign ?body ?done ?stop
  case assign =>
    intro l x W K hK
    unfold enc
    have hz : (#[8, 9] : Array Tmp).zip #[nv x.1, .int .i64 (x.2 : Nat)] = #[(8, nv x.1), (9, .int .i64 (x.2 : Nat))] := by simp
    rw [hz]
    gi_wp2
    exact hK
  case body =>
    rintro l T pre x W ⟨hN, hz⟩ hTW hpre
    have hc : W.cell? ⟨w.heap.size + 1, 0, none⟩ = some (.int .i64 (deep pre : Nat)) := by rw [cell_block (show _ = some (Obj.cells _ _ _) from hN.box)]; rfl
    have hf := frozen_block (show _ = some (Obj.cells _ _ (0, 0)) from hN.box) 0
    have hlen : (deep (pre ++ [x]) : Int) = max (deep pre : Int) (x.2 : Int) := by rw [deep, List.foldl_append]; simp [deep]; omega
    have hset : ∀ v, Nr w (w.heap.size + 3) (w.heap.size + 1) T v (W.setCell ⟨w.heap.size + 1, 0, none⟩ v) ∧ Mod [w.heap.size + 1] W (W.setCell ⟨w.heap.size + 1, 0, none⟩ v) := fun v =>
      ⟨⟨hN.T, block_setCell (i := 0) (show _ = some (Obj.cells _ _ _) from hN.box) _, hN.B.setCell (p := ⟨w.heap.size + 1, 0, none⟩) (by simp) _⟩, (Mod.refl _ W).setCell (p := ⟨w.heap.size + 1, 0, none⟩) (.inl (by simp)) _⟩
    have hk : ∀ v, (W.heap.size ≤ (W.setCell ⟨w.heap.size + 1, 0, none⟩ v).heap.size ∧ ∀ t ∈ T, (W.setCell ⟨w.heap.size + 1, 0, none⟩ v).heap[t]? = W.heap[t]?) ∧ Below w.heap.size W (W.setCell ⟨w.heap.size + 1, 0, none⟩ v) := fun v =>
      ⟨⟨(hset v).2.size, fun t ht => (hset v).2.block t (hTW t ht).2 (by have := hN.T t ht; simp; omega)⟩, (hset v).2.toBelow hN.B.size (by simp)⟩
    have HN := Lib.hid hset
    have HK := Lib.hid hk
    have HE := Lib.hid hlen
    have HZ := Lib.hid hz
    clear hset hk hN hlen hTW hpre hz
    obtain ⟨x1', x2'⟩ := x
    simp only at *
    generalize deep pre = q at *
    gi_wp2
    · rename_i hx _
      have h : max (q : Int) (x2' : Int) = x2' := by first | omega | (simp at hx; omega)
      exact ⟨(HK.out _).1, (HK.out _).2, by rw [HE.out, h]; exact (HN.out _).1, Nat.le_trans HZ.out (HN.out _).2.size⟩
    · rename_i hx _
      have h : max (q : Int) (x2' : Int) = q := by first | omega | (simp at hx; omega)
      exact ⟨(HK.out _).1, (HK.out _).2, by rw [HE.out, h]; exact (HN.out _).1, Nat.le_trans HZ.out (HN.out _).2.size⟩
  case done =>
    rintro D W hD ⟨hN, hz⟩ hK
    have hc : W.cell? ⟨w.heap.size + 1, 0, none⟩ = some (.int .i64 (deep (walk n) : Nat)) := by rw [cell_block (show _ = some (Obj.cells _ _ _) from hN.box)]; rfl
    have hB := Lib.hid hN.B
    clear hN
    gi_wp2
    refine ⟨by simp, .inl ⟨_, _, rfl, run_takeDeferred hK, ?_⟩⟩
    exact ⟨_, results_tmp rfl _ _ _, rfl, hB.out.trans (belowK_b (w := w) (Nat.le_refl _) W D _ _ (by omega) hK rfl rfl)⟩
  case stop =>
    rintro D c pre W _ _ h _
    exact h.elim
end Tr
end Go.Proofs.YtoeeddfinmfnoaaDoor
