/- Plain law of chapter 07: a chain of Cats, and a Cat of many kids; a node's block written over. -/
import Derived.Test.YteekonojmpihlaaDoorQTreeMem
namespace Go.Proofs.YteekonojmpihlaaDoor
open Go Go.RowKit Kt St Sp Bk
namespace Tr
/-- A set's node. -/
def leaf (s : List Nat) : Nd := .mk 1 s 0 0 [] none 0 []
/-- So many Cats around it. -/
def chn (s : List Nat) : Nat → Nd
  | 0 => leaf s
  | j + 1 => .mk 2 [0, 0, 0, 0] 0 0 [] none 0 [chn s j]
theorem one_leaf (s : List Nat) : one (leaf s) = true := by simp [leaf, one, bare, Nd.kind, Nd.set, Nd.mn, Nd.mx, Nd.text, Nd.kids]
theorem one_cat (a : Option Addr) (c : Nat) (ks : List Nd) : one (.mk 2 [0, 0, 0, 0] 0 0 [] a c ks) = true := by simp [one, bare, Nd.kind, Nd.set, Nd.mn, Nd.mx, Nd.text, Nd.kids]
theorem full_chn (s : List Nat) : ∀ (j lv : Nat), lv ≤ 25 → (full lv (chn s j)).map Prod.snd = List.range' lv (min (j + 1) (26 - lv)) ∧ ∀ x ∈ full lv (chn s j), one x.1 = true ∧ x.1.text = []
  | 0, lv, h => by
    have h1 : min (0 + 1) (26 - lv) = 1 := by omega
    rw [h1]
    simp [chn, leaf, full, fulls]
    exact ⟨one_leaf s, rfl⟩
  | j + 1, lv, h => by
    by_cases h24 : 24 < lv
    · have h1 : min (j + 1 + 1) (26 - lv) = 1 := by omega
      rw [h1]
      simp only [chn, full, if_pos h24]
      simp
      exact ⟨one_cat _ _ _, rfl⟩
    · obtain ⟨h1, h2⟩ := full_chn s j (lv + 1) (by omega)
      simp only [chn, full, if_neg h24, fulls, List.append_nil]
      constructor
      · rw [List.map_cons, h1]
        have h3 : min (j + 1 + 1) (26 - lv) = min (j + 1) (26 - (lv + 1)) + 1 := by omega
        rw [h3, List.range'_succ]
      · intro x hx
        rcases List.mem_cons.1 hx with rfl | hx
        · exact ⟨one_cat _ _ _, rfl⟩
        · exact h2 x hx
theorem walk_chn (s : List Nat) (j : Nat) : walk (chn s j) = full 1 (chn s j) := by
  have h := congrArg List.length (full_chn s j 1 (by omega)).1
  simp at h
  exact List.take_of_length_le (by omega)
theorem rgt_chn (s : List Nat) (j : Nat) : rgt (chn s j) = decide (j < 24) := by
  obtain ⟨h1, h2⟩ := full_chn s j 1 (by omega)
  have hl := congrArg List.length h1
  simp at hl
  unfold rgt
  rw [walk_chn, decide_eq_true (by omega), Bool.true_and]
  by_cases hj : j < 24
  · rw [decide_eq_true hj, List.all_eq_true]
    intro x hx
    have hm : x.2 ∈ List.range' 1 (min (j + 1) (26 - 1)) := by rw [← h1]; exact List.mem_map_of_mem hx
    rw [List.mem_range'_1] at hm
    simp [(h2 x hx).1]
    omega
  · rw [decide_eq_false hj, List.all_eq_false]
    have hm : 25 ∈ (full 1 (chn s j)).map Prod.snd := by rw [h1, List.mem_range'_1]; omega
    obtain ⟨x, hx, hx2⟩ := List.mem_map.1 hm
    exact ⟨x, hx, by simp [hx2]⟩
theorem deep_range (k : Nat) : ∀ l : List (Nd × Nat), l.map Prod.snd = List.range' 1 k → deep l = k := by
  induction k with
  | zero => intro l h; simp at h; subst h; rfl
  | succ k ih =>
    intro l h
    rw [List.range'_concat] at h
    obtain ⟨l1, l2, rfl, h1, h2⟩ := List.map_eq_append_iff.1 h
    obtain ⟨x, rfl, hx⟩ : ∃ x, l2 = [x] ∧ x.2 = 1 + k := by
      have hl : l2.length = 1 := by simpa using congrArg List.length h2
      match l2, hl, h2 with
      | [x], _, h2 => exact ⟨x, rfl, by simpa using h2⟩
    have := ih l1 h1
    unfold deep at this ⊢
    rw [List.foldl_append, this]
    simp
    omega
theorem deep_chn (s : List Nat) (j : Nat) : deep (walk (chn s j)) = min (j + 1) 25 := by
  rw [walk_chn]
  exact deep_range _ _ (full_chn s j 1 (by omega)).1
/-- A Cat of many. -/
def wide (s : List Nat) (m : Nat) : Nd := .mk 2 [0, 0, 0, 0] 0 0 [] none 0 (List.replicate m (leaf s))
theorem fulls_rep (s : List Nat) : ∀ m : Nat, fulls 2 (List.replicate m (leaf s)) = List.replicate m (leaf s, 2)
  | 0 => rfl
  | m + 1 => by
    rw [List.replicate_succ, fulls, fulls_rep s m, List.replicate_succ]
    simp [leaf, full, fulls]
theorem full_wide (s : List Nat) (m : Nat) : full 1 (wide s m) = (wide s m, 1) :: List.replicate m (leaf s, 2) := by
  show full 1 (.mk 2 [0, 0, 0, 0] 0 0 [] none 0 (List.replicate m (leaf s))) = _
  rw [full, if_neg (by decide), fulls_rep]
  rfl
theorem walk_wide (s : List Nat) (m : Nat) : (walk (wide s m)).length = min (m + 1) 601 := by
  simp [walk, full_wide, List.length_take]
  omega
theorem rgt_wide (s : List Nat) (m : Nat) : rgt (wide s m) = decide (m < 600) := by
  unfold rgt
  rw [walk_wide]
  have hall : ((walk (wide s m)).all fun x => decide (x.2 ≤ 24) && one x.1) = true := by
    rw [List.all_eq_true]
    intro x hx
    have hx := List.mem_of_mem_take hx
    rw [full_wide] at hx
    rcases List.mem_cons.1 hx with rfl | hx
    · simp [wide, one_cat]
    · rw [List.mem_replicate] at hx
      simp [hx.2, one_leaf]
  rw [hall, Bool.and_true]
  exact decide_eq_decide.2 (by omega)
theorem text_wide (s : List Nat) (m : Nat) : ∀ x ∈ walk (wide s m), x.1.text = [] := by
  intro x hx
  have hx := List.mem_of_mem_take hx
  rw [full_wide] at hx
  rcases List.mem_cons.1 hx with rfl | hx
  · rfl
  · rw [List.mem_replicate] at hx
    rw [hx.2]
    rfl
theorem text_walk {n m : Nd} (h : er n = er m) (k : Nat) (hm : ∀ x ∈ walk m, x.1.text.length ≤ k) : ∀ x ∈ walk n, x.1.text.length ≤ k := by
  have h1 : (walk n).map (fun x => x.1.text) = (walk m).map (fun x => x.1.text) := by
    have h2 : ∀ q : Nd, (walk q).map (fun x => x.1.text) = (walk (er q)).map (fun x => x.1.text) := fun q => by
      rw [er_walk, List.map_map]
      exact List.map_congr_left fun x _ => (er_text x.1).symm
    rw [h2, h, ← h2]
  intro x hx
  have : x.1.text ∈ (walk m).map (fun x => x.1.text) := by rw [← h1]; exact List.mem_map_of_mem hx
  obtain ⟨y, hy, he⟩ := List.mem_map.1 this
  rw [← he]
  exact hm y hy
theorem same_rgt {n m : Nd} (h : er n = er m) : rgt n = rgt m := by rw [← er_rgt, h, er_rgt]
theorem same_deep {n m : Nd} (h : er n = er m) : deep (walk n) = deep (walk m) := by
  rw [← deep_map, ← er_walk, h, er_walk, deep_map]
theorem same_len {n m : Nd} (h : er n = er m) : (walk n).length = (walk m).length := by
  have : ∀ q : Nd, (walk q).length = (walk (er q)).length := fun q => by rw [er_walk, List.length_map]
  rw [this, h, ← this]
/-! ### A node's block written over -/
/-- A node's nine cells, stored one by one. -/
def put9 (W : World) (b : Nat) (v0 v1 v2 v3 v4 v5 v6 v7 v8 : Value) : World :=
  ((((((((W.setCell ⟨b, 0, none⟩ v0).setCell ⟨b, 1, none⟩ v1).setCell ⟨b, 2, none⟩ v2).setCell ⟨b, 3, none⟩ v3).setCell ⟨b, 4, none⟩ v4).setCell ⟨b, 5, none⟩ v5).setCell ⟨b, 6, none⟩ v6).setCell ⟨b, 7, none⟩ v7).setCell ⟨b, 8, none⟩ v8
theorem put9_block {W : World} {b T : Nat} {u0 u1 u2 u3 u4 u5 u6 u7 u8 : Value} {f : Nat × Nat} (h : W.heap[b]? = some (Obj.cells #[u0, u1, u2, u3, u4, u5, u6, u7, u8] T f)) (v0 v1 v2 v3 v4 v5 v6 v7 v8 : Value) :
    (put9 W b v0 v1 v2 v3 v4 v5 v6 v7 v8).heap[b]? = some (Obj.cells #[v0, v1, v2, v3, v4, v5, v6, v7, v8] T f) := by
  have h0 := block_setCell (i := 0) (show _ = some (Obj.cells _ _ _) from h) v0
  simp only [List.setIfInBounds_toArray, List.set_cons_succ, List.set_cons_zero] at h0
  have h1 := block_setCell (i := 1) (show _ = some (Obj.cells _ _ _) from h0) v1
  simp only [List.setIfInBounds_toArray, List.set_cons_succ, List.set_cons_zero] at h1
  have h2 := block_setCell (i := 2) (show _ = some (Obj.cells _ _ _) from h1) v2
  simp only [List.setIfInBounds_toArray, List.set_cons_succ, List.set_cons_zero] at h2
  have h3 := block_setCell (i := 3) (show _ = some (Obj.cells _ _ _) from h2) v3
  simp only [List.setIfInBounds_toArray, List.set_cons_succ, List.set_cons_zero] at h3
  have h4 := block_setCell (i := 4) (show _ = some (Obj.cells _ _ _) from h3) v4
  simp only [List.setIfInBounds_toArray, List.set_cons_succ, List.set_cons_zero] at h4
  have h5 := block_setCell (i := 5) (show _ = some (Obj.cells _ _ _) from h4) v5
  simp only [List.setIfInBounds_toArray, List.set_cons_succ, List.set_cons_zero] at h5
  have h6 := block_setCell (i := 6) (show _ = some (Obj.cells _ _ _) from h5) v6
  simp only [List.setIfInBounds_toArray, List.set_cons_succ, List.set_cons_zero] at h6
  have h7 := block_setCell (i := 7) (show _ = some (Obj.cells _ _ _) from h6) v7
  simp only [List.setIfInBounds_toArray, List.set_cons_succ, List.set_cons_zero] at h7
  have h8 := block_setCell (i := 8) (show _ = some (Obj.cells _ _ _) from h7) v8
  simp only [List.setIfInBounds_toArray, List.set_cons_succ, List.set_cons_zero] at h8
  unfold put9
  exact h8
theorem put9_mod (W : World) (b : Nat) (v0 v1 v2 v3 v4 v5 v6 v7 v8 : Value) : Mod [b] W (put9 W b v0 v1 v2 v3 v4 v5 v6 v7 v8) := by
  have h0 := (Mod.refl [b] W).setCell (p := ⟨b, 0, none⟩) (.inl (by simp)) v0
  have h1 := h0.setCell (p := ⟨b, 1, none⟩) (.inl (by simp)) v1
  have h2 := h1.setCell (p := ⟨b, 2, none⟩) (.inl (by simp)) v2
  have h3 := h2.setCell (p := ⟨b, 3, none⟩) (.inl (by simp)) v3
  have h4 := h3.setCell (p := ⟨b, 4, none⟩) (.inl (by simp)) v4
  have h5 := h4.setCell (p := ⟨b, 5, none⟩) (.inl (by simp)) v5
  have h6 := h5.setCell (p := ⟨b, 6, none⟩) (.inl (by simp)) v6
  have h7 := h6.setCell (p := ⟨b, 7, none⟩) (.inl (by simp)) v7
  have h8 := h7.setCell (p := ⟨b, 8, none⟩) (.inl (by simp)) v8
  unfold put9
  exact h8
/-- A tree whose node lies in the block b, its rows beyond. -/
structure Bx (T b : Nat) (n : Nd) (W : World) : Prop where
  blk : W.heap[b]? = some (.cells (cells n).toArray T (0, 0))
  is : Is W.heap.size W n
  out : Bl (b < ·) n
theorem Bx.below {T b : Nat} {n : Nd} {W W' : World} (h : Bx T b n W) (hb : Below W.heap.size W W') : Bx T b n W' :=
  ⟨(hb.block b (block_lt h.blk)).trans h.blk, Is.mono hb.size (Is.below hb h.is), h.out⟩
theorem Bx.mod {T b : Nat} {n : Nd} {S : List Nat} {W W' : World} (h : Bx T b n W) (hM : Mod S W W') (hb : b ∉ S) (hS : Bl (· ∉ S) n) : Bx T b n W' :=
  ⟨(hM.block b (block_lt h.blk) hb).trans h.blk, Is.mono hM.size (Is.modB hM h.is hS), h.out⟩
/-- One Cat more around it. -/
theorem Bx.wrap {T b : Nat} {n : Nd} {W : World} (h : Bx T b n W) (hs : n.set.length = 4) :
    let W1 := W.alloc (.cells (cells n).toArray T)
    let W2 := put9 W1 b (.int .i64 2) (.int .u64 0) (.int .u64 0) (.int .u64 0) (.int .u64 0) (.slice (some ⟨W.heap.size, 0, none⟩) 1 1) (.int .i64 0) (.int .i64 0) (.string ⟨#[]⟩)
    Bx T b (.mk 2 [0, 0, 0, 0] 0 0 [] (some ⟨W.heap.size, 0, none⟩) 1 [n]) W2 ∧ Mod [b] W W2 := by
  intro W1 W2
  have hlt := block_lt h.blk
  have b1 : Below W.heap.size W W1 := (Below.refl _ _).alloc (Nat.le_refl _) _
  have hz : W1.heap.size = W.heap.size + 1 := by simp [W1]
  have h1 := h.below b1
  have m2 : Mod [b] W1 W2 := put9_mod _ _ _ _ _ _ _ _ _ _ _
  have hrow : W1.heap[W.heap.size]? = some (.cells (cells n).toArray T (0, 0)) := heap_alloc_new W _
  have hrow2 := (m2.block W.heap.size (by omega) (by simp; omega)).trans hrow
  have hblk : W1.heap[b]? = some (.cells #[.int .i64 n.kind, (w64 n.set).getD 0 undef, (w64 n.set).getD 1 undef, (w64 n.set).getD 2 undef, (w64 n.set).getD 3 undef, .slice n.a n.kids.length n.cap, .int .i64 n.mn, .int .i64 n.mx, .string (Str n.text)] T (0, 0)) := by
    rw [h1.blk]
    obtain ⟨k, s, mn, mx, t, a, c, ks⟩ := n
    match s, hs with
    | [x0, x1, x2, x3], _ => rfl
  refine ⟨⟨put9_block hblk _ _ _ _ _ _ _ _ _, ?_, ?_⟩, (Mod.of_below b1 [b]).trans m2 (fun x hx => .inl hx)⟩
  · have hn2 := Is.mono m2.size (Is.modB m2 h1.is (h.out.mono fun x hx => by simp; omega))
    refine ⟨rfl, Nat.le_refl _, by decide, (fun e => by cases e), ?_, (fun p hp _ => by cases hp; show W.heap.size < _; have := m2.size; omega), hn2, trivial⟩
    intro i x hi
    refine ⟨_, _, rfl, ?_⟩
    rw [cell_block hrow2, Nat.zero_add]
    simpa using hi
  · exact ⟨fun p hp _ => by cases hp; exact hlt, h.out, trivial⟩
theorem er_leaf (s : List Nat) : er (leaf s) = leaf s := rfl
theorem er_chn (s : List Nat) : ∀ j, er (chn s j) = chn s j
  | 0 => rfl
  | j + 1 => by simp only [chn, er, ers, er_chn s j]
theorem ers_rep (s : List Nat) (m : Nat) : ers (List.replicate m (leaf s)) = List.replicate m (leaf s) := by
  rw [ers_map, List.map_replicate, er_leaf]
theorem er_wide (s : List Nat) (m : Nat) (a : Option Addr) (c : Nat) : er (.mk 2 [0, 0, 0, 0] 0 0 [] a c (List.replicate m (leaf s))) = er (wide s m) := by
  simp only [er, wide, ers_rep]
theorem is_leafB (B : Nat) (W : World) {s : List Nat} (hs : s.length = 4) : Is B W (leaf s) :=
  ⟨hs, Nat.le_refl _, by decide, fun _ => rfl, Rd.nil _ _, (fun p hp => by cases hp), trivial⟩
theorem is_wide {e B m : Nat} {W : World} {s : List Nat} (hs : s.length = 4) {a : Option Addr} {c : Nat} (h : W.ownsRow B e 9 (.slice a m c) m ((List.replicate m (leaf s)).flatMap cells)) : Is W.heap.size W (.mk 2 [0, 0, 0, 0] 0 0 [] a c (List.replicate m (leaf s))) := by
  obtain ⟨a', c', he, h1, h2, h3, h4⟩ := rd_own h
  simp only [Value.slice.injEq] at he
  obtain ⟨rfl, _, rfl⟩ := he
  refine ⟨rfl, by simpa using h1, h2, fun hn => ?_, h3, fun p hp hne => ?_, IsAll.of fun n hn => ?_⟩
  · subst hn; exact (own_none h).1
  · obtain ⟨q, hq, hl⟩ := h3.lt hne
    rw [hp] at hq
    cases hq
    exact hl
  · rw [List.mem_replicate] at hn
    rw [hn.2]
    exact is_leafB _ _ hs
end Tr
end Go.Proofs.YteekonojmpihlaaDoor
