/- The state of the law MarksPlay: two marks beside their models. -/
import Derived.Test.YtfkjijjmphbglaaDoorMarksS
namespace Go.Proofs.YtfkjijjmphbglaaDoor
open Go Go.RowKit Kt
namespace Mk
structure PlM (w W : World) (px bx py b' vz vg uz ug : Nat) (xs ys vs us : List Bool) : Prop where
  x : MI W px bx xs
  y : MI W py b' ys
  v : RI W vz vg vs
  u : RI W uz ug us
  B : Below w.heap.size w W
  s : [px, bx, py, b', vz, vg, uz, ug].Nodup
  l : ∀ k ∈ [px, bx, py, b', vz, vg, uz, ug], w.heap.size ≤ k
variable {w W W' : World} {px bx py b' vz vg uz ug : Nat} {xs ys vs us : List Bool}
theorem perm8 (a b c d e f g h : Nat) : [a, b, c, d, e, f, g, h].Perm [c, d, a, b, g, h, e, f] :=
  List.Perm.append (l₁ := [a, b, c, d]) (l₂ := [c, d, a, b]) (t₁ := [e, f, g, h]) (t₂ := [g, h, e, f]) (List.perm_append_comm (l₁ := [a, b]) (l₂ := [c, d])) (List.perm_append_comm (l₁ := [e, f]) (l₂ := [g, h]))
theorem PlM.swap (h : PlM w W px bx py b' vz vg uz ug xs ys vs us) : PlM w W py b' px bx uz ug vz vg ys xs us vs :=
  ⟨h.y, h.x, h.u, h.v, h.B, (perm8 ..).nodup_iff.1 h.s, fun k hk => h.l k ((perm8 ..).mem_iff.2 hk)⟩
theorem PlM.lt (h : PlM w W px bx py b' vz vg uz ug xs ys vs us) : ∀ k ∈ [px, bx, py, b', vz, vg, uz, ug], k < W.heap.size := by
  have := h.x.plt; have := h.x.blt; have := h.y.plt; have := h.y.blt; have := h.v.zlt; have := h.v.glt; have := h.u.zlt; have := h.u.glt
  intro k hk
  simp at hk
  rcases hk with rfl | rfl | rfl | rfl | rfl | rfl | rfl | rfl <;> assumption
theorem PlM.mod {S : List Nat} (h : PlM w W px bx py b' vz vg uz ug xs ys vs us) (hM : Mod S W W') (hS : ∀ k ∈ S, k ∉ [px, bx, py, b', vz, vg, uz, ug] ∧ w.heap.size ≤ k) : PlM w W' px bx py b' vz vg uz ug xs ys vs us := by
  have hn : ∀ k ∈ [px, bx, py, b', vz, vg, uz, ug], k ∉ S := fun k hk hs => (hS k hs).1 hk
  exact ⟨h.x.mod hM (hn _ (by simp)) (hn _ (by simp)), h.y.mod hM (hn _ (by simp)) (hn _ (by simp)), h.v.mod hM (hn _ (by simp)) (hn _ (by simp)), h.u.mod hM (hn _ (by simp)) (hn _ (by simp)), h.B.trans (hM.toBelow h.B.size fun k hk => (hS k hk).2), h.s, h.l⟩
theorem PlM.below (h : PlM w W px bx py b' vz vg uz ug xs ys vs us) (hb : Below W.heap.size W W') : PlM w W' px bx py b' vz vg uz ug xs ys vs us := h.mod (Mod.of_below hb []) (by simp)
theorem PlM.stepX {xs' : List Bool} (h : PlM w W px bx py b' vz vg uz ug xs ys vs us) (hx : MI W' px bx xs') (hM : Mod [bx] W W') : PlM w W' px bx py b' vz vg uz ug xs' ys vs us ∧ Mod [bx, b', vg, ug] W W' := by
  have hs := h.s
  have hl := h.l bx (by simp)
  exact ⟨⟨hx, h.y.mod hM (by intro hm; simp at hm; subst hm; simp at hs) (by intro hm; simp at hm; subst hm; simp at hs), h.v.mod hM (by intro hm; simp at hm; subst hm; simp at hs) (by intro hm; simp at hm; subst hm; simp at hs), h.u.mod hM (by intro hm; simp at hm; subst hm; simp at hs) (by intro hm; simp at hm; subst hm; simp at hs), h.B.trans (hM.toBelow h.B.size (by simpa using hl)), h.s, h.l⟩, hM.sub (by intro k hk; simp at hk; simp [hk])⟩
theorem PlM.stepV {vs' : List Bool} (h : PlM w W px bx py b' vz vg uz ug xs ys vs us) (hv : RI W' vz vg vs') (hM : Mod [vg] W W') : PlM w W' px bx py b' vz vg uz ug xs ys vs' us ∧ Mod [bx, b', vg, ug] W W' := by
  have hs := h.s
  have hl := h.l vg (by simp)
  exact ⟨⟨h.x.mod hM (by intro hm; simp at hm; subst hm; simp at hs) (by intro hm; simp at hm; subst hm; simp at hs), h.y.mod hM (by intro hm; simp at hm; subst hm; simp at hs) (by intro hm; simp at hm; subst hm; simp at hs), hv, h.u.mod hM (by intro hm; simp at hm; subst hm; simp at hs) (by intro hm; simp at hm; subst hm; simp at hs), h.B.trans (hM.toBelow h.B.size (by simpa using hl)), h.s, h.l⟩, hM.sub (by intro k hk; simp at hk; simp [hk])⟩
theorem PlM.tab (h : PlM w W px bx py b' vz vg uz ug xs ys vs us) (hT : Bt.Tab w) : Bt.Tab W := hT.below h.B
theorem putX (i : Int) (hw : (Lit.int .i64 i).wf = true) (h : PlM w W px bx py b' vz vg uz ug xs ys vs us) : Calls Tryd.prog 35 #[.pointer (some ⟨px, 0, none⟩), .int .i64 i] W fun e W' => e = .returned (.bool (prB xs i)) ∧ PlM w W' px bx py b' vz vg uz ug (puB xs i) ys vs us ∧ Mod [bx, b', vg, ug] W W' :=
  (put_m i hw W h.x).mono fun _ _ ⟨h1, h2, h3⟩ => ⟨h1, h.stepX h2 h3⟩
theorem outX (i : Int) (hw : (Lit.int .i64 i).wf = true) (h : PlM w W px bx py b' vz vg uz ug xs ys vs us) : Calls Tryd.prog 37 #[.pointer (some ⟨px, 0, none⟩), .int .i64 i] W fun e W' => e = .returned (.bool (hasB xs i)) ∧ PlM w W' px bx py b' vz vg uz ug (ouB xs i) ys vs us ∧ Mod [bx, b', vg, ug] W W' :=
  (out_m i hw W h.x).mono fun _ _ ⟨h1, h2, h3⟩ => ⟨h1, h.stepX h2 h3⟩
theorem putV (i : Int) (h : PlM w W px bx py b' vz vg uz ug xs ys vs us) : Calls Tryd.prog 36 #[.pointer (some ⟨vz, 0, none⟩), .int .i64 i] W fun e W' => e = .returned (.bool (prB vs i)) ∧ PlM w W' px bx py b' vz vg uz ug xs ys (puB vs i) us ∧ Mod [bx, b', vg, ug] W W' :=
  (put_r i W h.v).mono fun _ _ ⟨h1, h2, h3⟩ => ⟨h1, h.stepV h2 h3⟩
theorem outV (i : Int) (h : PlM w W px bx py b' vz vg uz ug xs ys vs us) : Calls Tryd.prog 38 #[.pointer (some ⟨vz, 0, none⟩), .int .i64 i] W fun e W' => e = .returned (.bool (hasB vs i)) ∧ PlM w W' px bx py b' vz vg uz ug xs ys (ouB vs i) us ∧ Mod [bx, b', vg, ug] W W' :=
  (out_r i W h.v).mono fun _ _ ⟨h1, h2, h3⟩ => ⟨h1, h.stepV h2 h3⟩
theorem orX (hT : Bt.Tab w) (h : PlM w W px bx py b' vz vg uz ug xs ys vs us) : Calls Tryd.prog 40 #[.pointer (some ⟨px, 0, none⟩), .pointer (some ⟨py, 0, none⟩)] W fun e W' => e = .returned (.bool (orB xs (tru ys)).2) ∧ PlM w W' px bx py b' vz vg uz ug (orB xs (tru ys)).1 ys vs us ∧ Mod [bx, b', vg, ug] W W' := by
  have hs := h.s
  have hl := h.l bx (by simp)
  refine (or_m W h.x h.y (by rintro rfl; simp at hs) (by rintro rfl; simp at hs) fun W2 hM => hT.below (h.B.trans (hM.toBelow h.B.size (by simpa using hl)))).mono fun _ _ ⟨h1, h2, h3⟩ => ⟨h1, h.stepX h2 h3⟩
theorem copyX (h : PlM w W px bx py b' vz vg uz ug xs ys vs us) : Calls Tryd.prog 41 #[.pointer (some ⟨px, 0, none⟩)] W fun e W' => ∃ p' g, e = .returned (.pointer (some ⟨p', 0, none⟩)) ∧ PlM w W' p' g py b' vz vg uz ug xs ys vs us ∧ MI W' px bx xs ∧ bx ∉ [p', g, py, b', vz, vg, uz, ug] ∧ w.heap.size ≤ bx ∧ Below W.heap.size W W' ∧ W.heap.size ≤ g := by
  refine (copy_m W h.x).mono fun _ _ ⟨p', g, h1, h2, h3, h4, h5⟩ => ⟨p', g, h1, ?_, h.x.below h5, ?_, h.l bx (by simp), h5, h4⟩
  · have hb := h.below h5
    have hlt := h.lt
    have hz := h.B.size
    have hr : ∀ k ∈ [py, b', vz, vg, uz, ug], k < W.heap.size := fun k hk => hlt k (by simp at hk ⊢; simp [hk])
    have hs := h.s
    rw [List.nodup_cons, List.nodup_cons] at hs
    refine ⟨h2, hb.y, hb.v, hb.u, hb.B, ?_, ?_⟩
    · rw [List.nodup_cons, List.nodup_cons]
      refine ⟨fun hm => ?_, fun hm => ?_, hs.2.2⟩
      · rcases List.mem_cons.1 hm with e | e
        · exact h2.ne e.symm
        · have := hr _ e; omega
      · have := hr _ hm; omega
    · intro k hk
      rcases List.mem_cons.1 hk with e | e
      · omega
      · rcases List.mem_cons.1 e with e | e
        · omega
        · exact h.l k (by simp at e ⊢; simp [e])
  · have hs := h.s
    rw [List.nodup_cons, List.nodup_cons] at hs
    have hlt := h.x.blt
    intro hm
    rcases List.mem_cons.1 hm with e | e
    · omega
    · rcases List.mem_cons.1 e with e | e
      · omega
      · exact hs.2.1 e
theorem oldM {b : Nat} (hM : Mod [b] W W') (h : PlM w W px bx py b' vz vg uz ug xs ys vs us) (hb : b ∉ [px, bx, py, b', vz, vg, uz, ug]) (hl : w.heap.size ≤ b) : PlM w W' px bx py b' vz vg uz ug xs ys vs us :=
  h.mod hM (fun k hk => by simp at hk; subst hk; exact ⟨hb, hl⟩)
theorem keepA {S : List Nat} {W W' : World} {z : Nat} {c : Array Value} {t : Nat} (hM : Mod S W W') (hz : z ∉ S) (h : W.heap[z]? = some (.cells c t (0, 0))) : W'.heap[z]? = some (.cells c t (0, 0)) := by
  rw [hM.block z (block_lt h) hz]; exact h
theorem keep1 {S : List Nat} {W W' : World} {z o : Nat} {v : Value} (hM : Mod S W W') (hz : z ∉ S) (h : W.cell? ⟨z, o, none⟩ = some v) : W'.cell? ⟨z, o, none⟩ = some v := by
  rw [hM.cell (p := ⟨z, o, none⟩) (lt_of_cell (p := ⟨z, o, none⟩) h) hz]; exact h
end Mk
end Go.Proofs.YtfkjijjmphbglaaDoor
