/- A comb that is being made, in memory. -/
import Derived.Test.YteekonojmpihlaaDoorQCbPut1
import Derived.Test.YteekonojmpihlaaDoorQRow
import Derived.Test.YteekonojmpihlaaDoorQApp
namespace Go.Proofs.YteekonojmpihlaaDoor
namespace Kt
end Kt
open Go Go.RowKit Kt
namespace Cb
/-- The comb that is made: its box C, its base's row B; its slots' rows, none of them in X. -/
structure Pm (w2 : World) (C B n : Nat) (wd : Int) (dv : Value) (X : List Nat) (st : Ly) (m : Nat) (a3 : Option Addr) (c3 : Nat) (a4 : Option Addr) (c4 : Nat) (W : World) : Prop where
  box : W.heap[C]? = some (.cells #[.int .i64 wd, .slice (some ⟨B, 0, none⟩) n n, dv, .slice a3 m c3, .slice a4 m c4] 71 (0, 0))
  row : Rx W B 3 n (i64s st.base)
  own3 : W.ownsRow w2.heap.size 3 1 (.slice a3 m c3) m (i64s st.next)
  own4 : W.ownsRow w2.heap.size 3 1 (.slice a4 m c4) m (i64s st.check)
  lb : st.base.length = n
  l3 : st.next.length = m
  l4 : st.check.length = m
  ap : ∀ p q, a3 = some p → a4 = some q → p.block ≠ q.block
  av : ∀ p, a3 = some p ∨ a4 = some p → p.block ∉ X
  hX : ∀ x ∈ X, x < W.heap.size ∧ w2.heap.size ≤ x
  mod : Mod [C, B] w2 W
  hC : C < w2.heap.size
  hB : B < w2.heap.size
  hCB : B ≠ C
variable {w2 W W' : World} {C B n m c3 c4 : Nat} {wd : Int} {dv : Value} {X : List Nat} {st : Ly} {a3 a4 : Option Addr}
theorem Pm.b3 (h : Pm w2 C B n wd dv X st m a3 c3 a4 c4 W) : ∀ k, (Value.slice a3 m c3).ownBlock = some k → w2.heap.size ≤ k ∧ k < W.heap.size := fun k hk => h.own3.lt k hk
theorem Pm.b4 (h : Pm w2 C B n wd dv X st m a3 c3 a4 c4 W) : ∀ k, (Value.slice a4 m c4).ownBlock = some k → w2.heap.size ≤ k ∧ k < W.heap.size := fun k hk => h.own4.lt k hk
theorem Pm.below (h : Pm w2 C B n wd dv X st m a3 c3 a4 c4 W) (hb : Below W.heap.size W W') : Pm w2 C B n wd dv X st m a3 c3 a4 c4 W' :=
  ⟨(hb.block _ (block_lt h.box)).trans h.box, h.row.below hb, own_keep h.own3 hb, own_keep h.own4 hb, h.lb, h.l3, h.l4, h.ap, h.av, fun x hx => ⟨Nat.lt_of_lt_of_le (h.hX x hx).1 hb.size, (h.hX x hx).2⟩, h.mod.below hb, h.hC, h.hB, h.hCB⟩
theorem ownB {a : Option Addr} {k c g : Nat} {base : Nat} {W : World} {xs : List Value} (h : W.ownsRow base 3 1 (.slice a k c) k xs) : (Value.slice a k c).ownBlock = some g ↔ a = some ⟨g, 0, none⟩ := by
  constructor
  · intro hg
    cases a with
    | none => cases hg
    | some p =>
      obtain ⟨a', cap', h1, _, _, _, h5⟩ := rd_own h
      simp only [Value.slice.injEq] at h1
      obtain ⟨rfl, _, rfl⟩ := h1
      obtain ⟨_, h6, h7⟩ := h5 p rfl
      have : p.block = g := by simpa [Value.ownBlock] using hg
      cases p
      simp_all
  · rintro rfl
    rfl
/-- Blocks of X turn. -/
theorem Pm.other (h : Pm w2 C B n wd dv X st m a3 c3 a4 c4 W) (hM : Mod X W W') : Pm w2 C B n wd dv X st m a3 c3 a4 c4 W' := by
  have hx : ∀ x, x ∈ X → w2.heap.size ≤ x := fun x hx => (h.hX x hx).2
  have hc := h.hC
  have hb := h.hB
  refine ⟨(hM.block _ (block_lt h.box) (fun hm => by have := hx _ hm; omega)).trans h.box, h.row.mod hM (fun hm => by have := hx _ hm; omega), own_mod h.own3 hM (fun k hk => ?_), own_mod h.own4 hM (fun k hk => ?_), h.lb, h.l3, h.l4, h.ap, h.av, fun x hx => ⟨Nat.lt_of_lt_of_le (h.hX x hx).1 hM.size, (h.hX x hx).2⟩, h.mod.trans hM (fun x hm => .inr (hx x hm)), h.hC, h.hB, h.hCB⟩
  · have := (ownB h.own3).1 hk
    exact h.av ⟨k, 0, none⟩ (.inl this)
  · have := (ownB h.own4).1 hk
    exact h.av ⟨k, 0, none⟩ (.inr this)
theorem Pm.drewN (h : Pm w2 C B n wd dv X st m a3 c3 a4 c4 W) (k : Nat) : Pm w2 C B n wd dv X st m a3 c3 a4 c4 (W.drewN k) := h.below (below_drewN (Below.refl _ _) k)
theorem Pm.drew (h : Pm w2 C B n wd dv X st m a3 c3 a4 c4 W) : Pm w2 C B n wd dv X st m a3 c3 a4 c4 W.drew := h.below (Below.refl _ _).drew
/-- Blocks of one's own join X. -/
theorem Pm.more (h : Pm w2 C B n wd dv X st m a3 c3 a4 c4 W) (hb : Below W.heap.size W W') {Y : List Nat} (hY : ∀ y ∈ Y, W.heap.size ≤ y ∧ y < W'.heap.size) : Pm w2 C B n wd dv (Y ++ X) st m a3 c3 a4 c4 W' := by
  have h' := h.below hb
  refine ⟨h'.box, h'.row, h'.own3, h'.own4, h'.lb, h'.l3, h'.l4, h'.ap, fun p hp hm => ?_, fun x hx => ?_, h'.mod, h'.hC, h'.hB, h'.hCB⟩
  · rcases List.mem_append.1 hm with h1 | h1
    · have h2 := (hY _ h1).1
      rcases hp with rfl | rfl
      · have := (h.b3 p.block rfl).2; omega
      · have := (h.b4 p.block rfl).2; omega
    · exact h.av p hp h1
  · rcases List.mem_append.1 hx with h1 | h1
    · exact ⟨(hY _ h1).2, by have := h.mod.size; have := (hY _ h1).1; omega⟩
    · exact h'.hX x h1
theorem Pm.less (h : Pm w2 C B n wd dv X st m a3 c3 a4 c4 W) {Y : List Nat} (hY : ∀ y ∈ Y, y ∈ X) : Pm w2 C B n wd dv Y st m a3 c3 a4 c4 W :=
  ⟨h.box, h.row, h.own3, h.own4, h.lb, h.l3, h.l4, h.ap, fun p hp hm => h.av p hp (hY _ hm), fun x hx => h.hX x (hY x hx), h.mod, h.hC, h.hB, h.hCB⟩
theorem i64s_set (l : List Int) (i : Nat) (v : Int) : i64s (l.set i v) = (i64s l).set i (.int .i64 v) := by simp [i64s, List.map_set]
/-- The base is set. -/
theorem Pm.setBase (h : Pm w2 C B n wd dv X st m a3 c3 a4 c4 W) (i : Nat) (v : Int) : Pm w2 C B n wd dv X { st with base := st.base.set i v } m a3 c3 a4 c4 (W.setCell ⟨B, i, none⟩ (.int .i64 v)) := by
  have hM : Mod [B] W (W.setCell ⟨B, i, none⟩ (.int .i64 v)) := (Mod.refl [B] W).setCell (.inl (by simp)) _
  have hb := h.hB
  refine ⟨(hM.block _ (block_lt h.box) (by simpa using fun e => h.hCB e.symm)).trans h.box, ?_, own_mod h.own3 hM (fun k hk => ?_), own_mod h.own4 hM (fun k hk => ?_), by simpa using h.lb, h.l3, h.l4, h.ap, h.av, fun x hx => ⟨Nat.lt_of_lt_of_le (h.hX x hx).1 hM.size, (h.hX x hx).2⟩, h.mod.trans hM (fun x hx => .inl (by simp at hx; simp [hx])), h.hC, h.hB, h.hCB⟩
  · simp only [i64s_set]
    exact h.row.set i _
  · have := (h.b3 k hk).1; simp; omega
  · have := (h.b4 k hk).1; simp; omega
/-- A slot is set. -/
theorem Pm.setSlot {g3 g4 : Nat} (h : Pm w2 C B n wd dv X st m (some ⟨g3, 0, none⟩) c3 (some ⟨g4, 0, none⟩) c4 W) (s : Nat) (r v : Int) :
    Pm w2 C B n wd dv X { st with check := st.check.set s r, next := st.next.set s v } m (some ⟨g3, 0, none⟩) c3 (some ⟨g4, 0, none⟩) c4 ((W.setCell ⟨g4, s, none⟩ (.int .i64 r)).setCell ⟨g3, s, none⟩ (.int .i64 v)) := by
  have hne : g3 ≠ g4 := h.ap ⟨g3, 0, none⟩ ⟨g4, 0, none⟩ rfl rfl
  have q3 := (h.b3 g3 rfl).1
  have q4 := (h.b4 g4 rfl).1
  have hb := h.hB
  have hc := h.hC
  have hM : Mod [g3, g4] W ((W.setCell ⟨g4, s, none⟩ (.int .i64 r)).setCell ⟨g3, s, none⟩ (.int .i64 v)) := ((Mod.refl [g3, g4] W).setCell (.inl (by simp)) _).setCell (.inl (by simp)) _
  obtain ⟨r3, e3, _⟩ := Rx.of_own h.own3
  obtain ⟨r4, e4, _⟩ := Rx.of_own h.own4
  have m3 : c3 ≤ maxLen := by obtain ⟨_, _, he, _, hm, _⟩ := rd_own h.own3; simp only [Value.slice.injEq] at he; omega
  have m4 : c4 ≤ maxLen := by obtain ⟨_, _, he, _, hm, _⟩ := rd_own h.own4; simp only [Value.slice.injEq] at he; omega
  refine ⟨(hM.block _ (block_lt h.box) (by simp; omega)).trans h.box, h.row.mod hM (by simp; omega), ?_, ?_, h.lb, by simpa using h.l3, by simpa using h.l4, h.ap, h.av, fun x hx => ⟨Nat.lt_of_lt_of_le (h.hX x hx).1 hM.size, (h.hX x hx).2⟩, h.mod.trans hM (fun x hx => .inr (by simp at hx; omega)), h.hC, h.hB, h.hCB⟩
  · have := ((r3.other (b := g4) (fun e => hne e.symm) s (.int .i64 r)).set s (.int .i64 v)).own (base := w2.heap.size) q3 m3
    simp only [List.length_set, e3] at this
    rw [i64s_set]
    exact this
  · have := ((r4.set s (.int .i64 r)).other (b := g3) hne s (.int .i64 v)).own (base := w2.heap.size) q4 m4
    simp only [List.length_set, e4] at this
    rw [i64s_set]
    exact this
/-- The rows of slots are longer. -/
theorem Pm.grow {g3 k3 g4 k4 : Nat} (h : Pm w2 C B n wd dv X st m a3 c3 a4 c4 W) (x3 x4 : Int)
    (o3 : W'.ownsRow w2.heap.size 3 1 (.slice (some ⟨g3, 0, none⟩) (m + 1) k3) (m + 1) (i64s (st.next ++ [x3]))) (o4 : W'.ownsRow w2.heap.size 3 1 (.slice (some ⟨g4, 0, none⟩) (m + 1) k4) (m + 1) (i64s (st.check ++ [x4])))
    (hne : g3 ≠ g4) (n3 : g3 ∉ X) (n4 : g4 ∉ X) {S : List Nat} (hM : Mod S W W') (hS : ∀ k ∈ S, a3 = some ⟨k, 0, none⟩ ∨ a4 = some ⟨k, 0, none⟩) :
    Pm w2 C B n wd dv X { st with check := st.check ++ [x4], next := st.next ++ [x3] } (m + 1) (some ⟨g3, 0, none⟩) k3 (some ⟨g4, 0, none⟩) k4 ((W'.setCell ⟨C, 4, none⟩ (.slice (some ⟨g4, 0, none⟩) (m + 1) k4)).setCell ⟨C, 3, none⟩ (.slice (some ⟨g3, 0, none⟩) (m + 1) k3)) := by
  have hb := h.hB
  have hc := h.hC
  have hS2 : ∀ k ∈ S, w2.heap.size ≤ k := fun k hk => by
    rcases hS k hk with h1 | h1
    · exact (h.b3 k (by rw [h1]; rfl)).1
    · exact (h.b4 k (by rw [h1]; rfl)).1
  have hz := h.mod.size
  have hbx : W'.heap[C]? = _ := (hM.block C (block_lt h.box) (fun hm => by have := hS2 _ hm; omega)).trans h.box
  have hM2 : Mod [C] W' ((W'.setCell ⟨C, 4, none⟩ (.slice (some ⟨g4, 0, none⟩) (m + 1) k4)).setCell ⟨C, 3, none⟩ (.slice (some ⟨g3, 0, none⟩) (m + 1) k3)) := ((Mod.refl [C] W').setCell (.inl (by simp)) _).setCell (.inl (by simp)) _
  have q3 : w2.heap.size ≤ g3 := (o3.lt g3 rfl).1
  have q4 : w2.heap.size ≤ g4 := (o4.lt g4 rfl).1
  refine ⟨?_, (h.row.mod hM (fun hm => by have := hS2 _ hm; omega)).mod hM2 (by simpa using h.hCB), own_mod o3 hM2 (fun k hk => ?_), own_mod o4 hM2 (fun k hk => ?_), h.lb, by simp [h.l3], by simp [h.l4], fun p q hp hq => ?_, fun p hp => ?_, fun x hx => ⟨Nat.lt_of_lt_of_le (h.hX x hx).1 (Nat.le_trans hM.size hM2.size), (h.hX x hx).2⟩, (h.mod.trans hM (fun x hx => .inr (hS2 x hx))).trans hM2 (fun x hx => .inl (by simp at hx; simp [hx])), h.hC, h.hB, h.hCB⟩
  · rw [block_setCell (block_setCell hbx _) _]
    simp
  · have : g3 = k := by simpa [Value.ownBlock] using hk
    simp; omega
  · have : g4 = k := by simpa [Value.ownBlock] using hk
    simp; omega
  · cases hp; cases hq; exact hne
  · rcases hp with hp | hp
    · cases hp; exact n3
    · cases hp; exact n4
end Cb
end Go.Proofs.YteekonojmpihlaaDoor
