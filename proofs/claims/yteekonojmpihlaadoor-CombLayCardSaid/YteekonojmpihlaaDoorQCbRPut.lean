/- The document's comb that is being made, in memory (printed by gen_cbrput.py). -/
import Derived.Test.YteekonojmpihlaaDoorQCbPut3
import Derived.Test.YteekonojmpihlaaDoorQCbRefP
namespace Go.Proofs.YteekonojmpihlaaDoor
namespace Kt
end Kt
open Go Go.RowKit Kt
namespace Cb
/-- The comb that is made: its box C, its base's row B, the row E of places left; its growing rows. -/
structure Rq (w2 : World) (C B E n : Nat) (wd : Int) (st : Ly) (lf dl : List Int) (a2 : Option Addr) (m2 c2 : Nat) (a3 : Option Addr) (m3 c3 : Nat) (a4 : Option Addr) (m4 c4 : Nat) (W : World) : Prop where
  box : W.heap[C]? = some (.cells #[.int .i64 wd, .slice (some ⟨B, 0, none⟩) n n, .slice a2 m2 c2, .slice a3 m3 c3, .slice a4 m4 c4] 82 (0, 0))
  row : Rx W B 3 n (i64s st.base)
  lrow : Rx W E 3 n (i64s lf)
  own2 : W.ownsRow w2.heap.size 3 1 (.slice a2 m2 c2) m2 (i64s dl)
  own3 : W.ownsRow w2.heap.size 3 1 (.slice a3 m3 c3) m3 (i64s st.next)
  own4 : W.ownsRow w2.heap.size 3 1 (.slice a4 m4 c4) m4 (i64s st.check)
  lb : st.base.length = n
  ll : lf.length = n
  l2 : dl.length = m2
  l3 : st.next.length = m3
  l4 : st.check.length = m4
  ap23 : ∀ x ∈ bk a2, x ∉ bk a3
  ap24 : ∀ x ∈ bk a2, x ∉ bk a4
  ap34 : ∀ x ∈ bk a3, x ∉ bk a4
  mod : Mod [C, B, E] w2 W
  lt : C < w2.heap.size ∧ B < w2.heap.size ∧ E < w2.heap.size
  ne : B ≠ C ∧ E ≠ C ∧ E ≠ B
variable {w2 W W' : World} {C B E n m2 c2 m3 c3 m4 c4 : Nat} {wd : Int} {st : Ly} {lf dl : List Int} {a2 a3 a4 : Option Addr}
theorem own_bk {base m c : Nat} {a : Option Addr} {xs : List Value} (h : W.ownsRow base 3 1 (.slice a m c) m xs) : ∀ x ∈ bk a, base ≤ x ∧ x < W.heap.size := fun x hx => h.lt x (by rw [(mem_bk h).1 hx]; rfl)
theorem own_modB {S : List Nat} {base m c : Nat} {a : Option Addr} {xs : List Value} (h : W.ownsRow base 3 1 (.slice a m c) m xs) (hM : Mod S W W') (hn : ∀ x ∈ bk a, x ∉ S) : W'.ownsRow base 3 1 (.slice a m c) m xs :=
  own_mod h hM fun k hk => hn k ((mem_bk h).2 ((ownB h).1 hk))
theorem Rq.below (h : Rq w2 C B E n wd st lf dl a2 m2 c2 a3 m3 c3 a4 m4 c4 W) (hb : Below W.heap.size W W') : Rq w2 C B E n wd st lf dl a2 m2 c2 a3 m3 c3 a4 m4 c4 W' :=
  ⟨(hb.block _ (block_lt h.box)).trans h.box, h.row.below hb, h.lrow.below hb, own_keep h.own2 hb, own_keep h.own3 hb, own_keep h.own4 hb, h.lb, h.ll, h.l2, h.l3, h.l4, h.ap23, h.ap24, h.ap34, h.mod.below hb, h.lt, h.ne⟩
theorem Rq.drew (h : Rq w2 C B E n wd st lf dl a2 m2 c2 a3 m3 c3 a4 m4 c4 W) : Rq w2 C B E n wd st lf dl a2 m2 c2 a3 m3 c3 a4 m4 c4 W.drew := h.below (Below.refl _ _).drew
/-- Blocks outside the comb turn. -/
theorem Rq.setBase (h : Rq w2 C B E n wd st lf dl a2 m2 c2 a3 m3 c3 a4 m4 c4 W) (i : Nat) (v : Int) : Rq w2 C B E n wd { st with base := st.base.set i v } lf dl a2 m2 c2 a3 m3 c3 a4 m4 c4 (W.setCell ⟨B, i, none⟩ (.int .i64 v)) := by
  have hM : Mod [B] W (W.setCell ⟨B, i, none⟩ (.int .i64 v)) := (Mod.refl [B] W).setCell (.inl (by simp)) _
  have hl := h.lt
  have hn := h.ne
  refine ⟨(hM.block _ (block_lt h.box) (by simp; omega)).trans h.box, ?_, h.lrow.mod hM (by simp; omega), own_modB h.own2 hM (fun x hx => ?_), own_modB h.own3 hM (fun x hx => ?_), own_modB h.own4 hM (fun x hx => ?_), by simpa using h.lb, h.ll, h.l2, h.l3, h.l4, h.ap23, h.ap24, h.ap34, h.mod.trans hM (fun x hx => .inl (by simp at hx; simp [hx])), hl, hn⟩
  · simp only [i64s_set]
    exact h.row.set i _
  · have := own_bk h.own2 x hx; simp; omega
  · have := own_bk h.own3 x hx; simp; omega
  · have := own_bk h.own4 x hx; simp; omega
theorem Rq.setLeft (h : Rq w2 C B E n wd st lf dl a2 m2 c2 a3 m3 c3 a4 m4 c4 W) (i : Nat) (v : Int) : Rq w2 C B E n wd st (lf.set i v) dl a2 m2 c2 a3 m3 c3 a4 m4 c4 (W.setCell ⟨E, i, none⟩ (.int .i64 v)) := by
  have hM : Mod [E] W (W.setCell ⟨E, i, none⟩ (.int .i64 v)) := (Mod.refl [E] W).setCell (.inl (by simp)) _
  have hl := h.lt
  have hn := h.ne
  refine ⟨(hM.block _ (block_lt h.box) (by simp; omega)).trans h.box, h.row.mod hM (by simp; omega), ?_, own_modB h.own2 hM (fun x hx => ?_), own_modB h.own3 hM (fun x hx => ?_), own_modB h.own4 hM (fun x hx => ?_), h.lb, by simpa using h.ll, h.l2, h.l3, h.l4, h.ap23, h.ap24, h.ap34, h.mod.trans hM (fun x hx => .inl (by simp at hx; simp [hx])), hl, hn⟩
  · simp only [i64s_set]
    exact h.lrow.set i _
  · have := own_bk h.own2 x hx; simp; omega
  · have := own_bk h.own3 x hx; simp; omega
  · have := own_bk h.own4 x hx; simp; omega
theorem own_max {base m c g : Nat} {xs : List Value} (h : W.ownsRow base 3 1 (.slice (some ⟨g, 0, none⟩) m c) m xs) : c ≤ maxLen := by
  obtain ⟨_, _, he, _, hm, _⟩ := rd_own h
  simp only [Value.slice.injEq] at he
  omega
theorem own_set {base m c g : Nat} {l : List Int} (h : W.ownsRow base 3 1 (.slice (some ⟨g, 0, none⟩) m c) m (i64s l)) (s : Nat) (v : Int) : (W.setCell ⟨g, s, none⟩ (.int .i64 v)).ownsRow base 3 1 (.slice (some ⟨g, 0, none⟩) m c) m (i64s (l.set s v)) := by
  obtain ⟨r, e, hb⟩ := Rx.of_own h
  have := (r.set s (.int .i64 v)).own (base := base) hb (own_max h)
  simp only [List.length_set, e] at this
  rw [i64s_set]
  exact this
theorem Rq.set3 {g : Nat} (h : Rq w2 C B E n wd st lf dl a2 m2 c2 (some ⟨g, 0, none⟩) m3 c3 a4 m4 c4 W) (s : Nat) (v : Int) : Rq w2 C B E n wd { st with next := st.next.set s v } lf dl a2 m2 c2 (some ⟨g, 0, none⟩) m3 c3 a4 m4 c4 (W.setCell ⟨g, s, none⟩ (.int .i64 v)) := by
  have hM : Mod [g] W (W.setCell ⟨g, s, none⟩ (.int .i64 v)) := (Mod.refl [g] W).setCell (.inl (by simp)) _
  have hl := h.lt
  have hn := h.ne
  have hg := own_bk h.own3 g (by simp [bk])
  refine ⟨(hM.block _ (block_lt h.box) (by simp; omega)).trans h.box, h.row.mod hM (by simp; omega), h.lrow.mod hM (by simp; omega), ?_, ?_, ?_, h.lb, h.ll, h.l2, by simpa using h.l3, h.l4, h.ap23, h.ap24, h.ap34, h.mod.trans hM (fun x hx => .inr (by simp at hx; omega)), hl, hn⟩
  · exact own_modB h.own2 hM (fun x hx hm => by
      have e : x = g := by simpa using hm
      exact h.ap23 x hx (by simp [bk, e]))
  · exact own_set h.own3 s v
  · exact own_modB h.own4 hM (fun x hx hm => by
      have e : x = g := by simpa using hm
      exact h.ap34 g (by simp [bk]) (by rw [← e]; exact hx))
theorem Rq.set4 {g : Nat} (h : Rq w2 C B E n wd st lf dl a2 m2 c2 a3 m3 c3 (some ⟨g, 0, none⟩) m4 c4 W) (s : Nat) (v : Int) : Rq w2 C B E n wd { st with check := st.check.set s v } lf dl a2 m2 c2 a3 m3 c3 (some ⟨g, 0, none⟩) m4 c4 (W.setCell ⟨g, s, none⟩ (.int .i64 v)) := by
  have hM : Mod [g] W (W.setCell ⟨g, s, none⟩ (.int .i64 v)) := (Mod.refl [g] W).setCell (.inl (by simp)) _
  have hl := h.lt
  have hn := h.ne
  have hg := own_bk h.own4 g (by simp [bk])
  refine ⟨(hM.block _ (block_lt h.box) (by simp; omega)).trans h.box, h.row.mod hM (by simp; omega), h.lrow.mod hM (by simp; omega), ?_, ?_, ?_, h.lb, h.ll, h.l2, h.l3, by simpa using h.l4, h.ap23, h.ap24, h.ap34, h.mod.trans hM (fun x hx => .inr (by simp at hx; omega)), hl, hn⟩
  · exact own_modB h.own2 hM (fun x hx hm => by
      have e : x = g := by simpa using hm
      exact h.ap24 x hx (by simp [bk, e]))
  · exact own_modB h.own3 hM (fun x hx hm => by
      have e : x = g := by simpa using hm
      exact h.ap34 x hx (by simp [bk, e]))
  · exact own_set h.own4 s v
theorem Rq.grow2 (h : Rq w2 C B E n wd st lf dl a2 m2 c2 a3 m3 c3 a4 m4 c4 W) (hm : m2 ≤ 200000) (V : World) (hV : Below W.heap.size W V) (y : Nat) (x : Int) (hr : Rd V (some ⟨y, 0, none⟩) [.int .i64 x]) :
    ∃ g k w1, (Builtin.append_ #[69, 69] 69 #[.slice a2 m2 c2, .slice (some ⟨y, 0, none⟩) 1 1]).run Tryd.prog V = .ok (.slice (some ⟨g, 0, none⟩) (m2 + 1) k) w1 ∧ w1.heap[C]? = some (.cells #[.int .i64 wd, .slice (some ⟨B, 0, none⟩) n n, .slice a2 m2 c2, .slice a3 m3 c3, .slice a4 m4 c4] 82 (0, 0)) ∧
      Rq w2 C B E n wd st lf (dl ++ [x]) (some ⟨g, 0, none⟩) (m2 + 1) k a3 m3 c3 a4 m4 c4 (w1.setCell ⟨C, 2, none⟩ (.slice (some ⟨g, 0, none⟩) (m2 + 1) k)) ∧ Mod (bk a2) V w1 := by
  have h' := h.below hV
  have hl := h.lt
  have hn := h.ne
  have hz := h'.mod.size
  obtain ⟨g, k, w1, h1, h2, h3, h4, h5⟩ := ap1 h'.own2 y x hr hm hz
  have q2 := own_bk h'.own2
  have q3 := own_bk h'.own3
  have q4 := own_bk h'.own4
  have hbx := (h3.block C (block_lt h'.box) (fun hx => by have := q2 C hx; omega)).trans h'.box
  have hgb := (h2.lt g rfl).1
  have hM2 : Mod [C] w1 (w1.setCell ⟨C, 2, none⟩ (.slice (some ⟨g, 0, none⟩) (m2 + 1) k)) := (Mod.refl [C] w1).setCell (.inl (by simp)) _
  have hgn : ∀ x, (x ∉ bk a2) → x < V.heap.size → x ≠ g := fun x hx hlt e => by
    subst e
    rcases h4 with h6 | h6
    · exact hx (by simp [bk, h6])
    · omega
  have hC : ∀ x, w2.heap.size ≤ x → x ∉ [C] := fun x hx => by simp; omega
  refine ⟨g, k, w1, h1, hbx, ⟨?_, (h'.row.mod h3 (fun hx => by have := q2 B hx; omega)).mod hM2 (by simp; omega), (h'.lrow.mod h3 (fun hx => by have := q2 E hx; omega)).mod hM2 (by simp; omega), ?_, ?_, ?_, h.lb, h.ll, by simp [h.l2], h.l3, h.l4, (fun x hx hm => hgn x (fun hb => h.ap23 x hb hm) (q3 x hm).2 (by simpa [bk] using hx)), (fun x hx hm => hgn x (fun hb => h.ap24 x hb hm) (q4 x hm).2 (by simpa [bk] using hx)), h.ap34, (h'.mod.trans h3 (fun x hx => .inr (q2 x hx).1)).trans hM2 (fun x hx => .inl (by simp at hx; simp [hx])), hl, hn⟩, h3⟩
  · rw [block_setCell hbx _]
    simp
  · exact own_modB h2 hM2 (fun x hx => hC x ((show x = g by simpa [bk] using hx) ▸ hgb))
  · exact own_modB (own_modB h'.own3 h3 (fun x hx hm => h.ap23 x hm hx)) hM2 (fun x hx => hC x (q3 x hx).1)
  · exact own_modB (own_modB h'.own4 h3 (fun x hx hm => h.ap24 x hm hx)) hM2 (fun x hx => hC x (q4 x hx).1)
theorem Rq.grow3 (h : Rq w2 C B E n wd st lf dl a2 m2 c2 a3 m3 c3 a4 m4 c4 W) (hm : m3 ≤ 200000) (V : World) (hV : Below W.heap.size W V) (y : Nat) (x : Int) (hr : Rd V (some ⟨y, 0, none⟩) [.int .i64 x]) :
    ∃ g k w1, (Builtin.append_ #[69, 69] 69 #[.slice a3 m3 c3, .slice (some ⟨y, 0, none⟩) 1 1]).run Tryd.prog V = .ok (.slice (some ⟨g, 0, none⟩) (m3 + 1) k) w1 ∧ w1.heap[C]? = some (.cells #[.int .i64 wd, .slice (some ⟨B, 0, none⟩) n n, .slice a2 m2 c2, .slice a3 m3 c3, .slice a4 m4 c4] 82 (0, 0)) ∧
      Rq w2 C B E n wd { st with next := st.next ++ [x] } lf dl a2 m2 c2 (some ⟨g, 0, none⟩) (m3 + 1) k a4 m4 c4 (w1.setCell ⟨C, 3, none⟩ (.slice (some ⟨g, 0, none⟩) (m3 + 1) k)) ∧ Mod (bk a3) V w1 := by
  have h' := h.below hV
  have hl := h.lt
  have hn := h.ne
  have hz := h'.mod.size
  obtain ⟨g, k, w1, h1, h2, h3, h4, h5⟩ := ap1 h'.own3 y x hr hm hz
  have q2 := own_bk h'.own2
  have q3 := own_bk h'.own3
  have q4 := own_bk h'.own4
  have hbx := (h3.block C (block_lt h'.box) (fun hx => by have := q3 C hx; omega)).trans h'.box
  have hgb := (h2.lt g rfl).1
  have hM2 : Mod [C] w1 (w1.setCell ⟨C, 3, none⟩ (.slice (some ⟨g, 0, none⟩) (m3 + 1) k)) := (Mod.refl [C] w1).setCell (.inl (by simp)) _
  have hgn : ∀ x, (x ∉ bk a3) → x < V.heap.size → x ≠ g := fun x hx hlt e => by
    subst e
    rcases h4 with h6 | h6
    · exact hx (by simp [bk, h6])
    · omega
  have hC : ∀ x, w2.heap.size ≤ x → x ∉ [C] := fun x hx => by simp; omega
  refine ⟨g, k, w1, h1, hbx, ⟨?_, (h'.row.mod h3 (fun hx => by have := q3 B hx; omega)).mod hM2 (by simp; omega), (h'.lrow.mod h3 (fun hx => by have := q3 E hx; omega)).mod hM2 (by simp; omega), ?_, ?_, ?_, h.lb, h.ll, h.l2, by simp [h.l3], h.l4, (fun x hx hm => hgn x (h.ap23 x hx) (q2 x hx).2 (by simpa [bk] using hm)), h.ap24, (fun x hx hm => hgn x (fun hb => h.ap34 x hb hm) (q4 x hm).2 (by simpa [bk] using hx)), (h'.mod.trans h3 (fun x hx => .inr (q3 x hx).1)).trans hM2 (fun x hx => .inl (by simp at hx; simp [hx])), hl, hn⟩, h3⟩
  · rw [block_setCell hbx _]
    simp
  · exact own_modB (own_modB h'.own2 h3 (fun x hx hm => h.ap23 x hx hm)) hM2 (fun x hx => hC x (q2 x hx).1)
  · exact own_modB h2 hM2 (fun x hx => hC x ((show x = g by simpa [bk] using hx) ▸ hgb))
  · exact own_modB (own_modB h'.own4 h3 (fun x hx hm => h.ap34 x hm hx)) hM2 (fun x hx => hC x (q4 x hx).1)
theorem Rq.grow4 (h : Rq w2 C B E n wd st lf dl a2 m2 c2 a3 m3 c3 a4 m4 c4 W) (hm : m4 ≤ 200000) (V : World) (hV : Below W.heap.size W V) (y : Nat) (x : Int) (hr : Rd V (some ⟨y, 0, none⟩) [.int .i64 x]) :
    ∃ g k w1, (Builtin.append_ #[69, 69] 69 #[.slice a4 m4 c4, .slice (some ⟨y, 0, none⟩) 1 1]).run Tryd.prog V = .ok (.slice (some ⟨g, 0, none⟩) (m4 + 1) k) w1 ∧ w1.heap[C]? = some (.cells #[.int .i64 wd, .slice (some ⟨B, 0, none⟩) n n, .slice a2 m2 c2, .slice a3 m3 c3, .slice a4 m4 c4] 82 (0, 0)) ∧
      Rq w2 C B E n wd { st with check := st.check ++ [x] } lf dl a2 m2 c2 a3 m3 c3 (some ⟨g, 0, none⟩) (m4 + 1) k (w1.setCell ⟨C, 4, none⟩ (.slice (some ⟨g, 0, none⟩) (m4 + 1) k)) ∧ Mod (bk a4) V w1 := by
  have h' := h.below hV
  have hl := h.lt
  have hn := h.ne
  have hz := h'.mod.size
  obtain ⟨g, k, w1, h1, h2, h3, h4, h5⟩ := ap1 h'.own4 y x hr hm hz
  have q2 := own_bk h'.own2
  have q3 := own_bk h'.own3
  have q4 := own_bk h'.own4
  have hbx := (h3.block C (block_lt h'.box) (fun hx => by have := q4 C hx; omega)).trans h'.box
  have hgb := (h2.lt g rfl).1
  have hM2 : Mod [C] w1 (w1.setCell ⟨C, 4, none⟩ (.slice (some ⟨g, 0, none⟩) (m4 + 1) k)) := (Mod.refl [C] w1).setCell (.inl (by simp)) _
  have hgn : ∀ x, (x ∉ bk a4) → x < V.heap.size → x ≠ g := fun x hx hlt e => by
    subst e
    rcases h4 with h6 | h6
    · exact hx (by simp [bk, h6])
    · omega
  have hC : ∀ x, w2.heap.size ≤ x → x ∉ [C] := fun x hx => by simp; omega
  refine ⟨g, k, w1, h1, hbx, ⟨?_, (h'.row.mod h3 (fun hx => by have := q4 B hx; omega)).mod hM2 (by simp; omega), (h'.lrow.mod h3 (fun hx => by have := q4 E hx; omega)).mod hM2 (by simp; omega), ?_, ?_, ?_, h.lb, h.ll, h.l2, h.l3, by simp [h.l4], h.ap23, (fun x hx hm => hgn x (h.ap24 x hx) (q2 x hx).2 (by simpa [bk] using hm)), (fun x hx hm => hgn x (h.ap34 x hx) (q3 x hx).2 (by simpa [bk] using hm)), (h'.mod.trans h3 (fun x hx => .inr (q4 x hx).1)).trans hM2 (fun x hx => .inl (by simp at hx; simp [hx])), hl, hn⟩, h3⟩
  · rw [block_setCell hbx _]
    simp
  · exact own_modB (own_modB h'.own2 h3 (fun x hx hm => h.ap24 x hx hm)) hM2 (fun x hx => hC x (q2 x hx).1)
  · exact own_modB (own_modB h'.own3 h3 (fun x hx hm => h.ap34 x hx hm)) hM2 (fun x hx => hC x (q3 x hx).1)
  · exact own_modB h2 hM2 (fun x hx => hC x ((show x = g by simpa [bk] using hx) ▸ hgb))
end Cb
end Go.Proofs.YteekonojmpihlaaDoor
