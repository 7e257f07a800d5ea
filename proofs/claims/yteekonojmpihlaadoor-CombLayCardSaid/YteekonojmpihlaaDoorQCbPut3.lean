/- The slots' rows grow. -/
import Derived.Test.YteekonojmpihlaaDoorQCbPut2
namespace Go.Proofs.YteekonojmpihlaaDoor
namespace Kt
end Kt
open Go Go.RowKit Kt
namespace Cb
def bk (a : Option Addr) : List Nat := (a.map (·.block)).toList
theorem mem_bk {a : Option Addr} {k c g base : Nat} {W : World} {xs : List Value} (h : W.ownsRow base 3 1 (.slice a k c) k xs) : g ∈ bk a ↔ a = some ⟨g, 0, none⟩ := by
  rw [← ownB h]
  cases a with
  | none => simp [bk, Value.ownBlock]
  | some p => simp [bk, Value.ownBlock, eq_comm]
/-- One more number. -/
theorem ap1 {base m c : Nat} {a : Option Addr} {l : List Int} {U : World} (own : U.ownsRow base 3 1 (.slice a m c) m (i64s l)) (y : Nat) (x : Int) (hr : Rd U (some ⟨y, 0, none⟩) [.int .i64 x]) (hm : m ≤ 200000) (hb : base ≤ U.heap.size) :
    ∃ g k w', (Builtin.append_ #[69, 69] 69 #[.slice a m c, .slice (some ⟨y, 0, none⟩) 1 1]).run Tryd.prog U = .ok (.slice (some ⟨g, 0, none⟩) (m + 1) k) w' ∧ w'.ownsRow base 3 1 (.slice (some ⟨g, 0, none⟩) (m + 1) k) (m + 1) (i64s (l ++ [x])) ∧ Mod (bk a) U w' ∧ (a = some ⟨g, 0, none⟩ ∨ g = U.heap.size) ∧ g < w'.heap.size := by
  obtain ⟨g, k, w', h1, h2, h3, h4, h5⟩ := Mk.elI.lies base (ty := 69) own 1 1 (news := i64s [x]) rfl (by omega) hr (oneCell_i64s _) (by unfold maxLen; omega) (by omega) hb
  refine ⟨g, k, w', h1, by rw [i64s_append]; exact h2, (Mod.refl _ U).grown h3 (fun j hj => .inl ((mem_bk own).2 ((ownB own).1 hj))), ?_, h5⟩
  rcases h4 with h | h
  · exact .inl ((ownB own).1 h)
  · exact .inr h
variable {w2 W : World} {C B n m c3 c4 : Nat} {wd : Int} {dv : Value} {X : List Nat} {st : Ly} {a3 a4 : Option Addr}
/-- The row of rows is longer. -/
structure PmA (w2 : World) (C B n : Nat) (wd : Int) (dv : Value) (X : List Nat) (st : Ly) (m : Nat) (a3 : Option Addr) (c3 : Nat) (a4 : Option Addr) (c4 : Nat) (W : World) (g4 k4 : Nat) (w1 : World) : Prop where
  pm : Pm w2 C B n wd dv X st m a3 c3 a4 c4 W
  o4 : w1.ownsRow w2.heap.size 3 1 (.slice (some ⟨g4, 0, none⟩) (m + 1) k4) (m + 1) (i64s (st.check ++ [-1]))
  at4 : a4 = some ⟨g4, 0, none⟩ ∨ W.heap.size ≤ g4
  mod : Mod (bk a4) W w1
  hm : m ≤ 200000
theorem Pm.growA (h : Pm w2 C B n wd dv X st m a3 c3 a4 c4 W) (hm : m ≤ 200000) (V : World) (hV : Below W.heap.size W V) (y4 : Nat) (hr : Rd V (some ⟨y4, 0, none⟩) [.int .i64 (-1)]) :
    ∃ g4 k4 w1, (Builtin.append_ #[69, 69] 69 #[.slice a4 m c4, .slice (some ⟨y4, 0, none⟩) 1 1]).run Tryd.prog V = .ok (.slice (some ⟨g4, 0, none⟩) (m + 1) k4) w1 ∧ PmA w2 C B n wd dv X st m a3 c3 a4 c4 W g4 k4 w1 ∧ Mod (bk a4) V w1 := by
  have hz := h.mod.size
  have hz2 := hV.size
  obtain ⟨g, k, w1, h1, h2, h3, h4, h5⟩ := ap1 (own_keep h.own4 hV) y4 (-1) hr hm (by omega)
  refine ⟨g, k, w1, h1, ⟨h, h2, h4.imp id (fun e => by omega), (Mod.of_below hV _).trans h3 (fun x hx => .inl hx), hm⟩, h3⟩
theorem PmA.growB {g4 k4 : Nat} {w1 : World} (h : PmA w2 C B n wd dv X st m a3 c3 a4 c4 W g4 k4 w1) (V : World) (hV : Below w1.heap.size w1 V) (y3 : Nat) (hr : Rd V (some ⟨y3, 0, none⟩) [.int .i64 0]) :
    ∃ g3 k3 w3, (Builtin.append_ #[69, 69] 69 #[.slice a3 m c3, .slice (some ⟨y3, 0, none⟩) 1 1]).run Tryd.prog V = .ok (.slice (some ⟨g3, 0, none⟩) (m + 1) k3) w3 ∧
      Pm w2 C B n wd dv X { st with check := st.check ++ [-1], next := st.next ++ [0] } (m + 1) (some ⟨g3, 0, none⟩) k3 (some ⟨g4, 0, none⟩) k4 ((w3.setCell ⟨C, 4, none⟩ (.slice (some ⟨g4, 0, none⟩) (m + 1) k4)).setCell ⟨C, 3, none⟩ (.slice (some ⟨g3, 0, none⟩) (m + 1) k3)) ∧ Mod (bk a3 ++ bk a4) W w3 := by
  have hp := h.pm
  have hz := hp.mod.size
  have hz2 := hV.size
  have hz1 := h.mod.size
  have hm3 : ∀ k, k ∈ bk a3 ↔ a3 = some ⟨k, 0, none⟩ := fun k => mem_bk hp.own3
  have hm4 : ∀ k, k ∈ bk a4 ↔ a4 = some ⟨k, 0, none⟩ := fun k => mem_bk hp.own4
  have hne34 : ∀ k, ¬ (a3 = some ⟨k, 0, none⟩ ∧ a4 = some ⟨k, 0, none⟩) := fun k ⟨e3, e4⟩ => hp.ap _ _ e3 e4 rfl
  -- the row of rows is another than the row of numbers
  have hg4 : a3 ≠ some ⟨g4, 0, none⟩ := fun e => by
    rcases h.at4 with h1 | h1
    · exact hne34 g4 ⟨e, h1⟩
    · have := (hp.b3 g4 (by rw [e]; rfl)).2; omega
  have hlt4 : g4 < w1.heap.size := (h.o4.lt g4 rfl).2
  have own3 : w1.ownsRow w2.heap.size 3 1 (.slice a3 m c3) m (i64s st.next) := own_mod hp.own3 h.mod (fun k hk hm => hne34 k ⟨(ownB hp.own3).1 hk, (hm4 k).1 hm⟩)
  obtain ⟨g3, k3, w3, h1, h2, h3, h4, h5⟩ := ap1 (own_keep own3 hV) y3 0 hr h.hm (by omega)
  have hMV : Mod (bk a3 ++ bk a4) W V := (h.mod.sub (fun k hk => List.mem_append_right _ hk)).below hV
  have hM3 : Mod (bk a3 ++ bk a4) W w3 := hMV.trans h3 (fun x hx => .inl (List.mem_append_left _ hx))
  have hne : g3 ≠ g4 := fun e => by
    rcases h4 with h6 | h6
    · exact hg4 (by rw [h6, e])
    · omega
  have o4 : w3.ownsRow w2.heap.size 3 1 (.slice (some ⟨g4, 0, none⟩) (m + 1) k4) (m + 1) (i64s (st.check ++ [-1])) := own_mod (own_keep h.o4 hV) h3 (fun k hk hm => by
    have e : g4 = k := by simpa [Value.ownBlock] using hk
    subst e
    exact hg4 ((hm3 g4).1 hm))
  refine ⟨g3, k3, w3, h1, hp.grow 0 (-1) h2 o4 hne (fun hm => ?_) (fun hm => ?_) hM3 (fun k hk => ?_), hM3⟩
  · rcases h4 with h6 | h6
    · exact hp.av ⟨g3, 0, none⟩ (.inl h6) hm
    · have := (hp.hX _ hm).1; omega
  · rcases h.at4 with h6 | h6
    · exact hp.av ⟨g4, 0, none⟩ (.inr h6) hm
    · have := (hp.hX _ hm).1; omega
  · rcases List.mem_append.1 hk with h6 | h6
    · exact .inl ((hm3 k).1 h6)
    · exact .inr ((hm4 k).1 h6)
theorem padI_succ {l : List Int} {n : Nat} (x : Int) (h : l.length ≤ n) : padI l (n + 1) x = padI l n x ++ [x] := by
  unfold padI
  rw [show n + 1 - l.length = (n - l.length) + 1 by omega, List.replicate_succ', List.append_assoc]
theorem padI_max {l : List Int} {mk mj q : Nat} (x : Int) (h : l.length = mk) (hm : mj = max mk q) : padI l mj x = padI l q x := by
  unfold padI
  rw [show mj - l.length = q - l.length by omega]
theorem own_some {base m c : Nat} {a : Option Addr} {W : World} {xs : List Value} (h : W.ownsRow base 3 1 (.slice a m c) m xs) (hm : 0 < m) : ∃ g, a = some ⟨g, 0, none⟩ := by
  obtain ⟨_, ⟨_, h0⟩ | ⟨g, cap, cur, hx, _⟩⟩ := h
  · omega
  · simp only [Value.slice.injEq] at hx
    exact ⟨g, hx.1⟩
theorem cellL_box {W : World} {C n T : Nat} {v0 v1 v2 v3 : Value} {a : Option Addr} {k : Nat} (h : W.heap[C]? = some (.cells #[v0, v1, v2, v3, .slice a n k] T (0, 0))) : W.cell? ⟨C, 4, none⟩ = some (.slice a n k) := (box5 h).2.2.2.2
end Cb
end Go.Proofs.YteekonojmpihlaaDoor
