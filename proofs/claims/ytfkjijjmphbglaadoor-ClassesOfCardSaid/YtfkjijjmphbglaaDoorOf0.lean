/- classes.of: what lies in memory between two rounds. -/
import Derived.Test.YtfkjijjmphbglaaDoorCol
import Derived.Test.YtfkjijjmphbglaaDoorMapS
import Derived.Test.YtfkjijjmphbglaaDoorMarks3
import Derived.Laws.ResultCell
import Derived.Laws.CopyOwn
namespace Go.Proofs.YtfkjijjmphbglaaDoor
open Go Go.RowKit Kt
namespace Cl
open Sb
/-- What of's loop holds: the DFA in its box, the result's block, m's block with cells L, the map of known keys g, the list first. -/
structure Os (w : World) (dv : Array Value) (L : List Int) (g : List UInt8 → Option Nat) (n : Nat) (fs : List Nat) (a : Option Addr) (k cap : Nat) (W : World) : Prop where
  d : W.heap[w.heap.size]? = some (.cells dv 25 (0, 0))
  res : W.heap[w.heap.size + 1]? = some (.cells Tryd.zeroCells30 30 (0, 0))
  m : W.heap[w.heap.size + 1 + 1]? = some (.cells (i64s L).toArray 30 (0, 0))
  kn : MapS Tryd.prog 9 3 W (w.heap.size + 1 + 1 + 1) n g
  len : fs.length = k
  own : W.ownsRow (w.heap.size + 4) 3 1 (.slice a k cap) k (i64s (Mk.ints fs))
  below : Below w.heap.size w W
variable {w : World} {dv : Array Value} {L : List Int} {g : List UInt8 → Option Nat} {n : Nat} {fs : List Nat} {a : Option Addr} {k cap : Nat} {W W' : World}
theorem Os.step (h : Os w dv L g n fs a k cap W) (hb : Below W.heap.size W W') : Os w dv L g n fs a k cap W' :=
  ⟨(hb.block _ (block_lt h.d)).trans h.d, (hb.block _ (block_lt h.res)).trans h.res, (hb.block _ (block_lt h.m)).trans h.m, h.kn.below hb, h.len, own_keep h.own hb, h.below.trans (hb.mono h.below.size)⟩
theorem Os.size (h : Os w dv L g n fs a k cap W) : w.heap.size + 4 ≤ W.heap.size := h.kn.lt
/-- A new key. -/
theorem Os.known (h : Os w dv L g n fs a k cap W) (hn : n ≤ 256) (s : List UInt8) (hs : s.length ≤ maxLen) (v : Nat) (hv : v ≤ 256) :
    ∃ w', (Instr.mapUpdate 186 (.map (some (w.heap.size + 1 + 1 + 1))) (.string (Str s)) (.int .i64 (v : Int))).run Tryd.prog W = .ok () w' ∧ Os w dv L (fun y => if y = s then some v else g y) (n + 1) fs a k cap w' := by
  obtain ⟨w', hrun, hk, gr⟩ := h.kn.set Tryd.underlying186 Tryd.underlying9 Tryd.underlying3 (by unfold maxLen; omega) s hs v (by omega)
  have hsz := h.size
  have hlt := fun j hj => (h.own.lt j hj).1
  refine ⟨w', hrun, ⟨(gr.block _ (block_lt h.d) (by first | (simp; done) | (simp; omega))).trans h.d, (gr.block _ (block_lt h.res) (by first | (simp; done) | (simp; omega))).trans h.res, (gr.block _ (block_lt h.m) (by first | (simp; done) | (simp; omega))).trans h.m, hk, h.len, h.own.kept gr ?_, ?_⟩⟩
  · rcases h.own.2 with ⟨h1, _⟩ | ⟨g', c', cur, h1, h2, _⟩
    · exact .inl (by rw [h1]; rfl)
    · refine .inr ?_
      rw [h1]
      simp [Value.ownBlock]
      omega
  · exact h.below.grown gr h.below.size (fun j hj => by cases hj; omega)
/-- One more first byte. -/
theorem Os.push (h : Os w dv L g n fs a k cap W) (hk : k ≤ 256) (x : Nat) :
    ∃ a2 c2 w2, (Builtin.append_ #[23, 23] 23 #[.slice a k cap, .slice (some ⟨W.heap.size, 0, none⟩) 1 1]).run Tryd.prog (W.alloc (.cells #[.int .i64 (x : Int)] 3)) = .ok (.slice a2 (k + 1) c2) w2 ∧ Os w dv L g n (fs ++ [x]) a2 (k + 1) c2 w2 := by
  have hB := h.below
  have hsz := h.size
  have b2 := (Below.refl W.heap.size W).alloc (Nat.le_refl _) (.cells #[.int .i64 (x : Int)] 3)
  obtain ⟨v', w2, hrun, own2, gr2, _⟩ := Mk.elI.append (w.heap.size + 4) (ty := 23) (own_keep h.own b2) 1 1 rfl (Rd.new W #[.int .i64 (x : Int)] 3 (0, 0) [.int .i64 (x : Int)] rfl) (fun h => by cases h) (by intro u hu; simp at hu; subst hu; rfl) (by unfold maxLen; omega) (by omega) (by simp; omega)
  obtain ⟨a2, c2, rfl, _, _, _, _⟩ := rd_own own2
  have hg := below_grown (B := w.heap.size + 4) (own_keep h.own b2) gr2 (Nat.le_refl _) (by simp; omega)
  have hg' := (b2.mono hsz).trans hg
  refine ⟨a2, c2, w2, hrun, (hg'.block _ (by omega)).trans h.d, (hg'.block _ (by omega)).trans h.res, (hg'.block _ (by omega)).trans h.m, ?_, by rw [List.length_append, h.len]; rfl, ?_, ?_⟩
  · refine (h.kn.below b2).mod (Mod.of_grown gr2) ?_
    intro hm
    have := (h.own.lt _ (by simpa using hm)).1
    omega
  · have e : i64s (Mk.ints (fs ++ [x])) = i64s (Mk.ints fs) ++ [.int .i64 (x : Int)] := by simp [i64s, Mk.ints]
    rw [e]
    exact own2
  · exact hB.trans (hg'.mono (by omega))
/-- The class of a byte. -/
theorem Os.cls (h : Os w dv L g n fs a k cap W) (c v : Nat) : Os w dv (L.set c (v : Int)) g n fs a k cap (W.setCell ⟨w.heap.size + 1 + 1, c, none⟩ (.int .i64 (v : Int))) := by
  have hsz := h.size
  have hm : Mod [w.heap.size + 1 + 1] W (W.setCell ⟨w.heap.size + 1 + 1, c, none⟩ (.int .i64 (v : Int))) := (Mod.refl _ W).setCell (p := ⟨w.heap.size + 1 + 1, c, none⟩) (.inl (by first | (simp; done) | (simp; omega))) _
  refine ⟨(hm.block _ (block_lt h.d) (by first | (simp; done) | (simp; omega))).trans h.d, (hm.block _ (block_lt h.res) (by first | (simp; done) | (simp; omega))).trans h.res, ?_, h.kn.mod hm (by first | (simp; done) | (simp; omega)), h.len, own_mod h.own hm (fun j hj => by have := (h.own.lt j hj).1; simp; omega), h.below.setCell (p := ⟨w.heap.size + 1 + 1, c, none⟩) (by first | (simp; done) | (simp; omega)) _⟩
  rw [block_setCell h.m]
  congr 2
  simp [i64s]
theorem info30 : (Tryd.prog.info? 30).map (·.size) = some 257 := by kernel_rfl
theorem zc30 : Tryd.zeroCells30 = (i64s (List.replicate 257 0)).toArray := by kernel_rfl
theorem Os.load (h : Os w dv L g n fs a k cap W) (hL : L.length = 257) : (Instr.loadAt 30 (.pointer (some ⟨w.heap.size + 1 + 1, 0, none⟩))).run Tryd.prog W = .ok (.agg (i64s L).toArray) W := by
  simp only [Instr.loadAt, Instr.sureAddr, Sem.run_bind, Sem.run_pure, Result.andThen_ok]
  exact run_loadVar_row (P := Tryd.prog) W _ _ 30 _ _ _ h.m Tryd.underlying30 rfl (by rw [info30]; simp [i64s_length, hL])
/-- A whole Map into a block. -/
theorem store_map {W : World} {b : Nat} {L : List Int} {old : Array Value} (hb : W.heap[b]? = some (.cells old 30 (0, 0))) (hs : old.size = 257) (hL : L.length = 257) :
    (storeCells ⟨b, 0, none⟩ (i64s L) 0).run Tryd.prog W = .ok () (W.setRow b (i64s L).toArray) := by
  have := run_storeCells_from (P := Tryd.prog) b 30 (i64s L) 0 old W hb (by rw [i64s_length]; omega) (oneCell_i64s L)
  simpa using this
end Cl
end Go.Proofs.YtfkjijjmphbglaaDoor
