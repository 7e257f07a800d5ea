import Derived.Test.YtoeeddfinmfnoaaDoorQTreeBnd
import Derived.Test.YtoeeddfinmfnoaaDoorQApp
/- A node whose kids are appended one by one: its block, its row, its kids. Over any program. -/
namespace Go.Proofs.YtoeeddfinmfnoaaDoor
namespace Kt
end Kt
open Go Go.RowKit Kt
namespace Tr
/-- A node as nine cells. -/
def nd9 (k : Int) (x0 x1 x2 x3 : Nat) (a : Option Addr) (nl c : Nat) (mn mx : Int) (t : List UInt8) : Array Value := #[.int .i64 k, .int .u64 (x0 : Int), .int .u64 (x1 : Int), .int .u64 (x2 : Int), .int .u64 (x3 : Int), .slice a nl c, .int .i64 mn, .int .i64 mx, .string (Str t)]
/-- A node in the block b, its kids (so far) in a row of the call's own, their rows beyond. -/
structure Gw (T b : Nat) (k : Int) (x0 x1 x2 x3 : Nat) (mn mx : Int) (t : List UInt8) (ms : List Nd) (a : Option Addr) (n c : Nat) (W : World) : Prop where
  len : ms.length = n
  blk : W.heap[b]? = some (.cells (nd9 k x0 x1 x2 x3 a n c mn mx t) T (0, 0))
  own : W.ownsRow (b + 1) T 9 (.slice a n c) n (ms.flatMap cells)
  kid : ∀ x ∈ ms, Is W.heap.size W x ∧ Bl (fun q => b < q ∧ (Value.slice a n c).ownBlock ≠ some q) x
variable {T b : Nat} {k : Int} {x0 x1 x2 x3 : Nat} {mn mx : Int} {t : List UInt8} {ms : List Nd} {a : Option Addr} {n c : Nat} {W W' : World}
theorem Gw.below (h : Gw T b k x0 x1 x2 x3 mn mx t ms a n c W) (hb : Below W.heap.size W W') : Gw T b k x0 x1 x2 x3 mn mx t ms a n c W' :=
  ⟨h.len, (hb.block b (block_lt h.blk)).trans h.blk, own_keep h.own hb, fun x hx => ⟨Is.mono hb.size (Is.below hb (h.kid x hx).1), (h.kid x hx).2⟩⟩
theorem Gw.node (h : Gw T b k x0 x1 x2 x3 mn mx t ms a n c W) : Is W.heap.size W (.mk k [x0, x1, x2, x3] mn mx t a c ms) ∧ Bl (b < ·) (.mk k [x0, x1, x2, x3] mn mx t a c ms) := by
  obtain ⟨a', c', he, h1, h2, h3, h4⟩ := rd_own h.own
  simp only [Value.slice.injEq] at he
  obtain ⟨rfl, _, rfl⟩ := he
  have hown := h.own
  refine ⟨⟨rfl, by rw [h.len]; exact h1, h2, fun hn => ?_, h3, fun p hp hne => ?_, IsAll.of fun x hx => (h.kid x hx).1⟩, ⟨fun p hp _ => ?_, Bls.of fun x hx => (h.kid x hx).2.mono fun q hq => hq.1⟩⟩
  · subst hn; exact (own_none hown).1
  · obtain ⟨q, hq, hl⟩ := h3.lt hne
    rw [hp] at hq
    cases hq
    exact hl
  · exact (h4 p hp).1
theorem Gw.val (h : Gw T b k x0 x1 x2 x3 mn mx t ms a n c W) : nv (.mk k [x0, x1, x2, x3] mn mx t a c ms) = .agg (nd9 k x0 x1 x2 x3 a n c mn mx t) := by
  show Value.agg (nd9 k x0 x1 x2 x3 a ms.length c mn mx t) = _
  rw [h.len]
/-- One kid more. -/
theorem Gw.push {P : Program} {ty : TypeId} {z : Value} {bytes : Nat} (E : El P ty T z 9 bytes) (hby : bytes ≤ 1000) (h : Gw T b k x0 x1 x2 x3 mn mx t ms a n c W) (hn : n ≤ 1000000) (m : Nd) (hm : Is W.heap.size W m) (hmb : Bl (fun q => b < q ∧ (Value.slice a n c).ownBlock ≠ some q) m) :
    ∃ g cap w2, (Builtin.append_ #[ty, ty] ty #[.slice a n c, .slice (some ⟨W.heap.size, 0, none⟩) 1 1]).run P (W.alloc (.cells (cells m).toArray T)) = .ok (.slice (some ⟨g, 0, none⟩) (n + 1) cap) w2 ∧
      w2.cell? ⟨b, 5, none⟩ = some (.slice a n c) ∧ w2.frozen? ⟨b, 5, none⟩ = false ∧
      Gw T b k x0 x1 x2 x3 mn mx t (ms ++ [m]) (some ⟨g, 0, none⟩) (n + 1) cap (w2.setCell ⟨b, 5, none⟩ (.slice (some ⟨g, 0, none⟩) (n + 1) cap)) ∧
      Mod (b :: (Value.slice a n c).ownBlock.toList) W (w2.setCell ⟨b, 5, none⟩ (.slice (some ⟨g, 0, none⟩) (n + 1) cap)) ∧ ∀ q ∈ (Value.slice a n c).ownBlock.toList, b < q := by
  have b1 : Below W.heap.size W (W.alloc (.cells (cells m).toArray T)) := (Below.refl _ _).alloc (Nat.le_refl _) _
  have hblt := block_lt h.blk
  obtain ⟨W1, hW1⟩ : ∃ W1, W.alloc (.cells (cells m).toArray T) = W1 := ⟨_, rfl⟩
  have hz1 : W1.heap.size = W.heap.size + 1 := by rw [← hW1]; simp
  have hrn : Rd W1 (some ⟨W.heap.size, 0, none⟩) (cells m) := by rw [← hW1]; exact Rd.new _ _ _ _ _ rfl
  rw [hW1] at b1
  rw [hW1]
  have h1 := h.below b1
  have hlen : (cells m).length = 1 * 9 := by rw [cells_len m hm.len]
  obtain ⟨g, cap, w2, hrun, own2, gr2, hlie, hg2⟩ := E.lies (b + 1) (ty := ty) h1.own 1 1 hlen (by decide) hrn (cells_one m) (by unfold maxLen; omega) (Nat.le_trans (Nat.mul_le_mul (show n + 1 ≤ 1000001 by omega) hby) (by decide)) (by omega)
  have hown : ∀ q, (Value.slice a n c).ownBlock = some q → b < q ∧ q < W.heap.size := fun q hq => ⟨(h.own.lt q hq).1, (h.own.lt q hq).2⟩
  have hb2 := (gr2.block b (by omega) (fun e => by have := (hown b e.symm).1; omega)).trans h1.blk
  have hgb : b < g := (own2.lt g rfl).1
  have hM2 : Mod (Value.slice a n c).ownBlock.toList W w2 := (Mod.of_below b1 _).grown gr2 (fun q hq => .inl (by simp [hq]))
  have hM3 : Mod [b] w2 (w2.setCell ⟨b, 5, none⟩ (.slice (some ⟨g, 0, none⟩) (n + 1) cap)) := (Mod.refl [b] w2).setCell (.inl (by simp)) _
  refine ⟨g, cap, w2, hrun, ?_, frozen_block hb2 5, ⟨by simp [h.len], ?_, ?_, ?_⟩, ?_, fun q hq => (hown q (by simpa using hq)).1⟩
  · rw [cell_block hb2]; rfl
  · rw [block_setCell (i := 5) (show _ = some (Obj.cells _ _ _) from hb2)]
    simp only [nd9, List.setIfInBounds_toArray, List.set_cons_succ, List.set_cons_zero]
  · rw [List.flatMap_append, show [m].flatMap cells = cells m by simp]
    exact own_mod own2 hM3 (fun q hq => by (have he : g = q := by simpa [Value.ownBlock] using hq); subst he; simp; omega)
  · -- the kids' rows stay
    have hW2 : W.heap.size ≤ w2.heap.size := hM2.size
    have hgn : ∀ q, q < W.heap.size → (Value.slice a n c).ownBlock ≠ some q → g ≠ q := fun q hq hne e => by
      subst e
      rcases hlie with hl | hl
      · exact hne hl
      · omega
    have hkeep : ∀ x, Is W.heap.size W x → Bl (fun q => b < q ∧ (Value.slice a n c).ownBlock ≠ some q) x →
        Is (w2.setCell ⟨b, 5, none⟩ (.slice (some ⟨g, 0, none⟩) (n + 1) cap)).heap.size (w2.setCell ⟨b, 5, none⟩ (.slice (some ⟨g, 0, none⟩) (n + 1) cap)) x ∧ Bl (fun q => b < q ∧ (Value.slice (some ⟨g, 0, none⟩) (n + 1) cap).ownBlock ≠ some q) x := fun x h1 h2 => by
      have i2 := Is.modB hM2 h1 (h2.mono fun q hq => by simpa using hq.2)
      have i3 := Is.modB hM3 i2 (h2.mono fun q hq => by simp; omega)
      refine ⟨Is.mono (Nat.le_trans hW2 hM3.size) i3, ?_⟩
      have hbd := Is.bl h1
      exact Bl.both h2 hbd fun q hq hl => ⟨hq.1, fun e => hgn q hl hq.2 (by simpa [Value.ownBlock] using e)⟩
    intro x hx
    rcases List.mem_append.1 hx with hx | hx
    · exact hkeep x (h.kid x hx).1 (h.kid x hx).2
    · simp only [List.mem_singleton] at hx
      subst hx
      exact hkeep x hm hmb
  · exact (hM2.sub (by intro q hq; simp at hq ⊢; exact .inr hq)).trans hM3 (fun q hq => .inl (by simp at hq; simp [hq]))
/-- An empty one. -/
theorem Gw.start (h : W.heap[b]? = some (.cells (nd9 k x0 x1 x2 x3 none 0 0 mn mx t) T (0, 0))) : Gw T b k x0 x1 x2 x3 mn mx t [] none 0 0 W :=
  ⟨rfl, h, World.ownsRow_nil _ _ _ _, by simp⟩
end Tr
end Go.Proofs.YtoeeddfinmfnoaaDoor
