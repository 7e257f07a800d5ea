import Derived.Test.YtoeeddfinmfnoaaDoorQActPure
/- What a call that writes only to some blocks (and to new ones) keeps. Over any program. -/
namespace Go.Proofs.YtoeeddfinmfnoaaDoor
open Go Go.RowKit
namespace Kt

/-- Of the blocks of w only those of 'S' may have turned. -/
structure Mod (S : List Nat) (w w' : World) : Prop where
  os : w'.os = w.os
  tape : w'.tape = w.tape
  output : w'.output = w.output
  size : w.heap.size ≤ w'.heap.size
  block : ∀ k, k < w.heap.size → k ∉ S → w'.heap[k]? = w.heap[k]?

theorem Mod.refl (S : List Nat) (w : World) : Mod S w w := ⟨rfl, rfl, rfl, Nat.le_refl _, fun _ _ _ => rfl⟩
theorem Mod.trans {S S' : List Nat} {a b c : World} (h : Mod S a b) (k : Mod S' b c) (hS : ∀ x ∈ S', x ∈ S ∨ a.heap.size ≤ x) : Mod S a c :=
  ⟨k.os.trans h.os, k.tape.trans h.tape, k.output.trans h.output, Nat.le_trans h.size k.size, fun i hi hn =>
    (k.block i (Nat.lt_of_lt_of_le hi h.size) (fun hm => by rcases hS i hm with h1 | h1; exact hn h1; omega)).trans (h.block i hi hn)⟩
theorem Mod.below {S : List Nat} {a b c : World} (h : Mod S a b) (k : Below b.heap.size b c) : Mod S a c :=
  ⟨k.os.trans h.os, k.tape.trans h.tape, k.output.trans h.output, Nat.le_trans h.size k.size, fun i hi hn => (k.block i (Nat.lt_of_lt_of_le hi h.size)).trans (h.block i hi hn)⟩
theorem Mod.drew {S : List Nat} {a b : World} (h : Mod S a b) : Mod S a b.drew := ⟨h.os, h.tape, h.output, h.size, h.block⟩
theorem Mod.drewN {S : List Nat} {a b : World} (h : Mod S a b) (n : Nat) : Mod S a (b.drewN n) := ⟨h.os, h.tape, h.output, h.size, h.block⟩
theorem Mod.alloc {S : List Nat} {a b : World} (h : Mod S a b) (o : Obj) : Mod S a (b.alloc o) := h.below ((Below.refl _ _).alloc (Nat.le_refl _) o)
theorem Mod.setCell {S : List Nat} {a b : World} (h : Mod S a b) {p : Addr} (hp : p.block ∈ S ∨ a.heap.size ≤ p.block) (v : Value) : Mod S a (b.setCell p v) :=
  ⟨h.os, h.tape, h.output, by simpa [World.setCell] using h.size, fun i hi hn => by
    rw [Below.heap_setCell _ _ _ _ (by rintro rfl; rcases hp with h1 | h1; exact hn h1; omega)]
    exact h.block i hi hn⟩
theorem Mod.grown {S : List Nat} {a b c : World} {row : Option Nat} (h : Mod S a b) (hg : b.grownBy c row) (hr : ∀ k, row = some k → k ∈ S ∨ a.heap.size ≤ k) : Mod S a c :=
  ⟨hg.os.trans h.os, hg.tape.trans h.tape, hg.output.trans h.output, Nat.le_trans h.size hg.size, fun i hi hn =>
    (hg.block i (Nat.lt_of_lt_of_le hi h.size) (fun e => by rcases hr i e.symm with h1 | h1; exact hn h1; omega)).trans (h.block i hi hn)⟩
/-- All that may have turned lies from B on. -/
theorem Mod.toBelow {S : List Nat} {w w' : World} (h : Mod S w w') {B : Nat} (hB : B ≤ w.heap.size) (hS : ∀ k ∈ S, B ≤ k) : Below B w w' :=
  ⟨h.os, h.tape, h.output, h.size, fun k hk => h.block k (by omega) (fun hm => by have := hS k hm; omega)⟩
theorem Mod.of_below {w w' : World} (h : Below w.heap.size w w') (S : List Nat) : Mod S w w' := (Mod.refl S w).below h
theorem Mod.sub {S S' : List Nat} {w w' : World} (h : Mod S w w') (hs : ∀ k ∈ S, k ∈ S') : Mod S' w w' :=
  ⟨h.os, h.tape, h.output, h.size, fun k hk hn => h.block k hk (fun hm => hn (hs k hm))⟩
theorem Mod.cell {S : List Nat} {w w' : World} (h : Mod S w w') {p : Addr} (hp : p.block < w.heap.size) (hn : p.block ∉ S) : w'.cell? p = w.cell? p := World.cell?_of_block (w := w) (h.block p.block hp hn)
theorem Rd.mod {S : List Nat} {w w' : World} {a : Option Addr} {xs : List Value} (h : Rd w a xs) (hb : Mod S w w') (hn : ∀ p, a = some p → p.block ∉ S) : Rd w' a xs := fun i x hi => by
  obtain ⟨b, off, ha, hc⟩ := h i x hi
  exact ⟨b, off, ha, by rw [hb.cell (p := ⟨b, off + i, none⟩) (lt_of_cell (p := ⟨b, off + i, none⟩) hc) (show b ∉ S from hn ⟨b, off, none⟩ ha)]; exact hc⟩
theorem own_mod {S : List Nat} {w w' : World} {base e sz n : Nat} {v : Value} {xs : List Value} (h : w.ownsRow base e sz v n xs) (hb : Mod S w w') (hn : ∀ k, v.ownBlock = some k → k ∉ S) : w'.ownsRow base e sz v n xs := by
  obtain ⟨h1, h2 | ⟨g, cap, cur, rfl, h4, h5, h6⟩⟩ := h
  · exact ⟨h1, .inl h2⟩
  · exact ⟨h1, .inr ⟨g, cap, cur, rfl, h4, by rw [hb.block g (Array.getElem?_eq_some_iff.1 h5).1 (hn g rfl)]; exact h5, h6⟩⟩
/-! ### Slices of structs -/
theorem flat_at {α : Type} (f : α → List Value) (sz : Nat) : ∀ (l : List α), (∀ z ∈ l, (f z).length = sz) → ∀ (k j : Nat) (hk : k < l.length), j < sz → (l.flatMap f)[k * sz + j]? = (f l[k])[j]?
  | [], _, _, _, hk, _ => absurd hk (by simp)
  | z :: l, h, 0, j, _, hj => by
    have := h z (by simp)
    rw [List.flatMap_cons, Nat.zero_mul, Nat.zero_add, List.getElem?_append_left (by omega)]
    rfl
  | z :: l, h, k + 1, j, hk, hj => by
    have h0 := h z (by simp)
    rw [List.flatMap_cons, List.getElem?_append_right (by rw [h0, Nat.succ_mul]; omega), h0, show (k + 1) * sz + j - sz = k * sz + j by rw [Nat.succ_mul]; omega]
    exact flat_at f sz l (fun z hz => h z (by simp [hz])) k j (by simpa using hk) hj
theorem Rd.struct {α : Type} {f : α → List Value} {w : World} {a : Option Addr} {l : List α} (sz : Nat) (h : Rd w a (l.flatMap f)) (hf : ∀ z ∈ l, (f z).length = sz) (k : Nat) (hk : k < l.length) (hsz : 0 < sz) :
    ∃ b off, a = some ⟨b, off, none⟩ ∧ ∀ j x, (f l[k])[j]? = some x → j < sz → w.cell? ⟨b, off + (k * sz + j), none⟩ = some x := by
  have h0 := flat_at f sz l hf k 0 hk hsz
  have hl := hf _ (List.getElem_mem hk)
  have hx0 : (f l[k])[0]? = some ((f l[k])[0]'(by omega)) := List.getElem?_eq_getElem _
  rw [hx0] at h0
  obtain ⟨b, off, ha, _⟩ := h _ _ h0
  refine ⟨b, off, ha, fun j x hx hj => ?_⟩
  have h1 := flat_at f sz l hf k j hk hj
  rw [hx] at h1
  obtain ⟨b', off', ha', hc⟩ := h _ _ h1
  rw [ha] at ha'
  simp only [Option.some.injEq, Addr.mk.injEq, and_true] at ha'
  obtain ⟨rfl, rfl⟩ := ha'
  exact hc
section
variable {H : Type} {enc : TypeId × Value → H} {P : Program} {w : World} {base : Nat} {spare : Nat → Bool} {held : Bool}
end
/-! ### Blocks known whole -/
theorem cell_block {w : World} {b e : Nat} {c : Array Value} {f : Nat × Nat} (h : w.heap[b]? = some (.cells c e f)) (i : Nat) : w.cell? ⟨b, i, none⟩ = c[i]? := by
  unfold World.cell?
  rw [h]
  simp
theorem frozen_block {w : World} {b e : Nat} {c : Array Value} (h : w.heap[b]? = some (.cells c e (0, 0))) (i : Nat) : w.frozen? ⟨b, i, none⟩ = false := by
  unfold World.frozen?
  rw [h]
  simp
theorem block_setCell {w : World} {b e i : Nat} {c : Array Value} {f : Nat × Nat} (h : w.heap[b]? = some (.cells c e f)) (v : Value) : (w.setCell ⟨b, i, none⟩ v).heap[b]? = some (.cells (c.setIfInBounds i v) e f) := by
  simp [World.setCell, Array.getElem?_modify, h]
theorem block_setOther {w : World} {b k i : Nat} (h : k ≠ b) (v : Value) : (w.setCell ⟨b, i, none⟩ v).heap[k]? = w.heap[k]? := Below.heap_setCell _ _ _ _ h
theorem block_lt {w : World} {b : Nat} {o : Obj} (h : w.heap[b]? = some o) : b < w.heap.size := (Array.getElem?_eq_some_iff.1 h).1
theorem block_alloc {w : World} {b : Nat} {o x : Obj} (h : w.heap[b]? = some o) : (w.alloc x).heap[b]? = some o := by rw [Below.heap_alloc _ _ _ (block_lt h)]; exact h
end Kt
end Go.Proofs.YtoeeddfinmfnoaaDoor
