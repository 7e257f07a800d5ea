import Derived.Test.YtoeeddfinmfnoaaDoorQActPure
/- What a call that writes only to some blocks (and to new ones) keeps. Over any program. -/
namespace Go.Proofs.YtoeeddfinmfnoaaDoor
open Go Go.RowKit
namespace Kt

/-- Of the blocks of w only those of 'S' may have turned. -/
structure Mod (S : List Nat) (w w' : World) : Prop where
  os : w'.os = w.os
  tape : w'.tape = w.tape
  output : w'.output = w.output
  size : w.heap.size ≤ w'.heap.size
  block : ∀ k, k < w.heap.size → k ∉ S → w'.heap[k]? = w.heap[k]?

theorem Mod.refl (S : List Nat) (w : World) : Mod S w w := ⟨rfl, rfl, rfl, Nat.le_refl _, fun _ _ _ => rfl⟩
theorem Mod.trans {S S' : List Nat} {a b c : World} (h : Mod S a b) (k : Mod S' b c) (hS : ∀ x ∈ S', x ∈ S ∨ a.heap.size ≤ x) : Mod S a c :=
  ⟨k.os.trans h.os, k.tape.trans h.tape, k.output.trans h.output, Nat.le_trans h.size k.size, fun i hi hn =>
    (k.block i (Nat.lt_of_lt_of_le hi h.size) (fun hm => by rcases hS i hm with h1 | h1; exact hn h1; omega)).trans (h.block i hi hn)⟩
theorem Mod.below {S : List Nat} {a b c : World} (h : Mod S a b) (k : Below b.heap.size b c) : Mod S a c :=
  ⟨k.os.trans h.os, k.tape.trans h.tape, k.output.trans h.output, Nat.le_trans h.size k.size, fun i hi hn => (k.block i (Nat.lt_of_lt_of_le hi h.size)).trans (h.block i hi hn)⟩
theorem Mod.drew {S : List Nat} {a b : World} (h : Mod S a b) : Mod S a b.drew := ⟨h.os, h.tape, h.output, h.size, h.block⟩
theorem Mod.drewN {S : List Nat} {a b : World} (h : Mod S a b) (n : Nat) : Mod S a (b.drewN n) := ⟨h.os, h.tape, h.output, h.size, h.block⟩
theorem Mod.alloc {S : List Nat} {a b : World} (h : Mod S a b) (o : Obj) : Mod S a (b.alloc o) := h.below ((Below.refl _ _).alloc (Nat.le_refl _) o)
theorem Mod.setCell {S : List Nat} {a b : World} (h : Mod S a b) {p : Addr} (hp : p.block ∈ S ∨ a.heap.size ≤ p.block) (v : Value) : Mod S a (b.setCell p v) :=
  ⟨h.os, h.tape, h.output, by simpa [World.setCell] using h.size, fun i hi hn => by
    rw [Below.heap_setCell _ _ _ _ (by rintro rfl; rcases hp with h1 | h1; exact hn h1; omega)]
    exact h.block i hi hn⟩
theorem Mod.grown {S : List Nat} {a b c : World} {row : Option Nat} (h : Mod S a b) (hg : b.grownBy c row) (hr : ∀ k, row = some k → k ∈ S ∨ a.heap.size ≤ k) : Mod S a c :=
  ⟨hg.os.trans h.os, hg.tape.trans h.tape, hg.output.trans h.output, Nat.le_trans h.size hg.size, fun i hi hn =>
    (hg.block i (Nat.lt_of_lt_of_le hi h.size) (fun e => by rcases hr i e.symm with h1 | h1; exact hn h1; omega)).trans (h.block i hi hn)⟩
/-- All that may have turned lies from B on. -/
theorem Mod.toBelow {S : List Nat} {w w' : World} (h : Mod S w w') {B : Nat} (hB : B ≤ w.heap.size) (hS : ∀ k ∈ S, B ≤ k) : Below B w w' :=
  ⟨h.os, h.tape, h.output, h.size, fun k hk => h.block k (by omega) (fun hm => by have := hS k hm; omega)⟩
theorem Mod.of_below {w w' : World} (h : Below w.heap.size w w') (S : List Nat) : Mod S w w' := (Mod.refl S w).below h
theorem Mod.sub {S S' : List Nat} {w w' : World} (h : Mod S w w') (hs : ∀ k ∈ S, k ∈ S') : Mod S' w w' :=
  ⟨h.os, h.tape, h.output, h.size, fun k hk hn => h.block k hk (fun hm => hn (hs k hm))⟩
theorem Mod.cell {S : List Nat} {w w' : World} (h : Mod S w w') {p : Addr} (hp : p.block < w.heap.size) (hn : p.block ∉ S) : w'.cell? p = w.cell? p := World.cell?_of_block (w := w) (h.block p.block hp hn)
theorem Rd.mod {S : List Nat} {w w' : World} {a : Option Addr} {xs : List Value} (h : Rd w a xs) (hb : Mod S w w') (hn : ∀ p, a = some p → p.block ∉ S) : Rd w' a xs := fun i x hi => by
  obtain ⟨b, off, ha, hc⟩ := h i x hi
  exact ⟨b, off, ha, by rw [hb.cell (p := ⟨b, off + i, none⟩) (lt_of_cell (p := ⟨b, off + i, none⟩) hc) (show b ∉ S from hn ⟨b, off, none⟩ ha)]; exact hc⟩
theorem own_mod {S : List Nat} {w w' : World} {base e sz n : Nat} {v : Value} {xs : List Value} (h : w.ownsRow base e sz v n xs) (hb : Mod S w w') (hn : ∀ k, v.ownBlock = some k → k ∉ S) : w'.ownsRow base e sz v n xs := by
  obtain ⟨h1, h2 | ⟨g, cap, cur, rfl, h4, h5, h6⟩⟩ := h
  · exact ⟨h1, .inl h2⟩
  · exact ⟨h1, .inr ⟨g, cap, cur, rfl, h4, by rw [hb.block g (Array.getElem?_eq_some_iff.1 h5).1 (hn g rfl)]; exact h5, h6⟩⟩
/-! ### Slices of structs -/
theorem flat_at {α : Type} (f : α → List Value) (sz : Nat) : ∀ (l : List α), (∀ z ∈ l, (f z).length = sz) → ∀ (k j : Nat) (hk : k < l.length), j < sz → (l.flatMap f)[k * sz + j]? = (f l[k])[j]?
  | [], _, _, _, hk, _ => absurd hk (by simp)
  | z :: l, h, 0, j, _, hj => by
    have := h z (by simp)
    rw [List.flatMap_cons, Nat.zero_mul, Nat.zero_add, List.getElem?_append_left (by omega)]
    rfl
  | z :: l, h, k + 1, j, hk, hj => by
    have h0 := h z (by simp)
    rw [List.flatMap_cons, List.getElem?_append_right (by rw [h0, Nat.succ_mul]; omega), h0, show (k + 1) * sz + j - sz = k * sz + j by rw [Nat.succ_mul]; omega]
    exact flat_at f sz l (fun z hz => h z (by simp [hz])) k j (by simpa using hk) hj
theorem Rd.struct {α : Type} {f : α → List Value} {w : World} {a : Option Addr} {l : List α} (sz : Nat) (h : Rd w a (l.flatMap f)) (hf : ∀ z ∈ l, (f z).length = sz) (k : Nat) (hk : k < l.length) (hsz : 0 < sz) :
    ∃ b off, a = some ⟨b, off, none⟩ ∧ ∀ j x, (f l[k])[j]? = some x → j < sz → w.cell? ⟨b, off + (k * sz + j), none⟩ = some x := by
  have h0 := flat_at f sz l hf k 0 hk hsz
  have hl := hf _ (List.getElem_mem hk)
  have hx0 : (f l[k])[0]? = some ((f l[k])[0]'(by omega)) := List.getElem?_eq_getElem _
  rw [hx0] at h0
  obtain ⟨b, off, ha, _⟩ := h _ _ h0
  refine ⟨b, off, ha, fun j x hx hj => ?_⟩
  have h1 := flat_at f sz l hf k j hk hj
  rw [hx] at h1
  obtain ⟨b', off', ha', hc⟩ := h _ _ h1
  rw [ha] at ha'
  simp only [Option.some.injEq, Addr.mk.injEq, and_true] at ha'
  obtain ⟨rfl, rfl⟩ := ha'
  exact hc
section
variable {H : Type} {enc : TypeId × Value → H} {P : Program} {w : World} {base : Nat} {spare : Nat → Bool} {held : Bool}
end
/-! ### Blocks known whole -/
theorem cell_block {w : World} {b e : Nat} {c : Array Value} {f : Nat × Nat} (h : w.heap[b]? = some (.cells c e f)) (i : Nat) : w.cell? ⟨b, i, none⟩ = c[i]? := by
  unfold World.cell?
  rw [h]
  simp
theorem frozen_block {w : World} {b e : Nat} {c : Array Value} (h : w.heap[b]? = some (.cells c e (0, 0))) (i : Nat) : w.frozen? ⟨b, i, none⟩ = false := by
  unfold World.frozen?
  rw [h]
  simp
theorem block_setCell {w : World} {b e i : Nat} {c : Array Value} {f : Nat × Nat} (h : w.heap[b]? = some (.cells c e f)) (v : Value) : (w.setCell ⟨b, i, none⟩ v).heap[b]? = some (.cells (c.setIfInBounds i v) e f) := by
  simp [World.setCell, Array.getElem?_modify, h]
theorem block_setOther {w : World} {b k i : Nat} (h : k ≠ b) (v : Value) : (w.setCell ⟨b, i, none⟩ v).heap[k]? = w.heap[k]? := Below.heap_setCell _ _ _ _ h
theorem block_lt {w : World} {b : Nat} {o : Obj} (h : w.heap[b]? = some o) : b < w.heap.size := (Array.getElem?_eq_some_iff.1 h).1
theorem block_alloc {w : World} {b : Nat} {o x : Obj} (h : w.heap[b]? = some o) : (w.alloc x).heap[b]? = some o := by rw [Below.heap_alloc _ _ _ (block_lt h)]; exact h
end Kt
end Go.Proofs.YtoeeddfinmfnoaaDoor

/- Plain law of chapter 07: trees, and the walk that comes to their nodes. No program. -/
namespace Go.Proofs.YtoeeddfinmfnoaaDoor
open Go Go.RowKit Kt
namespace Tr
/-- A tree, with the places of its rows of kids. -/
inductive Nd where
  | mk (kind : Int) (set : List Nat) (mn mx : Int) (text : List UInt8) (a : Option Addr) (cap : Nat) (kids : List Nd)
namespace Nd
def kind : Nd → Int | mk k _ _ _ _ _ _ _ => k
def set : Nd → List Nat | mk _ s _ _ _ _ _ _ => s
def mn : Nd → Int | mk _ _ m _ _ _ _ _ => m
def mx : Nd → Int | mk _ _ _ m _ _ _ _ => m
def text : Nd → List UInt8 | mk _ _ _ _ t _ _ _ => t
def a : Nd → Option Addr | mk _ _ _ _ _ a _ _ => a
def cap : Nd → Nat | mk _ _ _ _ _ _ c _ => c
def kids : Nd → List Nd | mk _ _ _ _ _ _ _ ks => ks
end Nd
instance : Inhabited Nd := ⟨.mk 0 [0, 0, 0, 0] 0 0 [] none 0 []⟩
/-- A set's four words as values. -/
def w64 (l : List Nat) : List Value := l.map fun x : Nat => .int .u64 (x : Int)
/-- A node's nine cells. -/
def cells (n : Nd) : List Value := .int .i64 n.kind :: (w64 n.set ++ [.slice n.a n.kids.length n.cap, .int .i64 n.mn, .int .i64 n.mx, .string (Str n.text)])
theorem cells_len (n : Nd) (h : n.set.length = 4) : (cells n).length = 9 := by simp [cells, w64, h]
mutual
/-- The tree lies in memory, below B: each node's row of kids reads as they; sets of four words; rows as Go's. -/
def Is (B : Nat) (W : World) : Nd → Prop
  | .mk _ s _ _ _ a c ks => s.length = 4 ∧ ks.length ≤ c ∧ c ≤ maxLen ∧ (a = none → c = 0) ∧ Rd W a (ks.flatMap cells) ∧ (∀ p, a = some p → ks.flatMap cells ≠ [] → p.block < B) ∧ IsAll B W ks
def IsAll (B : Nat) (W : World) : List Nd → Prop
  | [] => True
  | n :: r => Is B W n ∧ IsAll B W r
end
theorem Is.all {B : Nat} {W : World} : ∀ {ks : List Nd}, IsAll B W ks → ∀ k ∈ ks, Is B W k
  | [], _, k, hk => by cases hk
  | n :: r, h, k, hk => by
    rcases List.mem_cons.1 hk with rfl | hk
    · exact h.1
    · exact Is.all h.2 k hk
theorem Is.len {B : Nat} {W : World} {n : Nd} (h : Is B W n) : n.set.length = 4 := by
  cases n
  exact h.1
mutual
theorem Is.below {B : Nat} {W W' : World} (hb : Below B W W') : ∀ {n : Nd}, Is B W n → Is B W' n
  | .mk _ _ _ _ _ _ _ _, ⟨h1, h2, h3, h4, h5, h6, h7⟩ => ⟨h1, h2, h3, h4, h5.below hb h6, h6, IsAll.below hb h7⟩
theorem IsAll.below {B : Nat} {W W' : World} (hb : Below B W W') : ∀ {ks : List Nd}, IsAll B W ks → IsAll B W' ks
  | [], _ => trivial
  | _ :: _, h => ⟨Is.below hb h.1, IsAll.below hb h.2⟩
end
/-- A node as a value. -/
def nv (n : Nd) : Value := .agg (cells n).toArray
mutual
/-- All nodes that the walk would come to with no bound on their number: with their levels; below level 24 it goes no further. -/
def full : Nat → Nd → List (Nd × Nat)
  | lv, .mk k s m x t a c ks => (.mk k s m x t a c ks, lv) :: (if 24 < lv then [] else fulls (lv + 1) ks)
def fulls : Nat → List Nd → List (Nd × Nat)
  | _, [] => []
  | lv, n :: r => full lv n ++ fulls lv r
end
theorem full_eq (lv : Nat) (n : Nd) : full lv n = (n, lv) :: (if 24 < lv then [] else fulls (lv + 1) n.kids) := by cases n; rfl
/-- The walk. -/
def walk (n : Nd) : List (Nd × Nat) := (full 1 n).take 601
/-- A node has nothing but what is of its kind. -/
def bare (n : Nd) : Bool := (decide (n.set = [0, 0, 0, 0]) || decide (n.kind = 1)) && ((decide (n.mn = 0) && decide (n.mx = 0)) || decide (n.kind = 4)) && (decide (n.text = []) || decide (n.kind = 5))
/-- A node by itself is right. -/
def one (n : Nd) : Bool := bare n && (if n.kind = 1 then decide (n.kids.length = 0) else if n.kind = 2 then true else if n.kind = 3 then decide (2 ≤ n.kids.length)
  else if n.kind = 4 then decide (n.kids.length = 1) && (decide (0 ≤ n.mn) && decide (n.mn ≤ 40) && (decide (n.mx = -1) || (decide (max n.mn 1 ≤ n.mx) && decide (n.mx ≤ 40))))
  else decide (n.kind = 5) && decide (n.kids.length = 0) && Ac.nm n.text)
/-- A right tree. -/
def rgt (n : Nd) : Bool := decide ((walk n).length ≤ 600) && (walk n).all fun x => decide (x.2 ≤ 24) && one x.1
/-- How deep it is. -/
def deep (l : List (Nd × Nat)) : Nat := l.foldl (fun d x => max d x.2) 0
end Tr
end Go.Proofs.YtoeeddfinmfnoaaDoor
