import Derived.Test.YteekonojmpihlaaDoorQLib
import Derived.Maps.OwnOps
import Derived.Maps.OwnSet
import Derived.Maps.Views
/- What a call that writes only to some blocks (and to new ones) keeps. Over any program. -/
namespace Go.Proofs.YteekonojmpihlaaDoor
open Go Go.RowKit
namespace Kt

/-- Of the blocks of w only those of 'S' may have turned. -/
structure Mod (S : List Nat) (w w' : World) : Prop where
  os : w'.os = w.os
  tape : w'.tape = w.tape
  output : w'.output = w.output
  size : w.heap.size ≤ w'.heap.size
  block : ∀ k, k < w.heap.size → k ∉ S → w'.heap[k]? = w.heap[k]?

theorem Mod.refl (S : List Nat) (w : World) : Mod S w w := ⟨rfl, rfl, rfl, Nat.le_refl _, fun _ _ _ => rfl⟩
theorem Mod.trans {S S' : List Nat} {a b c : World} (h : Mod S a b) (k : Mod S' b c) (hS : ∀ x ∈ S', x ∈ S ∨ a.heap.size ≤ x) : Mod S a c :=
  ⟨k.os.trans h.os, k.tape.trans h.tape, k.output.trans h.output, Nat.le_trans h.size k.size, fun i hi hn =>
    (k.block i (Nat.lt_of_lt_of_le hi h.size) (fun hm => by rcases hS i hm with h1 | h1; exact hn h1; omega)).trans (h.block i hi hn)⟩
theorem Mod.below {S : List Nat} {a b c : World} (h : Mod S a b) (k : Below b.heap.size b c) : Mod S a c :=
  ⟨k.os.trans h.os, k.tape.trans h.tape, k.output.trans h.output, Nat.le_trans h.size k.size, fun i hi hn => (k.block i (Nat.lt_of_lt_of_le hi h.size)).trans (h.block i hi hn)⟩
theorem Mod.drew {S : List Nat} {a b : World} (h : Mod S a b) : Mod S a b.drew := ⟨h.os, h.tape, h.output, h.size, h.block⟩
theorem Mod.drewN {S : List Nat} {a b : World} (h : Mod S a b) (n : Nat) : Mod S a (b.drewN n) := ⟨h.os, h.tape, h.output, h.size, h.block⟩
theorem Mod.alloc {S : List Nat} {a b : World} (h : Mod S a b) (o : Obj) : Mod S a (b.alloc o) := h.below ((Below.refl _ _).alloc (Nat.le_refl _) o)
theorem Mod.setCell {S : List Nat} {a b : World} (h : Mod S a b) {p : Addr} (hp : p.block ∈ S ∨ a.heap.size ≤ p.block) (v : Value) : Mod S a (b.setCell p v) :=
  ⟨h.os, h.tape, h.output, by simpa [World.setCell] using h.size, fun i hi hn => by
    rw [Below.heap_setCell _ _ _ _ (by rintro rfl; rcases hp with h1 | h1; exact hn h1; omega)]
    exact h.block i hi hn⟩
theorem Mod.grown {S : List Nat} {a b c : World} {row : Option Nat} (h : Mod S a b) (hg : b.grownBy c row) (hr : ∀ k, row = some k → k ∈ S ∨ a.heap.size ≤ k) : Mod S a c :=
  ⟨hg.os.trans h.os, hg.tape.trans h.tape, hg.output.trans h.output, Nat.le_trans h.size hg.size, fun i hi hn =>
    (hg.block i (Nat.lt_of_lt_of_le hi h.size) (fun e => by rcases hr i e.symm with h1 | h1; exact hn h1; omega)).trans (h.block i hi hn)⟩
/-- All that may have turned lies from B on. -/
theorem Mod.toBelow {S : List Nat} {w w' : World} (h : Mod S w w') {B : Nat} (hB : B ≤ w.heap.size) (hS : ∀ k ∈ S, B ≤ k) : Below B w w' :=
  ⟨h.os, h.tape, h.output, h.size, fun k hk => h.block k (by omega) (fun hm => by have := hS k hm; omega)⟩
theorem Mod.of_below {w w' : World} (h : Below w.heap.size w w') (S : List Nat) : Mod S w w' := (Mod.refl S w).below h
theorem Mod.sub {S S' : List Nat} {w w' : World} (h : Mod S w w') (hs : ∀ k ∈ S, k ∈ S') : Mod S' w w' :=
  ⟨h.os, h.tape, h.output, h.size, fun k hk hn => h.block k hk (fun hm => hn (hs k hm))⟩
theorem Mod.cell {S : List Nat} {w w' : World} (h : Mod S w w') {p : Addr} (hp : p.block < w.heap.size) (hn : p.block ∉ S) : w'.cell? p = w.cell? p := World.cell?_of_block (w := w) (h.block p.block hp hn)
theorem Rd.mod {S : List Nat} {w w' : World} {a : Option Addr} {xs : List Value} (h : Rd w a xs) (hb : Mod S w w') (hn : ∀ p, a = some p → p.block ∉ S) : Rd w' a xs := fun i x hi => by
  obtain ⟨b, off, ha, hc⟩ := h i x hi
  exact ⟨b, off, ha, by rw [hb.cell (p := ⟨b, off + i, none⟩) (lt_of_cell (p := ⟨b, off + i, none⟩) hc) (show b ∉ S from hn ⟨b, off, none⟩ ha)]; exact hc⟩
theorem own_mod {S : List Nat} {w w' : World} {base e sz n : Nat} {v : Value} {xs : List Value} (h : w.ownsRow base e sz v n xs) (hb : Mod S w w') (hn : ∀ k, v.ownBlock = some k → k ∉ S) : w'.ownsRow base e sz v n xs := by
  obtain ⟨h1, h2 | ⟨g, cap, cur, rfl, h4, h5, h6⟩⟩ := h
  · exact ⟨h1, .inl h2⟩
  · exact ⟨h1, .inr ⟨g, cap, cur, rfl, h4, by rw [hb.block g (Array.getElem?_eq_some_iff.1 h5).1 (hn g rfl)]; exact h5, h6⟩⟩
/-! ### Slices of structs -/
theorem flat_at {α : Type} (f : α → List Value) (sz : Nat) : ∀ (l : List α), (∀ z ∈ l, (f z).length = sz) → ∀ (k j : Nat) (hk : k < l.length), j < sz → (l.flatMap f)[k * sz + j]? = (f l[k])[j]?
  | [], _, _, _, hk, _ => absurd hk (by simp)
  | z :: l, h, 0, j, _, hj => by
    have := h z (by simp)
    rw [List.flatMap_cons, Nat.zero_mul, Nat.zero_add, List.getElem?_append_left (by omega)]
    rfl
  | z :: l, h, k + 1, j, hk, hj => by
    have h0 := h z (by simp)
    rw [List.flatMap_cons, List.getElem?_append_right (by rw [h0, Nat.succ_mul]; omega), h0, show (k + 1) * sz + j - sz = k * sz + j by rw [Nat.succ_mul]; omega]
    exact flat_at f sz l (fun z hz => h z (by simp [hz])) k j (by simpa using hk) hj
theorem Rd.struct {α : Type} {f : α → List Value} {w : World} {a : Option Addr} {l : List α} (sz : Nat) (h : Rd w a (l.flatMap f)) (hf : ∀ z ∈ l, (f z).length = sz) (k : Nat) (hk : k < l.length) (hsz : 0 < sz) :
    ∃ b off, a = some ⟨b, off, none⟩ ∧ ∀ j x, (f l[k])[j]? = some x → j < sz → w.cell? ⟨b, off + (k * sz + j), none⟩ = some x := by
  have h0 := flat_at f sz l hf k 0 hk hsz
  have hl := hf _ (List.getElem_mem hk)
  have hx0 : (f l[k])[0]? = some ((f l[k])[0]'(by omega)) := List.getElem?_eq_getElem _
  rw [hx0] at h0
  obtain ⟨b, off, ha, _⟩ := h _ _ h0
  refine ⟨b, off, ha, fun j x hx hj => ?_⟩
  have h1 := flat_at f sz l hf k j hk hj
  rw [hx] at h1
  obtain ⟨b', off', ha', hc⟩ := h _ _ h1
  rw [ha] at ha'
  simp only [Option.some.injEq, Addr.mk.injEq, and_true] at ha'
  obtain ⟨rfl, rfl⟩ := ha'
  exact hc
section
variable {H : Type} {enc : TypeId × Value → H} {P : Program} {w : World} {base : Nat} {spare : Nat → Bool} {held : Bool}
/-- A slice of structs that came in. -/
theorem open_structs {α : Type} [Inhabited α] {t e : TypeId} {fuel sz : Nat} {v : Value} {x : DataW H × List MemPlace} (f : α → List Value) (Q : α → Prop) (ht : P.underlying t = some (.slice e)) (hc : P.cellsOf e = sz) (hsz : 0 < sz)
    (hel : ∀ n cs y, DataW.trod enc P w base spare held n e cs = some y → ∃ z : α, cs = f z ∧ (f z).length = sz ∧ Q z) (h : DataW.trod enc P w base spare held fuel t [v] = some x) :
    ∃ a cap, ∃ l : List α, v = .slice a l.length cap ∧ l.length ≤ cap ∧ cap ≤ maxLen ∧ (a = none → cap = 0) ∧ Rd w a (l.flatMap f) ∧ ∀ z ∈ l, (f z).length = sz ∧ Q z := by
  rcases Deep.open_slice ht h with ⟨hv, _⟩ | ⟨a, len, cap, m, n, D, Pl, hv, _, hl, hm, hmm, _, hx⟩
  · simp at hv; subst hv
    exact ⟨none, 0, [], rfl, Nat.le_refl _, by decide, fun _ => rfl, Rd.nil _ _, by simp⟩
  · simp at hv; subst hv
    have hlm : len ≤ m := by rw [hmm]; split <;> omega
    rw [hc] at hx
    obtain ⟨g, hg⟩ := Deep.choose_lt (n := len) (p := fun i (z : α) => w.cells? base (a.add (i * sz)) sz = some (f z) ∧ (f z).length = sz ∧ Q z) (fun i hi => by
      obtain ⟨cs, h1, h2⟩ := hx i (by omega)
      obtain ⟨z, rfl, h3, h4⟩ := hel n _ _ h2
      exact ⟨z, h1, h3, h4⟩)
    have hQ : ∀ z ∈ (List.range len).map g, (f z).length = sz ∧ Q z := by
      intro z hz
      obtain ⟨i, hi, rfl⟩ := List.mem_map.1 hz
      exact (hg i (by simpa using hi)).2
    refine ⟨some a, cap, (List.range len).map g, by simp, by simpa using hl, hm, (fun h => by cases h), ?_, hQ⟩
    intro i u hi
    have hlen : ((List.range len).map g).length = len := by simp
    have htot : (((List.range len).map g).flatMap f).length = len * sz := by
      have : ∀ l : List α, (∀ z ∈ l, (f z).length = sz) → (l.flatMap f).length = l.length * sz := by
        intro l
        induction l with
        | nil => intro _; simp
        | cons z l ih => intro hz; rw [List.flatMap_cons, List.length_append, hz z (by simp), ih (fun z' hz' => hz z' (by simp [hz'])), List.length_cons, Nat.succ_mul]; omega
      rw [this _ (fun z hz => (hQ z hz).1), hlen]
    have hil : i < len * sz := by rw [← htot]; exact (List.getElem?_eq_some_iff.1 hi).1
    have hk : i / sz < len := Nat.div_lt_of_lt_mul (by rw [Nat.mul_comm]; exact hil)
    have hj : i % sz < sz := Nat.mod_lt _ hsz
    have hij : i / sz * sz + i % sz = i := by rw [Nat.mul_comm]; exact Nat.div_add_mod i sz
    have hfa := flat_at f sz ((List.range len).map g) (fun z hz => (hQ z hz).1) (i / sz) (i % sz) (by rw [hlen]; exact hk) hj
    rw [hij, hi] at hfa
    simp only [List.getElem_map, List.getElem_range] at hfa
    obtain ⟨_, hcl, hcc⟩ := World.cells?_some (hg (i / sz) hk).1
    have h0 := hcc (i % sz) hj
    rw [Deep.add_add, hij, ← hfa] at h0
    have hl0 : 0 < len := Nat.lt_of_le_of_lt (Nat.zero_le _) hk
    obtain ⟨_, hcl2, hcc2⟩ := World.cells?_some (hg 0 hl0).1
    have hfl0 := (hg 0 hl0).2.1
    have hz0 := hcc2 0 hsz
    have hx0 : (f (g 0))[0]? = some ((f (g 0))[0]'(by omega)) := List.getElem?_eq_getElem _
    rw [Deep.add_add, hx0] at hz0
    obtain ⟨b, off, spot⟩ := a
    have hs := World.cell?_spot hz0
    simp [Addr.add] at hs
    subst hs
    refine ⟨b, off, rfl, ?_⟩
    by_cases h00 : i = 0
    · subst h00; simpa [Addr.add] using h0
    · simpa [Addr.add, h00] using h0
end
/-! ### Blocks known whole -/
theorem cell_block {w : World} {b e : Nat} {c : Array Value} {f : Nat × Nat} (h : w.heap[b]? = some (.cells c e f)) (i : Nat) : w.cell? ⟨b, i, none⟩ = c[i]? := by
  unfold World.cell?
  rw [h]
  simp
theorem frozen_block {w : World} {b e : Nat} {c : Array Value} (h : w.heap[b]? = some (.cells c e (0, 0))) (i : Nat) : w.frozen? ⟨b, i, none⟩ = false := by
  unfold World.frozen?
  rw [h]
  simp
theorem block_setCell {w : World} {b e i : Nat} {c : Array Value} {f : Nat × Nat} (h : w.heap[b]? = some (.cells c e f)) (v : Value) : (w.setCell ⟨b, i, none⟩ v).heap[b]? = some (.cells (c.setIfInBounds i v) e f) := by
  simp [World.setCell, Array.getElem?_modify, h]
theorem block_setOther {w : World} {b k i : Nat} (h : k ≠ b) (v : Value) : (w.setCell ⟨b, i, none⟩ v).heap[k]? = w.heap[k]? := Below.heap_setCell _ _ _ _ h
theorem block_lt {w : World} {b : Nat} {o : Obj} (h : w.heap[b]? = some o) : b < w.heap.size := (Array.getElem?_eq_some_iff.1 h).1
theorem block_alloc {w : World} {b : Nat} {o x : Obj} (h : w.heap[b]? = some o) : (w.alloc x).heap[b]? = some o := by rw [Below.heap_alloc _ _ _ (block_lt h)]; exact h
end Kt
end Go.Proofs.YteekonojmpihlaaDoor

/- A map from strings to values of any kind that can be told apart, made by the call: its run laws by the list of keys and values that it holds. Over any program. -/
namespace Go.Proofs.YteekonojmpihlaaDoor
open Go Go.RowKit Go.Maps
namespace Kt
/-- How values of a kind read: 'enc' as the program has them, 'dw' as data. -/
structure Enc (α : Type) (enc : α → Value) (rd : Value → Option (DataW Unit × List MemPlace)) (dw : α → DataW Unit) : Prop where
  fwd : ∀ a, rd (enc a) = some (dw a, [])
  inv : ∀ v a ps, rd v = some (dw a, ps) → v = enc a
section
variable {α : Type}
def lkS (l : List (List UInt8 × α)) (s : List UInt8) : Option α := (l.find? fun p => decide (p.1 = s)).map (·.2)
theorem lkS_none {l : List (List UInt8 × α)} {s : List UInt8} : lkS l s = none ↔ s ∉ l.map (·.1) := by
  simp only [lkS, Option.map_eq_none_iff, List.find?_eq_none, decide_eq_true_eq, List.mem_map, not_exists, not_and]
theorem lkS_mem {l : List (List UInt8 × α)} {s : List UInt8} {a : α} (h : lkS l s = some a) : (s, a) ∈ l := by
  simp only [lkS, Option.map_eq_some_iff] at h
  obtain ⟨p, h1, rfl⟩ := h
  have h2 := List.find?_some h1
  simp only [decide_eq_true_eq] at h2
  rw [← h2]
  exact List.mem_of_find?_eq_some h1
theorem lkS_snoc {l : List (List UInt8 × α)} {s : List UInt8} (h : lkS l s = none) (a : α) (y : List UInt8) : lkS (l ++ [(s, a)]) y = if y = s then some a else lkS l y := by
  unfold lkS at h ⊢
  rw [List.find?_append]
  by_cases hy : y = s
  · subst hy
    rw [if_pos rfl]
    simp only [Option.map_eq_none_iff] at h
    rw [h]
    simp
  · rw [if_neg hy]
    have : ¬ s = y := fun e => hy e.symm
    simp [this]
/-- Block b is a map of at most n entries that holds l. -/
structure MapG (P : Program) (enc : α → Value) (rd : Value → Option (DataW Unit × List MemPlace)) (dw : α → DataW Unit) (k : TypeId) (z : α) (w : World) (b n : Nat) (l : List (List UInt8 × α)) : Prop where
  ex : ∃ D : DataW Unit, w.ownsMap P k rd b n D ∧ Maps.size D = l.length ∧ ∀ s : List UInt8, Maps.has D (.string s) = (lkS l s).isSome ∧ D.atKey (.string s) (dw z) = dw ((lkS l s).getD z)
  nd : (l.map (·.1)).Nodup
variable {P : Program} {enc : α → Value} {rd : Value → Option (DataW Unit × List MemPlace)} {dw : α → DataW Unit} {t k e : TypeId} {z : α} {w w' : World} {b n : Nat} {l : List (List UInt8 × α)}
theorem keyOf_StrG (hk : P.underlying k = some .string) (s : List UInt8) (hs : s.length ≤ maxLen) : keyOf P k (.string (Str s)) = some (.string s) := by
  have h1 : (Str s).size ≤ maxLen := by rw [Str_size]; exact hs
  simp [keyOf, hk, mapKey, h1, Str_toList]
theorem MapG.made (w : World) (P : Program) (k : TypeId) (z : α) : MapG P enc rd dw k z (w.alloc (.map #[] 0)) w.heap.size 0 [] := ⟨⟨_, World.ownsMap_made w P k _, rfl, fun _ => ⟨rfl, rfl⟩⟩, List.nodup_nil⟩
theorem MapG.lt (h : MapG P enc rd dw k z w b n l) : b < w.heap.size := by obtain ⟨D, h1, _⟩ := h.ex; exact h1.lt
theorem MapG.mod {S : List Nat} (h : MapG P enc rd dw k z w b n l) (hM : Mod S w w') (hb : b ∉ S) : MapG P enc rd dw k z w' b n l := by
  have hlt := h.lt
  obtain ⟨D, ⟨es, clock, hb', F, hs, hD⟩, h2⟩ := h.ex
  exact ⟨⟨D, ⟨es, clock, (hM.block b hlt hb).trans hb', F, hs, hD⟩, h2⟩, h.nd⟩
theorem MapG.below (h : MapG P enc rd dw k z w b n l) (hB : Below w.heap.size w w') : MapG P enc rd dw k z w' b n l := h.mod (Mod.of_below hB []) (by simp)
theorem MapG.get_ok (h : MapG P enc rd dw k z w b n l) (hE : Enc α enc rd dw) (ht : P.underlying t = some (.map k e)) (hk : P.underlying k = some .string) (hz : (zeroValue e).run P w = .ok (enc z) w) (s : List UInt8) (hs : s.length ≤ maxLen) :
    (Instr.lookup t (.map (some b)) (.string (Str s)) true).run P w = .ok (.tuple #[enc ((lkS l s).getD z), .bool (lkS l s).isSome]) w := by
  obtain ⟨D, h1, _, h2⟩ := h.ex
  obtain ⟨v, ps, hrun, hv⟩ := h1.look_ok (string_keyed hk) ht hz (hE.fwd z) (keyOf_StrG hk s hs)
  obtain ⟨a1, a2⟩ := h2 s
  rw [a2] at hv
  rw [hrun, a1, hE.inv _ _ _ hv]
theorem MapG.get (h : MapG P enc rd dw k z w b n l) (hE : Enc α enc rd dw) (ht : P.underlying t = some (.map k e)) (hk : P.underlying k = some .string) (hz : (zeroValue e).run P w = .ok (enc z) w) (s : List UInt8) (hs : s.length ≤ maxLen) :
    (Instr.lookup t (.map (some b)) (.string (Str s)) false).run P w = .ok (enc ((lkS l s).getD z)) w := by
  obtain ⟨D, h1, _, h2⟩ := h.ex
  obtain ⟨v, ps, hrun, hv⟩ := h1.lookup (string_keyed hk) ht hz (hE.fwd z) (keyOf_StrG hk s hs)
  obtain ⟨a1, a2⟩ := h2 s
  rw [a2] at hv
  rw [hrun, hE.inv _ _ _ hv]
theorem MapG.set (h : MapG P enc rd dw k z w b n l) (hE : Enc α enc rd dw) (ht : P.underlying t = some (.map k e)) (hk : P.underlying k = some .string) (hn : n < maxLen) (s : List UInt8) (hs : s.length ≤ maxLen) (hno : lkS l s = none) (a : α) :
    ∃ w', (Instr.mapUpdate t (.map (some b)) (.string (Str s)) (enc a)).run P w = .ok () w' ∧ MapG P enc rd dw k z w' b (n + 1) (l ++ [(s, a)]) ∧ w.grownBy w' (some b) := by
  obtain ⟨D, h1, hsz, h2⟩ := h.ex
  have hm := h1.isMap
  obtain ⟨w', hrun, o, g⟩ := h1.update (string_keyed hk) ht hn (keyOf_StrG hk s hs) (hE.fwd a)
  have hh : Maps.has D (.string s) = false := by rw [(h2 s).1, hno]; rfl
  refine ⟨w', hrun, ⟨⟨_, o, ?_, fun y => ?_⟩, ?_⟩, g⟩
  · rw [size_put (h1.tidy (string_keyed hk)), hh, hsz]
    simp
  · rw [lkS_snoc hno]
    by_cases hyx : y = s
    · subst hyx
      rw [if_pos rfl, has_put_same hm (by trivial), atKey_put_same hm (by trivial)]
      exact ⟨rfl, rfl⟩
    · have hne : (Lit.string y) ≠ Lit.string s := by simpa using hyx
      rw [if_neg hyx, has_put_other hne, atKey_put_other hne]
      exact h2 y
  · rw [List.map_append, List.nodup_append]
    refine ⟨h.nd, by simp, fun a ha c hc e => ?_⟩
    simp only [List.map_cons, List.map_nil, List.mem_singleton] at hc
    subst hc e
    exact lkS_none.1 hno ha
end
end Kt
end Go.Proofs.YteekonojmpihlaaDoor
