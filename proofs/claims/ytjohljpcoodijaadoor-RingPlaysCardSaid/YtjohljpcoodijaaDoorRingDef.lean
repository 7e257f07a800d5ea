/- A ring in memory: its struct's block and its slots' block, and what they read as. Over any program. -/
import Derived.Test.YtjohljpcoodijaaDoorMod
namespace Go.Proofs.YtjohljpcoodijaaDoor
open Go Go.RowKit Kt
namespace Rg

def lenOf : Value → Nat
  | .slice _ n _ => n
  | _ => 0
/-- The struct's five cells. -/
def cellsOf (g room first many put taken : Nat) : Array Value := #[.slice (some ⟨g, 0, none⟩) room room, .int .i64 first, .int .i64 many, .int .i64 put, .int .i64 taken]
/-- A ring at block p with its slots at block g holds the things q, the first ones first. -/
structure At {α : Type} (f : α → Value) (T E : TypeId) (w : World) (p g room first : Nat) (q : List α) (put taken : Nat) : Prop where
  hp : w.heap[p]? = some (.cells (cellsOf g room first q.length put taken) T (0, 0))
  hg : ∃ cs : Array Value, w.heap[g]? = some (.cells cs E (0, 0)) ∧ cs.size = room ∧ ∀ k (h : k < q.length), cs[(first + k) % room]? = some (f q[k])
  hfirst : first < room
  hmany : q.length ≤ room
  hroom : room ≤ 32
  hne : p ≠ g

variable {α : Type} {f : α → Value} {T E : TypeId} {w : World} {p g room first : Nat} {q : List α} {put taken : Nat}
theorem At.c0 (h : At f T E w p g room first q put taken) : w.cell? ⟨p, 0, none⟩ = some (.slice (some ⟨g, 0, none⟩) room room) := cell_block h.hp 0
theorem At.c1 (h : At f T E w p g room first q put taken) : w.cell? ⟨p, 1, none⟩ = some (.int .i64 first) := cell_block h.hp 1
theorem At.c2 (h : At f T E w p g room first q put taken) : w.cell? ⟨p, 2, none⟩ = some (.int .i64 q.length) := cell_block h.hp 2
theorem At.c3 (h : At f T E w p g room first q put taken) : w.cell? ⟨p, 3, none⟩ = some (.int .i64 put) := cell_block h.hp 3
theorem At.c4 (h : At f T E w p g room first q put taken) : w.cell? ⟨p, 4, none⟩ = some (.int .i64 taken) := cell_block h.hp 4
theorem At.fr (h : At f T E w p g room first q put taken) (i : Nat) : w.frozen? ⟨p, i, none⟩ = false := frozen_block h.hp i
theorem At.gcell (h : At f T E w p g room first q put taken) (i : Nat) (hi : i < room) : ∃ v, w.cell? ⟨g, i, none⟩ = some v := by
  obtain ⟨cs, h1, h2, _⟩ := h.hg
  rw [cell_block h1 i]
  exact ⟨cs[i]'(by omega), by simp [h2, hi]⟩
theorem At.gat (h : At f T E w p g room first q put taken) (k : Nat) (hk : k < q.length) : w.cell? ⟨g, (first + k) % room, none⟩ = some (f q[k]) := by
  obtain ⟨cs, h1, h2, h3⟩ := h.hg
  rw [cell_block h1]
  exact h3 k hk
theorem At.gfr (h : At f T E w p g room first q put taken) (i : Nat) : w.frozen? ⟨g, i, none⟩ = false := by
  obtain ⟨cs, h1, _⟩ := h.hg
  exact frozen_block h1 i
theorem At.plt (h : At f T E w p g room first q put taken) : p < w.heap.size := block_lt h.hp
theorem At.glt (h : At f T E w p g room first q put taken) : g < w.heap.size := by obtain ⟨cs, h1, _⟩ := h.hg; exact block_lt h1
theorem At.mod {S : List Nat} {w' : World} (h : At f T E w p g room first q put taken) (hb : Mod S w w') (hp : p ∉ S) (hg : g ∉ S) : At f T E w' p g room first q put taken := by
  obtain ⟨cs, h1, h2⟩ := h.hg
  exact ⟨by rw [hb.block p h.plt hp]; exact h.hp, ⟨cs, by rw [hb.block g h.glt hg]; exact h1, h2⟩, h.hfirst, h.hmany, h.hroom, h.hne⟩
theorem At.drew (h : At f T E w p g room first q put taken) : At f T E w.drew p g room first q put taken := h.mod ((Mod.refl [] w).drew) (by simp) (by simp)
theorem At.drewN (h : At f T E w p g room first q put taken) (n : Nat) : At f T E (w.drewN n) p g room first q put taken := h.mod ((Mod.refl [] w).drewN n) (by simp) (by simp)
theorem At.below {w' : World} (h : At f T E w p g room first q put taken) (hb : Below w.heap.size w w') : At f T E w' p g room first q put taken := h.mod (Mod.of_below hb []) (by simp) (by simp)

theorem mod_inj {a room i j : Nat} (hi : i < room) (hj : j < room) (h : (a + i) % room = (a + j) % room) : i = j := by
  have h1 := Nat.div_add_mod (a + i) room
  have h2 := Nat.div_add_mod (a + j) room
  have hlt := Nat.mod_lt (a + i) (show 0 < room by omega)
  have hlt2 := Nat.mod_lt (a + j) (show 0 < room by omega)
  rcases Nat.lt_trichotomy ((a + i) / room) ((a + j) / room) with h3 | h3 | h3
  · have : room * ((a + i) / room) + room ≤ room * ((a + j) / room) := by rw [← Nat.mul_succ]; exact Nat.mul_le_mul_left _ h3
    omega
  · rw [h3] at h1; omega
  · have : room * ((a + j) / room) + room ≤ room * ((a + i) / room) := by rw [← Nat.mul_succ]; exact Nat.mul_le_mul_left _ h3
    omega

/-- What Put stores. -/
theorem At.putd (h : At f T E w p g room first q put taken) (x : α) (hx : q.length < room) :
    At f T E (((w.setCell ⟨g, (first + q.length) % room, none⟩ (f x)).setCell ⟨p, 2, none⟩ (.int .i64 ((q.length : Int) + 1))).setCell ⟨p, 3, none⟩ (.int .i64 ((put : Int) + 1))) p g room first (q ++ [x]) (put + 1) taken := by
  obtain ⟨cs, h1, h2, h3⟩ := h.hg
  refine ⟨?_, ⟨cs.setIfInBounds ((first + q.length) % room) (f x), ?_, by simpa using h2, ?_⟩, h.hfirst, by simp; omega, h.hroom, h.hne⟩
  · have e1 := h.hp
    rw [← block_setOther (i := (first + q.length) % room) h.hne (f x)] at e1
    have e2 := block_setCell (i := 3) (block_setCell (i := 2) e1 (.int .i64 ((q.length : Int) + 1))) (.int .i64 ((put : Int) + 1))
    rw [e2]
    simp [cellsOf]
  · rw [block_setOther (Ne.symm h.hne), block_setOther (Ne.symm h.hne)]
    exact block_setCell h1 (f x)
  · intro k hk
    have hlt : (first + q.length) % room < cs.size := by rw [h2]; exact Nat.mod_lt _ (by have := h.hfirst; omega)
    simp only [List.length_append, List.length_cons, List.length_nil] at hk
    by_cases hkq : k < q.length
    · have hne : (first + q.length) % room ≠ (first + k) % room := fun e => by
        have := mod_inj (a := first) (i := q.length) (j := k) hx (by omega) e
        omega
      rw [Array.getElem?_setIfInBounds_ne hne, h3 k hkq, List.getElem_append_left hkq]
    · have : k = q.length := by omega
      subst this
      rw [Array.getElem?_setIfInBounds_self_of_lt hlt]
      simp
/-- What one round of Take stores. -/
theorem At.took (x : α) (h : At f T E w p g room first (x :: q) put taken) (z : Value) :
    At f T E ((((w.setCell ⟨g, first, none⟩ z).setCell ⟨p, 1, none⟩ (.int .i64 (((first + 1) % room : Nat) : Int))).setCell ⟨p, 2, none⟩ (.int .i64 (q.length : Int))).setCell ⟨p, 4, none⟩ (.int .i64 ((taken : Int) + 1))) p g room ((first + 1) % room) q put (taken + 1) := by
  obtain ⟨cs, h1, h2, h3⟩ := h.hg
  have hf := h.hfirst
  have hm := h.hmany
  simp only [List.length_cons] at hm
  refine ⟨?_, ⟨cs.setIfInBounds first z, ?_, by simpa using h2, ?_⟩, Nat.mod_lt _ (by omega), by omega, h.hroom, h.hne⟩
  · have e1 := h.hp
    rw [← block_setOther (i := first) h.hne z] at e1
    have e2 := block_setCell (i := 4) (block_setCell (i := 2) (block_setCell (i := 1) e1 (.int .i64 (((first + 1) % room : Nat) : Int))) (.int .i64 (q.length : Int))) (.int .i64 ((taken : Int) + 1))
    rw [e2]
    simp [cellsOf]
  · rw [block_setOther (Ne.symm h.hne), block_setOther (Ne.symm h.hne), block_setOther (Ne.symm h.hne)]
    exact block_setCell h1 z
  · intro k hk
    have e : ((first + 1) % room + k) % room = (first + (k + 1)) % room := by rw [Nat.mod_add_mod]; congr 1; omega
    rw [e]
    have hne : first ≠ (first + (k + 1)) % room := fun e2 => by
      have := mod_inj (a := first) (i := 0) (j := k + 1) (room := room) (by omega) (by omega) (by rw [Nat.add_zero, Nat.mod_eq_of_lt hf]; exact e2)
      omega
    rw [Array.getElem?_setIfInBounds_ne hne, h3 (k + 1) (by simp; omega)]
    simp
end Rg
end Go.Proofs.YtjohljpcoodijaaDoor
