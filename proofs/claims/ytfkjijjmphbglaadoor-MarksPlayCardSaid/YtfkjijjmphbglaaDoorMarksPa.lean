/- MarksPlay: the state of both marks and their models beside an act; contracts of what an act calls. -/
import Derived.Test.YtfkjijjmphbglaaDoorMarksPl
namespace Go.Proofs.YtfkjijjmphbglaaDoor
open Go Go.RowKit Kt
namespace Mk
variable {w W W' : World} {px bx py b' vz vg uz ug : Nat} {xs ys vs us : List Bool}
/-! Which of both. -/
def sel {α : Type} (b : Bool) (x y : α) : α := if b then y else x
theorem sub4 {a b c d : Nat} {W W' : World} (h : Mod [b, a, d, c] W W') : Mod [a, b, c, d] W W' := h.sub (by intro k hk; simp at hk ⊢; omega)
/-- .. and beside them the act's block y. -/
structure Pa (w W : World) (y : Nat) (c : Array Value) (px bx py b' vz vg uz ug : Nat) (xs ys vs us : List Bool) : Prop where
  p : PlM w W px bx py b' vz vg uz ug xs ys vs us
  n : y ∉ [bx, b', vg, ug]
  h : W.heap[y]? = some (.cells c 71 (0, 0))
variable {y : Nat} {c : Array Value}
theorem Pa.step {xs' ys' vs' us' : List Bool} (h : Pa w W y c px bx py b' vz vg uz ug xs ys vs us) (hp : PlM w W' px bx py b' vz vg uz ug xs' ys' vs' us') (hM : Mod [bx, b', vg, ug] W W') : Pa w W' y c px bx py b' vz vg uz ug xs' ys' vs' us' :=
  ⟨hp, h.n, by rw [hM.block y (block_lt h.h) h.n]; exact h.h⟩
theorem Pa.below (h : Pa w W y c px bx py b' vz vg uz ug xs ys vs us) (hb : Below W.heap.size W W') : Pa w W' y c px bx py b' vz vg uz ug xs ys vs us :=
  ⟨h.p.below hb, h.n, by rw [hb.block y (block_lt h.h)]; exact h.h⟩
theorem PlM.act (h : PlM w W px bx py b' vz vg uz ug xs ys vs us) (c : Array Value) : Pa w (W.alloc (.cells c 71)) W.heap.size c px bx py b' vz vg uz ug xs ys vs us :=
  ⟨h.below ((Below.refl _ _).alloc (Nat.le_refl _) _), fun hm => Nat.lt_irrefl _ (h.lt _ (by simp at hm ⊢; omega)), heap_alloc_new W _⟩
theorem putA (wh : Bool) (i : Int) (hw : (Lit.int .i64 i).wf = true) (h : Pa w W y c px bx py b' vz vg uz ug xs ys vs us) : Calls Tryd.prog 35 #[.pointer (some ⟨sel wh px py, 0, none⟩), .int .i64 i] W fun e W' => e = .returned (.bool (prB (sel wh xs ys) i)) ∧ Pa w W' y c px bx py b' vz vg uz ug (sel wh (puB xs i) xs) (sel wh ys (puB ys i)) vs us := by
  cases wh with
  | false => exact (putX i hw h.p).mono fun _ _ ⟨h1, h2, h3⟩ => ⟨h1, h.step h2 h3⟩
  | true => exact (putX i hw h.p.swap).mono fun _ _ ⟨h1, h2, h3⟩ => ⟨h1, h.step h2.swap (sub4 h3)⟩
theorem outA (wh : Bool) (i : Int) (hw : (Lit.int .i64 i).wf = true) (h : Pa w W y c px bx py b' vz vg uz ug xs ys vs us) : Calls Tryd.prog 37 #[.pointer (some ⟨sel wh px py, 0, none⟩), .int .i64 i] W fun e W' => e = .returned (.bool (hasB (sel wh xs ys) i)) ∧ Pa w W' y c px bx py b' vz vg uz ug (sel wh (ouB xs i) xs) (sel wh ys (ouB ys i)) vs us := by
  cases wh with
  | false => exact (outX i hw h.p).mono fun _ _ ⟨h1, h2, h3⟩ => ⟨h1, h.step h2 h3⟩
  | true => exact (outX i hw h.p.swap).mono fun _ _ ⟨h1, h2, h3⟩ => ⟨h1, h.step h2.swap (sub4 h3)⟩
theorem putR (wh : Bool) (i : Int) (h : Pa w W y c px bx py b' vz vg uz ug xs ys vs us) : Calls Tryd.prog 36 #[.pointer (some ⟨sel wh vz uz, 0, none⟩), .int .i64 i] W fun e W' => e = .returned (.bool (prB (sel wh vs us) i)) ∧ Pa w W' y c px bx py b' vz vg uz ug xs ys (sel wh (puB vs i) vs) (sel wh us (puB us i)) ∧ Mod [bx, b', vg, ug] W W' := by
  cases wh with
  | false => exact (putV i h.p).mono fun _ _ ⟨h1, h2, h3⟩ => ⟨h1, h.step h2 h3, h3⟩
  | true => exact (putV i h.p.swap).mono fun _ _ ⟨h1, h2, h3⟩ => ⟨h1, h.step h2.swap (sub4 h3), sub4 h3⟩
theorem outR (wh : Bool) (i : Int) (h : Pa w W y c px bx py b' vz vg uz ug xs ys vs us) : Calls Tryd.prog 38 #[.pointer (some ⟨sel wh vz uz, 0, none⟩), .int .i64 i] W fun e W' => e = .returned (.bool (hasB (sel wh vs us) i)) ∧ Pa w W' y c px bx py b' vz vg uz ug xs ys (sel wh (ouB vs i) vs) (sel wh us (ouB us i)) := by
  cases wh with
  | false => exact (outV i h.p).mono fun _ _ ⟨h1, h2, h3⟩ => ⟨h1, h.step h2 h3⟩
  | true => exact (outV i h.p.swap).mono fun _ _ ⟨h1, h2, h3⟩ => ⟨h1, h.step h2.swap (sub4 h3)⟩
theorem orA (wh : Bool) (hT : Bt.Tab w) (h : Pa w W y c px bx py b' vz vg uz ug xs ys vs us) : Calls Tryd.prog 40 #[.pointer (some ⟨sel wh px py, 0, none⟩), .pointer (some ⟨sel wh py px, 0, none⟩)] W fun e W' => e = .returned (.bool (orB (sel wh xs ys) (tru (sel wh ys xs))).2) ∧ Pa w W' y c px bx py b' vz vg uz ug (sel wh (orB xs (tru ys)).1 xs) (sel wh ys (orB ys (tru xs)).1) vs us := by
  cases wh with
  | false => exact (orX hT h.p).mono fun _ _ ⟨h1, h2, h3⟩ => ⟨h1, h.step h2 h3⟩
  | true => exact (orX hT h.p.swap).mono fun _ _ ⟨h1, h2, h3⟩ => ⟨h1, h.step h2.swap (sub4 h3)⟩
theorem listR (wh : Bool) (N : Nat) (hN : (tru (sel wh us vs)).length = N) (h : Pa w W y c px bx py b' vz vg uz ug xs ys vs us) : Calls Tryd.prog 39 #[.pointer (some ⟨sel wh uz vz, 0, none⟩)] W fun e W' => ∃ a cc, e = .returned (.slice a N cc) ∧ Rd W' a (i64s (ints (tru (sel wh us vs)))) ∧ (∀ p, a = some p → p.block ∉ [bx, b', vg, ug]) ∧ Below W.heap.size W W' := by
  have key : ∀ {W' : World} {a : Option Addr} {cc : Nat} {l : List Value}, W'.ownsRow W.heap.size 3 1 (.slice a N cc) N l → ∀ p, a = some p → p.block ∉ [bx, b', vg, ug] := by
    intro W' a cc l ho p hp hm
    subst hp
    have h1 := (ho.lt p.block rfl).1
    have h2 := h.p.lt p.block (by simp at hm ⊢; omega)
    omega
  cases wh with
  | false => exact (list_r N hN W h.p.u).mono fun _ _ ⟨a, cc, h1, h2, h3⟩ => ⟨a, cc, h1, Rd.own h2, key h2, h3⟩
  | true => exact (list_r N hN W h.p.v).mono fun _ _ ⟨a, cc, h1, h2, h3⟩ => ⟨a, cc, h1, Rd.own h2, key h2, h3⟩
theorem oldPa {b : Nat} (hM : Mod [b] W W') (h : Pa w W y c px bx py b' vz vg uz ug xs ys vs us) (hb : b ∉ [px, bx, py, b', vz, vg, uz, ug]) (hl : w.heap.size ≤ b) (hy : y ≠ b) : Pa w W' y c px bx py b' vz vg uz ug xs ys vs us :=
  ⟨oldM hM h.p hb hl, h.n, by rw [hM.block y (block_lt h.h) (by simpa using hy)]; exact h.h⟩
theorem copyA (h : Pa w W y c px bx py b' vz vg uz ug xs ys vs us) : Calls Tryd.prog 41 #[.pointer (some ⟨px, 0, none⟩)] W fun e W' => ∃ p' g, e = .returned (.pointer (some ⟨p', 0, none⟩)) ∧ Pa w W' y c p' g py b' vz vg uz ug xs ys vs us ∧ MI W' px bx xs ∧ bx ∉ [p', g, py, b', vz, vg, uz, ug] ∧ w.heap.size ≤ bx ∧ y ≠ bx := by
  refine (copyX h.p).mono fun _ W' ⟨p', g, h1, h2, h3, h4, h5, h6, h7⟩ => ⟨p', g, h1, ⟨h2, ?_, ?_⟩, h3, h4, h5, ?_⟩
  · have hy := block_lt h.h
    have hn := h.n
    intro hm
    rcases List.mem_cons.1 hm with e | e
    · omega
    · exact hn (by simp at e ⊢; omega)
  · rw [h6.block y (block_lt h.h)]; exact h.h
  · have hn := h.n
    rintro rfl
    simp at hn
end Mk
end Go.Proofs.YtfkjijjmphbglaaDoor
