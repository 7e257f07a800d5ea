/- Arrays of ints by value: an element; a whole one out of a block's beginning. -/
import Derived.Test.YtfkjijjmphbglaaDoorSub
namespace Go.Proofs.YtfkjijjmphbglaaDoor
open Go Go.RowKit Kt
namespace Cl
open Sb
set_option maxRecDepth 100000 in
theorem index_int {t n : Nat} (ht : Tryd.prog.underlying t = some (.array n 3)) {L : List Int} (k : Nat) (hk : k < n) {x : Int} (hx : L[k]? = some x) (w : World) :
    (Instr.index t (.agg (i64s L).toArray) (.int .i64 (k : Int))).run Tryd.prog w = .ok (.int .i64 x) w := by
  have h1 : (i64s L).toArray[k * 1]? = some (.int .i64 x) := by simp [i64s, hx]
  have hso : (sizeOf 3).run Tryd.prog w = .ok 1 w := by rfl
  have hk' : (0 : Int) ≤ (k : Int) ∧ (k : Int) < (n : Int) := by omega
  simp only [Instr.index, asIntOf, Sem.run_bind, Sem.run_pure, Result.andThen_ok, run_underlying ht, hk', and_self, if_true, hso, Int.toNat_natCast]
  exact part_int h1 w
theorem load_arr {t n : Nat} (ht : Tryd.prog.underlying t = some (.array n 3)) (hi : (Tryd.prog.info? t).map (·.size) = some n) {w : World} {b e : Nat} {L C : List Int} (hC : C.length = n) (hp : ∀ (i : Nat) (x : Int), C[i]? = some x → L[i]? = some x) (h : w.heap[b]? = some (.cells (i64s L).toArray e (0, 0))) :
    (Instr.loadAt t (.pointer (some ⟨b, 0, none⟩))).run Tryd.prog w = .ok (.agg (i64s C).toArray) w :=
  run_loadAt_mid w b 0 t (i64s C) _ (fun i v hv => by
    rw [Nat.zero_add, cell_block h]
    unfold i64s at hv ⊢
    rw [List.getElem?_map] at hv
    obtain ⟨x, hx, rfl⟩ := Option.map_eq_some_iff.1 hv
    simp [hp i x hx]) ht rfl (by rw [hi, i64s_length, hC])
theorem info28 : (Tryd.prog.info? 28).map (·.size) = some 256 := by kernel_rfl
end Cl
end Go.Proofs.YtfkjijjmphbglaaDoor
