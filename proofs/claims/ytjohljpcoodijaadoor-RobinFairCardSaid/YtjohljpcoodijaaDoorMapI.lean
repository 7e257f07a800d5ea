/- A map from ints to ints that the call made: its run laws by the function that it holds. Over any program. -/
import Derived.Test.YtjohljpcoodijaaDoorMod
import Derived.Maps.OwnOps
import Derived.Maps.OwnSet
import Derived.Maps.Views
namespace Go.Proofs.YtjohljpcoodijaaDoor
open Go Go.RowKit Go.Maps
namespace Kt
/-- Block b is a map of at most n entries that holds f (0 where it holds nothing). -/
structure MapI (P : Program) (k e : TypeId) (w : World) (b n : Nat) (f : Int → Int) : Prop where
  ex : ∃ D : DataW Unit, w.ownsMap P k (plainElem P e) b n D ∧ ∀ x, (Lit.int .i64 x).wf = true → D.atKey (.int .i64 x) (.lit (.int .i64 0)) = .lit (.int .i64 (f x))
section
variable {P : Program} {t k e : TypeId} {w w' : World} {b n : Nat} {f : Int → Int}
theorem MapI.made (w : World) (P : Program) (k e : TypeId) : MapI P k e (w.alloc (.map #[] 0)) w.heap.size 0 (fun _ => 0) := ⟨⟨_, World.ownsMap_made w P k _, fun _ _ => rfl⟩⟩
theorem MapI.lt (h : MapI P k e w b n f) : b < w.heap.size := by obtain ⟨D, h1, _⟩ := h.ex; exact h1.lt
theorem MapI.mod {S : List Nat} (h : MapI P k e w b n f) (hM : Mod S w w') (hb : b ∉ S) : MapI P k e w' b n f := by
  have hlt := h.lt
  obtain ⟨D, ⟨es, clock, hb', F, hs, hD⟩, h2⟩ := h.ex
  exact ⟨⟨D, ⟨es, clock, (hM.block b hlt hb).trans hb', F, hs, hD⟩, h2⟩⟩
theorem MapI.below (h : MapI P k e w b n f) (hB : Below w.heap.size w w') : MapI P k e w' b n f := h.mod (Mod.of_below hB []) (by simp)
theorem MapI.get (h : MapI P k e w b n f) (ht : P.underlying t = some (.map k e)) (hk : P.underlying k = some (.int .i64)) (he : P.underlying e = some (.int .i64)) (hz : (zeroValue e).run P w = .ok (.int .i64 0) w) (x : Int) (hx : (Lit.int .i64 x).wf = true) :
    (Instr.lookup t (.map (some b)) (.int .i64 x) false).run P w = .ok (.int .i64 (f x)) w := by
  obtain ⟨D, h1, h2⟩ := h.ex
  obtain ⟨c, hrun, hat, _⟩ := h1.lookup_int (int_keyed hk) ht he hz (keyOf_int_mk hk hx)
  rw [h2 x hx] at hat
  simp only [DataW.lit.injEq, Lit.int.injEq, true_and] at hat
  rw [hrun, hat]
theorem MapI.set (h : MapI P k e w b n f) (ht : P.underlying t = some (.map k e)) (hk : P.underlying k = some (.int .i64)) (he : P.underlying e = some (.int .i64)) (hn : n < maxLen) (x v : Int) (hx : (Lit.int .i64 x).wf = true) (hv : (Lit.int .i64 v).wf = true) :
    ∃ w', (Instr.mapUpdate t (.map (some b)) (.int .i64 x) (.int .i64 v)).run P w = .ok () w' ∧ MapI P k e w' b (n + 1) (fun y => if y = x then v else f y) ∧ w.grownBy w' (some b) := by
  obtain ⟨D, h1, h2⟩ := h.ex
  have hm := h1.isMap
  obtain ⟨w', hrun, o, g⟩ := h1.update (int_keyed hk) ht hn (keyOf_int_mk hk hx) (plainElem_int he hv)
  refine ⟨w', hrun, ⟨⟨_, o, fun y hy => ?_⟩⟩, g⟩
  by_cases hyx : y = x
  · subst hyx
    rw [atKey_put_same hm (by trivial), if_pos rfl]
  · rw [atKey_put_other (by simpa using hyx), if_neg hyx]
    exact h2 y hy
end
end Kt
end Go.Proofs.YtjohljpcoodijaaDoor
