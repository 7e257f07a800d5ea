/- A map from strings to ints that the call made: its run laws by the partial function that it holds. Over any program. -/
import Derived.Test.YtfkjijjmphbglaaDoorMod
import Derived.Maps.OwnOps
import Derived.Maps.OwnSet
import Derived.Maps.Views
namespace Go.Proofs.YtfkjijjmphbglaaDoor
open Go Go.RowKit Go.Maps
namespace Kt
/-- Block b is a map of at most n entries that holds g. -/
structure MapS (P : Program) (k e : TypeId) (w : World) (b n : Nat) (g : List UInt8 → Option Nat) : Prop where
  ex : ∃ D : DataW Unit, w.ownsMap P k (plainElem P e) b n D ∧ ∀ s : List UInt8, Maps.has D (.string s) = (g s).isSome ∧ D.atKey (.string s) (.lit (.int .i64 0)) = .lit (.int .i64 (((g s).getD 0 : Nat) : Int))
section
variable {P : Program} {t k e : TypeId} {w w' : World} {b n : Nat} {g : List UInt8 → Option Nat}
theorem keyOf_Str (hk : P.underlying k = some .string) (s : List UInt8) (hs : s.length ≤ maxLen) : keyOf P k (.string (Str s)) = some (.string s) := by
  have h1 : (Str s).size ≤ maxLen := by rw [Str_size]; exact hs
  simp [keyOf, hk, mapKey, h1, Str_toList]
theorem MapS.made (w : World) (P : Program) (k e : TypeId) : MapS P k e (w.alloc (.map #[] 0)) w.heap.size 0 (fun _ => none) :=
  ⟨⟨_, World.ownsMap_made w P k _, fun _ => ⟨by rfl, by rfl⟩⟩⟩
theorem MapS.lt (h : MapS P k e w b n g) : b < w.heap.size := by obtain ⟨D, h1, _⟩ := h.ex; exact h1.lt
theorem MapS.mod {S : List Nat} (h : MapS P k e w b n g) (hM : Mod S w w') (hb : b ∉ S) : MapS P k e w' b n g := by
  have hlt := h.lt
  obtain ⟨D, ⟨es, clock, hb', F, hs, hD⟩, h2⟩ := h.ex
  exact ⟨⟨D, ⟨es, clock, (hM.block b hlt hb).trans hb', F, hs, hD⟩, h2⟩⟩
theorem MapS.below (h : MapS P k e w b n g) (hB : Below w.heap.size w w') : MapS P k e w' b n g := h.mod (Mod.of_below hB []) (by simp)
theorem MapS.get (h : MapS P k e w b n g) (ht : P.underlying t = some (.map k e)) (hk : P.underlying k = some .string) (he : P.underlying e = some (.int .i64)) (hz : (zeroValue e).run P w = .ok (.int .i64 0) w) (s : List UInt8) (hs : s.length ≤ maxLen) :
    (Instr.lookup t (.map (some b)) (.string (Str s)) true).run P w = .ok (.tuple #[.int .i64 (((g s).getD 0 : Nat) : Int), .bool (g s).isSome]) w := by
  obtain ⟨D, h1, h2⟩ := h.ex
  obtain ⟨v, ps, hrun, hv⟩ := h1.look_ok (string_keyed hk) ht hz (plainElem_int he (by decide)) (keyOf_Str hk s hs)
  obtain ⟨a1, a2⟩ := h2 s
  rw [a2] at hv
  obtain ⟨c, rfl, hc⟩ := plainElem_int_inv he hv
  simp only [Prod.mk.injEq, DataW.lit.injEq, Lit.int.injEq, true_and] at hc
  rw [hrun, a1, hc.1.1]
theorem MapS.set (h : MapS P k e w b n g) (ht : P.underlying t = some (.map k e)) (hk : P.underlying k = some .string) (he : P.underlying e = some (.int .i64)) (hn : n < maxLen) (s : List UInt8) (hs : s.length ≤ maxLen) (v : Nat) (hv : v ≤ 9223372036854775807) :
    ∃ w', (Instr.mapUpdate t (.map (some b)) (.string (Str s)) (.int .i64 (v : Int))).run P w = .ok () w' ∧ MapS P k e w' b (n + 1) (fun y => if y = s then some v else g y) ∧ w.grownBy w' (some b) := by
  obtain ⟨D, h1, h2⟩ := h.ex
  have hm := h1.isMap
  have hwf : (Lit.int .i64 (v : Int)).wf = true := by
    simp [Lit.wf, IntKind.min, IntKind.max, IntKind.signed, IntKind.bits]
    omega
  obtain ⟨w', hrun, o, gr⟩ := h1.update (string_keyed hk) ht hn (keyOf_Str hk s hs) (plainElem_int he hwf)
  refine ⟨w', hrun, ⟨⟨_, o, fun y => ?_⟩⟩, gr⟩
  by_cases hyx : y = s
  · subst hyx
    rw [atKey_put_same hm (by trivial), has_put_same hm (by trivial), if_pos rfl]
    exact ⟨rfl, rfl⟩
  · have hne : (Lit.string y) ≠ Lit.string s := by simpa using hyx
    rw [atKey_put_other hne, has_put_other hne, if_neg hyx]
    exact h2 y
end
end Kt
end Go.Proofs.YtfkjijjmphbglaaDoor
