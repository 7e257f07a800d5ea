import Derived.Test.YtpjimmdpcpcmoaaDoorQMod
import Derived.Maps.OwnOps
import Derived.Maps.OwnSet
import Derived.Maps.Views
import Derived.Lib.SlKeysI
/- A map from ints to pointers that the call made: its run laws by the list of numbers and blocks that it holds. Over any program. -/
namespace Go.Proofs.YtpjimmdpcpcmoaaDoor
open Go Go.RowKit Go.Maps
namespace Kt
/-- How a pointer to a block reads. -/
def ptrElem {H : Type} : Value → Option (DataW H × List MemPlace)
  | .pointer none => some (.lit (.int .i64 (-1)), [])
  | .pointer (some ⟨b, 0, none⟩) => some (.lit (.int .i64 (b : Int)), [])
  | _ => none
def pv : Option Nat → Value
  | none => .pointer none
  | some b => .pointer (some ⟨b, 0, none⟩)
def pd {H : Type} : Option Nat → DataW H
  | none => .lit (.int .i64 (-1))
  | some b => .lit (.int .i64 (b : Int))
theorem ptrElem_pv {H : Type} (o : Option Nat) : ptrElem (H := H) (pv o) = some (pd o, []) := by cases o <;> rfl
theorem ptrElem_inv {H : Type} {v : Value} {o : Option Nat} {ps : List MemPlace} (h : ptrElem (H := H) v = some (pd o, ps)) : v = pv o := by
  unfold ptrElem at h
  split at h
  · cases o with
    | none => rfl
    | some b => simp [pd] at h
  · cases o with
    | none => simp [pd] at h
    | some b =>
      simp only [pd, Option.some.injEq, Prod.mk.injEq, DataW.lit.injEq, Lit.int.injEq, true_and] at h
      have := h.1
      simp only [pv]
      congr 3
      omega
  · cases h
/-- The block of a number. -/
def lk (l : List (Int × Nat)) (x : Int) : Option Nat := (l.find? fun p => decide (p.1 = x)).map (·.2)
theorem lk_none {l : List (Int × Nat)} {x : Int} : lk l x = none ↔ x ∉ l.map (·.1) := by
  simp only [lk, Option.map_eq_none_iff, List.find?_eq_none, decide_eq_true_eq, List.mem_map, not_exists, not_and]
theorem lk_some {l : List (Int × Nat)} {x : Int} (h : x ∈ l.map (·.1)) : (lk l x).isSome = true := by
  rw [Option.isSome_iff_ne_none]
  intro h2
  exact lk_none.1 h2 h
theorem lk_snoc {l : List (Int × Nat)} {x : Int} (h : lk l x = none) (blk : Nat) (y : Int) : lk (l ++ [(x, blk)]) y = if y = x then some blk else lk l y := by
  unfold lk at h ⊢
  rw [List.find?_append]
  by_cases hy : y = x
  · subst hy
    rw [if_pos rfl]
    simp only [Option.map_eq_none_iff] at h
    rw [h]
    simp
  · rw [if_neg hy]
    have : ¬ x = y := fun e => hy e.symm
    simp [this]
/-- Block b is a map of at most n entries that holds l. -/
structure MapP (P : Program) (k : TypeId) (w : World) (b n : Nat) (l : List (Int × Nat)) : Prop where
  ex : ∃ D : DataW Unit, w.ownsMap P k ptrElem b n D ∧ Maps.size D = l.length ∧ ∀ x, Maps.has D (.int .i64 x) = (lk l x).isSome ∧ D.atKey (.int .i64 x) (pd none) = pd (lk l x)
  nd : (l.map (·.1)).Nodup
section
variable {P : Program} {t k e : TypeId} {w w' : World} {b n : Nat} {l : List (Int × Nat)}
theorem MapP.made (w : World) (P : Program) (k : TypeId) : MapP P k (w.alloc (.map #[] 0)) w.heap.size 0 [] := ⟨⟨_, World.ownsMap_made w P k _, rfl, fun _ => ⟨rfl, rfl⟩⟩, List.nodup_nil⟩
theorem MapP.lt (h : MapP P k w b n l) : b < w.heap.size := by obtain ⟨D, h1, _⟩ := h.ex; exact h1.lt
theorem MapP.mod {S : List Nat} (h : MapP P k w b n l) (hM : Mod S w w') (hb : b ∉ S) : MapP P k w' b n l := by
  have hlt := h.lt
  obtain ⟨D, ⟨es, clock, hb', F, hs, hD⟩, h2⟩ := h.ex
  exact ⟨⟨D, ⟨es, clock, (hM.block b hlt hb).trans hb', F, hs, hD⟩, h2⟩, h.nd⟩
theorem MapP.below (h : MapP P k w b n l) (hB : Below w.heap.size w w') : MapP P k w' b n l := h.mod (Mod.of_below hB []) (by simp)
theorem MapP.get_ok (h : MapP P k w b n l) (ht : P.underlying t = some (.map k e)) (hk : P.underlying k = some (.int .i64)) (hz : (zeroValue e).run P w = .ok (.pointer none) w) (x : Int) (hx : (Lit.int .i64 x).wf = true) :
    (Instr.lookup t (.map (some b)) (.int .i64 x) true).run P w = .ok (.tuple #[pv (lk l x), .bool (lk l x).isSome]) w := by
  obtain ⟨D, h1, _, h2⟩ := h.ex
  obtain ⟨v, ps, hrun, hv⟩ := h1.look_ok (int_keyed hk) ht hz (ptrElem_pv none) (keyOf_int_mk hk hx)
  obtain ⟨a1, a2⟩ := h2 x
  rw [a2] at hv
  rw [hrun, a1, ptrElem_inv hv]
theorem MapP.get (h : MapP P k w b n l) (ht : P.underlying t = some (.map k e)) (hk : P.underlying k = some (.int .i64)) (hz : (zeroValue e).run P w = .ok (.pointer none) w) (x : Int) (hx : (Lit.int .i64 x).wf = true) :
    (Instr.lookup t (.map (some b)) (.int .i64 x) false).run P w = .ok (pv (lk l x)) w := by
  obtain ⟨D, h1, _, h2⟩ := h.ex
  obtain ⟨v, ps, hrun, hv⟩ := h1.lookup (int_keyed hk) ht hz (ptrElem_pv none) (keyOf_int_mk hk hx)
  obtain ⟨a1, a2⟩ := h2 x
  rw [a2] at hv
  rw [hrun, ptrElem_inv hv]
theorem MapP.len (h : MapP P k w b n l) (ht : P.underlying t = some (.map k e)) (ty : TypeId) : (Builtin.len_ #[t] ty #[.map (some b)]).run P w = .ok (.int .i64 (l.length : Int)) w := by
  obtain ⟨D, h1, h2, _⟩ := h.ex
  rw [h1.len ht ty, h2]
theorem MapP.set (h : MapP P k w b n l) (ht : P.underlying t = some (.map k e)) (hk : P.underlying k = some (.int .i64)) (hn : n < maxLen) (x : Int) (hx : (Lit.int .i64 x).wf = true) (hno : lk l x = none) (blk : Nat) :
    ∃ w', (Instr.mapUpdate t (.map (some b)) (.int .i64 x) (.pointer (some ⟨blk, 0, none⟩))).run P w = .ok () w' ∧ MapP P k w' b (n + 1) (l ++ [(x, blk)]) ∧ w.grownBy w' (some b) := by
  obtain ⟨D, h1, hsz, h2⟩ := h.ex
  have hm := h1.isMap
  obtain ⟨w', hrun, o, g⟩ := h1.update (int_keyed hk) ht hn (keyOf_int_mk hk hx) (ptrElem_pv (some blk))
  have hh : Maps.has D (.int .i64 x) = false := by rw [(h2 x).1, hno]; rfl
  refine ⟨w', hrun, ⟨⟨_, o, ?_, fun y => ?_⟩, ?_⟩, g⟩
  · rw [size_put (h1.tidy (int_keyed hk)), hh, hsz]
    simp
  · rw [lk_snoc hno]
    by_cases hyx : y = x
    · subst hyx
      rw [if_pos rfl, has_put_same hm (by trivial), atKey_put_same hm (by trivial)]
      exact ⟨rfl, rfl⟩
    · have hne : (Lit.int .i64 y) ≠ Lit.int .i64 x := by simpa using hyx
      rw [if_neg hyx, has_put_other hne, atKey_put_other hne]
      exact h2 y
  · rw [List.map_append, List.nodup_append]
    refine ⟨h.nd, by simp, fun a ha c hc e => ?_⟩
    simp only [List.map_cons, List.map_nil, List.mem_singleton] at hc
    subst hc e
    exact lk_none.1 hno ha
theorem MapP.keys (h : MapP P k w b n l) (hk : P.underlying k = some (.int .i64)) : ∃ D : DataW Unit, w.ownsMap P k ptrElem b n D ∧ Maps.size D = l.length ∧ (l.map (·.1)).Perm (intKeys D) := by
  obtain ⟨D, h1, hsz, h2⟩ := h.ex
  refine ⟨D, h1, hsz, ?_⟩
  obtain ⟨es, hD, hpw, _⟩ := h1.entries (int_keyed hk)
  obtain ⟨es', hD', hko⟩ := h1.keysOf
  obtain rfl : es = es' := by rw [hD] at hD'; simpa using hD'
  subst hD
  refine perm_intKeys hpw (fun p hp => by obtain ⟨v, hv⟩ := hko p hp; obtain ⟨x, _, hx, _⟩ := Maps.keyOf_i64 hk hv; exact ⟨x, hx⟩) h.nd (fun x => ?_)
  rw [(h2 x).1]
  constructor
  · exact lk_some
  · intro hs
    rcases Decidable.em (x ∈ l.map (·.1)) with h3 | h3
    · exact h3
    · rw [lk_none.2 h3] at hs; cases hs
end
end Kt
end Go.Proofs.YtpjimmdpcpcmoaaDoor
