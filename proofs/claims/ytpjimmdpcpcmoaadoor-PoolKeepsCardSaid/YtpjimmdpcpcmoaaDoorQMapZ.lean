/- A map from ints to ints that the call made: its run laws by the list of entries that it holds. Over any program. -/
import Derived.Test.YtpjimmdpcpcmoaaDoorQPoolPure
import Derived.Test.YtpjimmdpcpcmoaaDoorQMapP
namespace Go.Proofs.YtpjimmdpcpcmoaaDoor
open Go Go.RowKit Go.Maps Kt
namespace Po
def zv : Option Int → Value
  | none => .int .i64 0
  | some x => .int .i64 x
def zd {H : Type} : Option Int → DataW H
  | none => .lit (.int .i64 0)
  | some x => .lit (.int .i64 x)
/-- Block b is a map that holds l. -/
structure MapZ (P : Program) (k e : TypeId) (w : World) (b : Nat) (l : List (Int × Int)) : Prop where
  ex : ∃ D : DataW Unit, w.ownsMap P k (plainElem P e) b l.length D ∧ Maps.size D = l.length ∧ ∀ x, Maps.has D (.int .i64 x) = (crd l x).isSome ∧ D.atKey (.int .i64 x) (zd none) = zd (crd l x)
  nd : (l.map (·.1)).Nodup
section
variable {P : Program} {t k e : TypeId} {w w' : World} {b : Nat} {l : List (Int × Int)}
theorem MapZ.made (w : World) (P : Program) (k e : TypeId) : MapZ P k e (w.alloc (.map #[] 0)) w.heap.size [] := ⟨⟨_, World.ownsMap_made w P k _, rfl, fun _ => ⟨rfl, rfl⟩⟩, List.nodup_nil⟩
theorem MapZ.lt (h : MapZ P k e w b l) : b < w.heap.size := by obtain ⟨D, h1, _⟩ := h.ex; exact h1.lt
theorem MapZ.mod {S : List Nat} (h : MapZ P k e w b l) (hM : Mod S w w') (hb : b ∉ S) : MapZ P k e w' b l := by
  have hlt := h.lt
  obtain ⟨D, ⟨es, clock, hb', F, hs, hD⟩, h2⟩ := h.ex
  exact ⟨⟨D, ⟨es, clock, (hM.block b hlt hb).trans hb', F, hs, hD⟩, h2⟩, h.nd⟩
theorem MapZ.below (h : MapZ P k e w b l) (hB : Below w.heap.size w w') : MapZ P k e w' b l := h.mod (Mod.of_below hB []) (by simp)
theorem MapZ.get_ok (h : MapZ P k e w b l) (ht : P.underlying t = some (.map k e)) (hk : P.underlying k = some (.int .i64)) (he : P.underlying e = some (.int .i64)) (hz : (zeroValue e).run P w = .ok (.int .i64 0) w) (x : Int) (hx : (Lit.int .i64 x).wf = true) :
    (Instr.lookup t (.map (some b)) (.int .i64 x) true).run P w = .ok (.tuple #[zv (crd l x), .bool (crd l x).isSome]) w := by
  obtain ⟨D, h1, _, h2⟩ := h.ex
  obtain ⟨v, ps, hrun, hv⟩ := h1.look_ok (int_keyed hk) ht hz (plainElem_int he (by decide)) (keyOf_int_mk hk hx)
  obtain ⟨a1, a2⟩ := h2 x
  have a2' : D.atKey (.int .i64 x) (.lit (.int .i64 0)) = zd (crd l x) := a2
  rw [a2'] at hv
  obtain ⟨c, rfl, hc, _⟩ := plainElem_int_inv he hv
  rw [hrun, a1]
  cases hcr : crd l x with
  | none => rw [hcr] at hc; simp [zd] at hc; rw [← hc.1]; rfl
  | some y => rw [hcr] at hc; simp [zd] at hc; rw [← hc.1]; rfl
theorem MapZ.len (h : MapZ P k e w b l) (ht : P.underlying t = some (.map k e)) (ty : TypeId) : (Builtin.len_ #[t] ty #[.map (some b)]).run P w = .ok (.int .i64 (l.length : Int)) w := by
  obtain ⟨D, h1, h2, _⟩ := h.ex
  rw [h1.len ht ty, h2]
theorem MapZ.tight {D : DataW Unit} {n : Nat} (h : w.ownsMap P k (plainElem P e) b n D) (hs : Maps.size D = l.length) : w.ownsMap P k (plainElem P e) b l.length D := by
  obtain ⟨es, clock, hb', F, hsz, hD⟩ := h
  refine ⟨es, clock, hb', F, ?_, hD⟩
  rw [← hs, hD]
  show es.size ≤ ((es.toList.map (WideElems.rg P k (plainElem P e))).foldr DataW.insert []).length
  rw [length_read]
  exact Nat.le_refl _
theorem MapZ.set (h : MapZ P k e w b l) (ht : P.underlying t = some (.map k e)) (hk : P.underlying k = some (.int .i64)) (he : P.underlying e = some (.int .i64)) (hn : l.length < maxLen) (x v : Int) (hx : (Lit.int .i64 x).wf = true) (hv : (Lit.int .i64 v).wf = true) (hno : crd l x = none) :
    ∃ w', (Instr.mapUpdate t (.map (some b)) (.int .i64 x) (.int .i64 v)).run P w = .ok () w' ∧ MapZ P k e w' b (l ++ [(x, v)]) ∧ w.grownBy w' (some b) := by
  obtain ⟨D, h1, hsz, h2⟩ := h.ex
  have hm := h1.isMap
  obtain ⟨w', hrun, o, g⟩ := h1.update (int_keyed hk) ht hn (keyOf_int_mk hk hx) (plainElem_int he hv)
  have hh : Maps.has D (.int .i64 x) = false := by rw [(h2 x).1, hno]; rfl
  have hs2 : Maps.size (D.put (.int .i64 x) (.lit (.int .i64 v))) = (l ++ [(x, v)]).length := by
    rw [size_put (h1.tidy (int_keyed hk)), hh, hsz]
    simp
  refine ⟨w', hrun, ⟨⟨_, MapZ.tight o hs2, hs2, fun y => ?_⟩, ?_⟩, g⟩
  · rw [crd_snoc hno]
    by_cases hyx : y = x
    · subst hyx
      rw [if_pos rfl, has_put_same hm (by trivial), atKey_put_same hm (by trivial)]
      exact ⟨rfl, rfl⟩
    · have hne : (Lit.int .i64 y) ≠ Lit.int .i64 x := by simpa using hyx
      rw [if_neg hyx, has_put_other hne, atKey_put_other hne]
      exact h2 y
  · rw [List.map_append, List.nodup_append]
    refine ⟨h.nd, by simp, fun a ha c hc e => ?_⟩
    simp only [List.map_cons, List.map_nil, List.mem_singleton] at hc
    subst hc e
    exact crd_none.1 hno ha
theorem filter_len {l : List (Int × Int)} (hnd : (l.map (·.1)).Nodup) {x : Int} (hmem : x ∈ l.map (·.1)) : (l.filter fun p => !decide (p.1 = x)).length + 1 = l.length := by
  have h3 := List.length_eq_countP_add_countP (fun p : Int × Int => decide (p.1 = x)) (l := l)
  have h4 : l.countP (fun p => decide (p.1 = x)) = 1 := by
    have h5 : l.countP (fun p => decide (p.1 = x)) = (l.map (·.1)).count x := by
      rw [List.count, List.countP_map]
      rfl
    rw [h5, List.count_eq_one_of_mem' hnd hmem]
  have h6 : (l.filter fun p => !decide (p.1 = x)).length = l.countP (fun p => decide ¬ (decide (p.1 = x) = true)) := by
    rw [List.countP_eq_length_filter]
    congr 2
    funext p
    by_cases hp : p.1 = x <;> simp [hp]
  omega
theorem crd_some_mem {l : List (Int × Int)} {x : Int} (h : (crd l x).isSome = true) : x ∈ l.map (·.1) := by
  rcases Decidable.em (x ∈ l.map (·.1)) with h3 | h3
  · exact h3
  · rw [crd_none.2 h3] at h; cases h
theorem MapZ.del (h : MapZ P k e w b l) (ht : P.underlying t = some (.map k e)) (hk : P.underlying k = some (.int .i64)) (x : Int) (hx : (Lit.int .i64 x).wf = true) (hyes : (crd l x).isSome = true) (ty : TypeId) :
    ∃ w', (Builtin.delete_ #[t, k] ty #[.map (some b), .int .i64 x]).run P w = .ok (.tuple #[]) w' ∧ MapZ P k e w' b (l.filter fun p => !decide (p.1 = x)) ∧ w.grownBy w' (some b) := by
  obtain ⟨D, h1, hsz, h2⟩ := h.ex
  obtain ⟨w', hrun, o, g⟩ := h1.drop (int_keyed hk) ht (keyOf_int_mk hk hx) ty
  have hh : Maps.has D (.int .i64 x) = true := by rw [(h2 x).1, hyes]
  have hcnt := filter_len h.nd (crd_some_mem hyes)
  have hs2 : Maps.size (D.del (.int .i64 x)) = (l.filter fun p => !decide (p.1 = x)).length := by
    have := size_del (k := .int .i64 x) (h1.tidy (int_keyed hk))
    rw [hh] at this
    simp at this
    omega
  refine ⟨w', hrun, ⟨⟨_, MapZ.tight o hs2, hs2, fun y => ?_⟩, h.nd.sublist (List.Sublist.map _ List.filter_sublist)⟩, g.grown⟩
  rw [crd_filter]
  by_cases hyx : y = x
  · subst hyx
    rw [if_pos rfl, has_del_same, atKey_del_same]
    exact ⟨rfl, rfl⟩
  · have hne : (Lit.int .i64 y) ≠ Lit.int .i64 x := by simpa using hyx
    rw [if_neg hyx, has_del_other hne, atKey_del_other hne]
    exact h2 y
end
end Po
end Go.Proofs.YtpjimmdpcpcmoaaDoor
