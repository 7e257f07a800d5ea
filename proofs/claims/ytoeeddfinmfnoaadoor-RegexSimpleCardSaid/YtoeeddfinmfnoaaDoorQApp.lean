import Derived.Test.YtoeeddfinmfnoaaDoorQTreePure
import Derived.Deep.AppendLies
/- Where an append's row lies. Over any program. -/
namespace Go.Proofs.YtoeeddfinmfnoaaDoor
open Go Go.RowKit
namespace Kt
section
variable {P : Program} {t e : TypeId} {z : Value} {size bytes : Nat} {w : World}
/-- An append of at least one element: the row is the old one or a new one. -/
theorem El.lies (E : El P t e z size bytes) (base : Nat) {ty : TypeId} {v : Value} {n : Nat} {xs : List Value} (hown : w.ownsRow base e size v n xs)
    {a : Option Addr} (m c : Nat) {news : List Value} (hl : news.length = m * size) (hm : 0 < m) (hr : Rd w a news) (h1 : ∀ u ∈ news, u.oneCell' = true)
    (h63 : n + m ≤ maxLen) (hbytes : (n + m) * bytes ≤ 140737488355328) (hbase : base ≤ w.heap.size) :
    ∃ g cap w', (Builtin.append_ #[t, t] ty #[v, .slice a m c]).run P w = .ok (.slice (some ⟨g, 0, none⟩) (n + m) cap) w' ∧
      w'.ownsRow base e size (.slice (some ⟨g, 0, none⟩) (n + m) cap) (n + m) (xs ++ news) ∧ w.grownBy w' v.ownBlock ∧ (v.ownBlock = some g ∨ g = w.heap.size) ∧ g < w'.heap.size := by
  obtain ⟨i, hi, hz, hs, hb⟩ := E.info
  have h0 : 0 < news.length := by rw [hl]; exact Nat.mul_pos hm E.pos
  obtain ⟨b, off, rfl, _⟩ := hr 0 _ (List.getElem?_eq_getElem h0)
  refine run_append_lies (P := P) (w := w) t ty base e i z size bytes E.ht hi hz hs hb E.hzs E.pos v n xs hown ⟨b, off, none⟩ m c news hl (fun j u hj => ?_) h1 hm h63 hbytes hbase _ rfl
  obtain ⟨b', off', ha, hc⟩ := hr j u hj
  cases ha
  by_cases h0 : j = 0
  · subst h0; simpa [Addr.add] using hc
  · simpa [Addr.add, h0] using hc
/-- An append of any number of elements: the row is the old one or a new one. -/
theorem El.any (E : El P t e z size bytes) (base : Nat) {ty : TypeId} {v : Value} {n : Nat} {xs : List Value} (hown : w.ownsRow base e size v n xs)
    {a : Option Addr} (m c : Nat) {news : List Value} (hl : news.length = m * size) (hr : Rd w a news) (hno : a = none → c = 0) (h1 : ∀ u ∈ news, u.oneCell' = true)
    (h63 : n + m ≤ maxLen) (hbytes : (n + m) * bytes ≤ 140737488355328) (hbase : base ≤ w.heap.size) :
    ∃ a' c' w', (Builtin.append_ #[t, t] ty #[v, .slice a m c]).run P w = .ok (.slice a' (n + m) c') w' ∧
      w'.ownsRow base e size (.slice a' (n + m) c') (n + m) (xs ++ news) ∧ w.grownBy w' v.ownBlock ∧ (∀ k, (Value.slice a' (n + m) c').ownBlock = some k → v.ownBlock = some k ∨ w.heap.size ≤ k) := by
  by_cases hm : m = 0
  · subst hm
    obtain ⟨_, ⟨hx, h0⟩ | ⟨g, cap, cur, hx, _, _, h3, _⟩⟩ := id hown
    · subst hx h0
      obtain ⟨v', w', r, o, gr, hnil⟩ := E.append base (ty := ty) hown 0 c hl hr hno h1 h63 hbytes hbase
      obtain rfl := hnil.2 ⟨rfl, rfl⟩
      exact ⟨none, 0, w', r, o, gr, fun k hk => by cases hk⟩
    · subst hx
      have hno' : a = none → c = 0 ∧ (0 : Nat) = 0 := fun h => ⟨hno h, rfl⟩
      obtain ⟨w', r, o, gr⟩ := E.fits base (ty := ty) hown 0 c hl hr hno' h1 (by omega)
      exact ⟨some ⟨g, 0, none⟩, cap, w', r, o, gr, fun k hk => .inl hk⟩
  · obtain ⟨g, cap, w', r, o, gr, hlie, _⟩ := E.lies base (ty := ty) hown m c hl (by omega) hr h1 h63 hbytes hbase
    refine ⟨some ⟨g, 0, none⟩, cap, w', r, o, gr, fun k hk => ?_⟩
    have : g = k := by simpa [Value.ownBlock] using hk
    subst this
    rcases hlie with h | h
    · exact .inl h
    · exact .inr (by omega)
end
end Kt
end Go.Proofs.YtoeeddfinmfnoaaDoor
