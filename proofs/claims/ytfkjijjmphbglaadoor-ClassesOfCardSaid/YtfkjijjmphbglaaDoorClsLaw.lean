/- Plain law of chapter 22: two bytes' keys are equal just where no row tells them apart. -/
import Derived.Test.YtfkjijjmphbglaaDoorOf
namespace Go.Proofs.YtfkjijjmphbglaaDoor
open Go Go.RowKit Kt
namespace Cl
open Sb
theorem two_iff {m : Nat} (hm : m ≤ 200) {r : List Int} (h : r.any (oth m) = false) {b c : Nat} (hb : b < r.length) (hc : c < r.length) : two b r = two c r ↔ r.getD b 0 = r.getD c 0 := by
  have hx : ∀ k, k < r.length → 0 ≤ r.getD k 0 ∧ r.getD k 0 < m := fun k hk => by
    rw [List.getD_eq_getElem?_getD, List.getElem?_eq_getElem hk, Option.getD_some]
    have := List.any_eq_false.1 h _ (List.getElem_mem hk)
    exact (oth_nat m _).1 (by simpa using this)
  have h1 := hx b hb
  have h2 := hx c hc
  unfold two
  generalize r.getD b 0 = x at *
  generalize r.getD c 0 = y at *
  constructor
  · intro h
    simp only [List.cons.injEq, and_true, true_and] at h
    have := congrArg UInt8.toNat h
    simp at this
    omega
  · rintro rfl; rfl
theorem colb_iff {m : Nat} (hm : m ≤ 200) {b c : Nat} (hb : b < 256) (hc : c < 256) : ∀ (rows : List (List Int)), (∀ r ∈ rows, r.length = 256) → (∀ r ∈ rows, r.any (oth m) = false) → (colb rows b = colb rows c ↔ ∀ r ∈ rows, r.getD b 0 = r.getD c 0)
  | [], _, _ => by simp [colb]
  | r :: rows, h1, h2 => by
    have e : ∀ k, colb (r :: rows) k = two k r ++ colb rows k := fun k => by simp [colb]
    rw [e, e]
    have ih := colb_iff hm hb hc rows (fun r hr => h1 r (by simp [hr])) (fun r hr => h2 r (by simp [hr]))
    have ht := two_iff hm (h2 r (by simp)) (b := b) (c := c) (by rw [h1 r (by simp)]; exact hb) (by rw [h1 r (by simp)]; exact hc)
    constructor
    · intro h
      obtain ⟨a1, a2⟩ := List.append_inj h (by simp [two])
      intro q hq
      rcases List.mem_cons.1 hq with rfl | hq
      · exact ht.1 a1
      · exact ih.1 a2 q hq
    · intro h
      rw [ht.2 (h r (by simp)), ih.2 (fun q hq => h q (by simp [hq]))]
/-- The class of a byte. -/
def klass (rows : List (List Int)) (b : Nat) : Nat := (cl rows 256).getD b 0
theorem mapL_at (rows : List (List Int)) {b : Nat} (hb : b < 256) : (mapL rows)[b]? = some ((klass rows b : Nat) : Int) := by
  have hl : (Mk.ints (cl rows 256)).length = 256 := by simp [Mk.ints, cl_len]
  unfold mapL klass
  rw [List.getElem?_append_left (by omega)]
  have h2 : b < (cl rows 256).length := by rw [cl_len]; exact hb
  simp [Mk.ints, h2]
theorem klass_get (rows : List (List Int)) {b : Nat} (hb : b < 256) : (st (colb rows) 256).1[b]? = some (klass rows b) := by
  have h2 : b < (cl rows 256).length := by rw [cl_len]; exact hb
  show (cl rows 256)[b]? = _
  unfold klass
  rw [List.getD_eq_getElem?_getD, List.getElem?_eq_getElem h2]
  rfl
/-- Two bytes are of one class just where no row tells them apart. -/
theorem klass_iff {rows : List (List Int)} (h : rows.length ≤ 200) (h1 : ∀ r ∈ rows, r.length = 256) (h2 : ∀ r ∈ rows, r.any (oth rows.length) = false) {b c : Nat} (hb : b < 256) (hc : c < 256) : klass rows b = klass rows c ↔ ∀ r ∈ rows, r.getD b 0 = r.getD c 0 :=
  (cls_iff (colb rows) 256 b c hb hc _ _ (klass_get rows hb) (klass_get rows hc)).trans (colb_iff h hb hc rows h1 h2)
end Cl
end Go.Proofs.YtfkjijjmphbglaaDoor
