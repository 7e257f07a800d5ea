import Derived.Test.YtoeeddfinmfnoaaDoorQSpellPure
import Derived.Test.YtoeeddfinmfnoaaDoorQSetsIs
/- Plain law of chapter 06: what a bracket reads as, and how a set is written. No program. -/
namespace Go.Proofs.YtoeeddfinmfnoaaDoor
namespace Kt
end Kt
namespace Sp
end Sp
namespace St
end St
open Go Go.RowKit Kt Sp St
namespace Bk
/-- A byte that stands in a bracket only with a backslash. -/
def bare (c : UInt8) : Bool := c == 91 || c == 93 || c == 45 || c == 47
/-- A byte of a bracket, the place behind (or of the fault), the error's number. -/
def one (s : List UInt8) (i : Nat) : Int × Nat × Nat := match s[i]? with
  | some c => if bare c then (0, i, 4) else rd s i
  | none => rd s i
/-- An item: from, to, the place behind (or of the fault), the error's number. -/
def itm (s : List UInt8) (i : Nat) : Nat × Nat × Nat × Nat :=
  if (one s i).2.2 ≠ 0 then (0, 0, (one s i).2.1, (one s i).2.2)
  else if s[(one s i).2.1]? = some 45 then
    (if (one s ((one s i).2.1 + 1)).2.2 ≠ 0 then (0, 0, (one s ((one s i).2.1 + 1)).2.1, (one s ((one s i).2.1 + 1)).2.2)
    else if (one s ((one s i).2.1 + 1)).1 < (one s i).1 then (0, 0, (one s i).2.1 + 1, 1)
    else ((one s i).1.toNat, (one s ((one s i).2.1 + 1)).1.toNat, (one s ((one s i).2.1 + 1)).2.1, 0))
  else ((one s i).1.toNat, (one s i).1.toNat, (one s i).2.1, 0)
def none' : Nat → Bool := fun _ => false
def spn (lo hi q : Nat) : Bool := decide (lo ≤ q) && decide (q ≤ hi)
def ors (f g : Nat → Bool) : Nat → Bool := fun q => f q || g q
/-- The items of a bracket, up to its end. -/
def lp (s : List UInt8) : Nat → (Nat → Bool) → Nat → Bool → (Nat → Bool) × Nat × Nat
  | 0, _, i, _ => (none', i, 0)
  | k + 1, f, i, first => if first = false ∧ s[i]? = some 93 then (f, i + 1, 0)
    else if (itm s i).2.2.2 ≠ 0 then (none', (itm s i).2.2.1, (itm s i).2.2.2)
    else lp s k (ors f (spn (itm s i).1 (itm s i).2.1)) (itm s i).2.2.1 false
def brd (s : List UInt8) (i : Nat) : (Nat → Bool) × Nat × Nat :=
  if s.length ≤ i then (none', s.length, 2)
  else if s[i]? ≠ some 91 then (none', i, 4)
  else if s[i + 1]? = some 94 then
    (if (lp s (s.length + 1) none' (i + 2) true).2.2 ≠ 0 then lp s (s.length + 1) none' (i + 2) true
     else (fun q => !(lp s (s.length + 1) none' (i + 2) true).1 q, (lp s (s.length + 1) none' (i + 2) true).2.1, 0))
  else lp s (s.length + 1) none' (i + 1) true

theorem prt_go (n i : Nat) (t : List UInt8) (h : i + t.length = n) : 0 ≤ (rdt n i t).1 ∧ (rdt n i t).1 < 256 ∧ (rdt n i t).2.1 ≤ n ∧ ((rdt n i t).2.2 = 0 → i < (rdt n i t).2.1) ∧ ((rdt n i t).2.2 = 0 ∨ (rdt n i t).2.2 = 2 ∨ (rdt n i t).2.2 = 4) := by
  match t, h with
  | [], h => simp [rdt]
  | [c], h =>
    have := c.toNat_lt
    simp at h
    by_cases hc : c = 92
    · subst hc; simp [rdt]
    · simp [rdt, hc]; omega
  | c :: d :: u, h =>
    have := c.toNat_lt
    have := d.toNat_lt
    simp at h
    by_cases hc : c = 92
    · subst hc
      by_cases h1 : d = 110
      · simp [rdt, h1]; omega
      by_cases h2 : d = 116
      · simp [rdt, h2]; omega
      by_cases h3 : d = 114
      · simp [rdt, h3]; omega
      by_cases h4 : d = 115
      · simp [rdt, h4]; omega
      by_cases h5 : d = 120
      · subst h5
        match u, h with
        | [], h => simp [rdt]
        | [x], h =>
          simp at h
          by_cases hx : fig x < 0
          · simp [rdt, hx]; omega
          · simp [rdt, hx]
        | x :: y :: v, h =>
          simp at h
          have := fig_le x
          have := fig_le y
          by_cases hx : fig x < 0
          · simp [rdt, hx]; omega
          · by_cases hy : fig y < 0
            · simp [rdt, hx, hy]; omega
            · simp [rdt, hx, hy]; omega
      · by_cases hm : Sp.mark d = true
        · simp [rdt, h1, h2, h3, h4, h5, hm]; omega
        · simp [rdt, h1, h2, h3, h4, h5, hm]; omega
    · simp [rdt, hc]; omega
theorem rd_go (s : List UInt8) (i : Nat) (h : i ≤ s.length) : 0 ≤ (rd s i).1 ∧ (rd s i).1 < 256 ∧ (rd s i).2.1 ≤ s.length ∧ ((rd s i).2.2 = 0 → i < (rd s i).2.1) ∧ ((rd s i).2.2 = 0 ∨ (rd s i).2.2 = 2 ∨ (rd s i).2.2 = 4) :=
  prt_go _ _ _ (by rw [List.length_drop]; omega)
theorem one_go (s : List UInt8) (i : Nat) (h : i ≤ s.length) : 0 ≤ (one s i).1 ∧ (one s i).1 < 256 ∧ (one s i).2.1 ≤ s.length ∧ ((one s i).2.2 = 0 → i < (one s i).2.1) ∧ ((one s i).2.2 = 0 ∨ (one s i).2.2 = 2 ∨ (one s i).2.2 = 4) := by
  unfold one
  split
  · split
    · simp [h]
    · exact rd_go s i h
  · exact rd_go s i h
theorem itm_go (s : List UInt8) (i : Nat) (h : i ≤ s.length) : (itm s i).1 < 256 ∧ (itm s i).2.1 < 256 ∧ (itm s i).2.2.1 ≤ s.length ∧ ((itm s i).2.2.2 = 0 → i < (itm s i).2.2.1) ∧ ((itm s i).2.2.2 = 0 ∨ (itm s i).2.2.2 = 1 ∨ (itm s i).2.2.2 = 2 ∨ (itm s i).2.2.2 = 4) := by
  obtain ⟨a1, a2, a3, a4, a5⟩ := one_go s i h
  unfold itm
  split
  · rename_i he
    dsimp only
    exact ⟨by omega, by omega, a3, fun h => absurd h he, by omega⟩
  · rename_i he
    have he : (one s i).2.2 = 0 := by simpa using he
    have h4 := a4 he
    split
    · rename_i hh
      obtain ⟨hl, _⟩ := List.getElem?_eq_some_iff.1 hh
      obtain ⟨b1, b2, b3, b4, b5⟩ := one_go s ((one s i).2.1 + 1) (by omega)
      split
      · rename_i he2
        dsimp only
        exact ⟨by omega, by omega, b3, fun h => absurd h he2, by omega⟩
      · rename_i he2
        have he2 : (one s ((one s i).2.1 + 1)).2.2 = 0 := by simpa using he2
        have h5 := b4 he2
        split
        · dsimp only
          exact ⟨by omega, by omega, by omega, fun h => by omega, by omega⟩
        · dsimp only
          exact ⟨by omega, by omega, b3, fun _ => by omega, by omega⟩
    · dsimp only
      exact ⟨by omega, by omega, a3, fun _ => h4, by omega⟩
theorem lp_go (s : List UInt8) : ∀ (k : Nat) (f : Nat → Bool) (i : Nat) (first : Bool), i ≤ s.length → (lp s k f i first).2.1 ≤ s.length ∧ ((lp s k f i first).2.2 = 0 ∨ (lp s k f i first).2.2 = 1 ∨ (lp s k f i first).2.2 = 2 ∨ (lp s k f i first).2.2 = 4)
  | 0, _, i, _, h => by simp [lp, h]
  | k + 1, f, i, first, h => by
    obtain ⟨a1, a2, a3, a4, a5⟩ := itm_go s i h
    unfold lp
    split
    · rename_i hc
      obtain ⟨hl, _⟩ := List.getElem?_eq_some_iff.1 hc.2
      dsimp only
      exact ⟨by omega, by omega⟩
    · split
      · exact ⟨a3, a5⟩
      · exact lp_go s k _ _ _ a3
theorem brd_go (s : List UInt8) (i : Nat) (h : i ≤ s.length) : (brd s i).2.1 ≤ s.length ∧ ((brd s i).2.2 = 0 ∨ (brd s i).2.2 = 1 ∨ (brd s i).2.2 = 2 ∨ (brd s i).2.2 = 4) := by
  unfold brd
  split
  · simp
  · split
    · simp; omega
    · split
      · rename_i hh
        obtain ⟨hl, _⟩ := List.getElem?_eq_some_iff.1 hh
        have hg := lp_go s (s.length + 1) none' (i + 2) true (by omega)
        split
        · exact hg
        · exact ⟨hg.1, .inl rfl⟩
      · exact lp_go s _ _ _ _ (by omega)

/-! How a set is written. -/
/-! Spans. -/
def itx (p : Nat × Nat) : List UInt8 := if p.1 = p.2 then sp ins (UInt8.ofNat p.1) else if p.1 + 1 = p.2 then sp ins (UInt8.ofNat p.1) ++ sp ins (UInt8.ofNat p.2) else sp ins (UInt8.ofNat p.1) ++ 45 :: sp ins (UInt8.ofNat p.2)
/-- A set's list, and its text. -/
def ls (f : Nat → Bool) : List Nat := (List.range 256).filter f
def body (f : Nat → Bool) : List UInt8 := (sps (ls f)).flatMap itx
/-! Brackets of one byte each. -/
end Bk
end Go.Proofs.YtoeeddfinmfnoaaDoor
