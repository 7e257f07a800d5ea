/- Plain law of chapter 06: what a bracket reads as, and how a set is written. No program. -/
import Derived.Test.YtmfcabidmacdcaaDoorSpellPure
import Derived.Test.YtmfcabidmacdcaaDoorSetsSp
namespace Go.Proofs.YtmfcabidmacdcaaDoor
open Go Go.RowKit Kt Sp St
namespace Bk
theorem snoc_ind {α : Type} {P : List α → Prop} (h0 : P []) (h1 : ∀ l x, P l → P (l ++ [x])) (l : List α) : P l := by
  have h : ∀ r : List α, P r.reverse := by
    intro r
    induction r with
    | nil => exact h0
    | cons x r ih => rw [List.reverse_cons]; exact h1 _ x ih
  simpa using h l.reverse
/-- A byte that stands in a bracket only with a backslash. -/
def bare (c : UInt8) : Bool := c == 91 || c == 93 || c == 45 || c == 47
/-- A byte of a bracket, the place behind (or of the fault), the error's number. -/
def one (s : List UInt8) (i : Nat) : Int × Nat × Nat := match s[i]? with
  | some c => if bare c then (0, i, 4) else rd s i
  | none => rd s i
/-- An item: from, to, the place behind (or of the fault), the error's number. -/
def itm (s : List UInt8) (i : Nat) : Nat × Nat × Nat × Nat :=
  if (one s i).2.2 ≠ 0 then (0, 0, (one s i).2.1, (one s i).2.2)
  else if s[(one s i).2.1]? = some 45 then
    (if (one s ((one s i).2.1 + 1)).2.2 ≠ 0 then (0, 0, (one s ((one s i).2.1 + 1)).2.1, (one s ((one s i).2.1 + 1)).2.2)
    else if (one s ((one s i).2.1 + 1)).1 < (one s i).1 then (0, 0, (one s i).2.1 + 1, 1)
    else ((one s i).1.toNat, (one s ((one s i).2.1 + 1)).1.toNat, (one s ((one s i).2.1 + 1)).2.1, 0))
  else ((one s i).1.toNat, (one s i).1.toNat, (one s i).2.1, 0)
def none' : Nat → Bool := fun _ => false
def spn (lo hi q : Nat) : Bool := decide (lo ≤ q) && decide (q ≤ hi)
def ors (f g : Nat → Bool) : Nat → Bool := fun q => f q || g q
/-- The items of a bracket, up to its end. -/
def lp (s : List UInt8) : Nat → (Nat → Bool) → Nat → Bool → (Nat → Bool) × Nat × Nat
  | 0, _, i, _ => (none', i, 0)
  | k + 1, f, i, first => if first = false ∧ s[i]? = some 93 then (f, i + 1, 0)
    else if (itm s i).2.2.2 ≠ 0 then (none', (itm s i).2.2.1, (itm s i).2.2.2)
    else lp s k (ors f (spn (itm s i).1 (itm s i).2.1)) (itm s i).2.2.1 false
def brd (s : List UInt8) (i : Nat) : (Nat → Bool) × Nat × Nat :=
  if s.length ≤ i then (none', s.length, 2)
  else if s[i]? ≠ some 91 then (none', i, 4)
  else if s[i + 1]? = some 94 then
    (if (lp s (s.length + 1) none' (i + 2) true).2.2 ≠ 0 then lp s (s.length + 1) none' (i + 2) true
     else (fun q => !(lp s (s.length + 1) none' (i + 2) true).1 q, (lp s (s.length + 1) none' (i + 2) true).2.1, 0))
  else lp s (s.length + 1) none' (i + 1) true

theorem prt_go (n i : Nat) (t : List UInt8) (h : i + t.length = n) : 0 ≤ (rdt n i t).1 ∧ (rdt n i t).1 < 256 ∧ (rdt n i t).2.1 ≤ n ∧ ((rdt n i t).2.2 = 0 → i < (rdt n i t).2.1) ∧ ((rdt n i t).2.2 = 0 ∨ (rdt n i t).2.2 = 2 ∨ (rdt n i t).2.2 = 4) := by
  match t, h with
  | [], h => simp [rdt]
  | [c], h =>
    have := c.toNat_lt
    simp at h
    by_cases hc : c = 92
    · subst hc; simp [rdt]
    · simp [rdt, hc]; omega
  | c :: d :: u, h =>
    have := c.toNat_lt
    have := d.toNat_lt
    simp at h
    by_cases hc : c = 92
    · subst hc
      by_cases h1 : d = 110
      · simp [rdt, h1]; omega
      by_cases h2 : d = 116
      · simp [rdt, h2]; omega
      by_cases h3 : d = 114
      · simp [rdt, h3]; omega
      by_cases h4 : d = 115
      · simp [rdt, h4]; omega
      by_cases h5 : d = 120
      · subst h5
        match u, h with
        | [], h => simp [rdt]
        | [x], h =>
          simp at h
          by_cases hx : fig x < 0
          · simp [rdt, hx]; omega
          · simp [rdt, hx]
        | x :: y :: v, h =>
          simp at h
          have := fig_le x
          have := fig_le y
          by_cases hx : fig x < 0
          · simp [rdt, hx]; omega
          · by_cases hy : fig y < 0
            · simp [rdt, hx, hy]; omega
            · simp [rdt, hx, hy]; omega
      · by_cases hm : Sp.mark d = true
        · simp [rdt, h1, h2, h3, h4, h5, hm]; omega
        · simp [rdt, h1, h2, h3, h4, h5, hm]; omega
    · simp [rdt, hc]; omega
theorem rd_go (s : List UInt8) (i : Nat) (h : i ≤ s.length) : 0 ≤ (rd s i).1 ∧ (rd s i).1 < 256 ∧ (rd s i).2.1 ≤ s.length ∧ ((rd s i).2.2 = 0 → i < (rd s i).2.1) ∧ ((rd s i).2.2 = 0 ∨ (rd s i).2.2 = 2 ∨ (rd s i).2.2 = 4) :=
  prt_go _ _ _ (by rw [List.length_drop]; omega)
theorem one_go (s : List UInt8) (i : Nat) (h : i ≤ s.length) : 0 ≤ (one s i).1 ∧ (one s i).1 < 256 ∧ (one s i).2.1 ≤ s.length ∧ ((one s i).2.2 = 0 → i < (one s i).2.1) ∧ ((one s i).2.2 = 0 ∨ (one s i).2.2 = 2 ∨ (one s i).2.2 = 4) := by
  unfold one
  split
  · split
    · simp [h]
    · exact rd_go s i h
  · exact rd_go s i h
theorem itm_go (s : List UInt8) (i : Nat) (h : i ≤ s.length) : (itm s i).1 < 256 ∧ (itm s i).2.1 < 256 ∧ (itm s i).2.2.1 ≤ s.length ∧ ((itm s i).2.2.2 = 0 → i < (itm s i).2.2.1) ∧ ((itm s i).2.2.2 = 0 ∨ (itm s i).2.2.2 = 1 ∨ (itm s i).2.2.2 = 2 ∨ (itm s i).2.2.2 = 4) := by
  obtain ⟨a1, a2, a3, a4, a5⟩ := one_go s i h
  unfold itm
  split
  · rename_i he
    dsimp only
    exact ⟨by omega, by omega, a3, fun h => absurd h he, by omega⟩
  · rename_i he
    have he : (one s i).2.2 = 0 := by simpa using he
    have h4 := a4 he
    split
    · rename_i hh
      obtain ⟨hl, _⟩ := List.getElem?_eq_some_iff.1 hh
      obtain ⟨b1, b2, b3, b4, b5⟩ := one_go s ((one s i).2.1 + 1) (by omega)
      split
      · rename_i he2
        dsimp only
        exact ⟨by omega, by omega, b3, fun h => absurd h he2, by omega⟩
      · rename_i he2
        have he2 : (one s ((one s i).2.1 + 1)).2.2 = 0 := by simpa using he2
        have h5 := b4 he2
        split
        · dsimp only
          exact ⟨by omega, by omega, by omega, fun h => by omega, by omega⟩
        · dsimp only
          exact ⟨by omega, by omega, b3, fun _ => by omega, by omega⟩
    · dsimp only
      exact ⟨by omega, by omega, a3, fun _ => h4, by omega⟩
theorem lp_go (s : List UInt8) : ∀ (k : Nat) (f : Nat → Bool) (i : Nat) (first : Bool), i ≤ s.length → (lp s k f i first).2.1 ≤ s.length ∧ ((lp s k f i first).2.2 = 0 ∨ (lp s k f i first).2.2 = 1 ∨ (lp s k f i first).2.2 = 2 ∨ (lp s k f i first).2.2 = 4)
  | 0, _, i, _, h => by simp [lp, h]
  | k + 1, f, i, first, h => by
    obtain ⟨a1, a2, a3, a4, a5⟩ := itm_go s i h
    unfold lp
    split
    · rename_i hc
      obtain ⟨hl, _⟩ := List.getElem?_eq_some_iff.1 hc.2
      dsimp only
      exact ⟨by omega, by omega⟩
    · split
      · exact ⟨a3, a5⟩
      · exact lp_go s k _ _ _ a3
theorem brd_go (s : List UInt8) (i : Nat) (h : i ≤ s.length) : (brd s i).2.1 ≤ s.length ∧ ((brd s i).2.2 = 0 ∨ (brd s i).2.2 = 1 ∨ (brd s i).2.2 = 2 ∨ (brd s i).2.2 = 4) := by
  unfold brd
  split
  · simp
  · split
    · simp; omega
    · split
      · rename_i hh
        obtain ⟨hl, _⟩ := List.getElem?_eq_some_iff.1 hh
        have hg := lp_go s (s.length + 1) none' (i + 2) true (by omega)
        split
        · exact hg
        · exact ⟨hg.1, .inl rfl⟩
      · exact lp_go s _ _ _ _ (by omega)

/-! How a set is written. -/
theorem head_in (c : UInt8) : (match sp ins c with | [] => false | x :: _ => !bare x && x != 94) = true := all_bytes (p := fun c => match sp ins c with | [] => false | x :: _ => !bare x && x != 94) (by decide +kernel) c
theorem in_cons (c : UInt8) : ∃ x r, sp ins c = x :: r ∧ bare x = false ∧ x ≠ 94 := by
  have h := head_in c
  match hs : sp ins c, h with
  | x :: r, h => simp at h; exact ⟨x, r, rfl, h.1, h.2⟩
theorem one_in (a t : List UInt8) (c : UInt8) : one (a ++ (sp ins c ++ t)) a.length = ((c.toNat : Int), a.length + (sp ins c).length, 0) := by
  obtain ⟨x, r, hx, hb, _⟩ := in_cons c
  have h0 : (a ++ (sp ins c ++ t))[a.length]? = some x := by rw [List.getElem?_append_right (Nat.le_refl _), hx]; simp
  unfold one
  rw [h0]
  simp only [hb]
  exact rd_in a t c
def tx1 (p : Nat × Nat) : List UInt8 := if p.1 = p.2 then sp ins (UInt8.ofNat p.1) else sp ins (UInt8.ofNat p.1) ++ 45 :: sp ins (UInt8.ofNat p.2)
theorem tx1_cons (p : Nat × Nat) : ∃ x r, tx1 p = x :: r ∧ bare x = false ∧ x ≠ 94 := by
  obtain ⟨x, r, hx, h1, h2⟩ := in_cons (UInt8.ofNat p.1)
  unfold tx1
  split
  · exact ⟨x, r, hx, h1, h2⟩
  · exact ⟨x, r ++ 45 :: sp ins (UInt8.ofNat p.2), by rw [hx]; rfl, h1, h2⟩
theorem tx1_len (p : Nat × Nat) : 1 ≤ (tx1 p).length ∧ (tx1 p).length ≤ 9 := by
  have h1 := sp_len (UInt8.ofNat p.1)
  have h2 := sp_len (UInt8.ofNat p.2)
  unfold tx1
  split
  · omega
  · simp; omega
theorem itm_tx1 (a t : List UInt8) (p : Nat × Nat) (h1 : p.1 ≤ p.2) (h2 : p.2 < 256) (x : UInt8) (r : List UInt8) (ht : t = x :: r) (hx : x ≠ 45) :
    itm (a ++ (tx1 p ++ t)) a.length = (p.1, p.2, a.length + (tx1 p).length, 0) := by
  have n1 : ((UInt8.ofNat p.1).toNat : Int) = (p.1 : Int) := by rw [UInt8.toNat_ofNat']; omega
  have n2 : ((UInt8.ofNat p.2).toNat : Int) = (p.2 : Int) := by rw [UInt8.toNat_ofNat']; omega
  by_cases h : p.1 = p.2
  · have e : tx1 p = sp ins (UInt8.ofNat p.1) := by unfold tx1; rw [if_pos h]
    rw [e]
    have ho := one_in a t (UInt8.ofNat p.1)
    have hn : (a ++ (sp ins (UInt8.ofNat p.1) ++ t))[a.length + (sp ins (UInt8.ofNat p.1)).length]? = some x := by
      rw [List.getElem?_append_right (by omega), List.getElem?_append_right (by omega), ht]
      simp
    unfold itm
    rw [ho]
    simp only [hn]
    simp [hx, h]
    omega
  · have e : tx1 p = sp ins (UInt8.ofNat p.1) ++ 45 :: sp ins (UInt8.ofNat p.2) := by unfold tx1; rw [if_neg h]
    rw [e]
    have ho := one_in a ((45 :: sp ins (UInt8.ofNat p.2)) ++ t) (UInt8.ofNat p.1)
    rw [← List.append_assoc (sp ins (UInt8.ofNat p.1))] at ho
    have hn : (a ++ ((sp ins (UInt8.ofNat p.1) ++ 45 :: sp ins (UInt8.ofNat p.2)) ++ t))[a.length + (sp ins (UInt8.ofNat p.1)).length]? = some 45 := by
      rw [List.getElem?_append_right (by omega), List.append_assoc, List.getElem?_append_right (by omega)]
      simp
    have ho2 := one_in (a ++ (sp ins (UInt8.ofNat p.1) ++ [45])) t (UInt8.ofNat p.2)
    have e2 : (a ++ (sp ins (UInt8.ofNat p.1) ++ [45])) ++ (sp ins (UInt8.ofNat p.2) ++ t) = a ++ ((sp ins (UInt8.ofNat p.1) ++ 45 :: sp ins (UInt8.ofNat p.2)) ++ t) := by simp
    rw [e2] at ho2
    have e3 : (a ++ (sp ins (UInt8.ofNat p.1) ++ [45])).length = a.length + (sp ins (UInt8.ofNat p.1)).length + 1 := by simp; omega
    rw [e3] at ho2
    unfold itm
    rw [ho]
    simp only [hn, ho2]
    have hlt : ¬ ((UInt8.ofNat p.2).toNat : Int) < ((UInt8.ofNat p.1).toNat : Int) := by omega
    simp only [hlt]
    simp
    refine ⟨by omega, by omega, by omega⟩
/-- What items hold. -/
def un (ps : List (Nat × Nat)) : Nat → Bool := fun q => ps.any fun p => spn p.1 p.2 q
def txs (ps : List (Nat × Nat)) : List UInt8 := ps.flatMap tx1
theorem txs_len (ps : List (Nat × Nat)) : ps.length ≤ (txs ps).length ∧ (txs ps).length ≤ 9 * ps.length := by
  induction ps with
  | nil => simp [txs]
  | cons p r ih =>
    have := tx1_len p
    have e : txs (p :: r) = tx1 p ++ txs r := by simp [txs]
    rw [e, List.length_append, List.length_cons]
    omega
theorem lp_items (b : List UInt8) : ∀ (ps : List (Nat × Nat)) (a : List UInt8) (g : Nat → Bool) (k : Nat) (first : Bool), (∀ p ∈ ps, p.1 ≤ p.2 ∧ p.2 < 256) → ps.length < k → (first = true → ps ≠ []) →
    lp (a ++ (txs ps ++ 93 :: b)) k g a.length first = (ors g (un ps), a.length + (txs ps).length + 1, 0)
  | [], a, g, k + 1, first, _, _, hf => by
    have hf : first = false := by
      cases first with
      | false => rfl
      | true => exact absurd rfl (hf rfl)
    subst hf
    unfold lp
    rw [if_pos ⟨rfl, by rw [List.getElem?_append_right (Nat.le_refl _)]; simp [txs]⟩]
    have : ors g (un []) = g := by funext q; simp [ors, un]
    rw [this]
    rfl
  | p :: r, a, g, k + 1, first, hp, hk, _ => by
    have hpp := hp p (by simp)
    have e : txs (p :: r) = tx1 p ++ txs r := by simp [txs]
    have es : a ++ (txs (p :: r) ++ 93 :: b) = a ++ (tx1 p ++ (txs r ++ 93 :: b)) := by rw [e, List.append_assoc]
    have es2 : a ++ (txs (p :: r) ++ 93 :: b) = (a ++ tx1 p) ++ (txs r ++ 93 :: b) := by rw [es, List.append_assoc]
    obtain ⟨x, u, hx, hb, _⟩ := tx1_cons p
    have hne : ¬ (first = false ∧ (a ++ (txs (p :: r) ++ 93 :: b))[a.length]? = some 93) := by
      rintro ⟨_, h⟩
      rw [es, List.getElem?_append_right (Nat.le_refl _), hx] at h
      simp at h
      subst h
      simp [bare] at hb
    have hit : itm (a ++ (txs (p :: r) ++ 93 :: b)) a.length = (p.1, p.2, a.length + (tx1 p).length, 0) := by
      rw [es]
      cases r with
      | nil => exact itm_tx1 a _ p hpp.1 hpp.2 93 b rfl (by decide)
      | cons p2 r2 =>
        obtain ⟨y, v, hy, hb2, _⟩ := tx1_cons p2
        refine itm_tx1 a _ p hpp.1 hpp.2 y (v ++ (txs r2 ++ 93 :: b)) ?_ ?_
        · simp [txs, hy]
        · rintro rfl; simp [bare] at hb2
    have ih := lp_items b r (a ++ tx1 p) (ors g (spn p.1 p.2)) k false (fun q hq => hp q (by simp [hq])) (by simp at hk; omega) (by simp)
    rw [List.length_append, ← es2] at ih
    unfold lp
    rw [if_neg hne, hit]
    simp only [ne_eq, not_true_eq_false, if_false]
    rw [ih, e, List.length_append]
    have hfn : ors (ors g (spn p.1 p.2)) (un r) = ors g (un (p :: r)) := by funext q; simp [ors, un, Bool.or_assoc]
    rw [hfn, Nat.add_assoc a.length]
theorem at_len {a : List UInt8} {x : UInt8} {t : List UInt8} : (a ++ x :: t)[a.length]? = some x := by rw [List.getElem?_append_right (Nat.le_refl _)]; simp
theorem brd_items (a b : List UInt8) (ps : List (Nat × Nat)) (hp : ∀ p ∈ ps, p.1 ≤ p.2 ∧ p.2 < 256) (h0 : ps ≠ []) :
    brd (a ++ 91 :: (txs ps ++ 93 :: b)) a.length = (un ps, a.length + (txs ps).length + 2, 0) := by
  have h1 := lp_items b ps (a ++ [91]) none' ((a ++ 91 :: (txs ps ++ 93 :: b)).length + 1) true hp (by have := txs_len ps; simp; omega) (fun _ => h0)
  have e : (a ++ [91]) ++ (txs ps ++ 93 :: b) = a ++ 91 :: (txs ps ++ 93 :: b) := by simp
  have e2 : (a ++ [91]).length = a.length + 1 := by simp
  rw [e, e2] at h1
  have hn : ¬ (a ++ 91 :: (txs ps ++ 93 :: b))[a.length + 1]? = some 94 := by
    obtain ⟨p, r, rfl⟩ := List.exists_cons_of_ne_nil h0
    obtain ⟨x, u, hx, _, h94⟩ := tx1_cons p
    rw [← e, ← e2, List.getElem?_append_right (Nat.le_refl _)]
    simp [txs, hx, h94]
  unfold brd
  rw [if_neg (by simp), if_neg (by rw [at_len]; simp), if_neg hn, h1]
  have : ors none' (un ps) = un ps := by funext q; simp [ors, none']
  rw [this]
  simp; omega
theorem brd_items_not (a b : List UInt8) (ps : List (Nat × Nat)) (hp : ∀ p ∈ ps, p.1 ≤ p.2 ∧ p.2 < 256) (h0 : ps ≠ []) :
    brd (a ++ 91 :: 94 :: (txs ps ++ 93 :: b)) a.length = (fun q => !un ps q, a.length + (txs ps).length + 3, 0) := by
  have h1 := lp_items b ps (a ++ [91, 94]) none' ((a ++ 91 :: 94 :: (txs ps ++ 93 :: b)).length + 1) true hp (by have := txs_len ps; simp; omega) (fun _ => h0)
  have e : (a ++ [91, 94]) ++ (txs ps ++ 93 :: b) = a ++ 91 :: 94 :: (txs ps ++ 93 :: b) := by simp
  have e2 : (a ++ [91, 94]).length = a.length + 2 := by simp
  rw [e, e2] at h1
  have hn : (a ++ 91 :: 94 :: (txs ps ++ 93 :: b))[a.length + 1]? = some 94 := by
    rw [List.getElem?_append_right (by omega)]; simp
  unfold brd
  rw [if_neg (by simp), if_neg (by rw [at_len]; simp), if_pos hn, h1]
  have : ors none' (un ps) = un ps := by funext q; simp [ors, none']
  rw [this]
  simp; omega

/-! Spans. -/
theorem sps_or (l : List Nat) : (∀ p ∈ sps l, p.1 ≤ p.2) ∧ ∀ q, (un (sps l) q = true ↔ q ∈ l) := by
  induction l using snoc_ind with
  | h0 => simp [sps, un]
  | h1 l c ih =>
    obtain ⟨i1, i2⟩ := ih
    rw [sps_snoc]
    rcases cases_last (sps l) with h | ⟨t, lo, hi, h⟩
    · rw [h, step_nil]
      have hl : ∀ q, q ∉ l := by
        intro q hq
        have := (i2 q).2 hq
        rw [h] at this
        simp [un] at this
      refine ⟨by simp, fun q => ?_⟩
      have := hl q
      simp [un, spn, this]
      omega
    · have hlh := i1 (lo, hi) (by rw [h]; simp)
      simp only at hlh
      by_cases hc : hi + 1 = c
      · rw [h, step_hit _ _ _ _ hc]
        refine ⟨?_, fun q => ?_⟩
        · intro p hp
          rcases List.mem_append.1 hp with hp | hp
          · exact i1 p (by rw [h]; simp [hp])
          · simp at hp; subst hp; simp only; omega
        · have h2 := i2 q
          rw [h] at h2
          rw [List.mem_append, ← h2]
          simp only [un, List.any_append, List.any_cons, List.any_nil, Bool.or_eq_true, spn, Bool.and_eq_true, decide_eq_true_eq, List.mem_singleton]
          constructor
          · rintro (h3 | h3)
            · exact .inl (.inl h3)
            · rcases h3 with h3 | h3
              · by_cases hq : q ≤ hi
                · exact .inl (.inr (.inl ⟨h3.1, hq⟩))
                · exact .inr (by omega)
              · cases h3
          · rintro ((h3 | h3) | h3)
            · exact .inl h3
            · rcases h3 with h3 | h3
              · exact .inr (.inl ⟨h3.1, by omega⟩)
              · cases h3
            · exact .inr (.inl ⟨by omega, by omega⟩)
      · rw [h, step_miss _ _ _ _ hc, ← h]
        refine ⟨?_, fun q => ?_⟩
        · intro p hp
          rcases List.mem_append.1 hp with hp | hp
          · exact i1 p hp
          · simp at hp; subst hp; exact Nat.le_refl _
        · rw [List.mem_append, ← i2 q]
          simp only [un, List.any_append, List.any_cons, List.any_nil, Bool.or_eq_true, spn, Bool.and_eq_true, decide_eq_true_eq, List.mem_singleton]
          constructor
          · rintro (h3 | h3)
            · exact .inl h3
            · rcases h3 with h3 | h3
              · exact .inr (by omega)
              · cases h3
          · rintro (h3 | h3)
            · exact .inl h3
            · exact .inr (.inl ⟨by omega, by omega⟩)
/-- A span's items: its text is theirs. -/
def its (p : Nat × Nat) : List (Nat × Nat) := if p.1 + 1 = p.2 then [(p.1, p.1), (p.2, p.2)] else [p]
def itx (p : Nat × Nat) : List UInt8 := if p.1 = p.2 then sp ins (UInt8.ofNat p.1) else if p.1 + 1 = p.2 then sp ins (UInt8.ofNat p.1) ++ sp ins (UInt8.ofNat p.2) else sp ins (UInt8.ofNat p.1) ++ 45 :: sp ins (UInt8.ofNat p.2)
theorem its_tx (p : Nat × Nat) : txs (its p) = itx p := by
  unfold its itx
  by_cases h : p.1 + 1 = p.2
  · rw [if_pos h, if_neg (by omega), if_pos h]
    simp [txs, tx1]
  · rw [if_neg h]
    simp only [txs, List.flatMap_cons, List.flatMap_nil, List.append_nil, tx1]
    split
    · rfl
    · rfl
theorem its_un (p : Nat × Nat) (_ : p.1 ≤ p.2) (q : Nat) : un (its p) q = spn p.1 p.2 q := by
  unfold its
  split
  · rw [Bool.eq_iff_iff]; simp [un, spn]; omega
  · simp [un]
theorem flat_tx (ps : List (Nat × Nat)) : txs (ps.flatMap its) = ps.flatMap itx := by
  induction ps with
  | nil => rfl
  | cons p r ih =>
    have e : txs (List.flatMap its (p :: r)) = txs (its p) ++ txs (r.flatMap its) := by simp [txs]
    rw [e, ih, its_tx]; simp
theorem flat_un (ps : List (Nat × Nat)) (h : ∀ p ∈ ps, p.1 ≤ p.2) (q : Nat) : un (ps.flatMap its) q = un ps q := by
  induction ps with
  | nil => rfl
  | cons p r ih =>
    have e1 : un (List.flatMap its (p :: r)) q = (un (its p) q || un (r.flatMap its) q) := by simp [un]
    have e2 : un (p :: r) q = (spn p.1 p.2 q || un r q) := by simp [un]
    rw [e1, e2, ih fun x hx => h x (by simp [hx]), its_un p (h p (by simp))]
theorem its_ok (p : Nat × Nat) (h : p.1 ≤ p.2 ∧ p.2 < 256) : ∀ x ∈ its p, x.1 ≤ x.2 ∧ x.2 < 256 := by
  unfold its
  split
  · intro x hx; simp at hx; rcases hx with rfl | rfl <;> simp only <;> omega
  · intro x hx; simp at hx; subst hx; exact h
/-- A set's list, and its text. -/
def ls (f : Nat → Bool) : List Nat := (List.range 256).filter f
def body (f : Nat → Bool) : List UInt8 := (sps (ls f)).flatMap itx
def neg (f : Nat → Bool) : Nat → Bool := fun q => !f q
def turned (f : Nat → Bool) : Bool := decide ((ls f).length = 0) || (decide (128 < (ls f).length) && !decide ((ls f).length = 256))
def btx (f : Nat → Bool) : List UInt8 := if turned f then 91 :: 94 :: (body (neg f) ++ [93]) else 91 :: (body f ++ [93])
theorem ls_mem (f : Nat → Bool) (q : Nat) : q ∈ ls f ↔ q < 256 ∧ f q = true := by simp [ls]
theorem ls_len (f : Nat → Bool) : (ls f).length ≤ 256 := by
  have := List.length_filter_le f (List.range 256)
  simpa [ls] using this
theorem body_len (f : Nat → Bool) : (body f).length ≤ 2304 := by
  have h1 : (sps (ls f)).length ≤ 256 := Nat.le_trans (sps_len _) (ls_len f)
  have h2 : ∀ ps : List (Nat × Nat), (ps.flatMap itx).length ≤ 9 * ps.length := by
    intro ps
    induction ps with
    | nil => simp
    | cons p r ih =>
      have hp : (itx p).length ≤ 9 := by
        have h1 := sp_len (UInt8.ofNat p.1)
        have h2 := sp_len (UInt8.ofNat p.2)
        unfold itx
        split
        · omega
        · split
          · simp; omega
          · simp; omega
      rw [List.flatMap_cons, List.length_append, List.length_cons]
      omega
  have := h2 (sps (ls f))
  unfold body
  omega
theorem btx_len (f : Nat → Bool) : (btx f).length ≤ 2400 ∧ 2 ≤ (btx f).length := by
  have h1 := body_len f
  have h2 := body_len (neg f)
  unfold btx
  split <;> simp <;> omega
theorem sps_ne {l : List Nat} (h : l ≠ []) : sps l ≠ [] := by
  intro h2
  obtain ⟨x, r, rfl⟩ := List.exists_cons_of_ne_nil h
  have := ((sps_or (x :: r)).2 x).2 (by simp)
  rw [h2] at this
  simp [un] at this
theorem its_ne (p : Nat × Nat) : its p ≠ [] := by unfold its; split <;> simp
theorem body_facts (f : Nat → Bool) (h : ls f ≠ []) : (∀ p ∈ (sps (ls f)).flatMap its, p.1 ≤ p.2 ∧ p.2 < 256) ∧ (sps (ls f)).flatMap its ≠ [] ∧ txs ((sps (ls f)).flatMap its) = body f ∧ ∀ q, q < 256 → un ((sps (ls f)).flatMap its) q = f q := by
  have h1 := sps_or (ls f)
  have h2 := sps_lt (l := ls f) (fun x hx => ((ls_mem f x).1 hx).1)
  refine ⟨?_, ?_, flat_tx _, ?_⟩
  · intro p hp
    obtain ⟨x, hx, hpx⟩ := List.mem_flatMap.1 hp
    exact its_ok x ⟨h1.1 x hx, (h2 x hx).2⟩ p hpx
  · obtain ⟨x, r, hx⟩ := List.exists_cons_of_ne_nil (sps_ne h)
    rw [hx]
    have := its_ne x
    simp [this]
  · intro q hq
    rw [flat_un _ h1.1, Bool.eq_iff_iff, h1.2 q, ls_mem]
    simp [hq]
theorem neg_ne {f : Nat → Bool} (h : turned f = true) : ls (neg f) ≠ [] := by
  intro h0
  have hall : ∀ q, q < 256 → f q = true := by
    intro q hq
    cases hf : f q with
    | true => rfl
    | false =>
      have : q ∈ ls (neg f) := (ls_mem _ _).2 ⟨hq, by simp [neg, hf]⟩
      rw [h0] at this
      cases this
  have : ls f = List.range 256 := by
    unfold ls
    rw [List.filter_eq_self]
    intro q hq
    exact hall q (by simpa using hq)
  unfold turned at h
  rw [this] at h
  simp at h
/-- A set's text is read as it. -/
theorem brd_btx (a b : List UInt8) (f : Nat → Bool) : ∃ g, brd (a ++ (btx f ++ b)) a.length = (g, a.length + (btx f).length, 0) ∧ ∀ q, q < 256 → g q = f q := by
  by_cases ht : turned f = true
  · obtain ⟨h1, h2, h3, h4⟩ := body_facts (neg f) (neg_ne ht)
    have h5 := brd_items_not a b _ h1 h2
    rw [h3] at h5
    refine ⟨fun q => !un ((sps (ls (neg f))).flatMap its) q, ?_, fun q hq => by show (!un ((sps (ls (neg f))).flatMap its) q) = f q; rw [h4 q hq]; simp [neg]⟩
    have e : a ++ (btx f ++ b) = a ++ 91 :: 94 :: (body (neg f) ++ 93 :: b) := by simp [btx, ht]
    rw [e, h5]
    simp [btx, ht]; omega
  · have hne : ls f ≠ [] := by
      intro h0
      simp [turned, h0] at ht
    obtain ⟨h1, h2, h3, h4⟩ := body_facts f hne
    have h5 := brd_items a b _ h1 h2
    rw [h3] at h5
    refine ⟨un ((sps (ls f)).flatMap its), ?_, fun q hq => h4 q hq⟩
    have e : a ++ (btx f ++ b) = a ++ 91 :: (body f ++ 93 :: b) := by simp [btx, ht]
    rw [e, h5]
    simp [btx, ht]; omega
/-! Brackets of one byte each. -/
theorem btx_one (c : UInt8) : btx (fun q => decide (q = c.toNat)) = 91 :: (sp ins c ++ [93]) := by
  have := all_bytes (p := fun c => btx (fun q => decide (q = c.toNat)) == 91 :: (sp ins c ++ [93])) (by decide +kernel) c
  simpa using this
def brs (l : List UInt8) : List UInt8 := l.flatMap fun c => 91 :: (sp ins c ++ [93])
theorem brs_append (a b : List UInt8) : brs (a ++ b) = brs a ++ brs b := by simp [brs]
theorem brs_one (c : UInt8) : brs [c] = 91 :: (sp ins c ++ [93]) := by simp [brs]
theorem brs_len (l : List UInt8) : (brs l).length ≤ 6 * l.length ∧ 3 * l.length ≤ (brs l).length := by
  induction l with
  | nil => simp [brs]
  | cons c r ih =>
    have := sp_len c
    have e : brs (c :: r) = brs [c] ++ brs r := by rw [← brs_append]; rfl
    rw [e, List.length_append, brs_one]
    simp
    omega
theorem brd_one (a b : List UInt8) (c : UInt8) : ∃ g, brd (a ++ (91 :: (sp ins c ++ [93]) ++ b)) a.length = (g, a.length + (sp ins c).length + 2, 0) ∧ ∀ q, g q = decide (q = c.toNat) := by
  have hc := c.toNat_lt
  have h := brd_items a b [(c.toNat, c.toNat)] (by intro p hp; simp at hp; subst hp; simp only; omega) (by simp)
  have e : txs [(c.toNat, c.toNat)] = sp ins c := by simp [txs, tx1]
  rw [e] at h
  refine ⟨un [(c.toNat, c.toNat)], ?_, fun q => ?_⟩
  · have e2 : a ++ (91 :: (sp ins c ++ [93]) ++ b) = a ++ 91 :: (sp ins c ++ 93 :: b) := by simp
    rw [e2]
    exact h
  · rw [Bool.eq_iff_iff]; simp [un, spn]; omega
theorem brd_in (l : List UInt8) (h0 : l ≠ []) : ∃ g, brd (91 :: 94 :: (l.flatMap (sp ins) ++ [93])) 0 = (g, (l.flatMap (sp ins)).length + 3, 0) ∧ ∀ q, g q = !(l.any fun c => decide (c.toNat = q)) := by
  have h := brd_items_not [] [] (l.map fun c => (c.toNat, c.toNat)) (by
    intro p hp
    obtain ⟨c, _, rfl⟩ := List.mem_map.1 hp
    have hc := c.toNat_lt
    simp only
    omega) (by simpa using h0)
  have e : txs (l.map fun c => (c.toNat, c.toNat)) = l.flatMap (sp ins) := by
    unfold txs
    rw [List.flatMap_map]
    congr 1
    funext c
    simp [tx1]
  rw [e] at h
  refine ⟨fun q => !un (l.map fun c => (c.toNat, c.toNat)) q, by simpa using h, fun q => ?_⟩
  show (!un (l.map fun c => (c.toNat, c.toNat)) q) = _
  congr 1
  unfold un
  rw [List.any_map]
  congr 1
  funext c
  rw [Bool.eq_iff_iff]
  simp [spn]
  omega
end Bk
end Go.Proofs.YtmfcabidmacdcaaDoor
