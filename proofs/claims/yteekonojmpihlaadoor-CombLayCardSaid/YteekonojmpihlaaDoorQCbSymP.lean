/- Plain law of chapter 23: merging in place. No program. -/
import Derived.Test.YteekonojmpihlaaDoorQCbSrtP
namespace Go.Proofs.YteekonojmpihlaaDoor
open Go Go.Sort
namespace Cb
/-- The element at a goes t places up. -/
def shR (d : Array Nat) (a : Nat) : Nat → Array Nat
  | 0 => d
  | t + 1 => swp (shR d a t) (a + t) (a + t + 1)
theorem shR_size (d : Array Nat) (a t : Nat) : (shR d a t).size = d.size := by
  induction t with
  | zero => rfl
  | succ t ih => rw [shR, size_swp, ih]
theorem shR_perm (d : Array Nat) (a b : Nat) (hb : b ≤ d.size) : ∀ t, a + t < b → PermIn a b d (shR d a t)
  | 0, _ => permIn_refl d a b
  | t + 1, h => permIn_trans _ _ _ a b (shR_perm d a b hb t (by omega)) (swp_permIn _ a b (a + t) (a + t + 1) (by omega) (by omega) (by omega) (by omega) (by rw [shR_size]; exact hb))
theorem shR_get (d : Array Nat) (a : Nat) : ∀ t, a + t < d.size → ∀ q, (shR d a t)[q]! = if a ≤ q ∧ q < a + t then d[q + 1]! else if q = a + t then d[a]! else d[q]!
  | 0, _, q => by
    rw [shR, if_neg (by omega)]
    split
    · rename_i h; rw [h]; rfl
    · rfl
  | t + 1, h, q => by
    rw [shR]
    have ih := shR_get d a t (by omega)
    by_cases h1 : q = a + t
    · subst h1
      rw [swp_left _ _ _ (by rw [shR_size]; omega) (by omega), ih, if_neg (by omega), if_neg (by omega), if_pos ⟨by omega, by omega⟩]
    · by_cases h2 : q = a + t + 1
      · subst h2
        rw [swp_right _ _ _ (by rw [shR_size]; omega), ih, if_neg (by omega), if_pos rfl, if_neg (by omega), if_pos (by omega)]
      · rw [swp_other _ _ _ _ h1 h2, ih]
        by_cases h3 : a ≤ q ∧ q < a + t
        · rw [if_pos h3, if_pos ⟨h3.1, by omega⟩]
        · rw [if_neg h3, if_neg h1, if_neg (by omega), if_neg (by omega)]
/-- The element at m goes t places down. -/
def shL (d : Array Nat) (m : Nat) : Nat → Array Nat
  | 0 => d
  | t + 1 => swp (shL d m t) (m - t) (m - t - 1)
theorem shL_size (d : Array Nat) (m t : Nat) : (shL d m t).size = d.size := by
  induction t with
  | zero => rfl
  | succ t ih => rw [shL, size_swp, ih]
theorem shL_perm (d : Array Nat) (a m b : Nat) (hm : m < b) (hb : b ≤ d.size) : ∀ t, a + t ≤ m → PermIn a b d (shL d m t)
  | 0, _ => permIn_refl d a b
  | t + 1, h => permIn_trans _ _ _ a b (shL_perm d a m b hm hb t (by omega)) (swp_permIn _ a b (m - t) (m - t - 1) (by omega) (by omega) (by omega) (by omega) (by rw [shL_size]; exact hb))
theorem shL_get (d : Array Nat) (m : Nat) (hm : m < d.size) : ∀ t, t ≤ m → ∀ q, (shL d m t)[q]! = if m - t < q ∧ q ≤ m then d[q - 1]! else if q = m - t then d[m]! else d[q]!
  | 0, _, q => by
    rw [shL, if_neg (by omega)]
    split
    · rename_i h; rw [h]; rfl
    · rfl
  | t + 1, h, q => by
    rw [shL]
    have ih := shL_get d m hm t (by omega)
    by_cases h1 : q = m - t
    · subst h1
      rw [swp_left _ _ _ (by rw [shL_size]; omega) (by omega), ih, if_neg (by omega), if_neg (by omega), if_pos ⟨by omega, by omega⟩]
    · by_cases h2 : q = m - t - 1
      · subst h2
        rw [swp_right _ _ _ (by rw [shL_size]; omega), ih, if_neg (by omega), if_pos rfl, if_neg (by omega), if_pos (by omega)]
      · rw [swp_other _ _ _ _ h1 h2, ih]
        by_cases h3 : m - t < q ∧ q ≤ m
        · rw [if_pos h3, if_pos ⟨by omega, h3.2⟩]
        · rw [if_neg h3, if_neg h1, if_neg (by omega), if_neg (by omega)]
section
variable {lt : Nat → Nat → Bool}
theorem one_left (hS : SWO lt) {d : Array Nat} {a i b : Nat} (hb : b ≤ d.size) (hs : SortedIn lt (a + 1) b d) (hi : a + 1 ≤ i) (hib : i ≤ b) (h1 : ∀ q, a + 1 ≤ q → q < i → lt d[q]! d[a]! = true) (h2 : ∀ q, i ≤ q → q < b → lt d[q]! d[a]! = false) (_hab : a < b) :
    PermIn a b d (shR d a (i - 1 - a)) ∧ SortedIn lt a b (shR d a (i - 1 - a)) := by
  refine ⟨shR_perm d a b hb _ (by omega), fun p q hp hpq hq => ?_⟩
  have g := shR_get d a (i - 1 - a) (by omega)
  have v1 : ∀ q, a ≤ q → q < i - 1 → (shR d a (i - 1 - a))[q]! = d[q + 1]! := fun q h3 h4 => by rw [g, if_pos ⟨h3, by omega⟩]
  have v2 : (shR d a (i - 1 - a))[i - 1]! = d[a]! := by rw [g, if_neg (by omega), if_pos (by omega)]
  have v3 : ∀ q, i - 1 < q → (shR d a (i - 1 - a))[q]! = d[q]! := fun q h3 => by rw [g, if_neg (by omega), if_neg (by omega)]
  rcases Nat.lt_trichotomy p (i - 1) with c1 | c1 | c1
  · rw [v1 p hp c1]
    rcases Nat.lt_trichotomy q (i - 1) with c2 | c2 | c2
    · rw [v1 q (by omega) c2]
      exact hs _ _ (by omega) (by omega) (by omega)
    · rw [c2, v2]
      exact hS.asymm (h1 _ (by omega) (by omega))
    · rw [v3 q c2]
      rcases Nat.lt_or_ge (p + 1) q with c3 | c3
      · exact hs _ _ (by omega) c3 hq
      · rw [show q = p + 1 by omega]; exact hS.irrefl _
  · rw [c1, v2, v3 q (by omega)]
    exact h2 q (by omega) hq
  · rw [v3 p c1, v3 q (by omega)]
    exact hs _ _ (by omega) hpq hq
theorem one_right (hS : SWO lt) {d : Array Nat} {a i m : Nat} (hb : m + 1 ≤ d.size) (hs : SortedIn lt a m d) (hi : a ≤ i) (him : i ≤ m) (h1 : ∀ q, a ≤ q → q < i → lt d[m]! d[q]! = false) (h2 : ∀ q, i ≤ q → q < m → lt d[m]! d[q]! = true) :
    PermIn a (m + 1) d (shL d m (m - i)) ∧ SortedIn lt a (m + 1) (shL d m (m - i)) := by
  refine ⟨shL_perm d a m (m + 1) (by omega) hb _ (by omega), fun p q hp hpq hq => ?_⟩
  have g := shL_get d m (by omega) (m - i) (by omega)
  have v1 : ∀ q, i < q → q ≤ m → (shL d m (m - i))[q]! = d[q - 1]! := fun q h3 h4 => by rw [g, if_pos ⟨by omega, h4⟩]
  have v2 : (shL d m (m - i))[i]! = d[m]! := by rw [g, if_neg (by omega), if_pos (by omega)]
  have v3 : ∀ q, q < i → (shL d m (m - i))[q]! = d[q]! := fun q h3 => by rw [g, if_neg (by omega), if_neg (by omega)]
  rcases Nat.lt_trichotomy p i with c1 | c1 | c1
  · rw [v3 p c1]
    rcases Nat.lt_trichotomy q i with c2 | c2 | c2
    · rw [v3 q c2]
      exact hs _ _ hp hpq (by omega)
    · rw [c2, v2]
      exact h1 p hp c1
    · rw [v1 q c2 (by omega)]
      rcases Nat.lt_or_ge p (q - 1) with c3 | c3
      · exact hs _ _ hp c3 (by omega)
      · rw [show q - 1 = p by omega]; exact hS.irrefl _
  · rw [c1, v2, v1 q (by omega) (by omega)]
    exact hS.asymm (h2 _ (by omega) (by omega))
  · rw [v1 p c1 (by omega), v1 q (by omega) (by omega)]
    exact hs _ _ (by omega) (by omega) (by omega)
/-- Two blocks of n change places. -/
def swR (d : Array Nat) (a b : Nat) : Nat → Array Nat
  | 0 => d
  | t + 1 => swp (swR d a b t) (a + t) (b + t)
theorem swR_size (d : Array Nat) (a b t : Nat) : (swR d a b t).size = d.size := by
  induction t with
  | zero => rfl
  | succ t ih => rw [swR, size_swp, ih]
theorem swR_perm (d : Array Nat) (a b x y : Nat) (hy : y ≤ d.size) : ∀ t, x ≤ a → a + t ≤ y → x ≤ b → b + t ≤ y → PermIn x y d (swR d a b t)
  | 0, _, _, _, _ => permIn_refl d x y
  | t + 1, h1, h2, h3, h4 => permIn_trans _ _ _ x y (swR_perm d a b x y hy t h1 (by omega) h3 (by omega)) (swp_permIn _ x y (a + t) (b + t) (by omega) (by omega) (by omega) (by omega) (by rw [swR_size]; exact hy))
theorem swR_get (d : Array Nat) (a b n : Nat) (hab : a + n ≤ b) (hb : b + n ≤ d.size) : ∀ t, t ≤ n → ∀ q, (swR d a b t)[q]! = if a ≤ q ∧ q < a + t then d[q - a + b]! else if b ≤ q ∧ q < b + t then d[q - b + a]! else d[q]!
  | 0, _, q => by rw [swR, if_neg (by omega), if_neg (by omega)]
  | t + 1, h, q => by
    rw [swR]
    have ih := swR_get d a b n hab hb t (by omega)
    by_cases h1 : q = a + t
    · subst h1
      rw [swp_left _ _ _ (by rw [swR_size]; omega) (by omega), ih, if_neg (by omega), if_neg (by omega), if_pos ⟨by omega, by omega⟩, show a + t - a + b = b + t by omega]
    · by_cases h2 : q = b + t
      · subst h2
        rw [swp_right _ _ _ (by rw [swR_size]; omega), ih, if_neg (by omega), if_neg (by omega), if_neg (by omega), if_pos ⟨by omega, by omega⟩, show b + t - b + a = a + t by omega]
      · rw [swp_other _ _ _ _ h1 h2, ih]
        by_cases h3 : a ≤ q ∧ q < a + t
        · rw [if_pos h3, if_pos ⟨h3.1, by omega⟩]
        · rw [if_neg h3, if_neg (by omega : ¬ (a ≤ q ∧ q < a + (t + 1)))]
          by_cases h4 : b ≤ q ∧ q < b + t
          · rw [if_pos h4, if_pos ⟨h4.1, by omega⟩]
          · rw [if_neg h4, if_neg (by omega)]
/-- [a, m) and [m, b) have changed places. -/
structure Rot (d d' : Array Nat) (a m b : Nat) : Prop where
  perm : PermIn a b d d'
  left : ∀ q, q < b - m → d'[a + q]! = d[m + q]!
  right : ∀ q, q < m - a → d'[a + (b - m) + q]! = d[a + q]!
theorem Rot.none {d : Array Nat} {a m b : Nat} (h : a = m ∨ m = b) : Rot d d a m b := by
  refine ⟨permIn_refl d a b, fun q hq => ?_, fun q hq => ?_⟩
  · rcases h with h | h
    · rw [h]
    · omega
  · rcases h with h | h
    · omega
    · rw [h]; simp
/-- What stands at q behind the rotation. -/
def rotT (d0 : Array Nat) (a m b q : Nat) : Nat := if q < a + (b - m) then d0[m + (q - a)]! else d0[a + (q - (a + (b - m)))]!
/-- What is left to rotate: [m - i, m) and [m, m + j). -/
structure RotI (d0 d : Array Nat) (a m b i j : Nat) : Prop where
  perm : PermIn a b d0 d
  hi : a + i ≤ m
  hj : m + j ≤ b
  done : ∀ q, a ≤ q → q < b → q < m - i ∨ m + j ≤ q → d[q]! = rotT d0 a m b q
  left : ∀ q, q < j → d[m + q]! = rotT d0 a m b (m - i + q)
  right : ∀ q, q < i → d[m - i + q]! = rotT d0 a m b (m - i + j + q)
theorem RotI.start (d : Array Nat) (a m b : Nat) (ham : a ≤ m) (hmb : m ≤ b) : RotI d d a m b (m - a) (b - m) := by
  refine ⟨permIn_refl d a b, by omega, by omega, fun q _ _ _ => by omega, fun q hq => ?_, fun q hq => ?_⟩
  · unfold rotT
    rw [if_pos (by omega), show m - (m - a) + q - a = q by omega]
  · unfold rotT
    rw [if_neg (by omega), show m - (m - a) + (b - m) + q - (a + (b - m)) = q by omega, show m - (m - a) + q = a + q by omega]
theorem RotI.more {d0 d : Array Nat} {a m b i j : Nat} (hb : b ≤ d.size) (h : RotI d0 d a m b i j) (hij : j < i) : RotI d0 (swR d (m - i) m j) a m b (i - j) j := by
  have e := h.hi
  have f := h.hj
  have g := swR_get d (m - i) m j (by omega) (by omega) j (Nat.le_refl _)
  refine ⟨permIn_trans _ _ _ a b h.perm (swR_perm d (m - i) m a b hb j (by omega) (by omega) (by omega) (by omega)), by omega, f, fun q h1 h2 h3 => ?_, fun q hq => ?_, fun q hq => ?_⟩
  · rw [g]
    by_cases c : m - i ≤ q ∧ q < m - i + j
    · rw [if_pos c, show q - (m - i) + m = m + (q - (m - i)) by omega, h.left _ (by omega)]
      congr 1; omega
    · rw [if_neg c, if_neg (by omega)]
      exact h.done q h1 h2 (by omega)
  · rw [g, if_neg (by omega), if_pos ⟨by omega, by omega⟩, show m + q - m + (m - i) = m - i + q by omega, h.right q (by omega)]
    congr 1; omega
  · rw [g, if_neg (by omega), if_neg (by omega), show m - (i - j) + q = m - i + (j + q) by omega, h.right (j + q) (by omega)]
    congr 1; omega
theorem RotI.less {d0 d : Array Nat} {a m b i j : Nat} (hb : b ≤ d.size) (h : RotI d0 d a m b i j) (hij : i < j) : RotI d0 (swR d (m - i) (m + j - i) i) a m b i (j - i) := by
  have e := h.hi
  have f := h.hj
  have g := swR_get d (m - i) (m + j - i) i (by omega) (by omega) i (Nat.le_refl _)
  refine ⟨permIn_trans _ _ _ a b h.perm (swR_perm d (m - i) (m + j - i) a b hb i (by omega) (by omega) (by omega) (by omega)), e, by omega, fun q h1 h2 h3 => ?_, fun q hq => ?_, fun q hq => ?_⟩
  · rw [g, if_neg (by omega)]
    by_cases c : m + j - i ≤ q ∧ q < m + j - i + i
    · rw [if_pos c, show q - (m + j - i) + (m - i) = m - i + (q - (m + j - i)) by omega, h.right _ (by omega)]
      congr 1; omega
    · rw [if_neg c]
      exact h.done q h1 h2 (by omega)
  · rw [g, if_neg (by omega), if_neg (by omega)]
    exact h.left q (by omega)
  · rw [g, if_pos ⟨by omega, by omega⟩, show m - i + q - (m - i) + (m + j - i) = m + (j - i + q) by omega, h.left _ (by omega)]
    congr 1; omega
theorem RotI.fin {d0 d : Array Nat} {a m b i : Nat} (hb : b ≤ d.size) (h : RotI d0 d a m b i i) : Rot d0 (swR d (m - i) m i) a m b := by
  have e := h.hi
  have f := h.hj
  have g := swR_get d (m - i) m i (by omega) (by omega) i (Nat.le_refl _)
  have T : ∀ q, a ≤ q → q < b → (swR d (m - i) m i)[q]! = rotT d0 a m b q := fun q h1 h2 => by
    rw [g]
    by_cases c : m - i ≤ q ∧ q < m - i + i
    · rw [if_pos c, show q - (m - i) + m = m + (q - (m - i)) by omega, h.left _ (by omega)]
      congr 1; omega
    · rw [if_neg c]
      by_cases c2 : m ≤ q ∧ q < m + i
      · rw [if_pos c2, show q - m + (m - i) = m - i + (q - m) by omega, h.right _ (by omega)]
        congr 1; omega
      · rw [if_neg c2]
        exact h.done q h1 h2 (by omega)
  refine ⟨permIn_trans _ _ _ a b h.perm (swR_perm d (m - i) m a b hb i (by omega) (by omega) (by omega) (by omega)), fun q hq => ?_, fun q hq => ?_⟩
  · rw [T _ (by omega) (by omega)]
    unfold rotT
    rw [if_pos (by omega), show a + q - a = q by omega]
  · rw [T _ (by omega) (by omega)]
    unfold rotT
    rw [if_neg (by omega), show a + (b - m) + q - (a + (b - m)) = q by omega]
/-- What may be merged. -/
structure Mg (lt : Nat → Nat → Bool) (d : Array Nat) (a m b : Nat) : Prop where
  left : SortedIn lt a m d
  right : SortedIn lt m b d
  ids : ∀ i j, a ≤ i → i < m → m ≤ j → j < b → d[i]! < d[j]!
/-- Where the halves part. -/
structure Cut (lt : Nat → Nat → Bool) (d : Array Nat) (a m b s e : Nat) : Prop where
  lo : a ≤ s ∧ s ≤ m
  hi : m ≤ e ∧ e ≤ b
  up : ∀ i j, a ≤ i → i < s → e ≤ j → j < b → lt d[j]! d[i]! = false
  down : ∀ i j, s ≤ i → i < m → m ≤ j → j < e → lt d[i]! d[j]! = false
theorem cut_mg {d d1 : Array Nat} {a m b s e : Nat} (h : Mg lt d a m b) (c : Cut lt d a m b s e) (r : Rot d d1 s m e) :
    Mg lt d1 a s (s + (e - m)) ∧ Mg lt d1 (s + (e - m)) e b ∧ (∀ i j, a ≤ i → i < s + (e - m) → s + (e - m) ≤ j → j < b → lt d1[j]! d1[i]! = false) ∧ PermIn s e d d1 := by
  obtain ⟨h1, h2⟩ := c.lo
  obtain ⟨h3, h4⟩ := c.hi
  have o1 : ∀ q, q < s → d1[q]! = d[q]! := fun q hq => r.perm.2.1 q (Or.inl hq)
  have o2 : ∀ q, e ≤ q → d1[q]! = d[q]! := fun q hq => r.perm.2.1 q (Or.inr hq)
  have o3 : ∀ q, s ≤ q → q < s + (e - m) → d1[q]! = d[m + (q - s)]! := fun q hq hq2 => by
    rw [← r.left (q - s) (by omega), show s + (q - s) = q by omega]
  have o4 : ∀ q, s + (e - m) ≤ q → q < e → d1[q]! = d[s + (q - (s + (e - m)))]! := fun q hq hq2 => by
    rw [← r.right (q - (s + (e - m))) (by omega), show s + (e - m) + (q - (s + (e - m))) = q by omega]
  refine ⟨⟨fun i j hi hij hj => ?_, fun i j hi hij hj => ?_, fun i j hi hi2 hj hj2 => ?_⟩, ⟨fun i j hi hij hj => ?_, fun i j hi hij hj => ?_, fun i j hi hi2 hj hj2 => ?_⟩, fun i j hi hi2 hj hj2 => ?_, r.perm⟩
  · rw [o1 i (by omega), o1 j hj]
    exact h.left i j hi hij (by omega)
  · rw [o3 i hi (by omega), o3 j (by omega) hj]
    exact h.right _ _ (by omega) (by omega) (by omega)
  · rw [o1 i hi2, o3 j hj hj2]
    exact h.ids _ _ hi (by omega) (by omega) (by omega)
  · rw [o4 i hi (by omega), o4 j (by omega) hj]
    exact h.left _ _ (by omega) (by omega) (by omega)
  · rw [o2 i hi, o2 j (by omega)]
    exact h.right _ _ (by omega) hij hj
  · rw [o4 i hi hi2, o2 j hj]
    exact h.ids _ _ (by omega) (by omega) (by omega) hj2
  · rcases Nat.lt_or_ge i s with c1 | c1
    · rw [o1 i c1]
      rcases Nat.lt_or_ge j e with c2 | c2
      · rw [o4 j hj c2]
        exact h.left _ _ hi (by omega) (by omega)
      · rw [o2 j c2]
        exact c.up i j hi c1 c2 hj2
    · rw [o3 i c1 hi2]
      rcases Nat.lt_or_ge j e with c2 | c2
      · rw [o4 j hj c2]
        exact c.down _ _ (by omega) (by omega) (by omega) (by omega)
      · rw [o2 j c2]
        exact h.right _ _ (by omega) (by omega) hj2
/-- Both halves sorted: all is. -/
theorem cut_glue {d d1 d2 d3 : Array Nat} {a b s e c : Nat} (hb : b ≤ d.size) (hac : a ≤ s) (hsc : s ≤ c) (hce : c ≤ e) (heb : e ≤ b) (hp : PermIn s e d d1) (hx : ∀ i j, a ≤ i → i < c → c ≤ j → j < b → lt d1[j]! d1[i]! = false)
    (p2 : PermIn a c d1 d2) (s2 : SortedIn lt a c d2) (p3 : PermIn c b d2 d3) (s3 : SortedIn lt c b d3) : PermIn a b d d3 ∧ SortedIn lt a b d3 := by
  have z1 : d1.size = d.size := hp.1
  have z2 : d2.size = d1.size := p2.1
  refine ⟨permIn_trans _ _ _ a b (permIn_mono _ _ s e a b hac heb hb hp) (permIn_trans _ _ _ a b (permIn_mono _ _ a c a b (Nat.le_refl _) (by omega) (by omega) p2) (permIn_mono _ _ c b a b (by omega) (Nat.le_refl _) (by omega) p3)), fun i j hi hij hj => ?_⟩
  rcases Nat.lt_or_ge j c with c1 | c1
  · rw [p3.2.1 i (Or.inl (by omega)), p3.2.1 j (Or.inl c1)]
    exact s2 i j hi hij c1
  · rcases Nat.lt_or_ge i c with c2 | c2
    · rw [p3.2.1 i (Or.inl c2)]
      have hx2 : ∀ y, c ≤ y → y < b → lt d1[y]! d2[i]! = false := fun y hy1 hy2 =>
        permIn_all d1 d2 a c (fun x => lt d1[y]! x = false) (by omega) p2 (fun q hq1 hq2 => hx q y hq1 hq2 hy1 hy2) i hi c2
      have hx3 : ∀ y, c ≤ y → y < b → lt d2[y]! d2[i]! = false := fun y hy1 hy2 => by
        rw [p2.2.1 y (Or.inr hy1)]
        exact hx2 y hy1 hy2
      exact permIn_all d2 d3 c b (fun x => lt x d2[i]! = false) (by omega) p3 hx3 j c1 hj
    · exact s3 i j c2 hij hj
/-- What the search in the halves finds. -/
theorem cut_of (hS : SWO lt) {d : Array Nat} {a m b s lo top n : Nat} (h : Mg lt d a m b) (ham : a < m) (hmb : m < b) (hn : n = (a + b) / 2 + m) (hlh : (m > (a + b) / 2 ∧ lo = n - b ∧ top = (a + b) / 2) ∨ (m ≤ (a + b) / 2 ∧ lo = a ∧ top = m)) (h1 : lo ≤ s) (h2 : s ≤ top)
    (f : lo < s → lt d[n - 1 - (s - 1)]! d[s - 1]! = false) (g : s < top → lt d[n - 1 - s]! d[s]! = true) : Cut lt d a m b s (n - s) ∧ s + (n - s - m) = (a + b) / 2 := by
  refine ⟨⟨by omega, by omega, fun i j hi hi2 hj hj2 => ?_, fun i j hi hi2 hj hj2 => ?_⟩, by omega⟩
  · have hlt : lo < s := by omega
    have h3 := f hlt
    rw [show n - 1 - (s - 1) = n - s by omega] at h3
    have h4 : lt d[j]! d[n - s]! = false := by
      rcases Nat.lt_or_ge (n - s) j with c | c
      · exact h.right _ _ (by omega) c hj2
      · rw [show j = n - s by omega]; exact hS.irrefl _
    have h5 : lt d[s - 1]! d[i]! = false := by
      rcases Nat.lt_or_ge i (s - 1) with c | c
      · exact h.left _ _ hi c (by omega)
      · rw [show i = s - 1 by omega]; exact hS.irrefl _
    exact hS.ntrans _ _ _ h4 (hS.ntrans _ _ _ h3 h5)
  · have hlt : s < top := by omega
    have h3 := hS.asymm (g hlt)
    have h4 : lt d[i]! d[s]! = false := by
      rcases Nat.lt_or_ge s i with c | c
      · exact h.left _ _ (by omega) c hi2
      · rw [show i = s by omega]; exact hS.irrefl _
    have h5 : lt d[n - 1 - s]! d[j]! = false := by
      rcases Nat.lt_or_ge j (n - 1 - s) with c | c
      · exact h.right _ _ hj c (by omega)
      · rw [show j = n - 1 - s by omega]; exact hS.irrefl _
    exact hS.ntrans _ _ _ h4 (hS.ntrans _ _ _ h3 h5)
end
end Cb
end Go.Proofs.YteekonojmpihlaaDoor
