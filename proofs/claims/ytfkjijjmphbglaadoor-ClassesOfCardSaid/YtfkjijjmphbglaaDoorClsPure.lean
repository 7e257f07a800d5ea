/- Plain law of chapter 22: classes by keys. No program. -/
import Derived.Test.YtfkjijjmphbglaaDoorMod
namespace Go.Proofs.YtfkjijjmphbglaaDoor
namespace Cl
/-- The class of each byte so far, and the first byte of each class. -/
def st {κ : Type} [DecidableEq κ] (key : Nat → κ) : Nat → List Nat × List Nat
  | 0 => ([], [])
  | c + 1 =>
    match (st key c).2.findIdx? (fun b => decide (key b = key c)) with
    | some j => ((st key c).1 ++ [j], (st key c).2)
    | none => ((st key c).1 ++ [(st key c).2.length], (st key c).2 ++ [c])
section
variable {κ : Type} [DecidableEq κ] {key : Nat → κ}
/-- What holds of the classes of the bytes below c. -/
structure Ok (key : Nat → κ) (c : Nat) (cl fs : List Nat) : Prop where
  len : cl.length = c
  lt : ∀ b, b < c → ∃ j f, cl[b]? = some j ∧ fs[j]? = some f ∧ key f = key b ∧ f ≤ b
  fst : ∀ (j f : Nat), fs[j]? = some f → f < c ∧ cl[f]? = some j
  many : fs.length ≤ c
  inj : ∀ (i j f g : Nat), fs[i]? = some f → fs[j]? = some g → key f = key g → i = j
theorem ok_st (key : Nat → κ) : ∀ c, Ok key c (st key c).1 (st key c).2 := by
  intro c
  induction c with
  | zero => exact ⟨rfl, fun b h => by omega, fun j f h => by simp [st] at h, Nat.le_refl _, fun i j f g h => by simp [st] at h⟩
  | succ c ih =>
    unfold st
    obtain ⟨cl, fs, hst⟩ : ∃ cl fs, st key c = (cl, fs) := ⟨_, _, rfl⟩
    rw [hst] at ih ⊢
    simp only at ih ⊢
    cases hf : fs.findIdx? (fun b => decide (key b = key c)) with
    | some j =>
      simp only
      obtain ⟨hj, hp, _⟩ := List.findIdx?_eq_some_iff_getElem.1 hf
      have hk : key fs[j] = key c := by simpa using hp
      have hlt := (ih.fst j _ (List.getElem?_eq_getElem hj)).1
      refine ⟨by simp [ih.len], fun b hb => ?_, fun i f h => ?_, Nat.le_succ_of_le ih.many, ih.inj⟩
      · by_cases hbc : b < c
        · obtain ⟨i, f, h1, h2, h3, h4⟩ := ih.lt b hbc
          exact ⟨i, f, by rw [List.getElem?_append_left (by rw [ih.len]; exact hbc)]; exact h1, h2, h3, h4⟩
        · obtain rfl : b = c := by omega
          exact ⟨j, fs[j], by rw [List.getElem?_append_right (by rw [ih.len]; exact Nat.le_refl _), ih.len]; simp, List.getElem?_eq_getElem hj, hk, by omega⟩
      · obtain ⟨h1, h2⟩ := ih.fst i f h
        exact ⟨by omega, by rw [List.getElem?_append_left (by rw [ih.len]; exact h1)]; exact h2⟩
    | none =>
      simp only
      have hno : ∀ b ∈ fs, ¬ key b = key c := fun b hb => by
        have := List.findIdx?_eq_none_iff.1 hf b hb
        simpa using this
      refine ⟨by simp [ih.len], fun b hb => ?_, fun i f h => ?_, by have := ih.many; simp; omega, fun i j f g h1 h2 h3 => ?_⟩
      · by_cases hbc : b < c
        · obtain ⟨i, f, h1, h2, h3, h4⟩ := ih.lt b hbc
          have := (List.getElem?_eq_some_iff.1 h2).1
          exact ⟨i, f, by rw [List.getElem?_append_left (by rw [ih.len]; exact hbc)]; exact h1, by rw [List.getElem?_append_left this]; exact h2, h3, h4⟩
        · obtain rfl : b = c := by omega
          exact ⟨fs.length, b, by rw [List.getElem?_append_right (by rw [ih.len]; exact Nat.le_refl _), ih.len]; simp, by simp, rfl, Nat.le_refl _⟩
      · by_cases hi : i < fs.length
        · rw [List.getElem?_append_left hi] at h
          obtain ⟨h1, h2⟩ := ih.fst i f h
          exact ⟨by omega, by rw [List.getElem?_append_left (by rw [ih.len]; exact h1)]; exact h2⟩
        · have := (List.getElem?_eq_some_iff.1 h).1
          simp at this
          obtain rfl : i = fs.length := by omega
          simp at h
          subst h
          exact ⟨Nat.lt_succ_self _, by rw [List.getElem?_append_right (by rw [ih.len]; exact Nat.le_refl _), ih.len]; simp⟩
      · have key2 : ∀ i f, (fs ++ [c])[i]? = some f → (i < fs.length ∧ fs[i]? = some f) ∨ (i = fs.length ∧ f = c) := fun i f h => by
          by_cases hi : i < fs.length
          · rw [List.getElem?_append_left hi] at h; exact .inl ⟨hi, h⟩
          · have := (List.getElem?_eq_some_iff.1 h).1
            simp at this
            obtain rfl : i = fs.length := by omega
            simp at h
            exact .inr ⟨rfl, h.symm⟩
        rcases key2 i f h1 with ⟨_, a1⟩ | ⟨a0, a1⟩ <;> rcases key2 j g h2 with ⟨_, b1⟩ | ⟨b0, b1⟩
        · exact ih.inj i j f g a1 b1 h3
        · subst b1; exact absurd h3 (hno f (List.mem_of_getElem? a1))
        · subst a1; exact absurd h3.symm (hno g (List.mem_of_getElem? b1))
        · omega
/-- Two bytes are of one class just where their keys are equal. -/
theorem cls_iff (key : Nat → κ) (n : Nat) (b c : Nat) (hb : b < n) (hc : c < n) (x y : Nat) (hx : (st key n).1[b]? = some x) (hy : (st key n).1[c]? = some y) : x = y ↔ key b = key c := by
  have ok := ok_st key n
  obtain ⟨i, f, h1, h2, h3, _⟩ := ok.lt b hb
  obtain ⟨j, g, k1, k2, k3, _⟩ := ok.lt c hc
  rw [hx] at h1
  rw [hy] at k1
  simp only [Option.some.injEq] at h1 k1
  subst h1 k1
  constructor
  · rintro rfl
    rw [h2] at k2
    simp only [Option.some.injEq] at k2
    rw [← h3, ← k3, k2]
  · intro h
    exact ok.inj x y f g h2 k2 (by rw [h3, k3, h])
/-- What the map of known keys holds when c bytes are over. -/
def known (key : Nat → κ) (c : Nat) (s : κ) : Option Nat := (st key c).2.findIdx? (fun b => decide (key b = s))
theorem known_some {c j : Nat} (h : known key c (key c) = some j) : st key (c + 1) = ((st key c).1 ++ [j], (st key c).2) := by
  unfold known at h
  rw [st, h]
theorem known_none {c : Nat} (h : known key c (key c) = none) : st key (c + 1) = ((st key c).1 ++ [(st key c).2.length], (st key c).2 ++ [c]) := by
  unfold known at h
  rw [st, h]
theorem known_same {c j : Nat} (h : known key c (key c) = some j) : known key (c + 1) = known key c := by
  funext s
  unfold known
  rw [known_some h]
theorem known_new {c : Nat} (h : known key c (key c) = none) : known key (c + 1) = fun s => if s = key c then some (st key c).2.length else known key c s := by
  funext s
  have h0 := h
  unfold known at h ⊢
  rw [known_none h0]
  simp only [List.findIdx?_append]
  by_cases hs : s = key c
  · subst hs
    rw [if_pos rfl, h]
    simp
  · rw [if_neg hs]
    have : ¬ key c = s := fun e => hs e.symm
    cases hq : (st key c).2.findIdx? (fun b => decide (key b = s)) with
    | some j => simp
    | none => simp [this]
end
end Cl
end Go.Proofs.YtfkjijjmphbglaaDoor
