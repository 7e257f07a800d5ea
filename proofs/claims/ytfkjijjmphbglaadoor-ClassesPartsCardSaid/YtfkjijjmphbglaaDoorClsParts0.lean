/- Plain law of chapter 22: the classes part the bytes. -/
import Derived.Test.YtfkjijjmphbglaaDoorClsLaw
import Derived.Test.YtfkjijjmphbglaaDoorSetsLaws0
namespace Go.Proofs.YtfkjijjmphbglaaDoor
open Go Go.RowKit Kt
namespace Cl
open Sb
section
variable {κ : Type} [DecidableEq κ]
/-- First bytes rise. -/
theorem fst_rise (key : Nat → κ) : ∀ (c i j f g : Nat), i < j → (st key c).2[i]? = some f → (st key c).2[j]? = some g → f < g := by
  intro c
  induction c with
  | zero => intro i j f g _ h; simp [st] at h
  | succ c ih =>
    intro i j f g hij h1 h2
    cases hk : known key c (key c) with
    | some q => rw [known_some hk] at h1 h2; exact ih i j f g hij h1 h2
    | none =>
      rw [known_none hk] at h1 h2
      simp only at h1 h2
      have ok := ok_st key c
      have hj := (List.getElem?_eq_some_iff.1 h2).1
      simp only [List.length_append, List.length_cons, List.length_nil] at hj
      rw [List.getElem?_append_left (by omega)] at h1
      by_cases hjl : j < (st key c).2.length
      · rw [List.getElem?_append_left hjl] at h2
        exact ih i j f g hij h1 h2
      · rw [List.getElem?_append_right (by omega), show j - (st key c).2.length = 0 by omega] at h2
        simp at h2
        subst h2
        exact (ok.fst i f h1).1
end
/-- The bytes of a class. -/
def byts (rows : List (List Int)) (k : Int) : List Nat := (List.range 256).filter fun c => decide ((klass rows c : Int) = k)
theorem fsts_many (rows : List (List Int)) : (fsts rows 256).length ≤ 256 := fsts_len rows 256
theorem klass_lt (rows : List (List Int)) {b : Nat} (hb : b < 256) : klass rows b < (fsts rows 256).length := by
  obtain ⟨j, f, h1, h2, _, _⟩ := (ok_st (colb rows) 256).lt b hb
  rw [klass_get rows hb] at h1
  simp only [Option.some.injEq] at h1
  rw [h1]
  exact (List.getElem?_eq_some_iff.1 h2).1
theorem head_filter {p : Nat → Bool} {F N : Nat} (hF : F < N) (hp : p F = true) (hmin : ∀ b, b < F → p b = false) : ((List.range N).filter p).head? = some F := by
  have e := Mk.filter_none (p := p) 0 F (fun q _ hq => hmin q (by omega))
  rw [Nat.zero_add] at e
  obtain ⟨d, rfl⟩ : ∃ d, N = F + 1 + d := ⟨N - (F + 1), by omega⟩
  rw [List.range_add, List.filter_append, List.range_succ, List.filter_append, e]
  simp [hp]
/-- The least byte of a class is its first. -/
theorem byts_head (rows : List (List Int)) (k : Nat) (hk : k < (fsts rows 256).length) : (byts rows k).head? = (fsts rows 256)[k]? := by
  have ok := ok_st (colb rows) 256
  obtain ⟨F, hf⟩ : ∃ F, (st (colb rows) 256).2[k]? = some F := ⟨_, List.getElem?_eq_getElem hk⟩
  obtain ⟨h1, h2⟩ := ok.fst k _ hf
  have hF2 : (fsts rows 256)[k]? = some F := hf
  rw [hF2]
  rw [klass_get rows h1] at h2
  simp only [Option.some.injEq] at h2
  refine head_filter h1 (by simp [h2]) fun b hb => ?_
  simp only [decide_eq_false_iff_not]
  intro he
  have hb256 : b < 256 := by omega
  obtain ⟨j, f, e1, e2, _, e4⟩ := ok.lt b hb256
  rw [klass_get rows hb256] at e1
  simp only [Option.some.injEq] at e1
  have : j = k := by omega
  subst this
  rw [hf] at e2
  simp only [Option.some.injEq] at e2
  omega
theorem byts_ne (rows : List (List Int)) (k : Nat) (hk : k < (fsts rows 256).length) : byts rows k ≠ [] := by
  have := byts_head rows k hk
  rw [List.getElem?_eq_getElem hk] at this
  intro h
  rw [h] at this
  cases this
theorem byts_out (rows : List (List Int)) (k : Int) (hk : k < 0 ∨ ((fsts rows 256).length : Int) ≤ k) : byts rows k = [] := by
  unfold byts
  rw [List.filter_eq_nil_iff]
  intro b hb
  have := klass_lt rows (b := b) (by simpa using hb)
  simp
  omega
/-- How many bytes the first k classes have. -/
theorem byts_sum (rows : List (List Int)) : ∀ k : Nat, ((List.range k).map fun (j : Nat) => (byts rows (j : Int)).length).sum = ((List.range 256).filter fun c => decide (klass rows c < k)).length := by
  intro k
  induction k with
  | zero =>
    rw [show ((List.range 256).filter fun c => decide (klass rows c < 0)) = [] from List.filter_eq_nil_iff.2 (fun _ _ => by simp)]
    rfl
  | succ k ih =>
    rw [List.range_succ, List.map_append, List.sum_append, ih]
    simp only [List.map_cons, List.map_nil, List.sum_cons, List.sum_nil, Nat.add_zero]
    unfold byts
    have h := St.count_or (fun c => decide (klass rows c < k)) (fun c => decide ((klass rows c : Int) = (k : Int))) (List.range 256)
    have h0 : ((List.range 256).filter fun q => decide (klass rows q < k) && decide ((klass rows q : Int) = (k : Int))) = [] := by
      rw [List.filter_eq_nil_iff]
      intro b _
      simp
      omega
    rw [h0] at h
    have h1 : ((List.range 256).filter fun q => decide (klass rows q < k) || decide ((klass rows q : Int) = (k : Int))) = (List.range 256).filter fun c => decide (klass rows c < k + 1) := by
      apply List.filter_congr
      intro b _
      rw [Bool.eq_iff_iff]
      simp
      omega
    rw [h1] at h
    simp at h
    omega
theorem byts_all (rows : List (List Int)) : ((List.range (fsts rows 256).length).map fun (j : Nat) => (byts rows (j : Int)).length).sum = 256 := by
  rw [byts_sum]
  have : ((List.range 256).filter fun c => decide (klass rows c < (fsts rows 256).length)) = List.range 256 := by
    rw [List.filter_eq_self]
    intro b hb
    have := klass_lt rows (b := b) (by simpa using hb)
    simpa using this
  rw [this, List.length_range]
theorem fsts_rise (rows : List (List Int)) {i j : Nat} (hij : i < j) (hj : j < (fsts rows 256).length) : (fsts rows 256)[i]'(by omega) < (fsts rows 256)[j] :=
  fst_rise (colb rows) 256 i j _ _ hij (List.getElem?_eq_getElem (show i < (st (colb rows) 256).2.length from (by have : (fsts rows 256) = (st (colb rows) 256).2 := rfl; rw [← this]; omega))) (List.getElem?_eq_getElem (show j < (st (colb rows) 256).2.length from hj))
end Cl
end Go.Proofs.YtfkjijjmphbglaaDoor
