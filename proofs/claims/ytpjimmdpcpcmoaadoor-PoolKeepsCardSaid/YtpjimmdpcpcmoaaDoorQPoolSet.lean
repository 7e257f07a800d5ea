/- The walks of package pool: At, Set. Condition: the sentinels read as laid. -/
import Derived.Test.YtpjimmdpcpcmoaaDoorQPoolHold
namespace Go.Proofs.YtpjimmdpcpcmoaaDoor
open Go Go.RowKit Kt
namespace Po
variable {w w' : World} {p ob oc bb mz mg mb : Nat} {A : List (Int × Int × Nat)} {G : List (Option Nat)} {m : Md} {L : List Nat}
/-! ### The blocks are apart -/
theorem ab_inj : ∀ {A : List (Int × Int × Nat)} {a a' : Int × Int × Nat}, (ab A).Nodup → a ∈ A → a' ∈ A → a.2.2 = a'.2.2 → a = a'
  | [], _, _, _, h, _, _ => by cases h
  | y :: A, a, a', hn, h, h', e => by
    rw [ab, List.map_cons, List.nodup_cons] at hn
    rcases List.mem_cons.1 h with h1 | h1
    · rcases List.mem_cons.1 h' with h2 | h2
      · rw [h1, h2]
      · exact absurd (show y.2.2 ∈ A.map (fun a => a.2.2) from List.mem_map.2 ⟨a', h2, by rw [← e, h1]⟩) hn.1
    · rcases List.mem_cons.1 h' with h2 | h2
      · exact absurd (show y.2.2 ∈ A.map (fun a => a.2.2) from List.mem_map.2 ⟨a, h1, by rw [e, h2]⟩) hn.1
      · exact ab_inj hn.2 h1 h2 e
structure Ap (p ob bb mz mg mb : Nat) (A : List (Int × Int × Nat)) (G : List (Option Nat)) : Prop where
  g : ∀ k ∈ G.filterMap id, k ≠ p ∧ k ≠ ob ∧ k ≠ bb ∧ k ≠ mz ∧ k ≠ mg ∧ k ≠ mb ∧ k ∉ ab A
  a : ∀ k ∈ ab A, k ≠ p ∧ k ≠ ob ∧ k ≠ bb ∧ k ≠ mz ∧ k ≠ mg ∧ k ≠ mb ∧ k ∉ G.filterMap id
  x : [p, ob, bb, mz, mg, mb].Nodup
  na : (ab A).Nodup
  ng : (G.filterMap id).Nodup
theorem PB.ap (h : PB w p ob oc bb mz mg mb A G m) : Ap p ob bb mz mg mb A G := by
  have hn : ([p, ob, bb, mz, mg, mb] ++ (ab A ++ G.filterMap id)).Nodup := h.nd
  rw [List.nodup_append] at hn
  obtain ⟨h1, h2, h3⟩ := hn
  rw [List.nodup_append] at h2
  obtain ⟨h4, h5, h6⟩ := h2
  refine ⟨fun k hk => ?_, fun k hk => ?_, h1, h4, h5⟩
  · have h7 := fun y hy => h3 y hy k (List.mem_append_right _ hk)
    exact ⟨fun e => h7 p (by simp) e.symm, fun e => h7 ob (by simp) e.symm, fun e => h7 bb (by simp) e.symm, fun e => h7 mz (by simp) e.symm, fun e => h7 mg (by simp) e.symm, fun e => h7 mb (by simp) e.symm, fun e => h6 k e k hk rfl⟩
  · have h7 := fun y hy => h3 y hy k (List.mem_append_left _ hk)
    exact ⟨fun e => h7 p (by simp) e.symm, fun e => h7 ob (by simp) e.symm, fun e => h7 bb (by simp) e.symm, fun e => h7 mz (by simp) e.symm, fun e => h7 mg (by simp) e.symm, fun e => h7 mb (by simp) e.symm, fun e => h6 k hk k e rfl⟩
/-! ### At -/
/-! ### Set -/
end Po
end Go.Proofs.YtpjimmdpcpcmoaaDoor
