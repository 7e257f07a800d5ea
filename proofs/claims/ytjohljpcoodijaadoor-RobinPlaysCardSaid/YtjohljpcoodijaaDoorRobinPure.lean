/- Plain facts on the row of a list of turns. -/
import Derived.Test.YtjohljpcoodijaaDoorRobinMem
namespace Go.Proofs.YtjohljpcoodijaaDoor
open Go Go.RowKit Kt
namespace Rb
theorem fd_none {l : List (Int × Int)} {x : Int} (h : x ∉ fsts l) : fd l x = l.length := fd_no l x (fun j hj e => h (by unfold fsts; rw [← e]; exact List.mem_map_of_mem (List.getElem_mem hj)))
theorem fd_snoc {l : List (Int × Int)} {x d : Int} (h : x ∉ fsts l) : fd (l ++ [(x, d)]) x = l.length :=
  fd_lt _ x l.length (by simp) (fun j hj e => by
    rw [List.getElem_append_left hj] at e
    exact h (by unfold fsts; rw [← e]; exact List.mem_map_of_mem (List.getElem_mem hj))) (by simp)
theorem left_snoc {l : List (Int × Int)} {x d : Int} (h : x ∉ fsts l) : left (l ++ [(x, d)]) x = d := by
  unfold left
  rw [fd_snoc h]
  simp
theorem erase_snoc (l : List (Int × Int)) (z : Int × Int) : (l ++ [z]).eraseIdx l.length = l := by
  rw [List.eraseIdx_append_of_length_le (Nat.le_refl _)]
  simp
theorem fd_in {l : List (Int × Int)} {x : Int} : fd l x < l.length ↔ x ∈ fsts l := by
  constructor
  · intro h
    unfold fd at h
    have := List.findIdx_getElem (w := h)
    simp at this
    unfold fsts
    rw [← this]
    exact List.mem_map_of_mem (List.getElem_mem _)
  · intro h
    unfold fd
    rw [List.findIdx_lt_length]
    obtain ⟨z, hz, e⟩ := List.mem_map.1 h
    exact ⟨z, hz, by simpa using e⟩
theorem fsts_app (a b : List (Int × Int)) : fsts (a ++ b) = fsts a ++ fsts b := by simp [fsts]
end Rb
end Go.Proofs.YtjohljpcoodijaaDoor
