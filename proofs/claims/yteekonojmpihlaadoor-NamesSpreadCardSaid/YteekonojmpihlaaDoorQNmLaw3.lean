import Derived.Test.YteekonojmpihlaaDoorQNmBooks
import Derived.Test.YteekonojmpihlaaDoorQNmAlive
import Derived.Test.YteekonojmpihlaaDoorQTreeSm
import Derived.Test.YteekonojmpihlaaDoorQTreeCp
import Derived.Test.YteekonojmpihlaaDoorQTreeNms
/- The law NamesAgain's walk. Printed by gen_nmlaw3.py. Condition: the sentinels read as laid. -/
namespace Go.Proofs.YteekonojmpihlaaDoor
namespace Kt
end Kt
namespace St
end St
namespace Sp
end Sp
namespace Bk
end Bk
namespace Tr
end Tr
open Go Go.RowKit Kt St Sp Bk Tr
namespace Bo
theorem er_names (n : Nd) : names (walk (er n)) = names (walk n) := by rw [er_walk, names_map]
/-- Without an error: what is spread is right, has no name, and is spread as it is. -/
theorem sh_ok {B : Bks} (hB : ∀ x ∈ B, rgt x.2 = true) {n m : Nd} (h : shE B n = 0) (hm : er m = (spr B 64 [] 1 0 (er n)).2.2) : rgt n = true ∧ rgt m = true ∧ names (walk m) = [] := by
  have hr : rgt n = true := by
    by_cases hh : rgt n = false
    · rw [shE, if_pos hh] at h; cases h
    · simpa using hh
  rw [shE, if_neg (by simp [hr])] at h
  obtain ⟨h1, h2, h3⟩ := spr_done B (fun p hp => rgt_good (hB p hp)) (er n) (by rw [er_rgt]; exact hr) h
  rw [← hm] at h1 h2
  exact ⟨hr, by rw [er_rgt] at h1; exact h1, by rw [er_names] at h2; exact h2⟩
end Bo
end Go.Proofs.YteekonojmpihlaaDoor
