import Derived.Test.YtoeeddfinmfnoaaDoorQTreeRt
import Derived.Test.YtoeeddfinmfnoaaDoorQTreeOne
/- tree.Right, joined. -/
namespace Go.Proofs.YtoeeddfinmfnoaaDoor
namespace Kt
end Kt
open Go Go.RowKit Go.Shelf Kt
namespace Tr
theorem one_in (m : Nat) (n : Nd) (hs : n.set.length = 4) (ht : n.text.length ≤ 9223372036854775807) (w : World) :
    CallsIn Fence.wide m Tryd.prog 59 #[nv n] w fun e W' => e = .returned (.bool (one n)) ∧ Below w.heap.size w W' := by
  obtain ⟨x0, x1, x2, x3, hs⟩ := four' hs
  obtain ⟨k, s, mn, mx, t, a, c, ks⟩ := n
  simp only [Nd.set] at hs
  subst hs
  simp only [Nd.text] at ht
  refine callsIn_wide.2 ?_
  have h := one_c0 k mn mx x0 x1 x2 x3 a ks.length c t (bare (.mk k [x0, x1, x2, x3] mn mx t a c ks)) (Ac.nm t) w (fun w => bare_c0 k mn mx x0 x1 x2 x3 a ks.length c t w) (fun w => Ac.isname_c t ht w)
  exact h
mutual
theorem full_len {B : Nat} {W : World} : ∀ (lv : Nat) (n : Nd), Is B W n → ∀ x ∈ full lv n, x.1.set.length = 4
  | lv, .mk k s m x t a c ks, h, y, hy => by
    simp only [full, List.mem_cons] at hy
    rcases hy with rfl | hy
    · exact h.1
    · split at hy
      · cases hy
      · exact fulls_len (lv + 1) ks h.2.2.2.2.2.2 y hy
theorem fulls_len {B : Nat} {W : World} : ∀ (lv : Nat) (ks : List Nd), IsAll B W ks → ∀ x ∈ fulls lv ks, x.1.set.length = 4
  | _, [], _, _, hy => by simp [fulls] at hy
  | lv, n :: r, h, y, hy => by
    simp only [fulls, List.mem_append] at hy
    rcases hy with hy | hy
    · exact full_len lv n h.1 y hy
    · exact fulls_len lv r h.2 y hy
end
theorem walk_len {B : Nat} {W : World} {n : Nd} (h : Is B W n) : ∀ x ∈ walk n, x.1.set.length = 4 := fun x hx => full_len 1 n h x (List.mem_of_mem_take hx)
/-- tree.Right. -/
theorem right_c (n : Nd) (ht : ∀ x ∈ walk n, x.1.text.length ≤ 9223372036854775807) (w : World) (hIs : Is w.heap.size w n) :
    Calls Tryd.prog 22 #[nv n] w fun e W' => e = .returned (.bool (rgt n)) ∧ Below w.heap.size w W' :=
  right_c0 n (walk_len hIs) (fun x hx m W => one_in m x.1 (walk_len hIs x hx) (ht x hx) W) w hIs
end Tr
end Go.Proofs.YtoeeddfinmfnoaaDoor
