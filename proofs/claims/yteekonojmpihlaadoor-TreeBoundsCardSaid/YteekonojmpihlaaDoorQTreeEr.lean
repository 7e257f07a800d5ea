/- Plain law of chapter 07: trees but for the places of their rows. No program. -/
import Derived.Test.YteekonojmpihlaaDoorQTreeTxP
namespace Go.Proofs.YteekonojmpihlaaDoor
open Go Go.RowKit Kt St Sp Bk
namespace Tr
mutual
/-- A tree without its places. -/
def er : Nd → Nd
  | .mk k s mn mx t _ _ ks => .mk k s mn mx t none 0 (ers ks)
def ers : List Nd → List Nd
  | [] => []
  | n :: r => er n :: ers r
end
theorem ers_map : ∀ ks : List Nd, ers ks = ks.map er
  | [] => rfl
  | n :: r => by rw [ers, ers_map r]; rfl
theorem ers_len (ks : List Nd) : (ers ks).length = ks.length := by rw [ers_map, List.length_map]
theorem er_one (n : Nd) : one (er n) = one n := by
  cases n
  simp only [er, one, bare, Nd.kind, Nd.set, Nd.mn, Nd.mx, Nd.text, Nd.kids, ers_len]
  rfl
def erx (x : Nd × Nat) : Nd × Nat := (er x.1, x.2)
mutual
theorem er_full : ∀ (lv : Nat) (n : Nd), full lv (er n) = (full lv n).map erx
  | lv, .mk k s mn mx t a c ks => by
    simp only [er, full, List.map_cons, erx]
    split
    · rfl
    · rw [er_fulls (lv + 1) ks]
theorem er_fulls : ∀ (lv : Nat) (ks : List Nd), fulls lv (ers ks) = (fulls lv ks).map erx
  | _, [] => rfl
  | lv, n :: r => by rw [ers, fulls, fulls, er_full lv n, er_fulls lv r, List.map_append]
end
theorem er_walk (n : Nd) : walk (er n) = (walk n).map erx := by rw [walk, er_full, walk, List.map_take]
theorem er_rgt (n : Nd) : rgt (er n) = rgt n := by
  unfold rgt
  rw [er_walk, List.length_map, List.all_map]
  congr 2
  funext x
  simp only [erx, er_one, Function.comp]
  rfl
theorem deep_map (l : List (Nd × Nat)) : deep (l.map erx) = deep l := by
  unfold deep
  rw [List.foldl_map]
  rfl
theorem er_text (n : Nd) : (er n).text = n.text := by cases n; rfl
end Tr
end Go.Proofs.YteekonojmpihlaaDoor
