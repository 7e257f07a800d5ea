import Derived.Test.YtoeeddfinmfnoaaDoorQActPure
import Derived.Test.YtoeeddfinmfnoaaDoorQMod
/- Plain law of chapter 07: trees, and the walk that comes to their nodes. No program. -/
namespace Go.Proofs.YtoeeddfinmfnoaaDoor
namespace Kt
end Kt
open Go Go.RowKit Kt
namespace Tr
/-- A tree, with the places of its rows of kids. -/
inductive Nd where
  | mk (kind : Int) (set : List Nat) (mn mx : Int) (text : List UInt8) (a : Option Addr) (cap : Nat) (kids : List Nd)
namespace Nd
def kind : Nd → Int | mk k _ _ _ _ _ _ _ => k
def set : Nd → List Nat | mk _ s _ _ _ _ _ _ => s
def mn : Nd → Int | mk _ _ m _ _ _ _ _ => m
def mx : Nd → Int | mk _ _ _ m _ _ _ _ => m
def text : Nd → List UInt8 | mk _ _ _ _ t _ _ _ => t
def a : Nd → Option Addr | mk _ _ _ _ _ a _ _ => a
def cap : Nd → Nat | mk _ _ _ _ _ _ c _ => c
def kids : Nd → List Nd | mk _ _ _ _ _ _ _ ks => ks
end Nd
instance : Inhabited Nd := ⟨.mk 0 [0, 0, 0, 0] 0 0 [] none 0 []⟩
/-- A set's four words as values. -/
def w64 (l : List Nat) : List Value := l.map fun x : Nat => .int .u64 (x : Int)
/-- A node's nine cells. -/
def cells (n : Nd) : List Value := .int .i64 n.kind :: (w64 n.set ++ [.slice n.a n.kids.length n.cap, .int .i64 n.mn, .int .i64 n.mx, .string (Str n.text)])
theorem cells_len (n : Nd) (h : n.set.length = 4) : (cells n).length = 9 := by simp [cells, w64, h]
mutual
/-- The tree lies in memory, below B: each node's row of kids reads as they; sets of four words; rows as Go's. -/
def Is (B : Nat) (W : World) : Nd → Prop
  | .mk _ s _ _ _ a c ks => s.length = 4 ∧ ks.length ≤ c ∧ c ≤ maxLen ∧ (a = none → c = 0) ∧ Rd W a (ks.flatMap cells) ∧ (∀ p, a = some p → ks.flatMap cells ≠ [] → p.block < B) ∧ IsAll B W ks
def IsAll (B : Nat) (W : World) : List Nd → Prop
  | [] => True
  | n :: r => Is B W n ∧ IsAll B W r
end
theorem Is.all {B : Nat} {W : World} : ∀ {ks : List Nd}, IsAll B W ks → ∀ k ∈ ks, Is B W k
  | [], _, k, hk => by cases hk
  | n :: r, h, k, hk => by
    rcases List.mem_cons.1 hk with rfl | hk
    · exact h.1
    · exact Is.all h.2 k hk
theorem Is.len {B : Nat} {W : World} {n : Nd} (h : Is B W n) : n.set.length = 4 := by
  cases n
  exact h.1
mutual
theorem Is.below {B : Nat} {W W' : World} (hb : Below B W W') : ∀ {n : Nd}, Is B W n → Is B W' n
  | .mk _ _ _ _ _ _ _ _, ⟨h1, h2, h3, h4, h5, h6, h7⟩ => ⟨h1, h2, h3, h4, h5.below hb h6, h6, IsAll.below hb h7⟩
theorem IsAll.below {B : Nat} {W W' : World} (hb : Below B W W') : ∀ {ks : List Nd}, IsAll B W ks → IsAll B W' ks
  | [], _ => trivial
  | _ :: _, h => ⟨Is.below hb h.1, IsAll.below hb h.2⟩
end
/-- A node as a value. -/
def nv (n : Nd) : Value := .agg (cells n).toArray
mutual
/-- All nodes that the walk would come to with no bound on their number: with their levels; below level 24 it goes no further. -/
def full : Nat → Nd → List (Nd × Nat)
  | lv, .mk k s m x t a c ks => (.mk k s m x t a c ks, lv) :: (if 24 < lv then [] else fulls (lv + 1) ks)
def fulls : Nat → List Nd → List (Nd × Nat)
  | _, [] => []
  | lv, n :: r => full lv n ++ fulls lv r
end
theorem full_eq (lv : Nat) (n : Nd) : full lv n = (n, lv) :: (if 24 < lv then [] else fulls (lv + 1) n.kids) := by cases n; rfl
/-- The walk. -/
def walk (n : Nd) : List (Nd × Nat) := (full 1 n).take 601
/-- A node has nothing but what is of its kind. -/
def bare (n : Nd) : Bool := (decide (n.set = [0, 0, 0, 0]) || decide (n.kind = 1)) && ((decide (n.mn = 0) && decide (n.mx = 0)) || decide (n.kind = 4)) && (decide (n.text = []) || decide (n.kind = 5))
/-- A node by itself is right. -/
def one (n : Nd) : Bool := bare n && (if n.kind = 1 then decide (n.kids.length = 0) else if n.kind = 2 then true else if n.kind = 3 then decide (2 ≤ n.kids.length)
  else if n.kind = 4 then decide (n.kids.length = 1) && (decide (0 ≤ n.mn) && decide (n.mn ≤ 40) && (decide (n.mx = -1) || (decide (max n.mn 1 ≤ n.mx) && decide (n.mx ≤ 40))))
  else decide (n.kind = 5) && decide (n.kids.length = 0) && Ac.nm n.text)
/-- A right tree. -/
def rgt (n : Nd) : Bool := decide ((walk n).length ≤ 600) && (walk n).all fun x => decide (x.2 ≤ 24) && one x.1
/-- How deep it is. -/
def deep (l : List (Nd × Nat)) : Nat := l.foldl (fun d x => max d x.2) 0
end Tr
end Go.Proofs.YtoeeddfinmfnoaaDoor
