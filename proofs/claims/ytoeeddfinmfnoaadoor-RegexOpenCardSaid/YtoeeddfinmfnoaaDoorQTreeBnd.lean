import Derived.Test.YtoeeddfinmfnoaaDoorQTreePure
import Derived.Test.YtoeeddfinmfnoaaDoorQBrkPure
import Derived.Test.YtoeeddfinmfnoaaDoorQSetsIs
import Derived.Lib.Join
/- Plain law of chapter 07: trees but for the places of their rows. No program. -/
namespace Go.Proofs.YtoeeddfinmfnoaaDoor
namespace Kt
end Kt
namespace St
end St
namespace Sp
end Sp
namespace Bk
end Bk
open Go Go.RowKit Kt St Sp Bk
namespace Tr
mutual
/-- A tree without its places. -/
def er : Nd → Nd
  | .mk k s mn mx t _ _ ks => .mk k s mn mx t none 0 (ers ks)
def ers : List Nd → List Nd
  | [] => []
  | n :: r => er n :: ers r
end
theorem ers_map : ∀ ks : List Nd, ers ks = ks.map er
  | [] => rfl
  | n :: r => by rw [ers, ers_map r]; rfl
theorem ers_len (ks : List Nd) : (ers ks).length = ks.length := by rw [ers_map, List.length_map]
theorem er_kind (n : Nd) : (er n).kind = n.kind := by cases n; rfl
theorem er_one (n : Nd) : one (er n) = one n := by
  cases n
  simp only [er, one, bare, Nd.kind, Nd.set, Nd.mn, Nd.mx, Nd.text, Nd.kids, ers_len]
  rfl
def erx (x : Nd × Nat) : Nd × Nat := (er x.1, x.2)
mutual
theorem er_full : ∀ (lv : Nat) (n : Nd), full lv (er n) = (full lv n).map erx
  | lv, .mk k s mn mx t a c ks => by
    simp only [er, full, List.map_cons, erx]
    split
    · rfl
    · rw [er_fulls (lv + 1) ks]
theorem er_fulls : ∀ (lv : Nat) (ks : List Nd), fulls lv (ers ks) = (fulls lv ks).map erx
  | _, [] => rfl
  | lv, n :: r => by rw [ers, fulls, fulls, er_full lv n, er_fulls lv r, List.map_append]
end
theorem er_walk (n : Nd) : walk (er n) = (walk n).map erx := by rw [walk, er_full, walk, List.map_take]
theorem er_rgt (n : Nd) : rgt (er n) = rgt n := by
  unfold rgt
  rw [er_walk, List.length_map, List.all_map]
  congr 2
  funext x
  simp only [erx, er_one, Function.comp]
  rfl
theorem deep_map (l : List (Nd × Nat)) : deep (l.map erx) = deep l := by
  unfold deep
  rw [List.foldl_map]
  rfl
end Tr
end Go.Proofs.YtoeeddfinmfnoaaDoor

/- Trees in memory: where their rows lie; what keeps them. No program. -/
namespace Go.Proofs.YtoeeddfinmfnoaaDoor
open Go Go.RowKit Kt St Sp Bk
namespace Tr
mutual
/-- Each of its rows lies in a block of P. -/
def Bl (P : Nat → Prop) : Nd → Prop
  | .mk _ _ _ _ _ a _ ks => (∀ p, a = some p → ks ≠ [] → P p.block) ∧ Bls P ks
def Bls (P : Nat → Prop) : List Nd → Prop
  | [] => True
  | n :: r => Bl P n ∧ Bls P r
end
theorem Bls.of {P : Nat → Prop} : ∀ {ks : List Nd}, (∀ n ∈ ks, Bl P n) → Bls P ks
  | [], _ => trivial
  | _ :: _, h => ⟨h _ (by simp), Bls.of fun n hn => h n (by simp [hn])⟩
theorem IsAll.of {B : Nat} {W : World} : ∀ {ks : List Nd}, (∀ n ∈ ks, Is B W n) → IsAll B W ks
  | [], _ => trivial
  | _ :: _, h => ⟨h _ (by simp), IsAll.of fun n hn => h n (by simp [hn])⟩
mutual
theorem Bl.mono {P Q : Nat → Prop} (hi : ∀ b, P b → Q b) : ∀ {n : Nd}, Bl P n → Bl Q n
  | .mk _ _ _ _ _ _ _ _, h => ⟨fun p hp hn => hi _ (h.1 p hp hn), Bls.mono hi h.2⟩
theorem Bls.mono {P Q : Nat → Prop} (hi : ∀ b, P b → Q b) : ∀ {ks : List Nd}, Bls P ks → Bls Q ks
  | [], _ => trivial
  | _ :: _, h => ⟨Bl.mono hi h.1, Bls.mono hi h.2⟩
end
mutual
theorem Bl.both {P Q R : Nat → Prop} : ∀ {n : Nd}, Bl P n → Bl Q n → (∀ q, P q → Q q → R q) → Bl R n
  | .mk _ _ _ _ _ _ _ _, h1, h2, hi => ⟨fun p hp hn => hi _ (h1.1 p hp hn) (h2.1 p hp hn), Bls.both h1.2 h2.2 hi⟩
theorem Bls.both {P Q R : Nat → Prop} : ∀ {ks : List Nd}, Bls P ks → Bls Q ks → (∀ q, P q → Q q → R q) → Bls R ks
  | [], _, _, _ => trivial
  | _ :: _, h1, h2, hi => ⟨Bl.both h1.1 h2.1 hi, Bls.both h1.2 h2.2 hi⟩
end
theorem cells_ne (n : Nd) : cells n ≠ [] := by simp [cells]
theorem flat_ne {ks : List Nd} (h : ks ≠ []) : ks.flatMap cells ≠ [] := by
  cases ks with
  | nil => exact absurd rfl h
  | cons n r => rw [List.flatMap_cons]; simp [cells_ne]
mutual
theorem Is.bl {B : Nat} {W : World} : ∀ {n : Nd}, Is B W n → Bl (· < B) n
  | .mk _ _ _ _ _ _ _ _, ⟨_, _, _, _, _, h6, h7⟩ => ⟨fun p hp hn => h6 p hp (flat_ne hn), IsAll.bl h7⟩
theorem IsAll.bl {B : Nat} {W : World} : ∀ {ks : List Nd}, IsAll B W ks → Bls (· < B) ks
  | [], _ => trivial
  | _ :: _, h => ⟨Is.bl h.1, IsAll.bl h.2⟩
end
mutual
theorem Is.mono {B B' : Nat} {W : World} (hB : B ≤ B') : ∀ {n : Nd}, Is B W n → Is B' W n
  | .mk _ _ _ _ _ _ _ _, ⟨h1, h2, h3, h4, h5, h6, h7⟩ => ⟨h1, h2, h3, h4, h5, fun p hp hn => Nat.lt_of_lt_of_le (h6 p hp hn) hB, IsAll.mono hB h7⟩
theorem IsAll.mono {B B' : Nat} {W : World} (hB : B ≤ B') : ∀ {ks : List Nd}, IsAll B W ks → IsAll B' W ks
  | [], _ => trivial
  | _ :: _, h => ⟨Is.mono hB h.1, IsAll.mono hB h.2⟩
end
mutual
theorem Is.modB {B : Nat} {S : List Nat} {W W' : World} (hM : Mod S W W') : ∀ {n : Nd}, Is B W n → Bl (· ∉ S) n → Is B W' n
  | .mk _ _ _ _ _ a _ ks, ⟨h1, h2, h3, h4, h5, h6, h7⟩, hb => ⟨h1, h2, h3, h4, by
      by_cases hk : ks = []
      · subst hk; exact Rd.nil _ _
      · exact Rd.mod h5 hM (fun p hp => hb.1 p hp hk), h6, IsAll.modB hM h7 hb.2⟩
theorem IsAll.modB {B : Nat} {S : List Nat} {W W' : World} (hM : Mod S W W') : ∀ {ks : List Nd}, IsAll B W ks → Bls (· ∉ S) ks → IsAll B W' ks
  | [], _, _ => trivial
  | _ :: _, h, hb => ⟨Is.modB hM h.1 hb.1, IsAll.modB hM h.2 hb.2⟩
end
theorem cells_one (n : Nd) : ∀ u ∈ cells n, u.oneCell' = true := by
  intro u hu
  simp only [cells, w64, List.mem_cons, List.mem_append, List.mem_map, List.not_mem_nil, or_false] at hu
  rcases hu with rfl | ⟨x, _, rfl⟩ | rfl | rfl | rfl | rfl <;> rfl
/-- A kid's cells. -/
theorem kid_at {W : World} {a : Option Addr} {ks : List Nd} (hr : Rd W a (ks.flatMap cells)) (hs : ∀ n ∈ ks, n.set.length = 4) (j : Nat) (hj : j < ks.length) :
    ∃ b off, a = some ⟨b, off, none⟩ ∧ ∀ i x, (cells ks[j])[i]? = some x → i < 9 → W.cell? ⟨b, off + (j * 9 + i), none⟩ = some x :=
  Rd.struct 9 hr (fun z hz => cells_len z (hs z hz)) j hj (by decide)
end Tr
end Go.Proofs.YtoeeddfinmfnoaaDoor

/- Plain law of chapter 07: a chain of Cats, and a Cat of many kids; a node's block written over. -/
namespace Go.Proofs.YtoeeddfinmfnoaaDoor
open Go Go.RowKit Kt St Sp Bk
namespace Tr
/-- A set's node. -/
def leaf (s : List Nat) : Nd := .mk 1 s 0 0 [] none 0 []
/-- A Cat of many. -/
def wide (s : List Nat) (m : Nat) : Nd := .mk 2 [0, 0, 0, 0] 0 0 [] none 0 (List.replicate m (leaf s))
/-! ### A node's block written over -/
/-- A node's nine cells, stored one by one. -/
def put9 (W : World) (b : Nat) (v0 v1 v2 v3 v4 v5 v6 v7 v8 : Value) : World :=
  ((((((((W.setCell ⟨b, 0, none⟩ v0).setCell ⟨b, 1, none⟩ v1).setCell ⟨b, 2, none⟩ v2).setCell ⟨b, 3, none⟩ v3).setCell ⟨b, 4, none⟩ v4).setCell ⟨b, 5, none⟩ v5).setCell ⟨b, 6, none⟩ v6).setCell ⟨b, 7, none⟩ v7).setCell ⟨b, 8, none⟩ v8
theorem put9_block {W : World} {b T : Nat} {u0 u1 u2 u3 u4 u5 u6 u7 u8 : Value} {f : Nat × Nat} (h : W.heap[b]? = some (Obj.cells #[u0, u1, u2, u3, u4, u5, u6, u7, u8] T f)) (v0 v1 v2 v3 v4 v5 v6 v7 v8 : Value) :
    (put9 W b v0 v1 v2 v3 v4 v5 v6 v7 v8).heap[b]? = some (Obj.cells #[v0, v1, v2, v3, v4, v5, v6, v7, v8] T f) := by
  have h0 := block_setCell (i := 0) (show _ = some (Obj.cells _ _ _) from h) v0
  simp only [List.setIfInBounds_toArray, List.set_cons_succ, List.set_cons_zero] at h0
  have h1 := block_setCell (i := 1) (show _ = some (Obj.cells _ _ _) from h0) v1
  simp only [List.setIfInBounds_toArray, List.set_cons_succ, List.set_cons_zero] at h1
  have h2 := block_setCell (i := 2) (show _ = some (Obj.cells _ _ _) from h1) v2
  simp only [List.setIfInBounds_toArray, List.set_cons_succ, List.set_cons_zero] at h2
  have h3 := block_setCell (i := 3) (show _ = some (Obj.cells _ _ _) from h2) v3
  simp only [List.setIfInBounds_toArray, List.set_cons_succ, List.set_cons_zero] at h3
  have h4 := block_setCell (i := 4) (show _ = some (Obj.cells _ _ _) from h3) v4
  simp only [List.setIfInBounds_toArray, List.set_cons_succ, List.set_cons_zero] at h4
  have h5 := block_setCell (i := 5) (show _ = some (Obj.cells _ _ _) from h4) v5
  simp only [List.setIfInBounds_toArray, List.set_cons_succ, List.set_cons_zero] at h5
  have h6 := block_setCell (i := 6) (show _ = some (Obj.cells _ _ _) from h5) v6
  simp only [List.setIfInBounds_toArray, List.set_cons_succ, List.set_cons_zero] at h6
  have h7 := block_setCell (i := 7) (show _ = some (Obj.cells _ _ _) from h6) v7
  simp only [List.setIfInBounds_toArray, List.set_cons_succ, List.set_cons_zero] at h7
  have h8 := block_setCell (i := 8) (show _ = some (Obj.cells _ _ _) from h7) v8
  simp only [List.setIfInBounds_toArray, List.set_cons_succ, List.set_cons_zero] at h8
  unfold put9
  exact h8
theorem put9_mod (W : World) (b : Nat) (v0 v1 v2 v3 v4 v5 v6 v7 v8 : Value) : Mod [b] W (put9 W b v0 v1 v2 v3 v4 v5 v6 v7 v8) := by
  have h0 := (Mod.refl [b] W).setCell (p := ⟨b, 0, none⟩) (.inl (by simp)) v0
  have h1 := h0.setCell (p := ⟨b, 1, none⟩) (.inl (by simp)) v1
  have h2 := h1.setCell (p := ⟨b, 2, none⟩) (.inl (by simp)) v2
  have h3 := h2.setCell (p := ⟨b, 3, none⟩) (.inl (by simp)) v3
  have h4 := h3.setCell (p := ⟨b, 4, none⟩) (.inl (by simp)) v4
  have h5 := h4.setCell (p := ⟨b, 5, none⟩) (.inl (by simp)) v5
  have h6 := h5.setCell (p := ⟨b, 6, none⟩) (.inl (by simp)) v6
  have h7 := h6.setCell (p := ⟨b, 7, none⟩) (.inl (by simp)) v7
  have h8 := h7.setCell (p := ⟨b, 8, none⟩) (.inl (by simp)) v8
  unfold put9
  exact h8
end Tr
end Go.Proofs.YtoeeddfinmfnoaaDoor
