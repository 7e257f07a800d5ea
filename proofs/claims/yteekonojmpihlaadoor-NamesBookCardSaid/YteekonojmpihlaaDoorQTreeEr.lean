import Derived.Test.YteekonojmpihlaaDoorQTreePure
import Derived.Test.YteekonojmpihlaaDoorQBrkPure
import Derived.Test.YteekonojmpihlaaDoorQSetsIs
import Derived.Lib.Join
/- Plain law of chapter 07: the text of a tree. No program. -/
namespace Go.Proofs.YteekonojmpihlaaDoor
namespace Kt
end Kt
namespace St
end St
namespace Sp
end Sp
namespace Bk
end Bk
open Go Go.RowKit Kt St Sp Bk
namespace Tr
mutual
/-- How many nodes. -/
def sz : Nd → Nat
  | .mk _ _ _ _ _ _ _ ks => 1 + szs ks
def szs : List Nd → Nat
  | [] => 0
  | n :: r => sz n + szs r
end
mutual
/-- Each node by itself is right. -/
def good : Nd → Prop
  | .mk k s mn mx t a c ks => one (.mk k s mn mx t a c ks) = true ∧ goods ks
def goods : List Nd → Prop
  | [] => True
  | n :: r => good n ∧ goods r
end
mutual
/-- Each set's words are Go's. -/
def wd : Nd → Prop
  | .mk _ s _ _ _ _ _ ks => IsSet s (Mk.has s) ∧ wds ks
def wds : List Nd → Prop
  | [] => True
  | n :: r => wd n ∧ wds r
end
theorem goods_mem : ∀ {ks : List Nd}, goods ks → ∀ n ∈ ks, good n
  | _ :: _, h, n, hn => by
    rcases List.mem_cons.1 hn with rfl | hn
    · exact h.1
    · exact goods_mem h.2 n hn
theorem szs_mem : ∀ {ks : List Nd} {n : Nd}, n ∈ ks → sz n ≤ szs ks
  | m :: r, n, hn => by
    rcases List.mem_cons.1 hn with rfl | hn
    · simp [szs]
    · have := szs_mem hn; simp [szs]; omega
theorem szs_len : ∀ (ks : List Nd), ks.length ≤ szs ks
  | [] => by simp [szs]
  | n :: r => by
    have := szs_len r
    have : 1 ≤ sz n := by cases n; simp [sz]
    simp [szs]; omega
/-! ### Where the walk comes to all -/
mutual
theorem full_size : ∀ (lv : Nat) (n : Nd), (∀ x ∈ full lv n, x.2 ≤ 24) → (full lv n).length = sz n
  | lv, .mk k s m x t a c ks, h => by
    have h0 : ¬ 24 < lv := by have := h (.mk k s m x t a c ks, lv) (by simp [full]); simp at this; omega
    simp only [full, if_neg h0, sz, List.length_cons] at h ⊢
    rw [fulls_size (lv + 1) ks (fun y hy => h y (by simp [hy]))]
    omega
theorem fulls_size : ∀ (lv : Nat) (ks : List Nd), (∀ x ∈ fulls lv ks, x.2 ≤ 24) → (fulls lv ks).length = szs ks
  | _, [], _ => rfl
  | lv, n :: r, h => by
    simp only [fulls, szs, List.length_append]
    rw [full_size lv n (fun y hy => h y (by simp [fulls, hy])), fulls_size lv r (fun y hy => h y (by simp [fulls, hy]))]
end
mutual
theorem full_good : ∀ (lv : Nat) (n : Nd), (∀ x ∈ full lv n, x.2 ≤ 24 ∧ one x.1 = true) → good n
  | lv, .mk k s m x t a c ks, h => by
    have h1 := h (.mk k s m x t a c ks, lv) (by simp [full])
    have h0 : ¬ 24 < lv := by have := h1.1; simp at this; omega
    simp only [full, if_neg h0] at h
    exact ⟨h1.2, fulls_good (lv + 1) ks (fun y hy => h y (by simp [hy]))⟩
theorem fulls_good : ∀ (lv : Nat) (ks : List Nd), (∀ x ∈ fulls lv ks, x.2 ≤ 24 ∧ one x.1 = true) → goods ks
  | _, [], _ => trivial
  | lv, n :: r, h => ⟨full_good lv n (fun y hy => h y (by simp [fulls, hy])), fulls_good lv r (fun y hy => h y (by simp [fulls, hy]))⟩
end
theorem rgt_full {n : Nd} (h : rgt n = true) : walk n = full 1 n ∧ (∀ x ∈ full 1 n, x.2 ≤ 24 ∧ one x.1 = true) := by
  simp only [rgt, Bool.and_eq_true, decide_eq_true_eq] at h
  have hw : walk n = full 1 n := by
    have h1 := h.1
    simp only [walk, List.length_take] at h1
    exact List.take_of_length_le (by omega)
  refine ⟨hw, fun x hx => ?_⟩
  have := List.all_eq_true.1 h.2 x (by rw [hw]; exact hx)
  simpa using this
theorem rgt_good {n : Nd} (h : rgt n = true) : good n := full_good 1 n (rgt_full h).2
theorem rgt_sz {n : Nd} (h : rgt n = true) : sz n ≤ 600 := by
  have h1 := (rgt_full h)
  rw [← full_size 1 n (fun x hx => (h1.2 x hx).1), ← h1.1]
  simp only [rgt, Bool.and_eq_true, decide_eq_true_eq] at h
  exact h.1
/-! ### How long texts are -/
end Tr
end Go.Proofs.YteekonojmpihlaaDoor

/- Plain law of chapter 07: trees but for the places of their rows. No program. -/
namespace Go.Proofs.YteekonojmpihlaaDoor
open Go Go.RowKit Kt St Sp Bk
namespace Tr
mutual
/-- A tree without its places. -/
def er : Nd → Nd
  | .mk k s mn mx t _ _ ks => .mk k s mn mx t none 0 (ers ks)
def ers : List Nd → List Nd
  | [] => []
  | n :: r => er n :: ers r
end
theorem ers_map : ∀ ks : List Nd, ers ks = ks.map er
  | [] => rfl
  | n :: r => by rw [ers, ers_map r]; rfl
theorem ers_len (ks : List Nd) : (ers ks).length = ks.length := by rw [ers_map, List.length_map]
theorem er_one (n : Nd) : one (er n) = one n := by
  cases n
  simp only [er, one, bare, Nd.kind, Nd.set, Nd.mn, Nd.mx, Nd.text, Nd.kids, ers_len]
  rfl
def erx (x : Nd × Nat) : Nd × Nat := (er x.1, x.2)
mutual
theorem er_full : ∀ (lv : Nat) (n : Nd), full lv (er n) = (full lv n).map erx
  | lv, .mk k s mn mx t a c ks => by
    simp only [er, full, List.map_cons, erx]
    split
    · rfl
    · rw [er_fulls (lv + 1) ks]
theorem er_fulls : ∀ (lv : Nat) (ks : List Nd), fulls lv (ers ks) = (fulls lv ks).map erx
  | _, [] => rfl
  | lv, n :: r => by rw [ers, fulls, fulls, er_full lv n, er_fulls lv r, List.map_append]
end
theorem er_walk (n : Nd) : walk (er n) = (walk n).map erx := by rw [walk, er_full, walk, List.map_take]
theorem er_rgt (n : Nd) : rgt (er n) = rgt n := by
  unfold rgt
  rw [er_walk, List.length_map, List.all_map]
  congr 2
  funext x
  simp only [erx, er_one, Function.comp]
  rfl
theorem er_text (n : Nd) : (er n).text = n.text := by cases n; rfl
/-- What a step of the walk tells. -/
def st (x : Nd × Nat) : Int × List Nat × Int × Int × List UInt8 × Nat × Nat := (x.1.kind, x.1.set, x.1.mn, x.1.mx, x.1.text, x.2, x.1.kids.length)
theorem st_er (x : Nd × Nat) : st (erx x) = st x := by
  obtain ⟨n, lv⟩ := x
  cases n
  simp [st, erx, er, Nd.kind, Nd.set, Nd.mn, Nd.mx, Nd.text, Nd.kids, ers_len]
mutual
/-- A walk tells its tree. -/
theorem full_inj : ∀ (lv : Nat) (a b : Nd) (r q : List (Int × List Nat × Int × Int × List UInt8 × Nat × Nat)), (∀ x ∈ full lv a, x.2 ≤ 24) → (∀ x ∈ full lv b, x.2 ≤ 24) → (full lv a).map st ++ r = (full lv b).map st ++ q → er a = er b ∧ r = q
  | lv, .mk k s mn mx t a c ks, .mk k' s' mn' mx' t' a' c' ks', r, q, h1, h2, h => by
    have h0 : ¬ 24 < lv := by have := h1 (.mk k s mn mx t a c ks, lv) (by simp [full]); simp at this; omega
    simp only [full, if_neg h0, List.map_cons, List.cons_append, List.cons.injEq] at h h1 h2
    obtain ⟨h3, h4⟩ := h
    simp only [st, Nd.kind, Nd.set, Nd.mn, Nd.mx, Nd.text, Nd.kids, Prod.mk.injEq] at h3
    obtain ⟨rfl, rfl, rfl, rfl, rfl, _, hl⟩ := h3
    obtain ⟨h5, h6⟩ := fulls_inj (lv + 1) ks ks' r q hl (fun y hy => h1 y (by simp [hy])) (fun y hy => h2 y (by simp [hy])) h4
    exact ⟨by simp only [er, h5], h6⟩
theorem fulls_inj : ∀ (lv : Nat) (a b : List Nd) (r q : List (Int × List Nat × Int × Int × List UInt8 × Nat × Nat)), a.length = b.length → (∀ x ∈ fulls lv a, x.2 ≤ 24) → (∀ x ∈ fulls lv b, x.2 ≤ 24) → (fulls lv a).map st ++ r = (fulls lv b).map st ++ q → ers a = ers b ∧ r = q
  | _, [], [], r, q, _, _, _, h => by simpa [fulls, ers] using h
  | _, [], _ :: _, _, _, hl, _, _, _ => by simp at hl
  | _, _ :: _, [], _, _, hl, _, _, _ => by simp at hl
  | lv, n :: u, m :: v, r, q, hl, h1, h2, h => by
    simp only [fulls, List.map_append, List.append_assoc] at h
    obtain ⟨h3, h4⟩ := full_inj lv n m _ _ (fun y hy => h1 y (by simp [fulls, hy])) (fun y hy => h2 y (by simp [fulls, hy])) h
    obtain ⟨h5, h6⟩ := fulls_inj lv u v r q (by simpa using hl) (fun y hy => h1 y (by simp [fulls, hy])) (fun y hy => h2 y (by simp [fulls, hy])) h4
    exact ⟨by simp only [ers, h3, h5], h6⟩
end
/-- Two right trees are the same if their walks tell the same. -/
theorem same_iff {a b : Nd} (ha : rgt a = true) (hb : rgt b = true) : (walk a).map st = (walk b).map st ↔ er a = er b := by
  obtain ⟨wa, ga⟩ := rgt_full ha
  obtain ⟨wb, gb⟩ := rgt_full hb
  rw [wa, wb]
  constructor
  · intro h
    exact (full_inj 1 a b [] [] (fun x hx => (ga x hx).1) (fun x hx => (gb x hx).1) (by rw [h])).1
  · intro h
    have h1 : ∀ n : Nd, (full 1 n).map st = (full 1 (er n)).map st := fun n => by
      rw [er_full, List.map_map]
      exact List.map_congr_left fun x _ => (st_er x).symm
    rw [h1 a, h1 b, h]
end Tr
end Go.Proofs.YteekonojmpihlaaDoor
