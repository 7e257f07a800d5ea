import Derived.Test.YtoeeddfinmfnoaaDoorQTreePure
import Derived.Test.YtoeeddfinmfnoaaDoorQBrkPure
import Derived.Test.YtoeeddfinmfnoaaDoorQSetsIs
import Derived.Lib.Join
/- Plain law of chapter 07: the text of a tree. No program. -/
namespace Go.Proofs.YtoeeddfinmfnoaaDoor
namespace Kt
end Kt
namespace St
end St
namespace Sp
end Sp
namespace Bk
end Bk
open Go Go.RowKit Kt St Sp Bk
namespace Tr
mutual
/-- How many nodes. -/
def sz : Nd → Nat
  | .mk _ _ _ _ _ _ _ ks => 1 + szs ks
def szs : List Nd → Nat
  | [] => 0
  | n :: r => sz n + szs r
end
mutual
/-- Each set's words are Go's. -/
def wd : Nd → Prop
  | .mk _ s _ _ _ _ _ ks => IsSet s (Mk.has s) ∧ wds ks
def wds : List Nd → Prop
  | [] => True
  | n :: r => wd n ∧ wds r
end
theorem szs_mem : ∀ {ks : List Nd} {n : Nd}, n ∈ ks → sz n ≤ szs ks
  | m :: r, n, hn => by
    rcases List.mem_cons.1 hn with rfl | hn
    · simp [szs]
    · have := szs_mem hn; simp [szs]; omega
theorem szs_len : ∀ (ks : List Nd), ks.length ≤ szs ks
  | [] => by simp [szs]
  | n :: r => by
    have := szs_len r
    have : 1 ≤ sz n := by cases n; simp [sz]
    simp [szs]; omega
/-! ### Where the walk comes to all -/
mutual
theorem full_size : ∀ (lv : Nat) (n : Nd), (∀ x ∈ full lv n, x.2 ≤ 24) → (full lv n).length = sz n
  | lv, .mk k s m x t a c ks, h => by
    have h0 : ¬ 24 < lv := by have := h (.mk k s m x t a c ks, lv) (by simp [full]); simp at this; omega
    simp only [full, if_neg h0, sz, List.length_cons] at h ⊢
    rw [fulls_size (lv + 1) ks (fun y hy => h y (by simp [hy]))]
    omega
theorem fulls_size : ∀ (lv : Nat) (ks : List Nd), (∀ x ∈ fulls lv ks, x.2 ≤ 24) → (fulls lv ks).length = szs ks
  | _, [], _ => rfl
  | lv, n :: r, h => by
    simp only [fulls, szs, List.length_append]
    rw [full_size lv n (fun y hy => h y (by simp [fulls, hy])), fulls_size lv r (fun y hy => h y (by simp [fulls, hy]))]
end
theorem rgt_full {n : Nd} (h : rgt n = true) : walk n = full 1 n ∧ (∀ x ∈ full 1 n, x.2 ≤ 24 ∧ one x.1 = true) := by
  simp only [rgt, Bool.and_eq_true, decide_eq_true_eq] at h
  have hw : walk n = full 1 n := by
    have h1 := h.1
    simp only [walk, List.length_take] at h1
    exact List.take_of_length_le (by omega)
  refine ⟨hw, fun x hx => ?_⟩
  have := List.all_eq_true.1 h.2 x (by rw [hw]; exact hx)
  simpa using this
theorem rgt_sz {n : Nd} (h : rgt n = true) : sz n ≤ 600 := by
  have h1 := (rgt_full h)
  rw [← full_size 1 n (fun x hx => (h1.2 x hx).1), ← h1.1]
  simp only [rgt, Bool.and_eq_true, decide_eq_true_eq] at h
  exact h.1
/-! ### How long texts are -/
end Tr
end Go.Proofs.YtoeeddfinmfnoaaDoor

/- Plain law of chapter 07: trees but for the places of their rows. No program. -/
namespace Go.Proofs.YtoeeddfinmfnoaaDoor
open Go Go.RowKit Kt St Sp Bk
namespace Tr
mutual
/-- A tree without its places. -/
def er : Nd → Nd
  | .mk k s mn mx t _ _ ks => .mk k s mn mx t none 0 (ers ks)
def ers : List Nd → List Nd
  | [] => []
  | n :: r => er n :: ers r
end
theorem ers_map : ∀ ks : List Nd, ers ks = ks.map er
  | [] => rfl
  | n :: r => by rw [ers, ers_map r]; rfl
theorem ers_len (ks : List Nd) : (ers ks).length = ks.length := by rw [ers_map, List.length_map]
theorem er_kind (n : Nd) : (er n).kind = n.kind := by cases n; rfl
theorem er_one (n : Nd) : one (er n) = one n := by
  cases n
  simp only [er, one, bare, Nd.kind, Nd.set, Nd.mn, Nd.mx, Nd.text, Nd.kids, ers_len]
  rfl
def erx (x : Nd × Nat) : Nd × Nat := (er x.1, x.2)
mutual
theorem er_full : ∀ (lv : Nat) (n : Nd), full lv (er n) = (full lv n).map erx
  | lv, .mk k s mn mx t a c ks => by
    simp only [er, full, List.map_cons, erx]
    split
    · rfl
    · rw [er_fulls (lv + 1) ks]
theorem er_fulls : ∀ (lv : Nat) (ks : List Nd), fulls lv (ers ks) = (fulls lv ks).map erx
  | _, [] => rfl
  | lv, n :: r => by rw [ers, fulls, fulls, er_full lv n, er_fulls lv r, List.map_append]
end
theorem er_walk (n : Nd) : walk (er n) = (walk n).map erx := by rw [walk, er_full, walk, List.map_take]
theorem er_rgt (n : Nd) : rgt (er n) = rgt n := by
  unfold rgt
  rw [er_walk, List.length_map, List.all_map]
  congr 2
  funext x
  simp only [erx, er_one, Function.comp]
  rfl
theorem deep_map (l : List (Nd × Nat)) : deep (l.map erx) = deep l := by
  unfold deep
  rw [List.foldl_map]
  rfl
theorem er_text (n : Nd) : (er n).text = n.text := by cases n; rfl
mutual
theorem er_sz : ∀ (n : Nd), sz (er n) = sz n
  | .mk k s mn mx t a c ks => by simp only [er, sz, er_szs ks]
theorem er_szs : ∀ (ks : List Nd), szs (ers ks) = szs ks
  | [] => rfl
  | n :: r => by simp only [ers, szs, er_sz n, er_szs r]
end
/-- What a step of the walk tells. -/
def st (x : Nd × Nat) : Int × List Nat × Int × Int × List UInt8 × Nat × Nat := (x.1.kind, x.1.set, x.1.mn, x.1.mx, x.1.text, x.2, x.1.kids.length)
theorem st_er (x : Nd × Nat) : st (erx x) = st x := by
  obtain ⟨n, lv⟩ := x
  cases n
  simp [st, erx, er, Nd.kind, Nd.set, Nd.mn, Nd.mx, Nd.text, Nd.kids, ers_len]
mutual
/-- A walk tells its tree. -/
theorem full_inj : ∀ (lv : Nat) (a b : Nd) (r q : List (Int × List Nat × Int × Int × List UInt8 × Nat × Nat)), (∀ x ∈ full lv a, x.2 ≤ 24) → (∀ x ∈ full lv b, x.2 ≤ 24) → (full lv a).map st ++ r = (full lv b).map st ++ q → er a = er b ∧ r = q
  | lv, .mk k s mn mx t a c ks, .mk k' s' mn' mx' t' a' c' ks', r, q, h1, h2, h => by
    have h0 : ¬ 24 < lv := by have := h1 (.mk k s mn mx t a c ks, lv) (by simp [full]); simp at this; omega
    simp only [full, if_neg h0, List.map_cons, List.cons_append, List.cons.injEq] at h h1 h2
    obtain ⟨h3, h4⟩ := h
    simp only [st, Nd.kind, Nd.set, Nd.mn, Nd.mx, Nd.text, Nd.kids, Prod.mk.injEq] at h3
    obtain ⟨rfl, rfl, rfl, rfl, rfl, _, hl⟩ := h3
    obtain ⟨h5, h6⟩ := fulls_inj (lv + 1) ks ks' r q hl (fun y hy => h1 y (by simp [hy])) (fun y hy => h2 y (by simp [hy])) h4
    exact ⟨by simp only [er, h5], h6⟩
theorem fulls_inj : ∀ (lv : Nat) (a b : List Nd) (r q : List (Int × List Nat × Int × Int × List UInt8 × Nat × Nat)), a.length = b.length → (∀ x ∈ fulls lv a, x.2 ≤ 24) → (∀ x ∈ fulls lv b, x.2 ≤ 24) → (fulls lv a).map st ++ r = (fulls lv b).map st ++ q → ers a = ers b ∧ r = q
  | _, [], [], r, q, _, _, _, h => by simpa [fulls, ers] using h
  | _, [], _ :: _, _, _, hl, _, _, _ => by simp at hl
  | _, _ :: _, [], _, _, hl, _, _, _ => by simp at hl
  | lv, n :: u, m :: v, r, q, hl, h1, h2, h => by
    simp only [fulls, List.map_append, List.append_assoc] at h
    obtain ⟨h3, h4⟩ := full_inj lv n m _ _ (fun y hy => h1 y (by simp [fulls, hy])) (fun y hy => h2 y (by simp [fulls, hy])) h
    obtain ⟨h5, h6⟩ := fulls_inj lv u v r q (by simpa using hl) (fun y hy => h1 y (by simp [fulls, hy])) (fun y hy => h2 y (by simp [fulls, hy])) h4
    exact ⟨by simp only [ers, h3, h5], h6⟩
end
/-- Two right trees are the same if their walks tell the same. -/
theorem same_iff {a b : Nd} (ha : rgt a = true) (hb : rgt b = true) : (walk a).map st = (walk b).map st ↔ er a = er b := by
  obtain ⟨wa, ga⟩ := rgt_full ha
  obtain ⟨wb, gb⟩ := rgt_full hb
  rw [wa, wb]
  constructor
  · intro h
    exact (full_inj 1 a b [] [] (fun x hx => (ga x hx).1) (fun x hx => (gb x hx).1) (by rw [h])).1
  · intro h
    have h1 : ∀ n : Nd, (full 1 n).map st = (full 1 (er n)).map st := fun n => by
      rw [er_full, List.map_map]
      exact List.map_congr_left fun x _ => (st_er x).symm
    rw [h1 a, h1 b, h]
end Tr
end Go.Proofs.YtoeeddfinmfnoaaDoor

/- Plain law of chapter 08: a tree without Cats of one kid. No program. -/
namespace Go.Proofs.YtoeeddfinmfnoaaDoor
open Go Go.RowKit Kt Sp St Bk
open Tr (Nd)
namespace Rx
mutual
/-- A right tree without Cats of one kid. -/
def simp : Nd → Nd
  | .mk k s mn mx t _ _ ks => if k = 2 ∧ ks.length = 1 then (simps ks).headD default else .mk k s mn mx t none 0 (simps ks)
def simps : List Nd → List Nd
  | [] => []
  | n :: r => simp n :: simps r
end
mutual
/-- Is there a Cat of one kid? -/
def lone : Nd → Bool
  | .mk k _ _ _ _ _ _ ks => if k = 2 ∧ ks.length = 1 then true else lones ks
def lones : List Nd → Bool
  | [] => false
  | n :: r => lone n || lones r
end
theorem simps_map : ∀ ks : List Nd, simps ks = ks.map simp
  | [] => rfl
  | n :: r => by rw [simps, simps_map r]; rfl
theorem simps_len (ks : List Nd) : (simps ks).length = ks.length := by rw [simps_map, List.length_map]
theorem lones_any : ∀ ks : List Nd, lones ks = ks.any lone
  | [] => rfl
  | n :: r => by rw [lones, lones_any r]; rfl
mutual
theorem simp_er : ∀ n : Nd, simp (Tr.er n) = simp n
  | .mk k s mn mx t a c ks => by simp only [Tr.er, simp, Tr.ers_len, simps_er ks]
theorem simps_er : ∀ ks : List Nd, simps (Tr.ers ks) = simps ks
  | [] => rfl
  | n :: r => by simp only [Tr.ers, simps, simp_er n, simps_er r]
end
theorem one_kid {ks : List Nd} (h : ks.length = 1) : ∃ x, ks = [x] := List.length_eq_one_iff.1 h
mutual
theorem simp_plain : ∀ n : Nd, lone n = false → simp n = Tr.er n
  | .mk k s mn mx t a c ks, h => by
    unfold lone at h
    split at h
    · cases h
    · next h1 => simp only [simp, if_neg h1, Tr.er, simps_plain ks h]
theorem simps_plain : ∀ ks : List Nd, lones ks = false → simps ks = Tr.ers ks
  | [], _ => rfl
  | n :: r, h => by
    simp only [lones, Bool.or_eq_false_iff] at h
    simp only [simps, Tr.ers, simp_plain n h.1, simps_plain r h.2]
end
mutual
theorem simp_sz : ∀ n : Nd, Tr.sz (simp n) ≤ Tr.sz n ∧ (lone n = true → Tr.sz (simp n) < Tr.sz n)
  | .mk k s mn mx t a c ks => by
    have hk := simps_sz ks
    unfold simp lone
    split
    · next h =>
      obtain ⟨x, rfl⟩ := one_kid h.2
      simp only [simps, Tr.szs, Tr.sz, List.headD_cons] at hk ⊢
      exact ⟨by omega, fun _ => by omega⟩
    · simp only [Tr.sz]
      exact ⟨by omega, fun h => by have := hk.2 h; omega⟩
theorem simps_sz : ∀ ks : List Nd, Tr.szs (simps ks) ≤ Tr.szs ks ∧ (lones ks = true → Tr.szs (simps ks) < Tr.szs ks)
  | [] => ⟨Nat.le_refl _, fun h => by cases h⟩
  | n :: r => by
    have h1 := simp_sz n
    have h2 := simps_sz r
    simp only [simps, Tr.szs, lones, Bool.or_eq_true]
    refine ⟨by omega, fun h => ?_⟩
    rcases h with h | h
    · have := h1.2 h; omega
    · have := h2.2 h; omega
end
/-- A tree is its own simple one if no Cat of one kid is in it. -/
theorem simp_iff (n : Nd) : simp n = Tr.er n ↔ lone n = false := by
  refine ⟨fun h => ?_, simp_plain n⟩
  cases hl : lone n with
  | false => rfl
  | true =>
    have := (simp_sz n).2 hl
    rw [h, Tr.er_sz] at this
    omega
theorem one_same {k : Int} {s : List Nat} {mn mx : Int} {t : List UInt8} {a a' : Option Addr} {c c' : Nat} {ks ks' : List Nd} (h : ks'.length = ks.length) : Tr.one (.mk k s mn mx t a' c' ks') = Tr.one (.mk k s mn mx t a c ks) := by
  simp only [Tr.one, Tr.bare, Nd.kind, Nd.set, Nd.mn, Nd.mx, Nd.text, Nd.kids, h]
  rfl
mutual
theorem simp_full : ∀ (n : Nd) (lv lv' : Nat), lv' ≤ lv → (∀ x ∈ Tr.full lv n, x.2 ≤ 24 ∧ Tr.one x.1 = true) → (∀ x ∈ Tr.full lv' (simp n), x.2 ≤ 24 ∧ Tr.one x.1 = true) ∧ (Tr.full lv' (simp n)).length ≤ (Tr.full lv n).length
  | .mk k s mn mx t a c ks, lv, lv', hl, h => by
    have h0 : lv ≤ 24 := (h _ (by rw [Tr.full_eq]; exact List.mem_cons_self ..)).1
    have h1 : ¬ 24 < lv := by omega
    have h2 : ¬ 24 < lv' := by omega
    have ho := (h _ (by rw [Tr.full_eq]; exact List.mem_cons_self ..)).2
    have hk := fun q (hq : q ≤ lv + 1) => simps_full ks (lv + 1) q hq (fun x hx => h x (by simp only [Tr.full, if_neg h1]; exact List.mem_cons_of_mem _ hx))
    unfold simp
    split
    · next hh =>
      obtain ⟨x, rfl⟩ := one_kid hh.2
      have hk' := hk lv' (by omega)
      simp only [simps, Tr.fulls, List.append_nil, List.headD_cons] at hk' ⊢
      refine ⟨hk'.1, ?_⟩
      simp only [Tr.full, if_neg h1, Tr.fulls, List.append_nil, List.length_cons]
      omega
    · have hk' := hk (lv' + 1) (by omega)
      simp only [Tr.full, if_neg h1, if_neg h2, List.length_cons]
      refine ⟨fun x hx => ?_, by omega⟩
      rcases List.mem_cons.1 hx with rfl | hx
      · exact ⟨by omega, by rw [one_same (simps_len ks)]; exact ho⟩
      · exact hk'.1 x hx
theorem simps_full : ∀ (ks : List Nd) (lv lv' : Nat), lv' ≤ lv → (∀ x ∈ Tr.fulls lv ks, x.2 ≤ 24 ∧ Tr.one x.1 = true) → (∀ x ∈ Tr.fulls lv' (simps ks), x.2 ≤ 24 ∧ Tr.one x.1 = true) ∧ (Tr.fulls lv' (simps ks)).length ≤ (Tr.fulls lv ks).length
  | [], _, _, _, _ => ⟨fun x hx => (by cases hx), Nat.le_refl _⟩
  | n :: r, lv, lv', hl, h => by
    have h1 := simp_full n lv lv' hl (fun x hx => h x (by simp only [Tr.fulls, List.mem_append]; exact .inl hx))
    have h2 := simps_full r lv lv' hl (fun x hx => h x (by simp only [Tr.fulls, List.mem_append]; exact .inr hx))
    simp only [simps, Tr.fulls, List.length_append]
    refine ⟨fun x hx => ?_, by omega⟩
    rcases List.mem_append.1 hx with hx | hx
    · exact h1.1 x hx
    · exact h2.1 x hx
end
theorem rgt_of_full {n : Nd} (h : ∀ x ∈ Tr.full 1 n, x.2 ≤ 24 ∧ Tr.one x.1 = true) (hc : (Tr.full 1 n).length ≤ 600) : Tr.rgt n = true := by
  unfold Tr.rgt Tr.walk
  rw [decide_eq_true (by rw [List.length_take]; omega), Bool.true_and, List.all_eq_true]
  intro x hx
  obtain ⟨h1, h2⟩ := h x (List.mem_of_mem_take hx)
  rw [h2, Bool.and_true, decide_eq_true_eq]
  exact h1
/-- Of a right tree it is right. -/
theorem rgt_simp {n : Nd} (h : Tr.rgt n = true) : Tr.rgt (simp n) = true := by
  obtain ⟨h1, h2⟩ := Tr.rgt_full h
  have h3 := simp_full n 1 1 (Nat.le_refl _) (fun x hx => ⟨(h2 x hx).1, (h2 x hx).2⟩)
  refine rgt_of_full h3.1 (Nat.le_trans h3.2 ?_)
  rw [← h1]
  unfold Tr.rgt at h
  simp only [Bool.and_eq_true, decide_eq_true_eq] at h
  exact h.1
end Rx
end Go.Proofs.YtoeeddfinmfnoaaDoor

/- Trees in memory: where their rows lie; what keeps them. No program. -/
namespace Go.Proofs.YtoeeddfinmfnoaaDoor
open Go Go.RowKit Kt St Sp Bk
namespace Tr
mutual
/-- Each of its rows lies in a block of P. -/
def Bl (P : Nat → Prop) : Nd → Prop
  | .mk _ _ _ _ _ a _ ks => (∀ p, a = some p → ks ≠ [] → P p.block) ∧ Bls P ks
def Bls (P : Nat → Prop) : List Nd → Prop
  | [] => True
  | n :: r => Bl P n ∧ Bls P r
end
theorem Bls.mem {P : Nat → Prop} : ∀ {ks : List Nd}, Bls P ks → ∀ n ∈ ks, Bl P n
  | _ :: _, h, n, hn => by
    rcases List.mem_cons.1 hn with rfl | hn
    · exact h.1
    · exact Bls.mem h.2 n hn
theorem Bls.of {P : Nat → Prop} : ∀ {ks : List Nd}, (∀ n ∈ ks, Bl P n) → Bls P ks
  | [], _ => trivial
  | _ :: _, h => ⟨h _ (by simp), Bls.of fun n hn => h n (by simp [hn])⟩
theorem IsAll.of {B : Nat} {W : World} : ∀ {ks : List Nd}, (∀ n ∈ ks, Is B W n) → IsAll B W ks
  | [], _ => trivial
  | _ :: _, h => ⟨h _ (by simp), IsAll.of fun n hn => h n (by simp [hn])⟩
theorem wds.of : ∀ {ks : List Nd}, (∀ n ∈ ks, wd n) → wds ks
  | [], _ => trivial
  | _ :: _, h => ⟨h _ (by simp), wds.of fun n hn => h n (by simp [hn])⟩
mutual
theorem Bl.mono {P Q : Nat → Prop} (hi : ∀ b, P b → Q b) : ∀ {n : Nd}, Bl P n → Bl Q n
  | .mk _ _ _ _ _ _ _ _, h => ⟨fun p hp hn => hi _ (h.1 p hp hn), Bls.mono hi h.2⟩
theorem Bls.mono {P Q : Nat → Prop} (hi : ∀ b, P b → Q b) : ∀ {ks : List Nd}, Bls P ks → Bls Q ks
  | [], _ => trivial
  | _ :: _, h => ⟨Bl.mono hi h.1, Bls.mono hi h.2⟩
end
mutual
theorem Bl.both {P Q R : Nat → Prop} : ∀ {n : Nd}, Bl P n → Bl Q n → (∀ q, P q → Q q → R q) → Bl R n
  | .mk _ _ _ _ _ _ _ _, h1, h2, hi => ⟨fun p hp hn => hi _ (h1.1 p hp hn) (h2.1 p hp hn), Bls.both h1.2 h2.2 hi⟩
theorem Bls.both {P Q R : Nat → Prop} : ∀ {ks : List Nd}, Bls P ks → Bls Q ks → (∀ q, P q → Q q → R q) → Bls R ks
  | [], _, _, _ => trivial
  | _ :: _, h1, h2, hi => ⟨Bl.both h1.1 h2.1 hi, Bls.both h1.2 h2.2 hi⟩
end
mutual
theorem Bl.top : ∀ (n : Nd), Bl (fun _ => True) n
  | .mk _ _ _ _ _ _ _ ks => ⟨fun _ _ _ => trivial, Bls.top ks⟩
theorem Bls.top : ∀ (ks : List Nd), Bls (fun _ => True) ks
  | [] => trivial
  | n :: r => ⟨Bl.top n, Bls.top r⟩
end
theorem cells_ne (n : Nd) : cells n ≠ [] := by simp [cells]
theorem flat_ne {ks : List Nd} (h : ks ≠ []) : ks.flatMap cells ≠ [] := by
  cases ks with
  | nil => exact absurd rfl h
  | cons n r => rw [List.flatMap_cons]; simp [cells_ne]
mutual
theorem Is.bl {B : Nat} {W : World} : ∀ {n : Nd}, Is B W n → Bl (· < B) n
  | .mk _ _ _ _ _ _ _ _, ⟨_, _, _, _, _, h6, h7⟩ => ⟨fun p hp hn => h6 p hp (flat_ne hn), IsAll.bl h7⟩
theorem IsAll.bl {B : Nat} {W : World} : ∀ {ks : List Nd}, IsAll B W ks → Bls (· < B) ks
  | [], _ => trivial
  | _ :: _, h => ⟨Is.bl h.1, IsAll.bl h.2⟩
end
mutual
theorem Is.mono {B B' : Nat} {W : World} (hB : B ≤ B') : ∀ {n : Nd}, Is B W n → Is B' W n
  | .mk _ _ _ _ _ _ _ _, ⟨h1, h2, h3, h4, h5, h6, h7⟩ => ⟨h1, h2, h3, h4, h5, fun p hp hn => Nat.lt_of_lt_of_le (h6 p hp hn) hB, IsAll.mono hB h7⟩
theorem IsAll.mono {B B' : Nat} {W : World} (hB : B ≤ B') : ∀ {ks : List Nd}, IsAll B W ks → IsAll B' W ks
  | [], _ => trivial
  | _ :: _, h => ⟨Is.mono hB h.1, IsAll.mono hB h.2⟩
end
mutual
theorem Is.modB {B : Nat} {S : List Nat} {W W' : World} (hM : Mod S W W') : ∀ {n : Nd}, Is B W n → Bl (· ∉ S) n → Is B W' n
  | .mk _ _ _ _ _ a _ ks, ⟨h1, h2, h3, h4, h5, h6, h7⟩, hb => ⟨h1, h2, h3, h4, by
      by_cases hk : ks = []
      · subst hk; exact Rd.nil _ _
      · exact Rd.mod h5 hM (fun p hp => hb.1 p hp hk), h6, IsAll.modB hM h7 hb.2⟩
theorem IsAll.modB {B : Nat} {S : List Nat} {W W' : World} (hM : Mod S W W') : ∀ {ks : List Nd}, IsAll B W ks → Bls (· ∉ S) ks → IsAll B W' ks
  | [], _, _ => trivial
  | _ :: _, h, hb => ⟨Is.modB hM h.1 hb.1, IsAll.modB hM h.2 hb.2⟩
end
theorem cells_one (n : Nd) : ∀ u ∈ cells n, u.oneCell' = true := by
  intro u hu
  simp only [cells, w64, List.mem_cons, List.mem_append, List.mem_map, List.not_mem_nil, or_false] at hu
  rcases hu with rfl | ⟨x, _, rfl⟩ | rfl | rfl | rfl | rfl <;> rfl
theorem flat_one (ks : List Nd) : ∀ u ∈ ks.flatMap cells, u.oneCell' = true := by
  intro u hu
  obtain ⟨n, _, hn⟩ := List.mem_flatMap.1 hu
  exact cells_one n u hn
theorem flat_len (ks : List Nd) (h : ∀ n ∈ ks, n.set.length = 4) : (ks.flatMap cells).length = ks.length * 9 := by
  induction ks with
  | nil => rfl
  | cons n r ih =>
    rw [List.flatMap_cons, List.length_append, cells_len n (h n (by simp)), ih (fun m hm => h m (by simp [hm])), List.length_cons]
    omega
/-- A kid's cells. -/
theorem kid_at {W : World} {a : Option Addr} {ks : List Nd} (hr : Rd W a (ks.flatMap cells)) (hs : ∀ n ∈ ks, n.set.length = 4) (j : Nat) (hj : j < ks.length) :
    ∃ b off, a = some ⟨b, off, none⟩ ∧ ∀ i x, (cells ks[j])[i]? = some x → i < 9 → W.cell? ⟨b, off + (j * 9 + i), none⟩ = some x :=
  Rd.struct 9 hr (fun z hz => cells_len z (hs z hz)) j hj (by decide)
end Tr
end Go.Proofs.YtoeeddfinmfnoaaDoor

/- Plain law of chapter 07: a chain of Cats, and a Cat of many kids; a node's block written over. -/
namespace Go.Proofs.YtoeeddfinmfnoaaDoor
open Go Go.RowKit Kt St Sp Bk
namespace Tr
/-- A set's node. -/
def leaf (s : List Nat) : Nd := .mk 1 s 0 0 [] none 0 []
/-- A Cat of many. -/
def wide (s : List Nat) (m : Nat) : Nd := .mk 2 [0, 0, 0, 0] 0 0 [] none 0 (List.replicate m (leaf s))
theorem text_walk {n m : Nd} (h : er n = er m) (k : Nat) (hm : ∀ x ∈ walk m, x.1.text.length ≤ k) : ∀ x ∈ walk n, x.1.text.length ≤ k := by
  have h1 : (walk n).map (fun x => x.1.text) = (walk m).map (fun x => x.1.text) := by
    have h2 : ∀ q : Nd, (walk q).map (fun x => x.1.text) = (walk (er q)).map (fun x => x.1.text) := fun q => by
      rw [er_walk, List.map_map]
      exact List.map_congr_left fun x _ => (er_text x.1).symm
    rw [h2, h, ← h2]
  intro x hx
  have : x.1.text ∈ (walk m).map (fun x => x.1.text) := by rw [← h1]; exact List.mem_map_of_mem hx
  obtain ⟨y, hy, he⟩ := List.mem_map.1 this
  rw [← he]
  exact hm y hy
/-! ### A node's block written over -/
/-- A node's nine cells, stored one by one. -/
def put9 (W : World) (b : Nat) (v0 v1 v2 v3 v4 v5 v6 v7 v8 : Value) : World :=
  ((((((((W.setCell ⟨b, 0, none⟩ v0).setCell ⟨b, 1, none⟩ v1).setCell ⟨b, 2, none⟩ v2).setCell ⟨b, 3, none⟩ v3).setCell ⟨b, 4, none⟩ v4).setCell ⟨b, 5, none⟩ v5).setCell ⟨b, 6, none⟩ v6).setCell ⟨b, 7, none⟩ v7).setCell ⟨b, 8, none⟩ v8
theorem put9_block {W : World} {b T : Nat} {u0 u1 u2 u3 u4 u5 u6 u7 u8 : Value} {f : Nat × Nat} (h : W.heap[b]? = some (Obj.cells #[u0, u1, u2, u3, u4, u5, u6, u7, u8] T f)) (v0 v1 v2 v3 v4 v5 v6 v7 v8 : Value) :
    (put9 W b v0 v1 v2 v3 v4 v5 v6 v7 v8).heap[b]? = some (Obj.cells #[v0, v1, v2, v3, v4, v5, v6, v7, v8] T f) := by
  have h0 := block_setCell (i := 0) (show _ = some (Obj.cells _ _ _) from h) v0
  simp only [List.setIfInBounds_toArray, List.set_cons_succ, List.set_cons_zero] at h0
  have h1 := block_setCell (i := 1) (show _ = some (Obj.cells _ _ _) from h0) v1
  simp only [List.setIfInBounds_toArray, List.set_cons_succ, List.set_cons_zero] at h1
  have h2 := block_setCell (i := 2) (show _ = some (Obj.cells _ _ _) from h1) v2
  simp only [List.setIfInBounds_toArray, List.set_cons_succ, List.set_cons_zero] at h2
  have h3 := block_setCell (i := 3) (show _ = some (Obj.cells _ _ _) from h2) v3
  simp only [List.setIfInBounds_toArray, List.set_cons_succ, List.set_cons_zero] at h3
  have h4 := block_setCell (i := 4) (show _ = some (Obj.cells _ _ _) from h3) v4
  simp only [List.setIfInBounds_toArray, List.set_cons_succ, List.set_cons_zero] at h4
  have h5 := block_setCell (i := 5) (show _ = some (Obj.cells _ _ _) from h4) v5
  simp only [List.setIfInBounds_toArray, List.set_cons_succ, List.set_cons_zero] at h5
  have h6 := block_setCell (i := 6) (show _ = some (Obj.cells _ _ _) from h5) v6
  simp only [List.setIfInBounds_toArray, List.set_cons_succ, List.set_cons_zero] at h6
  have h7 := block_setCell (i := 7) (show _ = some (Obj.cells _ _ _) from h6) v7
  simp only [List.setIfInBounds_toArray, List.set_cons_succ, List.set_cons_zero] at h7
  have h8 := block_setCell (i := 8) (show _ = some (Obj.cells _ _ _) from h7) v8
  simp only [List.setIfInBounds_toArray, List.set_cons_succ, List.set_cons_zero] at h8
  unfold put9
  exact h8
theorem put9_mod (W : World) (b : Nat) (v0 v1 v2 v3 v4 v5 v6 v7 v8 : Value) : Mod [b] W (put9 W b v0 v1 v2 v3 v4 v5 v6 v7 v8) := by
  have h0 := (Mod.refl [b] W).setCell (p := ⟨b, 0, none⟩) (.inl (by simp)) v0
  have h1 := h0.setCell (p := ⟨b, 1, none⟩) (.inl (by simp)) v1
  have h2 := h1.setCell (p := ⟨b, 2, none⟩) (.inl (by simp)) v2
  have h3 := h2.setCell (p := ⟨b, 3, none⟩) (.inl (by simp)) v3
  have h4 := h3.setCell (p := ⟨b, 4, none⟩) (.inl (by simp)) v4
  have h5 := h4.setCell (p := ⟨b, 5, none⟩) (.inl (by simp)) v5
  have h6 := h5.setCell (p := ⟨b, 6, none⟩) (.inl (by simp)) v6
  have h7 := h6.setCell (p := ⟨b, 7, none⟩) (.inl (by simp)) v7
  have h8 := h7.setCell (p := ⟨b, 8, none⟩) (.inl (by simp)) v8
  unfold put9
  exact h8
end Tr
end Go.Proofs.YtoeeddfinmfnoaaDoor
