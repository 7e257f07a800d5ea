import Derived.Test.YteekonojmpihlaaDoorQTreeBnd
import Derived.Test.YteekonojmpihlaaDoorQMapG
import Derived.Test.YteekonojmpihlaaDoorQBrkPure
/- Plain law of chapter 11: books of names, a tree spread. No program. -/
namespace Go.Proofs.YteekonojmpihlaaDoor
namespace Kt
end Kt
namespace St
end St
namespace Sp
end Sp
namespace Tr
end Tr
open Go Go.RowKit Kt St Sp Tr
namespace Bo
abbrev Bks := List (List UInt8 × Nd)
def nil0 : Nd := .mk 0 [0, 0, 0, 0] 0 0 [] none 0 []
/-- A book's trees without their places. -/
def erB (l : Bks) : Bks := l.map fun p => (p.1, er p.2)
theorem lkS_er (l : Bks) (s : List UInt8) : lkS (erB l) s = (lkS l s).map er := by
  induction l with
  | nil => rfl
  | cons p r ih =>
    simp only [lkS, erB, List.map_cons, List.find?_cons] at ih ⊢
    by_cases h : p.1 = s
    · simp [h]
    · simp only [h, decide_false]
      exact ih
/-- Adding a name: the error's number. -/
def addE (B : Bks) (s : List UInt8) (n : Nd) : Int :=
  if Ac.nm s = false then 5 else if rgt n = false then 4 else if lkS B s ≠ none then 6 else if 32 ≤ B.length then 13 else 0
def add (B : Bks) (s : List UInt8) (n : Nd) : Bks := if addE B s n = 0 then B ++ [(s, er n)] else B
/-- The kids, one behind the other; nothing more behind an error. -/
def sprs (F : Nat → Nd → Int × Nat × Nd) (q : Nat) (ks : List Nd) : Int × Nat × List Nd :=
  ks.foldl (fun s k => if s.1 = 0 then ((F s.2.1 k).1, (F s.2.1 k).2.1, s.2.2 ++ [(F s.2.1 k).2.2]) else s) (0, q, [])
/-- A tree spread, with so many calls left: the error's number, the number of nodes, the tree. -/
def spr (B : Bks) : Nat → List (List UInt8) → Nat → Nat → Nd → Int × Nat × Nd
  | 0, _, _, many, _ => (99, many, nil0)
  | f + 1, path, lv, many, n =>
    if n.kind = 5 then
      match lkS B n.text with
      | none => (15, many, nil0)
      | some m => if n.text ∈ path then (8, many, nil0) else spr B f (path ++ [n.text]) lv many m
    else if 24 < lv then (7, many, nil0) else if 600 ≤ many then (9, many, nil0)
    else
      let r := sprs (fun q k => spr B f path (lv + 1) q k) (many + 1) n.kids
      (r.1, r.2.1, .mk n.kind n.set n.mn n.mx [] none 0 r.2.2)
theorem sprs_snoc (F : Nat → Nd → Int × Nat × Nd) (q : Nat) (l : List Nd) (k : Nd) :
    sprs F q (l ++ [k]) = if (sprs F q l).1 = 0 then ((F (sprs F q l).2.1 k).1, (F (sprs F q l).2.1 k).2.1, (sprs F q l).2.2 ++ [(F (sprs F q l).2.1 k).2.2]) else sprs F q l := by
  unfold sprs
  rw [List.foldl_append, List.foldl_cons, List.foldl_nil]
theorem sprs_take (F : Nat → Nd → Int × Nat × Nd) (q : Nat) (ks : List Nd) (j : Nat) (h : j < ks.length) :
    sprs F q (ks.take (j + 1)) = if (sprs F q (ks.take j)).1 = 0 then ((F (sprs F q (ks.take j)).2.1 ks[j]).1, (F (sprs F q (ks.take j)).2.1 ks[j]).2.1, (sprs F q (ks.take j)).2.2 ++ [(F (sprs F q (ks.take j)).2.1 ks[j]).2.2]) else sprs F q (ks.take j) := by
  rw [List.take_add_one, List.getElem?_eq_getElem h, Option.toList_some, sprs_snoc]
/-- Names told apart: no more of them than there are. -/
theorem nodup_le {α : Type} [DecidableEq α] : ∀ {l m : List α}, l.Nodup → (∀ x ∈ l, x ∈ m) → l.length ≤ m.length
  | [], _, _, _ => by simp
  | a :: r, m, hn, hs => by
    have h1 : a ∈ m := hs a (by simp)
    have hn' := List.nodup_cons.1 hn
    have h2 := nodup_le (l := r) (m := m.erase a) hn'.2 (fun x hx => (List.mem_erase_of_ne (by rintro rfl; exact hn'.1 hx)).2 (hs x (by simp [hx])))
    rw [List.length_erase_of_mem h1] at h2
    have : 0 < m.length := List.length_pos_of_mem h1
    simp only [List.length_cons]
    omega
theorem lkS_name {l : Bks} {s : List UInt8} {m : Nd} (h : lkS l s = some m) : s ∈ l.map (·.1) := by
  rw [List.mem_map]
  exact ⟨(s, m), lkS_mem h, rfl⟩
/-- Room for one more name that is being spread. -/
theorem path_room {B : Bks} {path : List (List UInt8)} {s : List UInt8} {m : Nd} (hn : path.Nodup) (hs : ∀ x ∈ path, x ∈ B.map (·.1)) (h : lkS B s = some m) (hno : s ∉ path) :
    (path ++ [s]).Nodup ∧ (∀ x ∈ path ++ [s], x ∈ B.map (·.1)) ∧ path.length + 1 ≤ B.length := by
  have h1 : (path ++ [s]).Nodup := by
    rw [List.nodup_append]
    refine ⟨hn, by simp, fun a ha b hb => ?_⟩
    simp only [List.mem_singleton] at hb
    subst hb
    rintro rfl
    exact hno ha
  have h2 : ∀ x ∈ path ++ [s], x ∈ B.map (·.1) := fun x hx => by
    rcases List.mem_append.1 hx with hx | hx
    · exact hs x hx
    · simp only [List.mem_singleton] at hx
      subst hx
      exact lkS_name h
  refine ⟨h1, h2, ?_⟩
  have := nodup_le h1 h2
  simpa using this
/-! ### What comes out -/
theorem one_er_kids {k : Int} {s : List Nat} {mn mx : Int} {t t' : List UInt8} {a a' : Option Addr} {c c' : Nat} {ks ks' : List Nd} (h : one (.mk k s mn mx t a c ks) = true) (hk : k ≠ 5) (hl : ks'.length = ks.length) (ht : t' = []) :
    one (.mk k s mn mx t' a' c' ks') = true := by
  subst ht
  simp only [one, bare, Nd.kind, Nd.set, Nd.mn, Nd.mx, Nd.text, Nd.kids, hl] at h ⊢
  simp only [hk, decide_false, Bool.false_and, Bool.or_false, if_false] at h ⊢
  simp only [Bool.and_eq_true] at h ⊢
  exact ⟨⟨h.1.1, by simp⟩, h.2⟩
theorem one_text {k : Int} {s : List Nat} {mn mx : Int} {t : List UInt8} {a : Option Addr} {c : Nat} {ks : List Nd} (h : one (.mk k s mn mx t a c ks) = true) (hk : k ≠ 5) : t = [] := by
  simp only [one, bare, Nd.kind, Nd.text, Bool.and_eq_true, hk, decide_false, Bool.or_false] at h
  exact of_decide_eq_true h.1.2
/-- What a tree spread is: each node on its level, right by itself, no name, and counted. -/
def SpOk (lv many many' : Nat) (x : Nd) : Prop := (∀ y ∈ full lv x, y.2 ≤ 24 ∧ one y.1 = true ∧ y.1.kind ≠ 5) ∧ many + (full lv x).length = many' ∧ er x = x
theorem sprs_ok (F : Nat → Nd → Int × Nat × Nd) (lv : Nat) (hF : ∀ q k, good k → q ≤ 600 → (F q k).1 = 0 → SpOk lv q (F q k).2.1 (F q k).2.2 ∧ (F q k).2.1 ≤ 600) :
    ∀ (ks : List Nd) (q : Nat), (∀ k ∈ ks, good k) → q ≤ 600 → (sprs F q ks).1 = 0 → (∀ y ∈ fulls lv (sprs F q ks).2.2, y.2 ≤ 24 ∧ one y.1 = true ∧ y.1.kind ≠ 5) ∧ q + (fulls lv (sprs F q ks).2.2).length = (sprs F q ks).2.1 ∧ (sprs F q ks).2.1 ≤ 600 ∧ (sprs F q ks).2.2.length = ks.length ∧ ers (sprs F q ks).2.2 = (sprs F q ks).2.2 := by
  intro ks
  have fapp : ∀ (l : List Nd) (k : Nd), fulls lv (l ++ [k]) = fulls lv l ++ full lv k := by
    intro l k
    induction l with
    | nil => simp [fulls]
    | cons n r ih => simp [fulls, ih]
  induction ks using Bk.snoc_ind with
  | h0 => intro q _ hq _; exact ⟨fun y hy => (by cases hy), by simp [sprs, fulls], hq, rfl, rfl⟩
  | h1 l k ih =>
    intro q hk hq h0
    rw [sprs_snoc] at h0 ⊢
    by_cases h1 : (sprs F q l).1 = 0
    · rw [if_pos h1] at h0 ⊢
      obtain ⟨i1, i2, i3, i4, i5⟩ := ih q (fun x hx => hk x (by simp [hx])) hq h1
      obtain ⟨⟨j1, j2, j3⟩, j4⟩ := hF _ k (hk k (by simp)) i3 h0
      refine ⟨fun y hy => ?_, ?_, j4, by simp [i4], by rw [ers_map] at i5 ⊢; rw [List.map_append, i5, List.map_cons, List.map_nil, j3]⟩
      · rw [fapp] at hy
        rcases List.mem_append.1 hy with hy | hy
        · exact i1 y hy
        · exact j1 y hy
      · rw [fapp, List.length_append]
        simp only
        omega
    · rw [if_neg h1] at h0
      exact absurd h0 h1
theorem spr_ok (B : Bks) (hB : ∀ p ∈ B, good p.2) : ∀ (f : Nat) (path : List (List UInt8)) (lv many : Nat) (n : Nd), good n → many ≤ 600 → (spr B f path lv many n).1 = 0 → SpOk lv many (spr B f path lv many n).2.1 (spr B f path lv many n).2.2 ∧ (spr B f path lv many n).2.1 ≤ 600 := by
  intro f
  induction f with
  | zero => intro path lv many n _ _ h; simp [spr] at h
  | succ f ih =>
    intro path lv many n hg hm h
    unfold spr at h ⊢
    by_cases h5 : n.kind = 5
    · rw [if_pos h5] at h ⊢
      cases hl : lkS B n.text with
      | none => rw [hl] at h; simp at h
      | some m =>
        rw [hl] at h
        simp only at h ⊢
        by_cases hp : n.text ∈ path
        · rw [if_pos hp] at h; simp at h
        · rw [if_neg hp] at h ⊢
          exact ih _ _ _ _ (hB _ (lkS_mem hl)) hm h
    · rw [if_neg h5] at h ⊢
      by_cases hlv : 24 < lv
      · rw [if_pos hlv] at h; simp at h
      · rw [if_neg hlv] at h ⊢
        by_cases h6 : 600 ≤ many
        · rw [if_pos h6] at h; simp at h
        · rw [if_neg h6] at h ⊢
          obtain ⟨k, s, mn, mx, t, a, c, ks⟩ := n
          simp only [Nd.kind, Nd.kids, Nd.set, Nd.mn, Nd.mx] at h h5 ⊢
          have hks := goods_mem hg.2
          obtain ⟨i1, i2, i3, i4, i5⟩ := sprs_ok (fun q k => spr B f path (lv + 1) q k) (lv + 1) (fun q k hk hq h0 => ih path (lv + 1) q k hk hq h0) ks (many + 1) hks (by omega) h
          refine ⟨⟨fun y hy => ?_, ?_, ?_⟩, i3⟩
          · rw [full, if_neg hlv] at hy
            rcases List.mem_cons.1 hy with rfl | hy
            · exact ⟨by simp only; omega, one_er_kids hg.1 h5 i4 rfl, h5⟩
            · exact i1 y hy
          · rw [full, if_neg hlv, List.length_cons]
            omega
          · rw [er, i5]
/-- The number of nodes stays in bounds, whatever comes. -/
theorem spr_le (B : Bks) : ∀ (f : Nat) (path : List (List UInt8)) (lv many : Nat) (n : Nd), many ≤ 600 → (spr B f path lv many n).2.1 ≤ 600 := by
  intro f
  induction f with
  | zero => intro path lv many n hm; simpa [spr] using hm
  | succ f ih =>
    intro path lv many n hm
    unfold spr
    by_cases h5 : n.kind = 5
    · rw [if_pos h5]
      cases hl : lkS B n.text with
      | none => exact hm
      | some m =>
        simp only
        by_cases hp : n.text ∈ path
        · rw [if_pos hp]; exact hm
        · rw [if_neg hp]; exact ih _ _ _ _ hm
    · rw [if_neg h5]
      by_cases hlv : 24 < lv
      · rw [if_pos hlv]; exact hm
      · rw [if_neg hlv]
        by_cases h6 : 600 ≤ many
        · rw [if_pos h6]; exact hm
        · rw [if_neg h6]
          simp only
          have h7 : many + 1 ≤ 600 := by omega
          clear h6 h5 hlv
          generalize many + 1 = q at h7
          generalize n.kids = ks
          induction ks using Bk.snoc_ind with
          | h0 => exact h7
          | h1 l k ih2 =>
            rw [sprs_snoc]
            split
            · exact ih _ _ _ _ ih2
            · exact ih2
theorem sprs_keep (F : Nat → Nd → Int × Nat × Nd) (lv : Nat) : ∀ (ks : List Nd) (q : Nat), (∀ k ∈ ks, ∀ q, q + (full lv k).length ≤ 600 → F q k = (0, q + (full lv k).length, er k)) → q + (fulls lv ks).length ≤ 600 → sprs F q ks = (0, q + (fulls lv ks).length, ers ks) := by
  intro ks
  have fapp : ∀ (l : List Nd) (k : Nd), fulls lv (l ++ [k]) = fulls lv l ++ full lv k := by
    intro l k
    induction l with
    | nil => simp [fulls]
    | cons n r ih => simp [fulls, ih]
  induction ks using Bk.snoc_ind with
  | h0 => intro q _ _; simp [sprs, fulls, ers]
  | h1 l k ih =>
    intro q hF hq
    rw [fapp, List.length_append] at hq
    rw [sprs_snoc, ih q (fun x hx => hF x (by simp [hx])) (by omega), if_pos rfl]
    simp only
    rw [hF k (by simp) _ (by omega), fapp, List.length_append, ers_map, ers_map, List.map_append]
    simp only [List.map_cons, List.map_nil, Nat.add_assoc]
theorem fulls_mem (lv : Nat) : ∀ {ks : List Nd} {k : Nd}, k ∈ ks → ∀ y ∈ full lv k, y ∈ fulls lv ks
  | m :: r, k, hk, y, hy => by
    rw [fulls, List.mem_append]
    rcases List.mem_cons.1 hk with rfl | hk
    · exact .inl hy
    · exact .inr (fulls_mem lv hk y hy)
theorem spr_keep (B : Bks) (path : List (List UInt8)) : ∀ (f lv many : Nat) (n : Nd), 25 - lv ≤ f → (∀ y ∈ full lv n, y.2 ≤ 24 ∧ one y.1 = true ∧ y.1.kind ≠ 5) → many + (full lv n).length ≤ 600 → spr B f path lv many n = (0, many + (full lv n).length, er n) := by
  intro f
  induction f with
  | zero =>
    intro lv many n hf h _
    have := (h (n, lv) (by rw [full_eq]; simp)).1
    simp only at this
    omega
  | succ f ih =>
    intro lv many n hf h hm
    have hlv : ¬ 24 < lv := by
      have := (h (n, lv) (by rw [full_eq]; simp)).1
      simp only at this
      omega
    have ho := (h (n, lv) (by rw [full_eq]; simp)).2
    have h5 : n.kind ≠ 5 := ho.2
    unfold spr
    rw [full_eq, if_neg hlv] at h hm ⊢
    rw [List.length_cons] at hm ⊢
    rw [if_neg h5, if_neg hlv, if_neg (show ¬ 600 ≤ many by omega)]
    obtain ⟨k, s, mn, mx, t, a, c, ks⟩ := n
    have ht : t = [] := one_text ho.1 h5
    simp only [Nd.kind, Nd.kids, Nd.set, Nd.mn, Nd.mx] at h hm ⊢
    rw [sprs_keep (fun q k => spr B f path (lv + 1) q k) (lv + 1) ks (many + 1) (fun k hk q hq => ih (lv + 1) q k (by omega) (fun y hy => h y (List.mem_cons_of_mem _ (fulls_mem _ hk y hy))) hq) (by omega)]
    simp only [er, ht]
    congr 2
    omega
theorem ok_rgt {x : Nd} {many' : Nat} (h : SpOk 1 0 many' x) (hm : many' ≤ 600) : rgt x = true ∧ names (walk x) = [] := by
  obtain ⟨h1, h2, _⟩ := h
  have hw : walk x = full 1 x := List.take_of_length_le (by omega)
  constructor
  · rw [rgt, hw, Bool.and_eq_true, decide_eq_true_eq, List.all_eq_true]
    exact ⟨by omega, fun y hy => by obtain ⟨e1, e2, _⟩ := h1 y hy; simp [e1, e2]⟩
  · rw [hw]
    have : ∀ (l : List (Nd × Nat)), (∀ y ∈ l, y.1.kind ≠ 5) → names l = [] := by
      intro l
      induction l using Bk.snoc_ind with
      | h0 => intro _; rfl
      | h1 l y ih =>
        intro hy
        have h5 := hy y (by simp)
        unfold names at ih ⊢
        rw [List.foldl_append, ih (fun z hz => hy z (by simp [hz])), List.foldl_cons, List.foldl_nil, if_neg (by simp [h5])]
    exact this _ fun y hy => (h1 y hy).2.2
theorem names_none {l : List (Nd × Nat)} (h : names l = []) : ∀ y ∈ l, y.1.kind ≠ 5 := by
  induction l using Bk.snoc_ind with
  | h0 => intro y hy; cases hy
  | h1 l y ih =>
    unfold names at h ih
    rw [List.foldl_append, List.foldl_cons, List.foldl_nil] at h
    by_cases h5 : y.1.kind = 5 ∧ y.1.text ∉ l.foldl (fun out x => if x.1.kind = 5 ∧ x.1.text ∉ out then out ++ [x.1.text] else out) []
    · rw [if_pos h5] at h
      simp at h
    · rw [if_neg h5] at h
      intro z hz
      rcases List.mem_append.1 hz with hz | hz
      · exact ih h z hz
      · simp only [List.mem_singleton] at hz
        subst hz
        intro h6
        rw [h] at h5
        exact h5 ⟨h6, by simp⟩
/-- A right tree without names is spread as it is, whatever the book. -/
theorem spr_plain (B : Bks) (n : Nd) (hr : rgt n = true) (hn : names (walk n) = []) : ∃ q, spr B 64 [] 1 0 n = (0, q, er n) := by
  obtain ⟨hw, hf⟩ := rgt_full hr
  have h1 := names_none hn
  rw [hw] at h1
  have hl : (full 1 n).length ≤ 600 := by
    have : (walk n).length ≤ 600 := by
      simp only [rgt, Bool.and_eq_true, decide_eq_true_eq] at hr
      exact hr.1
    rwa [hw] at this
  exact ⟨_, spr_keep B [] 64 1 0 n (by omega) (fun y hy => ⟨(hf y hy).1, (hf y hy).2, h1 y hy⟩) (by omega)⟩
/-- What is spread is right, and has no name. -/
theorem spr_done (B : Bks) (hB : ∀ p ∈ B, good p.2) (n : Nd) (hr : rgt n = true) (h : (spr B 64 [] 1 0 n).1 = 0) :
    rgt (spr B 64 [] 1 0 n).2.2 = true ∧ names (walk (spr B 64 [] 1 0 n).2.2) = [] ∧ er (spr B 64 [] 1 0 n).2.2 = (spr B 64 [] 1 0 n).2.2 := by
  obtain ⟨h1, h2⟩ := spr_ok B hB 64 [] 1 0 n (rgt_good hr) (by omega) h
  obtain ⟨h3, h4⟩ := ok_rgt h1 h2
  exact ⟨h3, h4, h1.2.2⟩
end Bo
end Go.Proofs.YteekonojmpihlaaDoor
