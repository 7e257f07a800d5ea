import Derived.Test.YteekonojmpihlaaDoorQTreeEr
import Derived.Test.YteekonojmpihlaaDoorQMapG
import Derived.Test.YteekonojmpihlaaDoorQBrkPure
/- Plain law of chapter 11: books of names, a tree spread. No program. -/
namespace Go.Proofs.YteekonojmpihlaaDoor
namespace Kt
end Kt
namespace St
end St
namespace Sp
end Sp
namespace Tr
end Tr
open Go Go.RowKit Kt St Sp Tr
namespace Bo
abbrev Bks := List (List UInt8 × Nd)
def nil0 : Nd := .mk 0 [0, 0, 0, 0] 0 0 [] none 0 []
/-- A book's trees without their places. -/
def erB (l : Bks) : Bks := l.map fun p => (p.1, er p.2)
theorem lkS_er (l : Bks) (s : List UInt8) : lkS (erB l) s = (lkS l s).map er := by
  induction l with
  | nil => rfl
  | cons p r ih =>
    simp only [lkS, erB, List.map_cons, List.find?_cons] at ih ⊢
    by_cases h : p.1 = s
    · simp [h]
    · simp only [h, decide_false]
      exact ih
/-- Adding a name: the error's number. -/
def addE (B : Bks) (s : List UInt8) (n : Nd) : Int :=
  if Ac.nm s = false then 5 else if rgt n = false then 4 else if lkS B s ≠ none then 6 else if 32 ≤ B.length then 13 else 0
def add (B : Bks) (s : List UInt8) (n : Nd) : Bks := if addE B s n = 0 then B ++ [(s, er n)] else B
/-- The kids, one behind the other; nothing more behind an error. -/
def sprs (F : Nat → Nd → Int × Nat × Nd) (q : Nat) (ks : List Nd) : Int × Nat × List Nd :=
  ks.foldl (fun s k => if s.1 = 0 then ((F s.2.1 k).1, (F s.2.1 k).2.1, s.2.2 ++ [(F s.2.1 k).2.2]) else s) (0, q, [])
/-- A tree spread, with so many calls left: the error's number, the number of nodes, the tree. -/
def spr (B : Bks) : Nat → List (List UInt8) → Nat → Nat → Nd → Int × Nat × Nd
  | 0, _, _, many, _ => (99, many, nil0)
  | f + 1, path, lv, many, n =>
    if n.kind = 5 then
      match lkS B n.text with
      | none => (15, many, nil0)
      | some m => if n.text ∈ path then (8, many, nil0) else spr B f (path ++ [n.text]) lv many m
    else if 24 < lv then (7, many, nil0) else if 600 ≤ many then (9, many, nil0)
    else
      let r := sprs (fun q k => spr B f path (lv + 1) q k) (many + 1) n.kids
      (r.1, r.2.1, .mk n.kind n.set n.mn n.mx [] none 0 r.2.2)
theorem sprs_snoc (F : Nat → Nd → Int × Nat × Nd) (q : Nat) (l : List Nd) (k : Nd) :
    sprs F q (l ++ [k]) = if (sprs F q l).1 = 0 then ((F (sprs F q l).2.1 k).1, (F (sprs F q l).2.1 k).2.1, (sprs F q l).2.2 ++ [(F (sprs F q l).2.1 k).2.2]) else sprs F q l := by
  unfold sprs
  rw [List.foldl_append, List.foldl_cons, List.foldl_nil]
theorem sprs_take (F : Nat → Nd → Int × Nat × Nd) (q : Nat) (ks : List Nd) (j : Nat) (h : j < ks.length) :
    sprs F q (ks.take (j + 1)) = if (sprs F q (ks.take j)).1 = 0 then ((F (sprs F q (ks.take j)).2.1 ks[j]).1, (F (sprs F q (ks.take j)).2.1 ks[j]).2.1, (sprs F q (ks.take j)).2.2 ++ [(F (sprs F q (ks.take j)).2.1 ks[j]).2.2]) else sprs F q (ks.take j) := by
  rw [List.take_add_one, List.getElem?_eq_getElem h, Option.toList_some, sprs_snoc]
/-- Names told apart: no more of them than there are. -/
theorem nodup_le {α : Type} [DecidableEq α] : ∀ {l m : List α}, l.Nodup → (∀ x ∈ l, x ∈ m) → l.length ≤ m.length
  | [], _, _, _ => by simp
  | a :: r, m, hn, hs => by
    have h1 : a ∈ m := hs a (by simp)
    have hn' := List.nodup_cons.1 hn
    have h2 := nodup_le (l := r) (m := m.erase a) hn'.2 (fun x hx => (List.mem_erase_of_ne (by rintro rfl; exact hn'.1 hx)).2 (hs x (by simp [hx])))
    rw [List.length_erase_of_mem h1] at h2
    have : 0 < m.length := List.length_pos_of_mem h1
    simp only [List.length_cons]
    omega
theorem lkS_name {l : Bks} {s : List UInt8} {m : Nd} (h : lkS l s = some m) : s ∈ l.map (·.1) := by
  rw [List.mem_map]
  exact ⟨(s, m), lkS_mem h, rfl⟩
/-- Room for one more name that is being spread. -/
theorem path_room {B : Bks} {path : List (List UInt8)} {s : List UInt8} {m : Nd} (hn : path.Nodup) (hs : ∀ x ∈ path, x ∈ B.map (·.1)) (h : lkS B s = some m) (hno : s ∉ path) :
    (path ++ [s]).Nodup ∧ (∀ x ∈ path ++ [s], x ∈ B.map (·.1)) ∧ path.length + 1 ≤ B.length := by
  have h1 : (path ++ [s]).Nodup := by
    rw [List.nodup_append]
    refine ⟨hn, by simp, fun a ha b hb => ?_⟩
    simp only [List.mem_singleton] at hb
    subst hb
    rintro rfl
    exact hno ha
  have h2 : ∀ x ∈ path ++ [s], x ∈ B.map (·.1) := fun x hx => by
    rcases List.mem_append.1 hx with hx | hx
    · exact hs x hx
    · simp only [List.mem_singleton] at hx
      subst hx
      exact lkS_name h
  refine ⟨h1, h2, ?_⟩
  have := nodup_le h1 h2
  simpa using this
/-! ### What comes out -/
theorem one_text {k : Int} {s : List Nat} {mn mx : Int} {t : List UInt8} {a : Option Addr} {c : Nat} {ks : List Nd} (h : one (.mk k s mn mx t a c ks) = true) (hk : k ≠ 5) : t = [] := by
  simp only [one, bare, Nd.kind, Nd.text, Bool.and_eq_true, hk, decide_false, Bool.or_false] at h
  exact of_decide_eq_true h.1.2
/-- The number of nodes stays in bounds, whatever comes. -/
theorem spr_le (B : Bks) : ∀ (f : Nat) (path : List (List UInt8)) (lv many : Nat) (n : Nd), many ≤ 600 → (spr B f path lv many n).2.1 ≤ 600 := by
  intro f
  induction f with
  | zero => intro path lv many n hm; simpa [spr] using hm
  | succ f ih =>
    intro path lv many n hm
    unfold spr
    by_cases h5 : n.kind = 5
    · rw [if_pos h5]
      cases hl : lkS B n.text with
      | none => exact hm
      | some m =>
        simp only
        by_cases hp : n.text ∈ path
        · rw [if_pos hp]; exact hm
        · rw [if_neg hp]; exact ih _ _ _ _ hm
    · rw [if_neg h5]
      by_cases hlv : 24 < lv
      · rw [if_pos hlv]; exact hm
      · rw [if_neg hlv]
        by_cases h6 : 600 ≤ many
        · rw [if_pos h6]; exact hm
        · rw [if_neg h6]
          simp only
          have h7 : many + 1 ≤ 600 := by omega
          clear h6 h5 hlv
          generalize many + 1 = q at h7
          generalize n.kids = ks
          induction ks using Bk.snoc_ind with
          | h0 => exact h7
          | h1 l k ih2 =>
            rw [sprs_snoc]
            split
            · exact ih _ _ _ _ ih2
            · exact ih2
end Bo
end Go.Proofs.YteekonojmpihlaaDoor

/- A node of a tree as data: told apart as their values are. No program. -/
namespace Go.Proofs.YteekonojmpihlaaDoor
open Go Go.RowKit Kt St Sp Bk Tr
namespace Bo
def adr : Option Addr → DataW Unit
  | none => .nil
  | some ⟨b, o, none⟩ => .agg [.lit (.int .u64 (b : Int)), .lit (.int .u64 (o : Int))]
  | some ⟨b, o, some s⟩ => .agg [.lit (.int .u64 (b : Int)), .lit (.int .u64 (o : Int)), .lit (.int .u64 (s : Int))]
theorem adr_inj {a b : Option Addr} (h : adr a = adr b) : a = b := by
  rcases a with _ | ⟨a1, a2, _ | a3⟩ <;> rcases b with _ | ⟨b1, b2, _ | b3⟩ <;> simp [adr] at h ⊢
  · exact ⟨by omega, by omega⟩
  · exact ⟨by omega, by omega, by omega⟩
def ndw (n : Nd) : DataW Unit := .agg [.lit (.int .i64 n.kind), .agg (n.set.map fun x : Nat => .lit (.int .u64 (x : Int))), adr n.a, .lit (.int .i64 (n.kids.length : Int)), .lit (.int .i64 (n.cap : Int)), .lit (.int .i64 n.mn), .lit (.int .i64 n.mx), .lit (.string n.text)]
theorem ndw_iff (a b : Nd) : ndw a = ndw b ↔ nv a = nv b := by
  obtain ⟨k, s, mn, mx, t, p, c, ks⟩ := a
  obtain ⟨k', s', mn', mx', t', p', c', ks'⟩ := b
  have hset : ∀ {s s' : List Nat}, (s.map fun x : Nat => (DataW.lit (H := Unit) (.int .u64 (x : Int)))) = (s'.map fun x : Nat => (DataW.lit (.int .u64 (x : Int)))) ↔ s = s' := by
    intro s
    induction s with
    | nil => intro s'; cases s' <;> simp
    | cons x r ih =>
      intro s'
      cases s' with
      | nil => simp
      | cons y q => simp only [List.map_cons, List.cons.injEq, ih, DataW.lit.injEq, Lit.int.injEq, true_and, Int.ofNat_inj]
  have hw : ∀ {s s' : List Nat}, w64 s = w64 s' ↔ s = s' := by
    intro s
    unfold w64
    induction s with
    | nil => intro s'; cases s' <;> simp
    | cons x r ih =>
      intro s'
      cases s' with
      | nil => simp
      | cons y q => simp only [List.map_cons, List.cons.injEq, ih, Value.int.injEq, true_and, Int.ofNat_inj]
  simp only [ndw, nv, cells, Nd.kind, Nd.set, Nd.a, Nd.kids, Nd.cap, Nd.mn, Nd.mx, Nd.text, DataW.agg.injEq, List.cons.injEq, DataW.lit.injEq, Lit.int.injEq, Lit.string.injEq, true_and, and_true, hset, Value.agg.injEq]
  rw [← Array.toList_inj]
  simp only [List.cons.injEq, Value.int.injEq, true_and]
  constructor
  · rintro ⟨rfl, rfl, h3, h4, h5, rfl, rfl, rfl⟩
    have h3' := adr_inj h3
    subst h3'
    have h4' : ks.length = ks'.length := by omega
    have h5' : c = c' := by omega
    subst h5'
    rw [h4']
    exact ⟨rfl, rfl⟩
  · rintro ⟨rfl, h⟩
    have hl := congrArg List.length h
    simp only [List.length_append, List.length_cons, List.length_nil, w64, List.length_map] at hl
    obtain ⟨h1, h2⟩ := List.append_inj h (by simp only [w64, List.length_map]; omega)
    simp only [List.cons.injEq, Value.slice.injEq, Value.int.injEq, Value.string.injEq, true_and, and_true] at h2
    obtain ⟨⟨rfl, h4, rfl⟩, rfl, rfl, h5⟩ := h2
    exact ⟨rfl, hw.1 h1, rfl, by rw [h4], rfl, rfl, rfl, Str_inj h5⟩
open Classical in
/-- How a node's value reads. -/
noncomputable def rdn (v : Value) : Option (DataW Unit × List MemPlace) := if h : ∃ a : Nd, v = nv a then some (ndw h.choose, []) else none
theorem enc_nv : Enc Nd nv rdn ndw := by
  constructor
  · intro a
    have h : ∃ b : Nd, nv a = nv b := ⟨a, rfl⟩
    unfold rdn
    rw [dif_pos h]
    have h2 : ndw h.choose = ndw a := (ndw_iff _ _).2 h.choose_spec.symm
    rw [h2]
  · intro v a ps h
    unfold rdn at h
    split at h
    · rename_i hx
      simp only [Option.some.injEq, Prod.mk.injEq] at h
      rw [← (ndw_iff _ _).1 h.1]
      exact hx.choose_spec
    · cases h
end Bo
end Go.Proofs.YteekonojmpihlaaDoor
