import Derived.Test.YteekonojmpihlaaDoorQTreeBnd
import Derived.Test.YteekonojmpihlaaDoorQMapG
import Derived.Test.YteekonojmpihlaaDoorQBrkPure
/- Plain law of chapter 11: books of names, a tree spread. No program. -/
namespace Go.Proofs.YteekonojmpihlaaDoor
namespace Kt
end Kt
namespace St
end St
namespace Sp
end Sp
namespace Tr
end Tr
open Go Go.RowKit Kt St Sp Tr
namespace Bo
abbrev Bks := List (List UInt8 × Nd)
def nil0 : Nd := .mk 0 [0, 0, 0, 0] 0 0 [] none 0 []
/-- A book's trees without their places. -/
def erB (l : Bks) : Bks := l.map fun p => (p.1, er p.2)
theorem lkS_er (l : Bks) (s : List UInt8) : lkS (erB l) s = (lkS l s).map er := by
  induction l with
  | nil => rfl
  | cons p r ih =>
    simp only [lkS, erB, List.map_cons, List.find?_cons] at ih ⊢
    by_cases h : p.1 = s
    · simp [h]
    · simp only [h, decide_false]
      exact ih
/-- Adding a name: the error's number. -/
def addE (B : Bks) (s : List UInt8) (n : Nd) : Int :=
  if Ac.nm s = false then 5 else if rgt n = false then 4 else if lkS B s ≠ none then 6 else if 32 ≤ B.length then 13 else 0
def add (B : Bks) (s : List UInt8) (n : Nd) : Bks := if addE B s n = 0 then B ++ [(s, er n)] else B
/-- The kids, one behind the other; nothing more behind an error. -/
def sprs (F : Nat → Nd → Int × Nat × Nd) (q : Nat) (ks : List Nd) : Int × Nat × List Nd :=
  ks.foldl (fun s k => if s.1 = 0 then ((F s.2.1 k).1, (F s.2.1 k).2.1, s.2.2 ++ [(F s.2.1 k).2.2]) else s) (0, q, [])
/-- A tree spread, with so many calls left: the error's number, the number of nodes, the tree. -/
def spr (B : Bks) : Nat → List (List UInt8) → Nat → Nat → Nd → Int × Nat × Nd
  | 0, _, _, many, _ => (99, many, nil0)
  | f + 1, path, lv, many, n =>
    if n.kind = 5 then
      match lkS B n.text with
      | none => (15, many, nil0)
      | some m => if n.text ∈ path then (8, many, nil0) else spr B f (path ++ [n.text]) lv many m
    else if 24 < lv then (7, many, nil0) else if 600 ≤ many then (9, many, nil0)
    else
      let r := sprs (fun q k => spr B f path (lv + 1) q k) (many + 1) n.kids
      (r.1, r.2.1, .mk n.kind n.set n.mn n.mx [] none 0 r.2.2)
theorem sprs_snoc (F : Nat → Nd → Int × Nat × Nd) (q : Nat) (l : List Nd) (k : Nd) :
    sprs F q (l ++ [k]) = if (sprs F q l).1 = 0 then ((F (sprs F q l).2.1 k).1, (F (sprs F q l).2.1 k).2.1, (sprs F q l).2.2 ++ [(F (sprs F q l).2.1 k).2.2]) else sprs F q l := by
  unfold sprs
  rw [List.foldl_append, List.foldl_cons, List.foldl_nil]
theorem sprs_take (F : Nat → Nd → Int × Nat × Nd) (q : Nat) (ks : List Nd) (j : Nat) (h : j < ks.length) :
    sprs F q (ks.take (j + 1)) = if (sprs F q (ks.take j)).1 = 0 then ((F (sprs F q (ks.take j)).2.1 ks[j]).1, (F (sprs F q (ks.take j)).2.1 ks[j]).2.1, (sprs F q (ks.take j)).2.2 ++ [(F (sprs F q (ks.take j)).2.1 ks[j]).2.2]) else sprs F q (ks.take j) := by
  rw [List.take_add_one, List.getElem?_eq_getElem h, Option.toList_some, sprs_snoc]
theorem sprs_err (F : Nat → Nd → Int × Nat × Nd) (q : Nat) (ks : List Nd) (j : Nat) (h : (sprs F q (ks.take j)).1 ≠ 0) : sprs F q ks = sprs F q (ks.take j) := by
  have e : ∀ (l : List Nd) (s : Int × Nat × List Nd), s.1 ≠ 0 → l.foldl (fun s k => if s.1 = 0 then ((F s.2.1 k).1, (F s.2.1 k).2.1, s.2.2 ++ [(F s.2.1 k).2.2]) else s) s = s := by
    intro l
    induction l with
    | nil => intro s _; rfl
    | cons k r ih => intro s hs; rw [List.foldl_cons, if_neg hs]; exact ih s hs
  have h1 : sprs F q ks = sprs F q (ks.take j ++ ks.drop j) := by rw [List.take_append_drop]
  rw [h1]
  unfold sprs at h ⊢
  rw [List.foldl_append]
  exact e _ _ h
/-- Names told apart: no more of them than there are. -/
theorem nodup_le {α : Type} [DecidableEq α] : ∀ {l m : List α}, l.Nodup → (∀ x ∈ l, x ∈ m) → l.length ≤ m.length
  | [], _, _, _ => by simp
  | a :: r, m, hn, hs => by
    have h1 : a ∈ m := hs a (by simp)
    have hn' := List.nodup_cons.1 hn
    have h2 := nodup_le (l := r) (m := m.erase a) hn'.2 (fun x hx => (List.mem_erase_of_ne (by rintro rfl; exact hn'.1 hx)).2 (hs x (by simp [hx])))
    rw [List.length_erase_of_mem h1] at h2
    have : 0 < m.length := List.length_pos_of_mem h1
    simp only [List.length_cons]
    omega
theorem lkS_name {l : Bks} {s : List UInt8} {m : Nd} (h : lkS l s = some m) : s ∈ l.map (·.1) := by
  rw [List.mem_map]
  exact ⟨(s, m), lkS_mem h, rfl⟩
/-- Room for one more name that is being spread. -/
theorem path_room {B : Bks} {path : List (List UInt8)} {s : List UInt8} {m : Nd} (hn : path.Nodup) (hs : ∀ x ∈ path, x ∈ B.map (·.1)) (h : lkS B s = some m) (hno : s ∉ path) :
    (path ++ [s]).Nodup ∧ (∀ x ∈ path ++ [s], x ∈ B.map (·.1)) ∧ path.length + 1 ≤ B.length := by
  have h1 : (path ++ [s]).Nodup := by
    rw [List.nodup_append]
    refine ⟨hn, by simp, fun a ha b hb => ?_⟩
    simp only [List.mem_singleton] at hb
    subst hb
    rintro rfl
    exact hno ha
  have h2 : ∀ x ∈ path ++ [s], x ∈ B.map (·.1) := fun x hx => by
    rcases List.mem_append.1 hx with hx | hx
    · exact hs x hx
    · simp only [List.mem_singleton] at hx
      subst hx
      exact lkS_name h
  refine ⟨h1, h2, ?_⟩
  have := nodup_le h1 h2
  simpa using this
/-! ### What comes out -/
theorem one_er_kids {k : Int} {s : List Nat} {mn mx : Int} {t t' : List UInt8} {a a' : Option Addr} {c c' : Nat} {ks ks' : List Nd} (h : one (.mk k s mn mx t a c ks) = true) (hk : k ≠ 5) (hl : ks'.length = ks.length) (ht : t' = []) :
    one (.mk k s mn mx t' a' c' ks') = true := by
  subst ht
  simp only [one, bare, Nd.kind, Nd.set, Nd.mn, Nd.mx, Nd.text, Nd.kids, hl] at h ⊢
  simp only [hk, decide_false, Bool.false_and, Bool.or_false, if_false] at h ⊢
  simp only [Bool.and_eq_true] at h ⊢
  exact ⟨⟨h.1.1, by simp⟩, h.2⟩
theorem one_text {k : Int} {s : List Nat} {mn mx : Int} {t : List UInt8} {a : Option Addr} {c : Nat} {ks : List Nd} (h : one (.mk k s mn mx t a c ks) = true) (hk : k ≠ 5) : t = [] := by
  simp only [one, bare, Nd.kind, Nd.text, Bool.and_eq_true, hk, decide_false, Bool.or_false] at h
  exact of_decide_eq_true h.1.2
/-- What a tree spread is: each node on its level, right by itself, no name, and counted. -/
def SpOk (lv many many' : Nat) (x : Nd) : Prop := (∀ y ∈ full lv x, y.2 ≤ 24 ∧ one y.1 = true ∧ y.1.kind ≠ 5) ∧ many + (full lv x).length = many' ∧ er x = x
theorem sprs_ok (F : Nat → Nd → Int × Nat × Nd) (lv : Nat) (hF : ∀ q k, good k → q ≤ 600 → (F q k).1 = 0 → SpOk lv q (F q k).2.1 (F q k).2.2 ∧ (F q k).2.1 ≤ 600) :
    ∀ (ks : List Nd) (q : Nat), (∀ k ∈ ks, good k) → q ≤ 600 → (sprs F q ks).1 = 0 → (∀ y ∈ fulls lv (sprs F q ks).2.2, y.2 ≤ 24 ∧ one y.1 = true ∧ y.1.kind ≠ 5) ∧ q + (fulls lv (sprs F q ks).2.2).length = (sprs F q ks).2.1 ∧ (sprs F q ks).2.1 ≤ 600 ∧ (sprs F q ks).2.2.length = ks.length ∧ ers (sprs F q ks).2.2 = (sprs F q ks).2.2 := by
  intro ks
  have fapp : ∀ (l : List Nd) (k : Nd), fulls lv (l ++ [k]) = fulls lv l ++ full lv k := by
    intro l k
    induction l with
    | nil => simp [fulls]
    | cons n r ih => simp [fulls, ih]
  induction ks using Bk.snoc_ind with
  | h0 => intro q _ hq _; exact ⟨fun y hy => (by cases hy), by simp [sprs, fulls], hq, rfl, rfl⟩
  | h1 l k ih =>
    intro q hk hq h0
    rw [sprs_snoc] at h0 ⊢
    by_cases h1 : (sprs F q l).1 = 0
    · rw [if_pos h1] at h0 ⊢
      obtain ⟨i1, i2, i3, i4, i5⟩ := ih q (fun x hx => hk x (by simp [hx])) hq h1
      obtain ⟨⟨j1, j2, j3⟩, j4⟩ := hF _ k (hk k (by simp)) i3 h0
      refine ⟨fun y hy => ?_, ?_, j4, by simp [i4], by rw [ers_map] at i5 ⊢; rw [List.map_append, i5, List.map_cons, List.map_nil, j3]⟩
      · rw [fapp] at hy
        rcases List.mem_append.1 hy with hy | hy
        · exact i1 y hy
        · exact j1 y hy
      · rw [fapp, List.length_append]
        simp only
        omega
    · rw [if_neg h1] at h0
      exact absurd h0 h1
theorem spr_ok (B : Bks) (hB : ∀ p ∈ B, good p.2) : ∀ (f : Nat) (path : List (List UInt8)) (lv many : Nat) (n : Nd), good n → many ≤ 600 → (spr B f path lv many n).1 = 0 → SpOk lv many (spr B f path lv many n).2.1 (spr B f path lv many n).2.2 ∧ (spr B f path lv many n).2.1 ≤ 600 := by
  intro f
  induction f with
  | zero => intro path lv many n _ _ h; simp [spr] at h
  | succ f ih =>
    intro path lv many n hg hm h
    unfold spr at h ⊢
    by_cases h5 : n.kind = 5
    · rw [if_pos h5] at h ⊢
      cases hl : lkS B n.text with
      | none => rw [hl] at h; simp at h
      | some m =>
        rw [hl] at h
        simp only at h ⊢
        by_cases hp : n.text ∈ path
        · rw [if_pos hp] at h; simp at h
        · rw [if_neg hp] at h ⊢
          exact ih _ _ _ _ (hB _ (lkS_mem hl)) hm h
    · rw [if_neg h5] at h ⊢
      by_cases hlv : 24 < lv
      · rw [if_pos hlv] at h; simp at h
      · rw [if_neg hlv] at h ⊢
        by_cases h6 : 600 ≤ many
        · rw [if_pos h6] at h; simp at h
        · rw [if_neg h6] at h ⊢
          obtain ⟨k, s, mn, mx, t, a, c, ks⟩ := n
          simp only [Nd.kind, Nd.kids, Nd.set, Nd.mn, Nd.mx] at h h5 ⊢
          have hks := goods_mem hg.2
          obtain ⟨i1, i2, i3, i4, i5⟩ := sprs_ok (fun q k => spr B f path (lv + 1) q k) (lv + 1) (fun q k hk hq h0 => ih path (lv + 1) q k hk hq h0) ks (many + 1) hks (by omega) h
          refine ⟨⟨fun y hy => ?_, ?_, ?_⟩, i3⟩
          · rw [full, if_neg hlv] at hy
            rcases List.mem_cons.1 hy with rfl | hy
            · exact ⟨by simp only; omega, one_er_kids hg.1 h5 i4 rfl, h5⟩
            · exact i1 y hy
          · rw [full, if_neg hlv, List.length_cons]
            omega
          · rw [er, i5]
/-- The number of nodes stays in bounds, whatever comes. -/
theorem spr_le (B : Bks) : ∀ (f : Nat) (path : List (List UInt8)) (lv many : Nat) (n : Nd), many ≤ 600 → (spr B f path lv many n).2.1 ≤ 600 := by
  intro f
  induction f with
  | zero => intro path lv many n hm; simpa [spr] using hm
  | succ f ih =>
    intro path lv many n hm
    unfold spr
    by_cases h5 : n.kind = 5
    · rw [if_pos h5]
      cases hl : lkS B n.text with
      | none => exact hm
      | some m =>
        simp only
        by_cases hp : n.text ∈ path
        · rw [if_pos hp]; exact hm
        · rw [if_neg hp]; exact ih _ _ _ _ hm
    · rw [if_neg h5]
      by_cases hlv : 24 < lv
      · rw [if_pos hlv]; exact hm
      · rw [if_neg hlv]
        by_cases h6 : 600 ≤ many
        · rw [if_pos h6]; exact hm
        · rw [if_neg h6]
          simp only
          have h7 : many + 1 ≤ 600 := by omega
          clear h6 h5 hlv
          generalize many + 1 = q at h7
          generalize n.kids = ks
          induction ks using Bk.snoc_ind with
          | h0 => exact h7
          | h1 l k ih2 =>
            rw [sprs_snoc]
            split
            · exact ih _ _ _ _ ih2
            · exact ih2
theorem ok_rgt {x : Nd} {many' : Nat} (h : SpOk 1 0 many' x) (hm : many' ≤ 600) : rgt x = true ∧ names (walk x) = [] := by
  obtain ⟨h1, h2, _⟩ := h
  have hw : walk x = full 1 x := List.take_of_length_le (by omega)
  constructor
  · rw [rgt, hw, Bool.and_eq_true, decide_eq_true_eq, List.all_eq_true]
    exact ⟨by omega, fun y hy => by obtain ⟨e1, e2, _⟩ := h1 y hy; simp [e1, e2]⟩
  · rw [hw]
    have : ∀ (l : List (Nd × Nat)), (∀ y ∈ l, y.1.kind ≠ 5) → names l = [] := by
      intro l
      induction l using Bk.snoc_ind with
      | h0 => intro _; rfl
      | h1 l y ih =>
        intro hy
        have h5 := hy y (by simp)
        unfold names at ih ⊢
        rw [List.foldl_append, ih (fun z hz => hy z (by simp [hz])), List.foldl_cons, List.foldl_nil, if_neg (by simp [h5])]
    exact this _ fun y hy => (h1 y hy).2.2
/-- What is spread is right, and has no name. -/
theorem spr_done (B : Bks) (hB : ∀ p ∈ B, good p.2) (n : Nd) (hr : rgt n = true) (h : (spr B 64 [] 1 0 n).1 = 0) :
    rgt (spr B 64 [] 1 0 n).2.2 = true ∧ names (walk (spr B 64 [] 1 0 n).2.2) = [] ∧ er (spr B 64 [] 1 0 n).2.2 = (spr B 64 [] 1 0 n).2.2 := by
  obtain ⟨h1, h2⟩ := spr_ok B hB 64 [] 1 0 n (rgt_good hr) (by omega) h
  obtain ⟨h3, h4⟩ := ok_rgt h1 h2
  exact ⟨h3, h4, h1.2.2⟩
end Bo
end Go.Proofs.YteekonojmpihlaaDoor

/- A node of a tree as data: told apart as their values are. No program. -/
namespace Go.Proofs.YteekonojmpihlaaDoor
open Go Go.RowKit Kt St Sp Bk Tr
namespace Bo
def adr : Option Addr → DataW Unit
  | none => .nil
  | some ⟨b, o, none⟩ => .agg [.lit (.int .u64 (b : Int)), .lit (.int .u64 (o : Int))]
  | some ⟨b, o, some s⟩ => .agg [.lit (.int .u64 (b : Int)), .lit (.int .u64 (o : Int)), .lit (.int .u64 (s : Int))]
theorem adr_inj {a b : Option Addr} (h : adr a = adr b) : a = b := by
  rcases a with _ | ⟨a1, a2, _ | a3⟩ <;> rcases b with _ | ⟨b1, b2, _ | b3⟩ <;> simp [adr] at h ⊢
  · exact ⟨by omega, by omega⟩
  · exact ⟨by omega, by omega, by omega⟩
def ndw (n : Nd) : DataW Unit := .agg [.lit (.int .i64 n.kind), .agg (n.set.map fun x : Nat => .lit (.int .u64 (x : Int))), adr n.a, .lit (.int .i64 (n.kids.length : Int)), .lit (.int .i64 (n.cap : Int)), .lit (.int .i64 n.mn), .lit (.int .i64 n.mx), .lit (.string n.text)]
theorem ndw_iff (a b : Nd) : ndw a = ndw b ↔ nv a = nv b := by
  obtain ⟨k, s, mn, mx, t, p, c, ks⟩ := a
  obtain ⟨k', s', mn', mx', t', p', c', ks'⟩ := b
  have hset : ∀ {s s' : List Nat}, (s.map fun x : Nat => (DataW.lit (H := Unit) (.int .u64 (x : Int)))) = (s'.map fun x : Nat => (DataW.lit (.int .u64 (x : Int)))) ↔ s = s' := by
    intro s
    induction s with
    | nil => intro s'; cases s' <;> simp
    | cons x r ih =>
      intro s'
      cases s' with
      | nil => simp
      | cons y q => simp only [List.map_cons, List.cons.injEq, ih, DataW.lit.injEq, Lit.int.injEq, true_and, Int.ofNat_inj]
  have hw : ∀ {s s' : List Nat}, w64 s = w64 s' ↔ s = s' := by
    intro s
    unfold w64
    induction s with
    | nil => intro s'; cases s' <;> simp
    | cons x r ih =>
      intro s'
      cases s' with
      | nil => simp
      | cons y q => simp only [List.map_cons, List.cons.injEq, ih, Value.int.injEq, true_and, Int.ofNat_inj]
  simp only [ndw, nv, cells, Nd.kind, Nd.set, Nd.a, Nd.kids, Nd.cap, Nd.mn, Nd.mx, Nd.text, DataW.agg.injEq, List.cons.injEq, DataW.lit.injEq, Lit.int.injEq, Lit.string.injEq, true_and, and_true, hset, Value.agg.injEq]
  rw [← Array.toList_inj]
  simp only [List.cons.injEq, Value.int.injEq, true_and]
  constructor
  · rintro ⟨rfl, rfl, h3, h4, h5, rfl, rfl, rfl⟩
    have h3' := adr_inj h3
    subst h3'
    have h4' : ks.length = ks'.length := by omega
    have h5' : c = c' := by omega
    subst h5'
    rw [h4']
    exact ⟨rfl, rfl⟩
  · rintro ⟨rfl, h⟩
    have hl := congrArg List.length h
    simp only [List.length_append, List.length_cons, List.length_nil, w64, List.length_map] at hl
    obtain ⟨h1, h2⟩ := List.append_inj h (by simp only [w64, List.length_map]; omega)
    simp only [List.cons.injEq, Value.slice.injEq, Value.int.injEq, Value.string.injEq, true_and, and_true] at h2
    obtain ⟨⟨rfl, h4, rfl⟩, rfl, rfl, h5⟩ := h2
    exact ⟨rfl, hw.1 h1, rfl, by rw [h4], rfl, rfl, rfl, Str_inj h5⟩
open Classical in
/-- How a node's value reads. -/
noncomputable def rdn (v : Value) : Option (DataW Unit × List MemPlace) := if h : ∃ a : Nd, v = nv a then some (ndw h.choose, []) else none
theorem enc_nv : Enc Nd nv rdn ndw := by
  constructor
  · intro a
    have h : ∃ b : Nd, nv a = nv b := ⟨a, rfl⟩
    unfold rdn
    rw [dif_pos h]
    have h2 : ndw h.choose = ndw a := (ndw_iff _ _).2 h.choose_spec.symm
    rw [h2]
  · intro v a ps h
    unfold rdn at h
    split at h
    · rename_i hx
      simp only [Option.some.injEq, Prod.mk.injEq] at h
      rw [← (ndw_iff _ _).1 h.1]
      exact hx.choose_spec
    · cases h
end Bo
end Go.Proofs.YteekonojmpihlaaDoor

/- Plain law of chapter 11: the names that a tree uses. No program. -/
namespace Go.Proofs.YteekonojmpihlaaDoor
namespace Kt
end Kt
namespace St
end St
namespace Sp
end Sp
namespace Tr
end Tr
open Go Go.RowKit Kt St Sp Tr
namespace Bo
/-- The names of a walk that are not in a list, behind it. -/
def addN (l : List (List UInt8)) (ws : List (Nd × Nat)) : List (List UInt8) := ws.foldl (fun out x => if x.1.kind = 5 ∧ x.1.text ∉ out then out ++ [x.1.text] else out) l
/-- The texts that are not in a list, behind it. -/
def addL (l xs : List (List UInt8)) : List (List UInt8) := xs.foldl (fun out x => if x ∈ out then out else out ++ [x]) l
theorem addN_snoc (l : List (List UInt8)) (ws : List (Nd × Nat)) (y : Nd × Nat) : addN l (ws ++ [y]) = if y.1.kind = 5 ∧ y.1.text ∉ addN l ws then addN l ws ++ [y.1.text] else addN l ws := by
  unfold addN
  rw [List.foldl_append, List.foldl_cons, List.foldl_nil]
theorem addL_snoc (l xs : List (List UInt8)) (y : List UInt8) : addL l (xs ++ [y]) = if y ∈ addL l xs then addL l xs else addL l xs ++ [y] := by
  unfold addL
  rw [List.foldl_append, List.foldl_cons, List.foldl_nil]
theorem names_addN (ws : List (Nd × Nat)) : names ws = addN [] ws := rfl
theorem addN_sub (l : List (List UInt8)) (ws : List (Nd × Nat)) : ∀ x ∈ l, x ∈ addN l ws := by
  induction ws using Bk.snoc_ind with
  | h0 => intro x hx; exact hx
  | h1 ws y ih =>
    intro x hx
    rw [addN_snoc]
    split
    · exact List.mem_append_left _ (ih x hx)
    · exact ih x hx
theorem addN_has (l : List (List UInt8)) (ws : List (Nd × Nat)) : ∀ x ∈ names ws, x ∈ addN l ws := by
  induction ws using Bk.snoc_ind with
  | h0 => intro x hx; cases hx
  | h1 ws y ih =>
    intro x hx
    rw [names_addN, addN_snoc, ← names_addN] at hx
    rw [addN_snoc]
    by_cases h : y.1.kind = 5 ∧ y.1.text ∉ names ws
    · rw [if_pos h] at hx
      rcases List.mem_append.1 hx with hx | hx
      · split
        · exact List.mem_append_left _ (ih x hx)
        · exact ih x hx
      · simp only [List.mem_singleton] at hx
        subst hx
        by_cases h2 : y.1.kind = 5 ∧ y.1.text ∉ addN l ws
        · rw [if_pos h2]; simp
        · rw [if_neg h2]
          by_cases h3 : y.1.text ∈ addN l ws
          · exact h3
          · exact absurd ⟨h.1, h3⟩ h2
    · rw [if_neg h] at hx
      split
      · exact List.mem_append_left _ (ih x hx)
      · exact ih x hx
/-- One by one, or told apart first: the same. -/
theorem addL_names (l : List (List UInt8)) (ws : List (Nd × Nat)) : addL l (names ws) = addN l ws := by
  induction ws using Bk.snoc_ind with
  | h0 => rfl
  | h1 ws y ih =>
    have hn : names (ws ++ [y]) = if y.1.kind = 5 ∧ y.1.text ∉ names ws then names ws ++ [y.1.text] else names ws := addN_snoc [] ws y
    rw [hn, addN_snoc]
    by_cases h5 : y.1.kind = 5
    · by_cases h1 : y.1.text ∈ names ws
      · rw [if_neg (fun h => h.2 h1), ih, if_neg (fun h => h.2 (addN_has l ws _ h1))]
      · rw [if_pos ⟨h5, h1⟩, addL_snoc, ih]
        by_cases h2 : y.1.text ∈ addN l ws
        · rw [if_pos h2, if_neg (fun h => h.2 h2)]
        · rw [if_neg h2, if_pos ⟨h5, h2⟩]
    · rw [if_neg (fun h => h5 h.1), if_neg (fun h => h5 h.1), ih]
theorem addN_nodup {l : List (List UInt8)} (h : l.Nodup) (ws : List (Nd × Nat)) : (addN l ws).Nodup := by
  induction ws using Bk.snoc_ind with
  | h0 => exact h
  | h1 ws y ih =>
    rw [addN_snoc]
    by_cases h2 : y.1.kind = 5 ∧ y.1.text ∉ addN l ws
    · rw [if_pos h2, List.nodup_append]
      refine ⟨ih, by simp, fun a ha b hb => ?_⟩
      simp only [List.mem_singleton] at hb
      subst hb
      rintro rfl
      exact h2.2 ha
    · rw [if_neg h2]; exact ih
theorem addN_mem (l : List (List UInt8)) (ws : List (Nd × Nat)) : ∀ x ∈ addN l ws, x ∈ l ∨ x ∈ names ws := by
  induction ws using Bk.snoc_ind with
  | h0 => intro x hx; exact .inl hx
  | h1 ws y ih =>
    intro x hx
    have hn : names (ws ++ [y]) = if y.1.kind = 5 ∧ y.1.text ∉ names ws then names ws ++ [y.1.text] else names ws := addN_snoc [] ws y
    have hsub : ∀ z ∈ names ws, z ∈ names (ws ++ [y]) := fun z hz => by
      rw [hn]
      split
      · exact List.mem_append_left _ hz
      · exact hz
    rw [addN_snoc] at hx
    by_cases h2 : y.1.kind = 5 ∧ y.1.text ∉ addN l ws
    · rw [if_pos h2] at hx
      rcases List.mem_append.1 hx with hx | hx
      · exact (ih x hx).imp id (hsub x)
      · simp only [List.mem_singleton] at hx
        subst hx
        by_cases h3 : y.1.text ∈ names ws
        · exact .inr (hsub _ h3)
        · rw [hn, if_pos ⟨h2.1, h3⟩]; simp
    · rw [if_neg h2] at hx
      exact (ih x hx).imp id (hsub x)
/-- The names that one name brings. -/
def stepU (B : Bks) (out : List (List UInt8)) (s : List UInt8) : List (List UInt8) :=
  match lkS B s with
  | none => out
  | some m => addN out (walk m)
def usF (B : Bks) : Nat → Nat → List (List UInt8) → List (List UInt8)
  | 0, _, out => out
  | f + 1, i, out => if h : i < out.length then usF B f (i + 1) (stepU B out out[i]) else out
/-- All names that may come. -/
def allN (B : Bks) (n : Nd) : List (List UInt8) := names (walk n) ++ B.flatMap fun p => names (walk p.2)
theorem allN_le (B : Bks) (n : Nd) (hB : B.length ≤ 32) : (allN B n).length ≤ 30000 := by
  have hw : ∀ m : Nd, (names (walk m)).length ≤ 601 := fun m => by
    have h1 : ∀ ws : List (Nd × Nat), (names ws).length ≤ ws.length := by
      intro ws
      induction ws using Bk.snoc_ind with
      | h0 => simp [names]
      | h1 ws y ih =>
        rw [names_addN, addN_snoc, ← names_addN, List.length_append]
        split
        · simp; exact ih
        · simp only [List.length_cons, List.length_nil]; omega
    have h2 := h1 (walk m)
    have h3 : (walk m).length ≤ 601 := by simp [walk, List.length_take]; omega
    omega
  have hb : ∀ l : Bks, (l.flatMap fun p => names (walk p.2)).length ≤ l.length * 601 := by
    intro l
    induction l with
    | nil => simp
    | cons p r ih =>
      rw [List.flatMap_cons, List.length_append, List.length_cons]
      have := hw p.2
      omega
  have h1 := hb B
  have h2 := hw n
  rw [allN, List.length_append]
  have : B.length * 601 ≤ 32 * 601 := Nat.mul_le_mul_right _ hB
  omega
/-- Where the loop over the names stands. -/
structure UsI (B : Bks) (n : Nd) (i : Nat) (out : List (List UInt8)) : Prop where
  nd : out.Nodup
  sub : ∀ x ∈ out, x ∈ allN B n
  ile : i ≤ out.length
theorem UsI.len {B : Bks} {n : Nd} {i : Nat} {out : List (List UInt8)} (h : UsI B n i out) : out.length ≤ (allN B n).length := nodup_le h.nd h.sub
theorem UsI.start (B : Bks) (n : Nd) : UsI B n 0 (names (walk n)) :=
  ⟨by rw [names_addN]; exact addN_nodup List.nodup_nil _, fun x hx => List.mem_append_left _ hx, Nat.zero_le _⟩
theorem UsI.step {B : Bks} {n : Nd} {i : Nat} {out : List (List UInt8)} (h : UsI B n i out) (hi : i < out.length) : UsI B n (i + 1) (stepU B out out[i]) := by
  unfold stepU
  cases hl : lkS B out[i] with
  | none => exact ⟨h.nd, h.sub, hi⟩
  | some m =>
    refine ⟨addN_nodup h.nd _, fun x hx => ?_, ?_⟩
    · rcases addN_mem out (walk m) x hx with hx | hx
      · exact h.sub x hx
      · exact List.mem_append_right _ (List.mem_flatMap.2 ⟨_, lkS_mem hl, hx⟩)
    · have : out.length ≤ (addN out (walk m)).length := nodup_le h.nd (addN_sub out (walk m))
      show i + 1 ≤ (addN out (walk m)).length
      omega
/-- The names that a tree uses. -/
def uses (B : Bks) (n : Nd) : List (List UInt8) := usF B ((allN B n).length + 1) 0 (names (walk n))
theorem usF_end {B : Bks} {i : Nat} {out : List (List UInt8)} (f : Nat) (hi : ¬ i < out.length) : usF B f i out = out := by
  cases f with
  | zero => rfl
  | succ f => rw [usF, dif_neg hi]
theorem usF_step {B : Bks} {i : Nat} {out : List (List UInt8)} (f : Nat) (hf : i < f) (hi : i < out.length) (F : Nat) (hF : F = f - i) : usF B F i out = usF B (f - (i + 1)) (i + 1) (stepU B out out[i]) := by
  subst hF
  obtain ⟨k, hk⟩ : ∃ k, f - i = k + 1 := ⟨f - i - 1, by omega⟩
  rw [hk, usF, dif_pos hi]
  congr 1
  omega
end Bo
end Go.Proofs.YteekonojmpihlaaDoor
