/- Plain law of chapter 23: how rows are laid. No program. -/
import Derived.Test.YteekonojmpihlaaDoorQCbPure
import Derived.Test.YteekonojmpihlaaDoorQCbSrtP
namespace Go.Proofs.YteekonojmpihlaaDoor
namespace Kt
end Kt
open Go Go.RowKit Kt
namespace Cb
/-- n stands in the row more often than c, or as often and is less. -/
def better (row : List Int) (n c : Int) : Bool := decide (row.count c < row.count n) || (decide (row.count n = row.count c) && decide (n < c))
theorem better_irrefl (row : List Int) (n : Int) : better row n n = false := by simp [better]
theorem better_step {row : List Int} {m b n : Int} (h1 : better row m b = false) (h2 : better row n b = true) : better row m n = false := by
  simp only [better, Bool.or_eq_false_iff, Bool.and_eq_false_iff, Bool.or_eq_true, Bool.and_eq_true, decide_eq_false_iff_not, decide_eq_true_eq] at *
  omega
theorem better_asymm {row : List Int} {m n : Int} (h1 : better row m n = false) (h2 : better row n m = false) : m = n := by
  simp only [better, Bool.or_eq_false_iff, Bool.and_eq_false_iff, decide_eq_false_iff_not] at *
  omega
/-- The number that is in a row most often. -/
def cmn (row : List Int) : Int := row.foldl (fun b n => if better row n b then n else b) (row.headD 0)
structure IsCmn (row : List Int) (c : Int) : Prop where
  mem : c ∈ row
  best : ∀ n ∈ row, better row n c = false
theorem cmn_fold (row : List Int) : ∀ (l done : List Int) (b : Int), (∀ x ∈ l, x ∈ row) → b ∈ row → (∀ m ∈ done, better row m b = false) →
    let c := l.foldl (fun b n => if better row n b then n else b) b
    c ∈ row ∧ ∀ m, m ∈ done ∨ m ∈ l → better row m c = false := by
  intro l
  induction l with
  | nil => intro done b _ hb hd; exact ⟨hb, fun m hm => hm.elim (hd m) (fun h => by cases h)⟩
  | cons n l ih =>
    intro done b hl hb hd
    simp only [List.foldl_cons]
    by_cases hn : better row n b = true
    · rw [if_pos hn]
      obtain ⟨h1, h2⟩ := ih (n :: done) n (fun x hx => hl x (List.mem_cons_of_mem _ hx)) (hl n List.mem_cons_self) (fun m hm => by
        rcases List.mem_cons.1 hm with h | h
        · subst h; exact better_irrefl row m
        · exact better_step (hd m h) hn)
      refine ⟨h1, fun m hm => h2 m ?_⟩
      rcases hm with h | h
      · exact Or.inl (List.mem_cons_of_mem _ h)
      · rcases List.mem_cons.1 h with h | h
        · subst h; exact Or.inl List.mem_cons_self
        · exact Or.inr h
    · rw [if_neg hn]
      obtain ⟨h1, h2⟩ := ih (n :: done) b (fun x hx => hl x (List.mem_cons_of_mem _ hx)) hb (fun m hm => by
        rcases List.mem_cons.1 hm with h | h
        · subst h; exact Bool.eq_false_iff.2 hn
        · exact hd m h)
      refine ⟨h1, fun m hm => h2 m ?_⟩
      rcases hm with h | h
      · exact Or.inl (List.mem_cons_of_mem _ h)
      · rcases List.mem_cons.1 h with h | h
        · subst h; exact Or.inl List.mem_cons_self
        · exact Or.inr h
theorem isCmn_cmn {row : List Int} (h : row ≠ []) : IsCmn row (cmn row) := by
  have hh : row.headD 0 ∈ row := by cases row with | nil => exact absurd rfl h | cons a l => exact List.mem_cons_self
  obtain ⟨h1, h2⟩ := cmn_fold row row [] (row.headD 0) (fun _ h => h) hh (fun _ h => by cases h)
  exact ⟨h1, fun n hn => h2 n (Or.inr hn)⟩
theorem IsCmn.eq {row : List Int} {c : Int} (h : IsCmn row c) : c = cmn row :=
  have h2 := isCmn_cmn (row := row) (fun e => by rw [e] at h; exact absurd h.mem (by simp))
  better_asymm (h2.best c h.mem) (h.best _ h2.mem)
/-- A row's own places. -/
def ownL (row : List Int) : List Nat := (List.range row.length).filter fun i => decide (row.getD i 0 ≠ cmn row)
def ownN (row : List Int) : Nat := (ownL row).length
/-- Rows may be laid. -/
def layable (rows : List (List Int)) : Bool :=
  decide (1 ≤ rows.length) && (decide (rows.length ≤ 200) && (decide (1 ≤ (rows.getD 0 []).length) && (decide ((rows.getD 0 []).length ≤ 256) &&
  rows.all fun r => decide (r.length = (rows.getD 0 []).length) && r.all fun n => !outb n rows.length)))
/-- A slot is no row's. -/
def freeS (ck : List Int) (s : Nat) : Bool := !(decide (s < ck.length) && decide (ck.getD s 0 ≠ -1))
def fits (ck : List Int) (ps : List Nat) (b : Nat) : Bool := ps.all fun p => freeS ck (b + p)
theorem freeS_end {ck : List Int} {s : Nat} (h : ck.length ≤ s) : freeS ck s = true := by
  unfold freeS
  rw [decide_eq_false (by omega)]
  rfl
theorem fits_end (ck : List Int) (ps : List Nat) : fits ck ps ck.length = true := List.all_eq_true.2 fun _ _ => freeS_end (Nat.le_add_right _ _)
/-- The least base at which the places are free. -/
def baseOf (ck : List Int) (ps : List Nat) : Nat := ((List.range ck.length).find? (fits ck ps)).getD ck.length
theorem baseOf_spec {ck : List Int} {ps : List Nat} {b : Nat} (h : fits ck ps b = true) (hl : ∀ k, k < b → fits ck ps k = false) : baseOf ck ps = b := by
  have hb : b ≤ ck.length := by
    rcases Nat.lt_or_ge ck.length b with h2 | h2
    · have := hl _ h2
      rw [fits_end] at this
      cases this
    · exact h2
  unfold baseOf
  rcases Nat.lt_or_ge b ck.length with h2 | h2
  · have : (List.range ck.length).find? (fits ck ps) = some b := by
      rw [List.find?_range_eq_some]
      refine ⟨h, List.mem_range.2 h2, fun k hk => ?_⟩
      rw [hl k hk]
      rfl
    rw [this]
    rfl
  · have : (List.range ck.length).find? (fits ck ps) = none := by
      rw [List.find?_range_eq_none]
      intro k hk
      rw [hl k (by omega)]
      rfl
    rw [this]
    simp only [Option.getD_none]
    omega
/-- A list made long. -/
def padI (l : List Int) (n : Nat) (x : Int) : List Int := l ++ List.replicate (n - l.length) x
theorem padI_len (l : List Int) (n : Nat) (x : Int) : (padI l n x).length = max l.length n := by
  unfold padI
  rw [List.length_append, List.length_replicate]
  omega
theorem padI_self {l : List Int} {n : Nat} (x : Int) (h : n ≤ l.length) : padI l n x = l := by
  unfold padI
  rw [show n - l.length = 0 by omega]
  simp
/-- A slot is given to a row. -/
def setS (ck nx : List Int) (s : Nat) (row v : Int) : List Int × List Int := ((padI ck (s + 1) (-1)).set s row, (padI nx (s + 1) 0).set s v)
theorem setS_len (ck nx : List Int) (s : Nat) (row v : Int) (h : nx.length = ck.length) : (setS ck nx s row v).1.length = max ck.length (s + 1) ∧ (setS ck nx s row v).2.length = max ck.length (s + 1) := by
  unfold setS
  simp only [List.length_set, padI_len, h, and_self]
/-- A row's own places are laid. -/
def putL (ck nx : List Int) (row : Int) (b : Nat) (nums : List Int) (ps : List Nat) : List Int × List Int := ps.foldl (fun st p => setS st.1 st.2 (b + p) row (nums.getD p 0)) (ck, nx)
theorem putL_snoc (ck nx : List Int) (row : Int) (b : Nat) (nums : List Int) (ps : List Nat) (p : Nat) : putL ck nx row b nums (ps ++ [p]) = setS (putL ck nx row b nums ps).1 (putL ck nx row b nums ps).2 (b + p) row (nums.getD p 0) := by
  unfold putL
  rw [List.foldl_append]
  rfl
/-- What is laid so far. -/
structure Ly where
  base : List Int
  check : List Int
  next : List Int
  deriving DecidableEq
def layS (rows : List (List Int)) (st : Ly) (i : Nat) : Ly :=
  { base := st.base.set i (baseOf st.check (ownL (rows.getD i [])) : Nat)
    check := (putL st.check st.next i (baseOf st.check (ownL (rows.getD i []))) (rows.getD i []) (ownL (rows.getD i []))).1
    next := (putL st.check st.next i (baseOf st.check (ownL (rows.getD i []))) (rows.getD i []) (ownL (rows.getD i []))).2 }
def ord (rows : List (List Int)) : List Nat := ordN (fun i => ownN (rows.getD i [])) rows.length
def layL (rows : List (List Int)) : Ly := (ord rows).foldl (layS rows) ⟨List.replicate rows.length 0, [], []⟩
theorem lay_alive : layL [[0, 0, 1], [0, 1, 0]] = ⟨[0, 0], [-1, 1, 0], [0, 1, 1]⟩ := by
  have h : ord [[0, 0, 1], [0, 1, 0]] = [0, 1] := by
    unfold ord
    refine (ordN_of (d := Array.range 2) (Sort.permIn_refl _ _ _) fun i j _ hij hj => ?_).symm
    have hj2 : j < 2 := hj
    obtain rfl : i = 0 := by omega
    obtain rfl : j = 1 := by omega
    decide
  unfold layL
  rw [h]
  decide
end Cb
end Go.Proofs.YteekonojmpihlaaDoor
