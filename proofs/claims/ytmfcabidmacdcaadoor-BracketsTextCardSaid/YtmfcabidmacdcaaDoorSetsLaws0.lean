/- Plain law of chapter 01: what spans cover; how many are in. -/
import Derived.Test.YtmfcabidmacdcaaDoorSetsMix
import Derived.Test.YtmfcabidmacdcaaDoorSets2
namespace Go.Proofs.YtmfcabidmacdcaaDoor
open Go Go.RowKit Kt
namespace St
open Mk
/-- What spans cover. -/
def cov (acc : List (Nat × Nat)) (q : Nat) : Bool := acc.any fun p => decide (p.1 ≤ q) && decide (q ≤ p.2)
theorem cov_step (acc : List (Nat × Nat)) (c : Nat) (h : ∀ p ∈ acc, p.1 ≤ p.2) : (∀ p ∈ step acc c, p.1 ≤ p.2) ∧ ∀ q, cov (step acc c) q = (cov acc q || decide (q = c)) := by
  rcases cases_last acc with rfl | ⟨r, lo, hi, rfl⟩
  · refine ⟨by simp [step_nil], fun q => ?_⟩
    rw [step_nil]
    rw [Bool.eq_iff_iff]
    simp [cov]
    omega
  · have hl := h (lo, hi) (by simp)
    simp only at hl
    by_cases hh : hi + 1 = c
    · rw [step_hit _ _ _ _ hh]
      refine ⟨?_, fun q => ?_⟩
      · intro p hp
        rcases List.mem_append.1 hp with h1 | h1
        · exact h p (by simp [h1])
        · simp at h1; subst h1; simp; omega
      · unfold cov
        rw [List.any_append, List.any_append, Bool.or_assoc]
        congr 1
        rw [Bool.eq_iff_iff]
        simp
        omega
    · rw [step_miss _ _ _ _ hh]
      refine ⟨?_, fun q => ?_⟩
      · intro p hp
        rcases List.mem_append.1 hp with h1 | h1
        · exact h p h1
        · simp at h1; subst h1; simp
      · unfold cov
        rw [List.any_append (ys := [(c, c)])]
        congr 1
        rw [Bool.eq_iff_iff]
        simp
        omega
theorem cov_sps (l : List Nat) : ∀ q, cov (sps l) q = decide (q ∈ l) := by
  have key : ∀ (l : List Nat) (acc : List (Nat × Nat)), (∀ p ∈ acc, p.1 ≤ p.2) → ∀ q, cov (l.foldl step acc) q = (cov acc q || decide (q ∈ l)) := by
    intro l
    induction l with
    | nil => intro acc _ q; simp
    | cons c l ih =>
      intro acc h q
      obtain ⟨h1, h2⟩ := cov_step acc c h
      rw [List.foldl_cons, ih _ h1, h2, Bool.or_assoc]
      congr 1
      rw [Bool.eq_iff_iff]
      simp
  intro q
  have := key l [] (by simp) q
  unfold sps
  rw [this]
  simp [cov]
theorem mem_all {ws : List Nat} {f : Nat → Bool} (h : IsSet ws f) (q : Nat) (hq : q < 256) : decide (q ∈ all ws) = f q := by
  rw [Bool.eq_iff_iff]
  unfold all
  rw [h.len, decide_eq_true_iff, List.mem_filter, List.mem_range, h.at' q hq]
  simp
  omega
theorem all_spec {ws : List Nat} {f : Nat → Bool} (h : IsSet ws f) : all ws = (List.range 256).filter f := by
  unfold all
  rw [h.len]
  apply List.filter_congr
  intro q hq
  exact h.at' q (by simpa using hq)
theorem count_or (f g : Nat → Bool) (l : List Nat) : (l.filter fun q => f q || g q).length + (l.filter fun q => f q && g q).length = (l.filter f).length + (l.filter g).length := by
  induction l with
  | nil => rfl
  | cons x l ih =>
    simp only [List.filter_cons]
    cases f x <;> cases g x <;> simp <;> omega
theorem Kt.chn {w W W' : World} (hb : Below W.heap.size W W') (h : Below w.heap.size w W) : Below w.heap.size w W' := h.trans (hb.mono h.size)
/-- List, as bytes. -/
theorem list2_c (ws : List Nat) (f : Nat → Bool) (hw : IsSet ws f) (w : World) (hT : Bt.Tab w) : Calls Tryd.prog 62 #[sv ws] w fun e W' => ∃ a c n, ∃ l : List UInt8, e = .returned (.slice a n c) ∧ l.length = n ∧ n ≤ 256 ∧ l.map UInt8.toNat = all ws ∧ Rd W' a (u8s l) ∧ Below w.heap.size w W' := by
  refine (list_c ws hw.len hw.lt w hT).mono ?_
  rintro e W' ⟨v, q, hq, rfl, hown, hb⟩
  obtain ⟨a, c, rfl, _, _, hr, _⟩ := rd_own hown
  have hlen : q.length ≤ 256 := by
    have := congrArg List.length hq
    rw [List.length_map] at this
    rw [this]
    unfold all
    refine Nat.le_trans (List.length_filter_le _ _) ?_
    rw [List.length_range, hw.len]
    omega
  have hb8 : ∀ x : Fin 256, (UInt8.ofNat x.val).toNat = x.val := fun x => by simp
  refine ⟨a, c, q.length, q.map fun x => UInt8.ofNat x.val, rfl, by simp, hlen, ?_, ?_, hb⟩
  · rw [List.map_map, ← hq]
    apply List.map_congr_left
    intro x _
    exact hb8 x
  · have e : u8s (q.map fun x => UInt8.ofNat x.val) = q.map b8 := by
      unfold u8s
      rw [List.map_map]
      apply List.map_congr_left
      intro x _
      show Value.int .u8 (((UInt8.ofNat x.val).toNat : Nat) : Int) = _
      rw [hb8 x]
      rfl
    rw [e]
    exact hr
theorem any_mem (l : List UInt8) (q : Nat) : (l.any fun c => decide (c.toNat = q)) = decide (q ∈ l.map UInt8.toNat) := by
  rw [Bool.eq_iff_iff]
  simp
end St
end Go.Proofs.YtmfcabidmacdcaaDoor
