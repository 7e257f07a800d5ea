/- Plain law of chapter 23: what is laid is right, is looked up as it was, and has as many slots as own places. No program. -/
import Derived.Test.YteekonojmpihlaaDoorQCbLayP
namespace Go.Proofs.YteekonojmpihlaaDoor
namespace Kt
end Kt
open Go Go.RowKit Kt
namespace Cb
/-- A slot's row, a slot's number. -/
def gk (l : List Int) (t : Nat) : Int := l.getD t (-1)
def gn (l : List Int) (t : Nat) : Int := l.getD t 0
theorem padI_getD (l : List Int) (n : Nat) (x : Int) (t : Nat) : (padI l n x).getD t x = l.getD t x := by
  unfold padI
  rw [List.getD_eq_getElem?_getD, List.getD_eq_getElem?_getD]
  rcases Nat.lt_or_ge t l.length with h | h
  · rw [List.getElem?_append_left h]
  · rw [List.getElem?_append_right h, List.getElem?_eq_none h]
    rcases Nat.lt_or_ge (t - l.length) (n - l.length) with h2 | h2
    · rw [List.getElem?_replicate, if_pos h2]
      rfl
    · rw [List.getElem?_replicate, if_neg (by omega)]
theorem set_getD (l : List Int) (s t : Nat) (v x : Int) (h : s < l.length) : (l.set s v).getD t x = if t = s then v else l.getD t x := by
  rw [List.getD_eq_getElem?_getD, List.getD_eq_getElem?_getD, List.getElem?_set]
  by_cases h2 : s = t
  · subst h2
    rw [if_pos rfl, if_pos h, if_pos rfl]
    rfl
  · rw [if_neg h2, if_neg (fun e => h2 e.symm)]
theorem setS_gk (ck nx : List Int) (s : Nat) (row v : Int) (t : Nat) : gk (setS ck nx s row v).1 t = if t = s then row else gk ck t := by
  unfold gk setS
  simp only
  rw [set_getD _ _ _ _ _ (by rw [padI_len]; omega), padI_getD]
theorem setS_gn (ck nx : List Int) (s : Nat) (row v : Int) (t : Nat) : gn (setS ck nx s row v).2 t = if t = s then v else gn nx t := by
  unfold gn setS
  simp only
  rw [set_getD _ _ _ _ _ (by rw [padI_len]; omega), padI_getD]
/-- How many slots are a row's. -/
def cntS (ck : List Int) : Nat := ck.countP fun k => decide (0 ≤ k)
theorem cntS_pad (ck : List Int) (n : Nat) : cntS (padI ck n (-1)) = cntS ck := by
  unfold cntS padI
  rw [List.countP_append, List.countP_replicate]
  simp
theorem cntS_set (ck : List Int) (s : Nat) (row : Int) (hr : 0 ≤ row) (hs : s < ck.length) (hf : ck.getD s (-1) = -1) : cntS (ck.set s row) = cntS ck + 1 := by
  unfold cntS
  rw [List.countP_set hs]
  have e : ck[s] = -1 := by
    rw [List.getD_eq_getElem?_getD, List.getElem?_eq_getElem hs] at hf
    exact hf
  rw [e]
  simp [hr]
theorem cntS_setS (ck nx : List Int) (s : Nat) (row v : Int) (hr : 0 ≤ row) (hf : gk ck s = -1) : cntS (setS ck nx s row v).1 = cntS ck + 1 := by
  unfold setS
  simp only
  rw [cntS_set _ _ _ hr (by rw [padI_len]; omega) (by rw [padI_getD]; exact hf), cntS_pad]
/-- A row's own places are laid: what lies there. -/
structure PutOk (ck nx : List Int) (row : Int) (b : Nat) (nums : List Int) (ps : List Nat) (r : List Int × List Int) : Prop where
  len : r.1.length = r.2.length
  le : r.1.length ≤ ck.length + 256 ∨ r.1.length = ck.length
  k : ∀ t, (gk r.1 t = gk ck t ∧ gn r.2 t = gn nx t ∧ ∀ p ∈ ps, t ≠ b + p) ∨ ∃ p ∈ ps, t = b + p ∧ gk r.1 t = row ∧ gn r.2 t = nums.getD p 0
  cnt : cntS r.1 = cntS ck + ps.length
  last : r.1.length = 0 ∨ gk r.1 (r.1.length - 1) ≠ -1
theorem putL_ok (ck nx : List Int) (row : Int) (b : Nat) (nums : List Int) (hrow : 0 ≤ row) (hlen : ck.length = nx.length) (hlast : ck.length = 0 ∨ gk ck (ck.length - 1) ≠ -1) (hb : b ≤ ck.length) :
    ∀ (n : Nat) (ps : List Nat), ps.length = n → ps.Nodup → (∀ p ∈ ps, p < 256) → (∀ p ∈ ps, gk ck (b + p) = -1) → PutOk ck nx row b nums ps (putL ck nx row b nums ps) := by
  intro n
  induction n with
  | zero =>
    intro ps hn _ _ _
    obtain rfl : ps = [] := List.eq_nil_of_length_eq_zero hn
    exact ⟨hlen, .inr rfl, fun t => .inl ⟨rfl, rfl, fun p hp => by cases hp⟩, rfl, hlast⟩
  | succ n ih =>
    intro ps hn hnd hlt hfree
    obtain ⟨qs, p, rfl⟩ : ∃ qs p, ps = qs ++ [p] := ⟨ps.dropLast, ps.getLast (fun e => by rw [e] at hn; cases hn), (List.dropLast_concat_getLast _).symm⟩
    have hn2 : qs.length = n := by rw [List.length_append] at hn; simpa using hn
    have hnd2 := (List.nodup_append.1 hnd)
    have h := ih qs hn2 hnd2.1 (fun q hq => hlt q (List.mem_append_left _ hq)) (fun q hq => hfree q (List.mem_append_left _ hq))
    have hpq : p ∉ qs := fun hm => hnd2.2.2 p hm p (by simp) rfl
    have hp256 := hlt p (by simp)
    rw [putL_snoc]
    generalize putL ck nx row b nums qs = r at h
    obtain ⟨r1, r2⟩ := r
    have hl := setS_len r1 r2 (b + p) row (nums.getD p 0) h.len.symm
    have hfr : gk r1 (b + p) = -1 := by
      rcases h.k (b + p) with ⟨h1, _, _⟩ | ⟨q, hq, he, _⟩
      · rw [h1]
        exact hfree p (by simp)
      · obtain rfl : q = p := by omega
        exact absurd hq hpq
    have h1 := h.le
    have h2 := h.last
    simp only at h1 h2
    refine ⟨by rw [hl.1, hl.2], ?_, fun t => ?_, ?_, ?_⟩
    · rw [hl.1]
      omega
    · rw [setS_gk, setS_gn]
      by_cases he : t = b + p
      · rw [if_pos he, if_pos he]
        exact .inr ⟨p, by simp, he, rfl, rfl⟩
      · rw [if_neg he, if_neg he]
        rcases h.k t with ⟨g1, g2, g3⟩ | ⟨q, hq, g1, g2, g3⟩
        · refine .inl ⟨g1, g2, fun q hq => ?_⟩
          rcases List.mem_append.1 hq with hq | hq
          · exact g3 q hq
          · rw [List.mem_singleton.1 hq]
            exact he
        · exact .inr ⟨q, List.mem_append_left _ hq, g1, g2, g3⟩
    · rw [cntS_setS _ _ _ _ _ hrow hfr, h.cnt, List.length_append]
      simp only [List.length_singleton]
      omega
    · right
      rw [setS_gk, hl.1]
      by_cases he : max r1.length (b + p + 1) - 1 = b + p
      · rw [if_pos he]
        omega
      · rw [if_neg he]
        have e : max r1.length (b + p + 1) = r1.length := by omega
        rw [e]
        rcases h2 with h2 | h2
        · omega
        · exact h2
theorem freeS_gk (ck : List Int) (s : Nat) : freeS ck s = true ↔ gk ck s = -1 := by
  unfold freeS gk
  rw [List.getD_eq_getElem?_getD, List.getD_eq_getElem?_getD]
  rcases Nat.lt_or_ge s ck.length with h | h
  · rw [List.getElem?_eq_getElem h]
    simp [h]
  · rw [List.getElem?_eq_none h]
    simp
    omega
theorem baseOf_fits (ck : List Int) (ps : List Nat) : fits ck ps (baseOf ck ps) = true ∧ baseOf ck ps ≤ ck.length := by
  unfold baseOf
  cases h : (List.range ck.length).find? (fits ck ps) with
  | none => exact ⟨fits_end ck ps, Nat.le_refl _⟩
  | some b =>
    have h1 := List.find?_some h
    have h2 := List.mem_of_find?_eq_some h
    rw [List.mem_range] at h2
    exact ⟨h1, by simp only [Option.getD_some]; omega⟩
theorem ownL_nodup (r : List Int) : (ownL r).Nodup := by
  unfold ownL
  exact List.Nodup.sublist List.filter_sublist List.nodup_range
theorem mem_ownL {r : List Int} {p : Nat} : p ∈ ownL r ↔ p < r.length ∧ r.getD p 0 ≠ cmn r := by
  unfold ownL
  rw [List.mem_filter, List.mem_range]
  simp
/-- What is laid so far is right. -/
structure LyInv (rows : List (List Int)) (f : Nat) (done : List Nat) (st : Ly) : Prop where
  bl : st.base.length = rows.length
  len : st.check.length = st.next.length
  le : st.check.length ≤ done.length * 256
  slot : ∀ t, (gk st.check t = -1 ∧ gn st.next t = 0) ∨ ∃ i ∈ done, ∃ p ∈ ownL (rows.getD i []), (t : Int) = st.base.getD i 0 + p ∧ gk st.check t = i ∧ gn st.next t = (rows.getD i []).getD p 0
  own : ∀ i ∈ done, ∀ p ∈ ownL (rows.getD i []), gk st.check (st.base.getD i 0 + p).toNat = i ∧ gn st.next (st.base.getD i 0 + p).toNat = (rows.getD i []).getD p 0
  base : ∀ i, 0 ≤ st.base.getD i 0 ∧ st.base.getD i 0 ≤ (done.length * 256 : Nat)
  last : st.check.length = 0 ∨ gk st.check (st.check.length - 1) ≠ -1
  cnt : cntS st.check = (done.map fun i => ownN (rows.getD i [])).sum
theorem LyInv.step {rows : List (List Int)} {f : Nat} {done : List Nat} {st : Ly} (h : LyInv rows f done st) (hf : f ≤ 256) (hr : ∀ r ∈ rows, r.length = f) {i : Nat} (hi : i < rows.length) (hn : i ∉ done) : LyInv rows f (done ++ [i]) (layS rows st i) := by
  obtain ⟨row, hrow⟩ : ∃ row, rows.getD i [] = row := ⟨_, rfl⟩
  have hrl : row.length = f := by
    rw [← hrow, List.getD_eq_getElem?_getD, List.getElem?_eq_getElem hi]
    exact hr _ (List.getElem_mem hi)
  obtain ⟨hb1, hb2⟩ := baseOf_fits st.check (ownL row)
  obtain ⟨b, hb⟩ : ∃ b, baseOf st.check (ownL row) = b := ⟨_, rfl⟩
  rw [hb] at hb1 hb2
  have hput := putL_ok st.check st.next i b row (by omega) h.len h.last hb2 _ (ownL row) rfl (ownL_nodup row) (fun p hp => by have := (mem_ownL.1 hp).1; omega) (fun p hp => by
    have := List.all_eq_true.1 hb1 p hp
    exact (freeS_gk _ _).1 this)
  have hfr : ∀ p ∈ ownL row, gk st.check (b + p) = -1 := fun p hp => (freeS_gk _ _).1 (List.all_eq_true.1 hb1 p hp)
  unfold layS
  rw [hrow, hb]
  generalize putL st.check st.next i b row (ownL row) = r at hput
  have hbi : (st.base.set i (b : Int)).getD i 0 = b := by rw [set_getD _ _ _ _ _ (by rw [h.bl]; exact hi), if_pos rfl]
  have hbj : ∀ j, j ≠ i → (st.base.set i (b : Int)).getD j 0 = st.base.getD j 0 := fun j hj => by rw [set_getD _ _ _ _ _ (by rw [h.bl]; exact hi), if_neg hj]
  have hle := hput.le
  have hle2 := h.le
  have hdl : (done ++ [i]).length = done.length + 1 := by simp
  refine ⟨by simp [h.bl], hput.len, ?_, fun t => ?_, fun j hj p hp => ?_, fun j => ?_, hput.last, ?_⟩
  · rw [hdl]
    simp only
    omega
  · rcases hput.k t with ⟨g1, g2, _⟩ | ⟨p, hp, g1, g2, g3⟩
    · simp only
      rw [g1, g2]
      rcases h.slot t with h1 | ⟨j, hj, p, hp, h1, h2, h3⟩
      · exact .inl h1
      · refine .inr ⟨j, List.mem_append_left _ hj, p, hp, ?_, h2, h3⟩
        rw [hbj j (fun e => hn (e ▸ hj))]
        exact h1
    · refine .inr ⟨i, by simp, p, by rw [hrow]; exact hp, ?_, g2, by rw [hrow]; exact g3⟩
      simp only
      rw [hbi]
      omega
  · simp only
    rcases List.mem_append.1 hj with hj | hj
    · rw [hbj j (fun e => hn (e ▸ hj))]
      obtain ⟨h1, h2⟩ := h.own j hj p hp
      rcases hput.k (st.base.getD j 0 + p).toNat with ⟨g1, g2, _⟩ | ⟨q, hq, g1, g2, g3⟩
      · rw [g1, g2]
        exact ⟨h1, h2⟩
      · exfalso
        rw [g1, hfr q hq] at h1
        omega
    · obtain rfl : j = i := by simpa using hj
      rw [hrow] at hp ⊢
      rw [hbi, show ((b : Int) + (p : Int)).toNat = b + p by omega]
      rcases hput.k (b + p) with ⟨_, _, g3⟩ | ⟨q, hq, g1, g2, g3⟩
      · exact absurd rfl (g3 p hp)
      · obtain rfl : q = p := by omega
        exact ⟨g2, g3⟩
  · simp only
    rw [hdl]
    have := h.base j
    by_cases hj : j = i
    · subst hj
      rw [hbi]
      omega
    · rw [hbj j hj]
      exact ⟨this.1, Int.le_trans this.2 (Int.ofNat_le.2 (Nat.mul_le_mul_right _ (Nat.le_succ _)))⟩
  · simp only
    rw [hput.cnt, h.cnt, List.map_append, List.sum_append]
    simp only [List.map_cons, List.map_nil, List.sum_cons, List.sum_nil]
    rw [hrow]
    rfl
theorem LyInv.nil (rows : List (List Int)) (f : Nat) : LyInv rows f [] ⟨List.replicate rows.length 0, [], []⟩ := by
  refine ⟨by simp, rfl, by simp, fun t => .inl ⟨rfl, rfl⟩, fun i hi => absurd hi (by simp), fun i => ?_, .inl rfl, rfl⟩
  rw [List.getD_eq_getElem?_getD, List.getElem?_replicate]
  split <;> simp
theorem LyInv.all {rows : List (List Int)} {f : Nat} (hf : f ≤ 256) (hr : ∀ r ∈ rows, r.length = f) : ∀ (l done : List Nat) (st : Ly), LyInv rows f done st → (done ++ l).Nodup → (∀ i ∈ l, i < rows.length) → LyInv rows f (done ++ l) (l.foldl (layS rows) st) := by
  intro l
  induction l with
  | nil => intro done st h _ _; rw [List.append_nil]; exact h
  | cons i l ih =>
    intro done st h hnd hlt
    rw [List.foldl_cons, show done ++ i :: l = (done ++ [i]) ++ l by simp]
    have hni : i ∉ done := fun hm => (List.nodup_append.1 hnd).2.2 i hm i (by simp) rfl
    exact ih _ _ (h.step hf hr (hlt i (by simp)) hni) (by simpa using hnd) (fun j hj => hlt j (List.mem_cons_of_mem _ hj))
theorem ord_perm (rows : List (List Int)) : (ord rows).Perm (List.range rows.length) := by
  unfold ord ordN
  exact List.mergeSort_perm _ _
theorem layL_inv {rows : List (List Int)} {f : Nat} (hf : f ≤ 256) (hr : ∀ r ∈ rows, r.length = f) : LyInv rows f (ord rows) (layL rows) := by
  have h := LyInv.all hf hr (ord rows) [] _ (LyInv.nil rows f) (by
    rw [List.nil_append]
    exact (ord_perm rows).nodup_iff.2 List.nodup_range) (fun i hi => List.mem_range.1 ((ord_perm rows).mem_iff.1 hi))
  rw [List.nil_append] at h
  exact h
end Cb
end Go.Proofs.YteekonojmpihlaaDoor
