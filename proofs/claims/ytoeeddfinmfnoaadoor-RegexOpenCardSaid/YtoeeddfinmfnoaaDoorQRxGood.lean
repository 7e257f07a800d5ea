import Derived.Test.YtoeeddfinmfnoaaDoorQRxLoc
/- Plain law of chapter 08: a tree that is read without a fault is right, node by node. No program. -/
namespace Go.Proofs.YtoeeddfinmfnoaaDoor
namespace Kt
end Kt
namespace Sp
end Sp
namespace St
end St
namespace Bk
end Bk
open Go Go.RowKit Kt Sp St Bk
open Tr (Nd)
namespace Rx
mutual
/-- Every node is one. -/
def Al : Nd → Prop
  | .mk k s mn mx t a c ks => Tr.one (.mk k s mn mx t a c ks) = true ∧ Als ks
def Als : List Nd → Prop
  | [] => True
  | n :: r => Al n ∧ Als r
end
theorem Als.of : ∀ {ks : List Nd}, (∀ n ∈ ks, Al n) → Als ks
  | [], _ => trivial
  | n :: _, h => ⟨h n (by simp), Als.of fun x hx => h x (List.mem_cons_of_mem _ hx)⟩
mutual
theorem Al.full : ∀ {n : Nd} (lv : Nat), Al n → ∀ x ∈ Tr.full lv n, Tr.one x.1 = true
  | .mk k s mn mx t a c ks, lv, h, x, hx => by
    unfold Tr.full at hx
    rcases List.mem_cons.1 hx with e | hx
    · rw [e]; exact h.1
    · split at hx
      · cases hx
      · exact Als.full (lv + 1) h.2 x hx
theorem Als.full : ∀ {ks : List Nd} (lv : Nat), Als ks → ∀ x ∈ Tr.fulls lv ks, Tr.one x.1 = true
  | [], _, _, x, hx => by cases hx
  | n :: r, lv, h, x, hx => by
    unfold Tr.fulls at hx
    rcases List.mem_append.1 hx with hx | hx
    · exact Al.full lv h.1 x hx
    · exact Als.full lv h.2 x hx
end
theorem deep_le : ∀ (l : List (Nd × Nat)) (d : Nat), d ≤ l.foldl (fun d x => max d x.2) d ∧ ∀ x ∈ l, x.2 ≤ l.foldl (fun d x => max d x.2) d
  | [], d => ⟨Nat.le_refl _, fun x hx => by cases hx⟩
  | y :: l, d => by
    obtain ⟨h1, h2⟩ := deep_le l (max d y.2)
    refine ⟨Nat.le_trans (Nat.le_max_left _ _) h1, fun x hx => ?_⟩
    rcases List.mem_cons.1 hx with e | hx
    · rw [e]; exact Nat.le_trans (Nat.le_max_right _ _) h1
    · exact h2 x hx
/-- Such a tree of at most 24 levels and 600 nodes is right. -/
theorem Al.rgt {n : Nd} (h : Al n) (hd : Tr.deep (Tr.walk n) ≤ 24) (hc : (Tr.walk n).length ≤ 600) : Tr.rgt n = true := by
  unfold Tr.rgt
  rw [decide_eq_true hc, Bool.true_and, List.all_eq_true]
  intro x hx
  have h1 := (deep_le (Tr.walk n) 0).2 x hx
  have h2 := Al.full 1 h x (List.mem_of_mem_take hx)
  rw [h2, Bool.and_true, decide_eq_true_eq]
  exact Nat.le_trans h1 hd
theorem al_bts (f : Nat → Bool) : Al (bts f) := ⟨by simp [Tr.one, Tr.bare, Nd.kind, Nd.set, Nd.mn, Nd.mx, Nd.text, Nd.kids], trivial⟩
theorem al_name {w : List UInt8} (h : Ac.nm w = true) : Al (.mk 5 [0, 0, 0, 0] 0 0 w none 0 []) := ⟨by simp [Tr.one, Tr.bare, Nd.kind, Nd.set, Nd.mn, Nd.mx, Nd.text, Nd.kids, h], trivial⟩
theorem al_rep {mn mx : Int} {n : Nd} (hn : Al n) (h : 0 ≤ mn ∧ mn ≤ 40 ∧ (mx = -1 ∨ (max mn 1 ≤ mx ∧ mx ≤ 40))) : Al (rep mn mx n) := by
  refine ⟨?_, hn, trivial⟩
  simp only [Tr.one, Tr.bare, Nd.kind, Nd.set, Nd.mn, Nd.mx, Nd.text, Nd.kids, rep]
  obtain ⟨h1, h2, h3⟩ := h
  rcases h3 with h3 | ⟨h3, h4⟩
  · simp [h1, h2, h3]
  · simp only [List.length_singleton, decide_true, Bool.true_and, Bool.or_true, Bool.true_or, Bool.and_true, h1, h2, h3, h4]
    simp
theorem number_le {t : List UInt8} {s : S} (h : (number t s).2.err = 0) : (number t s).1 ≤ 40 := by
  unfold number at h ⊢
  split
  · exact Nat.zero_le _
  · next h1 =>
    rw [if_neg h1] at h
    split
    · next h2 =>
      rw [if_pos h2] at h
      exact absurd h (fail_err (by decide))
    · next h2 => exact Nat.le_of_not_lt h2
theorem bEnd_on {t : List UInt8} {last least : Nat} {most : Int} {s : S} (h : (bEnd t last least most s).err = 0) : s.err = 0 ∧ ¬ (most ≠ -1 ∧ (most < least ∨ most < 1)) := by
  unfold bEnd at h
  split at h
  · exact absurd h (fail_err (by decide))
  · split at h
    · exact absurd h (fail_err (by decide))
    · next h2 =>
      split at h
      · exact absurd h (fail_err (by decide))
      · next h3 => exact ⟨(on_lt (Bool.of_not_eq_false h2)).1, h3⟩
theorem bounds_ok {t : List UInt8} {s : S} (hs : s.err = 0 ∧ s.pos < t.length) (h : (bounds t s).2.2.err = 0) : (0 : Int) ≤ ((bounds t s).1 : Int) ∧ ((bounds t s).1 : Int) ≤ 40 ∧ ((bounds t s).2.1 = -1 ∨ (max ((bounds t s).1 : Int) 1 ≤ (bounds t s).2.1 ∧ (bounds t s).2.1 ≤ 40)) := by
  have h0 := nx_adv hs
  have h1 := number_adv h0.le
  unfold bounds at h ⊢
  simp only at h ⊢
  by_cases hb : on t (number t (nx s)).2 [44] = true
  · rw [if_pos hb] at h ⊢
    have h3 := (nx_adv (on_lt hb)).adv
    by_cases hg : on t (nx (number t (nx s)).2) figs = true
    · rw [if_pos hg] at h ⊢
      simp only at h ⊢
      obtain ⟨e1, e2⟩ := bEnd_on h
      have e3 := number_le e1
      have e4 := ((number_adv h3.le).on e1).1
      have e5 := number_le (t := t) (s := nx s) e4
      omega
    · rw [if_neg hg] at h ⊢
      simp only at h ⊢
      obtain ⟨e1, e2⟩ := bEnd_on h
      have e5 := number_le (t := t) (s := nx s) e1
      exact ⟨by omega, by omega, .inl (by first | rfl | trivial)⟩
  · rw [if_neg hb] at h ⊢
    simp only at h ⊢
    obtain ⟨e1, e2⟩ := bEnd_on h
    have e5 := number_le (t := t) (s := nx s) e1
    by_cases hz : (number t (nx s)).1 < 1
    · exact absurd ⟨by omega, .inr (by omega)⟩ e2
    · exact ⟨by omega, by omega, .inr ⟨by omega, by omega⟩⟩
theorem al_pcL {t : List UInt8} : ∀ (k : Nat) (s : S) (n : Nd), s.pos ≤ t.length → Al n → (pcL t k s n).2.err = 0 → Al (pcL t k s n).1
  | 0, _, _, _, hn, _ => hn
  | k + 1, s, n, h, hn, he => by
    unfold pcL at he ⊢
    by_cases h1 : on t s [42] = true
    · rw [if_pos h1] at he ⊢
      exact al_pcL k _ _ (nx_adv (on_lt h1)).le (al_rep hn (by decide)) he
    · rw [if_neg h1] at he ⊢
      by_cases h2 : on t s [43] = true
      · rw [if_pos h2] at he ⊢
        exact al_pcL k _ _ (nx_adv (on_lt h2)).le (al_rep hn (by decide)) he
      · rw [if_neg h2] at he ⊢
        by_cases h3 : on t s [63] = true
        · rw [if_pos h3] at he ⊢
          exact al_pcL k _ _ (nx_adv (on_lt h3)).le (al_rep hn (by decide)) he
        · rw [if_neg h3] at he ⊢
          by_cases h4 : bounded t s = true
          · rw [if_pos h4] at he ⊢
            have hs : s.err = 0 ∧ s.pos < t.length := by
              unfold bounded at h4
              rw [Bool.and_eq_true] at h4
              exact on_lt h4.1
            have hb := bounds_adv hs
            have hbe := (pcL_adv (t := t) k _ (rep ((bounds t s).1 : Int) (bounds t s).2.1 n) hb.le).on he
            exact al_pcL k _ _ hb.le (al_rep hn (bounds_ok hs hbe.1)) he
          · rw [if_neg h4] at he ⊢
            exact hn
/-- An expression's reader whose trees are good where it meets no fault. -/
def GdX (t : List UInt8) (K : Nat) (ex : S → Nd × S) : Prop := (∀ s, s.pos ≤ t.length → Adv t s (ex s).2) ∧ ∀ s, s.pos ≤ t.length → t.length - s.pos < K → (ex s).2.err = 0 → Al (ex s).1
theorem al_atm {t : List UInt8} {ex : S → Nd × S} {K : Nat} (hx : GdX t K ex) {s : S} (h : s.err = 0 ∧ s.pos < t.length) (hK : t.length - s.pos ≤ K) (he : (atm ex t s).2.err = 0) : Al (atm ex t s).1 := by
  have h0 := nx_adv h
  unfold atm at he ⊢
  by_cases h1 : on t s [40] = true
  · rw [if_pos h1] at he ⊢
    have ha := hx.1 (nx s) h0.le
    exact hx.2 (nx s) h0.le (by show t.length - (s.pos + 1) < K; omega) ((cls_adv (t := t) ha.le).on he).1
  · rw [if_neg h1] at he ⊢
    by_cases h2 : on t s [91] = true
    · rw [if_pos h2]; exact al_bts _
    · rw [if_neg h2] at he ⊢
      by_cases h3 : on t s [123] = true
      · rw [if_pos h3] at he ⊢
        unfold name at he ⊢
        split at he
        · exact absurd he (fail_err (by decide))
        · next hb =>
          rw [if_neg hb]
          split at he
          · exact absurd he (fail_err (by decide))
          · next hn =>
            rw [if_neg hn]
            exact al_name (by simpa using hn)
      · rw [if_neg h3] at he ⊢
        by_cases h4 : on t s [46] = true
        · rw [if_pos h4]; exact al_bts _
        · rw [if_neg h4] at he ⊢
          by_cases h5 : on t s never = true
          · rw [if_pos h5] at he
            exact absurd he (fail_err (by decide))
          · rw [if_neg h5]; exact al_bts _
theorem al_pce {t : List UInt8} {ex : S → Nd × S} {K : Nat} (hx : GdX t K ex) {s : S} (h : s.err = 0 ∧ s.pos < t.length) (hK : t.length - s.pos ≤ K) (he : (pce ex t s).2.err = 0) : Al (pce ex t s).1 := by
  have ha := atm_adv hx.1 h
  unfold pce at he ⊢
  have hc := (pcL_adv (t := t) (t.length + 1) _ (atm ex t s).1 ha.le).on he
  exact al_pcL _ _ _ ha.le (al_atm hx h hK hc.1) he
theorem al_joinN {k : Int} {l : List Nd} (hk : k = 2 ∨ (k = 3 ∧ 1 ≤ l.length)) (h : ∀ n ∈ l, Al n) : Al (joinN k l) := by
  unfold joinN
  by_cases h1 : l.length = 1
  · rw [if_pos h1]
    obtain ⟨q, rfl⟩ := List.length_eq_one_iff.1 h1
    exact h q (by simp)
  · rw [if_neg h1]
    refine ⟨?_, Als.of h⟩
    rcases hk with rfl | ⟨rfl, h2⟩
    · simp [Tr.one, Tr.bare, Nd.kind, Nd.set, Nd.mn, Nd.mx, Nd.text, Nd.kids]
    · have h3 : 2 ≤ l.length := by omega
      simp [Tr.one, Tr.bare, Nd.kind, Nd.set, Nd.mn, Nd.mx, Nd.text, Nd.kids, h3]
theorem al_brL {t : List UInt8} {ex : S → Nd × S} {K : Nat} (hx : GdX t K ex) : ∀ (k : Nat) (s : S) (l : List Nd), s.pos ≤ t.length → t.length - s.pos ≤ K → (∀ n ∈ l, Al n) → (brL ex t k s l).2.err = 0 → ∀ n ∈ (brL ex t k s l).1, Al n
  | 0, _, _, _, _, hl, _ => hl
  | k + 1, s, l, h, hK, hl, he => by
    unfold brL at he ⊢
    by_cases h1 : (more t s && !on t s [124, 41]) = true
    · rw [if_pos h1] at he ⊢
      have hs := more_lt (Bool.and_eq_true_iff.1 h1).1
      have ha := pce_adv hx.1 hs
      have hc := (brL_adv hx.1 k _ (l ++ [(pce ex t s).1]) ha.le).on he
      refine al_brL hx k _ _ ha.le (by have := (ha.on hc.1).2; omega) (fun n hn => ?_) he
      rcases List.mem_append.1 hn with h2 | h2
      · exact hl n h2
      · rw [show n = (pce ex t s).1 by simpa using h2]
        exact al_pce hx hs hK hc.1
    · rw [if_neg h1] at he ⊢
      exact hl
theorem al_brn {t : List UInt8} {ex : S → Nd × S} {K : Nat} (hx : GdX t K ex) {s : S} (h : s.pos ≤ t.length) (hK : t.length - s.pos ≤ K) (he : (brn ex t s).2.err = 0) : Al (brn ex t s).1 :=
  al_joinN (.inl rfl) (al_brL hx _ s [] h hK (fun n hn => by cases hn) he)
theorem al_exL {t : List UInt8} {ex : S → Nd × S} {K : Nat} (hx : GdX t K ex) : ∀ (k : Nat) (s : S) (l : List Nd), s.pos ≤ t.length → t.length - s.pos ≤ K → 1 ≤ l.length → (∀ n ∈ l, Al n) → (exL ex t k s l).2.err = 0 → (∀ n ∈ (exL ex t k s l).1, Al n) ∧ 1 ≤ (exL ex t k s l).1.length
  | 0, _, _, _, _, h1, hl, _ => ⟨hl, h1⟩
  | k + 1, s, l, h, hK, h1, hl, he => by
    unfold exL at he ⊢
    by_cases ho : on t s [124] = true
    · rw [if_pos ho] at he ⊢
      have hs := nx_adv (on_lt ho)
      have ha := brn_adv hx.1 hs.le
      have hc := (exL_adv hx.1 k _ (l ++ [(brn ex t (nx s)).1]) ha.le).on he
      have hnp : (nx s).pos = s.pos + 1 := rfl
      refine al_exL hx k _ _ ha.le (by have := (ha.on hc.1).2; omega) (by rw [List.length_append]; omega) (fun n hn => ?_) he
      rcases List.mem_append.1 hn with h2 | h2
      · exact hl n h2
      · rw [show n = (brn ex t (nx s)).1 by simpa using h2]
        exact al_brn hx hs.le (by omega) hc.1
    · rw [if_neg ho] at he ⊢
      exact ⟨hl, h1⟩
theorem al_expr {t : List UInt8} : ∀ (k : Nat) (s : S), s.pos ≤ t.length → t.length - s.pos < k → (expr t k s).2.err = 0 → Al (expr t k s).1
  | 0, _, _, h, _ => by omega
  | k + 1, s, h, hk, he => by
    have hx : GdX t k (expr t k) := ⟨fun s' h' => expr_adv k s' h', fun s' h1 h2 h3 => al_expr k s' h1 h2 h3⟩
    change (expr1 (expr t k) t s).2.err = 0 at he
    show Al (expr1 (expr t k) t s).1
    have ha := brn_adv hx.1 h
    unfold expr1 at he ⊢
    have hc := (exL_adv hx.1 (t.length + 1) _ [(brn (expr t k) t s).1] ha.le).on he
    have h9 := al_exL hx (t.length + 1) _ [(brn (expr t k) t s).1] ha.le (by have := (ha.on hc.1).2; omega) (Nat.le_refl _) (fun n hn => by
      rw [show n = (brn (expr t k) t s).1 by simpa using hn]
      exact al_brn hx h (by omega) hc.1) he
    exact al_joinN (.inr ⟨rfl, h9.2⟩) h9.1
/-- What is parsed without a fault is a right tree. -/
theorem parse_rgt {t : List UInt8} (h : (parse t).2.2 = 0) : Tr.rgt (parse t).1 = true := by
  obtain ⟨h1, h2, _, h3, h4⟩ := parse_good h
  rw [h2]
  exact Al.rgt (al_expr _ ⟨0, 0⟩ (Nat.zero_le _) (by simp only; omega) (by rw [h1])) h3 h4
end Rx
end Go.Proofs.YtoeeddfinmfnoaaDoor
